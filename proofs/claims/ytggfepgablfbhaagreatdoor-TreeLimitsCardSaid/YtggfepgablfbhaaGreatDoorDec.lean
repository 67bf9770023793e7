/- Walk of dolmenref1.Decimal at numbers of two digits. -/
import Derived.Test.YtggfepgablfbhaaGreatDoorBytesL
import Derived.Laws.AppendOwnNone
namespace Go.Proofs.YtggfepgablfbhaaGreatDoor
open Go.RowKit Go.Lib

def decB (n : Nat) : ByteArray := if n < 10 then ⟨#[UInt8.ofNat (48 + n)]⟩ else ⟨#[UInt8.ofNat (48 + n / 10), UInt8.ofNat (48 + n % 10)]⟩
theorem own_one (w : World) (g : Nat) (x : Int) (hg : g = w.heap.size) : (w.alloc (.cells #[.int .u8 x] 5)).ownsRow g 5 1 (.slice (some ⟨g, 0, none⟩) 1 1) 1 (nums8 [x]) := by
  subst hg
  exact World.ownsRow_lit (base := w.heap.size) (e := 5) (size := 1) w #[.int .u8 x] 1 (Nat.le_refl _) (by unfold maxLen; omega) rfl

theorem dec_text1 (n : Nat) (hn : n < 10) : (⟨#[]⟩ : ByteArray) ++ strOfNums [48 + (n : Int)] = decB n := by
  have h : (List.range 10).all (fun n => decide ((⟨#[]⟩ : ByteArray) ++ strOfNums [48 + (n : Int)] = decB n)) = true := by kernel_rfl
  exact of_decide_eq_true (List.all_eq_true.1 h n (List.mem_range.2 hn))
theorem dec_text2 (n : Nat) (h10 : 10 ≤ n) (hn : n < 100) : (⟨#[]⟩ : ByteArray) ++ strOfNums [48 + ((n / 10 : Nat) : Int), 48 + ((n % 10 : Nat) : Int)] = decB n := by
  have h : (List.range 100).all (fun n => decide (10 ≤ n → (⟨#[]⟩ : ByteArray) ++ strOfNums [48 + ((n / 10 : Nat) : Int), 48 + ((n % 10 : Nat) : Int)] = decB n)) = true := by kernel_rfl
  exact of_decide_eq_true (List.all_eq_true.1 h n (List.mem_range.2 hn)) h10
set_option maxRecDepth 100000 in
set_option maxHeartbeats 8000000 in
theorem dec_one (w : World) (n : Nat) (hn : n < 10) :
    Calls Tryz.prog 19 #[.int .i64 n] w fun e w' => e = .returned (.string (decB n)) ∧ Upd (fun _ => False) w w' := by
  obtain ⟨i0, hi, hz0, hz1, hz2⟩ := info_parts info_u8
  have e0 : decide ((n : Int) < 0) = false := decide_eq_false (by omega)
  have e1 : (n : Int) % 10 = n := by omega
  have e2 : (n : Int) / 10 = 0 := by omega
  have hcv : ∀ x : Int, (convert 22 9 (.slice (some ⟨w.heap.size, 0, none⟩) 1 1)).run Tryz.prog (w.alloc (.cells #[.int .u8 x] 5)) = .ok (.string (strOfNums [x])) (w.alloc (.cells #[.int .u8 x] 5)) := fun x => conv_own (xs := [x]) (own_one w _ x rfl)
  have T1 := Lib.hid (dec_text1 n hn)
  rcases Nat.eq_zero_or_pos n with rfl | hpos
  · go_enter Tryz.func19, Tryz.ntmps19
    go_wp2
    refine wp_loop_rounds 2 ?_
    rw [rounds_succ]
    go_wp2_with (at_builtin; refine wpList_append_own_none rfl _ _ 22 rfl w.heap.size 5 i0 1 Tryz.underlying22 hi _ 1 _ rfl (own_one _ _ _ (by simp)) rfl ?_)
    all_goals
      rw [rounds_succ]
      go_wp2
      go_ret
      exact ⟨by rw [← T1.out]; rfl, (Upd.refl _ _).alloc _⟩
  · go_enter Tryz.func19, Tryz.ntmps19
    go_wp2
    refine wp_loop_rounds 2 ?_
    rw [rounds_succ]
    go_wp2_with (at_builtin; refine wpList_append_own_none rfl _ _ 22 rfl w.heap.size 5 i0 1 Tryz.underlying22 hi _ 1 _ rfl (own_one _ _ _ (by simp)) rfl ?_)
    all_goals
      rw [rounds_succ]
      go_wp2
      go_ret
      exact ⟨by rw [← T1.out]; rfl, (Upd.refl _ _).alloc _⟩

set_option maxRecDepth 100000 in
set_option maxHeartbeats 8000000 in
theorem dec_two (w : World) (n : Nat) (h10 : 10 ≤ n) (hn : n < 100) :
    Calls Tryz.prog 19 #[.int .i64 n] w fun e w' => e = .returned (.string (decB n)) ∧ Upd (fun _ => False) w w' := by
  obtain ⟨i0, hi, hz0, hz1, hz2⟩ := info_parts info_u8
  have T2 := Lib.hid (dec_text2 n h10 hn)
  obtain ⟨q, hq⟩ : ∃ q, q = n / 10 := ⟨_, rfl⟩
  obtain ⟨r, hr⟩ : ∃ r, r = n % 10 := ⟨_, rfl⟩
  rw [← hq, ← hr] at T2
  have q1 : 1 ≤ q := by omega
  have q9 : q ≤ 9 := by omega
  have r9 : r ≤ 9 := by omega
  have hn0 : 0 < n := by omega
  have hq0 : 0 < q := by omega
  have e0 : decide ((n : Int) < 0) = false := decide_eq_false (by omega)
  have e1 : (n : Int) % 10 = (r : Int) := by omega
  have e2 : (n : Int) / 10 = (q : Int) := by omega
  have e3 : (q : Int) % 10 = (q : Int) := by omega
  have e4 : (q : Int) / 10 = 0 := by omega
  clear hq hr h10 hn
  go_enter Tryz.func19, Tryz.ntmps19
  go_wp2
  refine wp_loop_rounds 3 ?_
  rw [rounds_succ]
  go_wp2_with (at_builtin; refine wpList_append_own_none rfl _ _ 22 rfl w.heap.size 5 i0 1 Tryz.underlying22 hi _ 1 _ rfl (own_one _ _ _ (by simp)) rfl ?_)
  rw [rounds_succ]
  go_wp2_with (at_builtin; refine wpList_append_own _ rfl _ _ 22 rfl (w.heap.size + 1) 5 i0 (.int .u8 0) 1 1 Tryz.underlying22 hi hz0 hz1 hz2 rfl (by decide) _ _ _ rfl (own_one _ _ _ (by simp)) ⟨w.heap.size, 0, none⟩ 1 1 (nums8 [48 + (r : Int)]) rfl ?qc1 ?qc2 ?qc3 ?qc4 ?qc5 ?qc6 ?_)
  case qc1 => rfl
  case qc2 =>
    intro j u hj
    rcases j with _ | j
    · simp [nums8] at hj
      subst hj
      simp [Addr.add]
    · simp [nums8] at hj
  case qc3 => intro u hu; obtain ⟨x, _, rfl⟩ := List.mem_map.1 hu; rfl
  case qc4 => unfold maxLen; omega
  case qc5 => omega
  case qc6 => simp
  intro v' w1 hown hgrow _
  obtain ⟨A, c, rfl⟩ := own_slice2 hown
  have hcv := conv_own (xs := [48 + (q : Int), 48 + (r : Int)]) hown
  have HU : Hid (Upd (fun _ => False) w w1) := ((((Upd.refl (fun _ => False) w).alloc _).alloc _).then_new (Upd.of_grown hgrow) (fun g hg => by simp [Value.ownBlock] at hg; omega))
  clear hown hgrow
  go_wp2
  rw [rounds_succ]
  go_wp2
  go_ret
  exact ⟨by rw [← T2.out]; rfl, HU.out⟩
theorem dec_calls (w : World) (n : Nat) (hn : n < 100) :
    Calls Tryz.prog 19 #[.int .i64 n] w fun e w' => e = .returned (.string (decB n)) ∧ Upd (fun _ => False) w w' := by
  by_cases h : n < 10
  · exact dec_one w n h
  · exact dec_two w n (by omega) hn
end Go.Proofs.YtggfepgablfbhaaGreatDoor
