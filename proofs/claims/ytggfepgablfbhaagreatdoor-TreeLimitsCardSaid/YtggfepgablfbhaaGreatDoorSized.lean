/- Walk of tree.sized. -/
import Derived.Test.YtggfepgablfbhaaGreatDoorBytes
namespace Go.Proofs.YtggfepgablfbhaaGreatDoor
open Go.RowKit Go.Lib

def sizedL (bs : List Int) (n : Nat) : List Int := bs.take n ++ List.replicate (n - bs.length) 0

set_option maxHeartbeats 2000000 in
set_option maxRecDepth 100000 in
theorem sized_some (w : World) (ad : Addr) (c n : Nat) (bs : List Int) (hbig : bs.length ≤ 2000) (hn : n ≤ 2000) (hcap : bs.length ≤ c) (hc : ∀ j x, bs[j]? = some x → w.cell? (ad.add j) = some (.int .u8 x)) :
    Calls Tryz.prog 70 #[.slice (some ad) bs.length c, .int .i64 n] w fun e w' => (∃ v', e = .returned v' ∧ w'.ownsRow w.heap.size 5 1 v' n (nums8 (sizedL bs n))) ∧ Upd (fun _ => False) w w' := by
  have A := Lib.hid hc
  have HL : Hid ((min (bs.length : Int) (n : Int)).toNat = (bs.take n).length) := by show _ = _; rw [List.length_take]; omega
  have HB : Hid ((bs.take n).length ≤ 100000) := Lib.hid (by rw [List.length_take]; omega)
  have hc2 : ∀ j x, (bs.take n)[j]? = some x → w.cell? (ad.add j) = some (.int .u8 x) := fun j x hj => by
    rw [List.getElem?_take] at hj
    split at hj
    · exact A.out j x hj
    · cases hj
  have A2 := Lib.hid hc2
  have hw : IntKind.i64.wrap ((n : Int) - (bs.length : Int)) = (n : Int) - (bs.length : Int) := by rw [IntKind.wrap_i64]; omega
  clear hc hc2
  obtain ⟨i0, hi, hz0, hz1, hz2⟩ := info_parts info_u8
  have HI := Lib.hid hi
  have HZ0 := Lib.hid hz0
  have HZ1 := Lib.hid hz1
  have HZ2 := Lib.hid hz2
  clear hi hz0 hz1 hz2
  have HK : Hid ((max ((n : Int) - (bs.length : Int)) 0) = ((n - bs.length : Nat) : Int)) := by show _ = _; omega
  go_enter Tryz.func70, Tryz.ntmps70
  go_wp2_with (first
    | (go_at_call 54; rw [HL.out]; refine (clone_some _ ad c (bs.take n) HB.out A2.out).mono ?_; rintro e w1 ⟨v1, rfl, ho, hnn, hu1⟩; have HO := Lib.hid ho; have HU := Lib.hid hu1; clear ho hnn hu1)
    | (at_builtin; refine wpl_append_zeros _ rfl _ _ 22 3 rfl w.heap.size 5 i0 (.int .u8 0) .i64 .i64 Tryz.underlying22 Tryz.underlying3 HI.out HZ0.out HZ1.out HZ2.out rfl rfl v1 _ _ rfl HO.out _ rfl (n - bs.length) HK.out (by rw [List.length_take]; omega) HU.out.size (fun v2 w2 ho2 hg2 => ?_)))
  go_ret
  have hbel : Below w.heap.size w w2 := HU.out.below.grown hg2.out HU.out.size (fun k hk => (HO.out.lt k hk).1)
  refine ⟨⟨v2, rfl, ?_⟩, Upd.of_below hbel⟩
  have h := ho2.out
  rw [show (bs.take n).length + (n - bs.length) = n by rw [List.length_take]; omega] at h
  unfold sizedL nums8
  rw [List.map_append, List.map_replicate]
  exact h

theorem sized_nil (w : World) (n m c : Nat) (hn : n ≤ 2000) (hm : m = 0) :
    Calls Tryz.prog 70 #[.slice none m c, .int .i64 n] w fun e w' => (∃ v', e = .returned v' ∧ w'.ownsRow w.heap.size 5 1 v' n (nums8 (sizedL [] n))) ∧ Upd (fun _ => False) w w' := by
  subst hm
  obtain ⟨i0, hi, hz0, hz1, hz2⟩ := info_parts info_u8
  have HI := Lib.hid hi
  have HZ0 := Lib.hid hz0
  have HZ1 := Lib.hid hz1
  have HZ2 := Lib.hid hz2
  clear hi hz0 hz1 hz2
  have hmin : min (0 : Int) (n : Int) = 0 := by omega
  have HK : Hid ((max ((n : Int) - 0) 0) = ((n : Nat) : Int)) := by show _ = _; omega
  have hw : IntKind.i64.wrap ((n : Int) - 0) = (n : Int) - 0 := by rw [IntKind.wrap_i64]; omega
  have hw' : IntKind.i64.wrap (n : Int) = (n : Int) := by rw [IntKind.wrap_i64]; omega
  have hmax : max (n : Int) 0 = n := by omega
  go_enter Tryz.func70, Tryz.ntmps70
  go_wp2_with (first
    | (go_at_call 54; refine (clone_nil _ _ w).mono ?_; rintro e w1 ⟨rfl, hw1⟩; rw [hw1])
    | (at_builtin; refine wpl_append_zeros _ rfl _ _ 22 3 rfl w.heap.size 5 i0 (.int .u8 0) .i64 .i64 Tryz.underlying22 Tryz.underlying3 HI.out HZ0.out HZ1.out HZ2.out rfl rfl _ 0 [] rfl (World.ownsRow_nil _ _ _ _) _ rfl n (by first | rfl | exact HK.out | exact hmax) (by omega) (Nat.le_refl _) (fun v2 w2 ho2 hg2 => ?_)))
  go_ret
  have hbel : Below w.heap.size w w2 := (Below.refl _ w).grown hg2.out (Nat.le_refl _) (fun k hk => by cases hk)
  refine ⟨⟨v2, rfl, ?_⟩, Upd.of_below hbel⟩
  have h := ho2.out
  rw [Nat.zero_add, List.nil_append] at h
  unfold sizedL nums8
  rw [List.map_append, List.map_replicate]
  simpa using h

theorem sized_calls (w : World) (v : Value) (bs : List Int) (h : ByteR w v bs) (n : Nat) (hbig : bs.length ≤ 2000) (hn : n ≤ 2000) :
    Calls Tryz.prog 70 #[v, .int .i64 n] w fun e w' => (∃ v', e = .returned v' ∧ w'.ownsRow w.heap.size 5 1 v' n (nums8 (sizedL bs n))) ∧ Upd (fun _ => False) w w' := by
  obtain ⟨ao, c, rfl, hcap, hno, hc⟩ := h
  cases ao with
  | none =>
    obtain rfl := hno rfl
    exact sized_nil w n 0 c hn rfl
  | some ad => exact sized_some w ad c n bs hbig hn hcap (hc ad rfl)
theorem sizedL_length (bs : List Int) (n : Nat) : (sizedL bs n).length = n := by
  unfold sizedL
  simp
  omega
#print axioms sized_calls
end Go.Proofs.YtggfepgablfbhaaGreatDoor
