/- Walks of package names: letter, Name. -/
import Derived.Test.YtggfepgablfbhaaGreatDoorWalkT
namespace Go.Proofs.YtggfepgablfbhaaGreatDoor
open Go.RowKit

def letterB (c : Int) : Bool := (decide (97 ≤ c) && decide (c ≤ 122)) || (decide (65 ≤ c) && decide (c ≤ 90)) || (decide (48 ≤ c) && decide (c ≤ 57)) || (decide (c = 46) || decide (c = 95) || decide (c = 45))

set_option maxHeartbeats 1000000 in
theorem letter_calls (w : World) (c : Int) (h0 : 0 ≤ c) (h1 : c ≤ 255) :
    Calls Tryz.prog 105 #[.int .u8 c] w fun e w' => e = .returned (.bool (letterB c)) ∧ w = w' := by
  by_cases a1 : 97 ≤ c <;> by_cases a2 : c ≤ 122 <;> by_cases a3 : 65 ≤ c <;> by_cases a4 : c ≤ 90 <;> by_cases a5 : 48 ≤ c <;> by_cases a6 : c ≤ 57 <;> by_cases a7 : c = 46 <;> by_cases a8 : c = 95 <;> by_cases a9 : c = 45 <;> try (exfalso; omega)
  all_goals
    go_enter Tryz.func105, Tryz.ntmps105
    go_wp2
    go_ret
    refine ⟨congrArg (fun b => Ending.returned (Value.bool b)) ?_, rfl⟩
    rw [Bool.eq_iff_iff]
    simp [letterB]
    try omega

def byteAt (s : ByteArray) (i : Nat) : Int := ((s.data.toList.getD i 0).toNat : Int)
def nameB (s : ByteArray) : Bool := (s.data.toList.all fun c => letterB c.toNat) && ((!s.toList.isEmpty) && (!s.toList == [46]) && (!s.toList == [46, 46]))

theorem byte_le (c : UInt8) : (c.toNat : Int) ≤ 255 := by have := c.toNat_lt; omega
theorem ba_ext {a b : ByteArray} (h : a.data.toList = b.data.toList) : a = b := by
  cases a; cases b; simp only at h
  congr 1
  exact Array.toList_inj.1 h
theorem ba_beq (a b : ByteArray) : (a == b) = decide (a.data.toList = b.data.toList) := by
  rw [Bool.eq_iff_iff, MapKept.bytes_beq]
  simp only [decide_eq_true_eq]
  exact ⟨fun h => by rw [h], ba_ext⟩

set_option maxHeartbeats 1000000 in
theorem name_calls (w : World) (s : ByteArray) (hs : s.size ≤ 9223372036854775807) :
    Calls Tryz.prog 76 #[.string s] w fun e w' => e = .returned (.bool (nameB s)) ∧ w = w' := by
  have hsz : s.data.toList.length = s.size := rfl
  go_enter Tryz.func76, Tryz.ntmps76
  go_wp2
  go_loop [6] (fun i => ∃ k : Nat, k ≤ s.size ∧ i = .int .i64 k ∧ Hid ((s.data.toList.take k).all (fun c => letterB c.toNat) = true)) (fun i => s.size - (intOf i).toNat)
  case atStart => exact ⟨0, by omega, rfl, rfl⟩
  case round =>
    obtain ⟨k, hk, rfl, HK⟩ := hrel
    by_cases hlt : k < s.size
    · have hbl := byte_le s[k]
      have hb0 : (0 : Int) ≤ s[k].toNat := by omega
      cases hlb : letterB (s[k].toNat : Int) with
      | false =>
        have HLB := Lib.hid hlb
        clear hlb
        go_wp2_with (go_at_call 105; refine (letter_calls _ _ hb0 hbl).mono ?_; rintro e w' ⟨rfl, rfl⟩; rw [HLB.out])
        go_ret
        refine ⟨congrArg (fun b => Ending.returned (Value.bool b)) ?_, rfl⟩
        have : (s.data.toList.all fun c => letterB c.toNat) = false := by
          rw [List.all_eq_false]
          exact ⟨s[k], List.getElem_mem (l := s.data.toList) (n := k) (by omega), by rw [HLB.out]; simp⟩
        unfold nameB
        rw [this]; rfl
      | true =>
        have HLB := Lib.hid hlb
        clear hlb
        go_wp2_with (go_at_call 105; refine (letter_calls _ _ hb0 hbl).mono ?_; rintro e w' ⟨rfl, rfl⟩; rw [HLB.out])
        go_round
        case rel =>
          refine ⟨k + 1, by omega, by go_num, ?_⟩
          show List.all _ _ = true
          rw [List.take_succ_eq_append_getElem (by omega), List.all_append, HK.out]
          have : s.data.toList[k]'(by omega) = s[k] := rfl
          simp only [this, List.all_cons, List.all_nil, Bool.and_true, Bool.true_and]
          exact HLB.out
        case measure => simp [intOf]; omega
    · have hke : k = s.size := by omega
      subst hke
      have hall := HK.out
      rw [← hsz, List.take_length] at hall
      have HA := Lib.hid hall
      clear hall
      cases h1 : s.toList.isEmpty <;> cases h2 : s.toList == [46] <;> cases h3 : s.toList == [46, 46]
      all_goals
        go_wp2
        all_goals
          go_ret
          refine ⟨congrArg (fun b => Ending.returned (Value.bool b)) ?_, rfl⟩
          unfold nameB
          rw [HA.out]
          simp [h1, h2, h3]
end Go.Proofs.YtggfepgablfbhaaGreatDoor
