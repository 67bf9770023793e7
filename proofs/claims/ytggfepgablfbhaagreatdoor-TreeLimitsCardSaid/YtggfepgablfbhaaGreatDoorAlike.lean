/- Walks of dolmenalike.Code and Is. -/
import Derived.Test.YtggfepgablfbhaaGreatDoorErrAs
import Derived.Test.YtggfepgablfbhaaGreatDoorFind
namespace Go.Proofs.YtggfepgablfbhaaGreatDoor
open Go.RowKit

/-- What an error reads as that fault.New made: a number within a fault. -/
def FaultAt (w : World) (e : Value) (op path : ByteArray) (c : Int) : Prop :=
  (c = 0 ∧ e = .nilIface) ∨ (c ≠ 0 ∧ ∃ b, e = .iface 101 (.pointer (some ⟨b, 0, none⟩)) ∧ w.heap[b]? = some (.cells #[.string op, .string path, errV c] 105 (0, 0)))
theorem FaultAt.upd {w w' : World} {e : Value} {op path : ByteArray} {c : Int} (h : FaultAt w e op path c) (hu : Upd (fun _ => False) w w') : FaultAt w' e op path c := by
  rcases h with h | ⟨h, b, e, hb⟩
  · exact .inl h
  · exact .inr ⟨h, b, e, hu.heap hb id⟩

set_option maxHeartbeats 2000000 in
theorem code_nil (w : World) : Calls Tryz.prog 18 #[.nilIface] w fun e w' => e = .returned (.int .i64 0) ∧ w = w' := by
  go_enter Tryz.func18, Tryz.ntmps18
  go_wp2
  go_ret
  exact ⟨rfl, rfl⟩

set_option maxHeartbeats 4000000 in
theorem code_any (w : World) (t : TypeId) (x : Value) (c : Int) (h1 : 1 ≤ c) (h2 : c ≤ 19)
    (his : ∀ k, Calls Tryz.prog 49 #[.iface t x, .iface 77 (.int .i64 k)] w fun r w' => r = .returned (.bool (c == k)) ∧ w = w') :
    Calls Tryz.prog 18 #[.iface t x] w fun e w' => e = .returned (.int .i64 c) ∧ w = w' := by
  have HIS := Lib.hid his
  clear his
  go_enter Tryz.func18, Tryz.ntmps18
  go_wp2
  go_loop [3] (fun k => ∃ j : Int, k = .int .i64 j ∧ 1 ≤ j ∧ j ≤ c) (fun k => 20 - (intOf k).toNat)
  case atStart => exact ⟨1, rfl, by omega, by omega⟩
  case round =>
    obtain ⟨j, rfl, hj1, hj2⟩ := hrel
    have hj3 : j ≤ 19 := by omega
    by_cases hc : c = j
    · have e1 : (c == j) = true := beq_iff_eq.2 hc
      subst hc
      go_wp2_with (go_at_call 49; refine (HIS.out _).mono ?_; rintro e w1 ⟨rfl, rfl⟩; rw [e1])
      go_ret
      exact ⟨rfl, rfl⟩
    · have e1 : (c == j) = false := beq_eq_false_iff_ne.2 hc
      go_wp2_with (go_at_call 49; refine (HIS.out _).mono ?_; rintro e w1 ⟨rfl, rfl⟩; rw [e1])
      go_round
      case rel => exact ⟨j + 1, by go_num, by omega, by omega⟩
      case measure => simp [intOf]; omega

theorem code_errno (w : World) (c : Int) (h1 : 0 ≤ c) (h2 : c ≤ 19) : Calls Tryz.prog 18 #[errV c] w fun e w' => e = .returned (.int .i64 c) ∧ w = w' := by
  by_cases h : c = 0
  · subst h; exact code_nil w
  · rw [errV_pos h]
    exact code_any w _ _ c (by omega) h2 fun k => is_errno c k w
theorem code_fault (w : World) (e : Value) (op path : ByteArray) (c : Int) (h1 : 0 ≤ c) (h2 : c ≤ 19) (h : FaultAt w e op path c) : Calls Tryz.prog 18 #[e] w fun e w' => e = .returned (.int .i64 c) ∧ w = w' := by
  rcases h with ⟨rfl, rfl⟩ | ⟨h, b, rfl, hb⟩
  · exact code_nil w
  · exact code_any w _ _ c (by omega) h2 fun k => is_fault b c k w (by rw [cell_of_heap hb]; show some (errV c) = _; rw [errV_pos h])


theorem as_hit2 (e t : Addr) (old : Value) (w : World) (hg : Glob w) (ht0 : w.cell? t = some old) (hf0 : w.frozen? t = false) :
    Calls Tryz.prog 60 #[.iface 101 (.pointer (some e)), .iface 103 (.pointer (some t))] w fun ev w' => ev = .returned (.bool true) ∧ w'.cell? t = some (.pointer (some e)) ∧ Upd (· = t.block) w w' := by
  refine (as_hit e t old w hg.err ht0 hf0).mono ?_
  rintro ev w' ⟨rfl, rfl⟩
  have htl : t.block < w.heap.size := by
    rcases Nat.lt_or_ge t.block w.heap.size with h | h
    · exact h
    · simp [World.cell?, Array.getElem?_eq_none h] at ht0
  refine ⟨rfl, ?_, ?_⟩
  · refine World.cell?_setCell_same (u := old) _ _ _ ?_
    rw [World.cell?_alloc_lt _ _ t (by simp; omega), World.cell?_alloc_lt _ _ t (by simp; omega), World.cell?_alloc_lt _ _ t (by simp; omega), World.cell?_alloc_lt _ _ t htl]; exact ht0
  · exact Upd.setCell (F := (· = t.block)) (((((Upd.refl _ _).alloc _).alloc _).alloc _).alloc _) (.inr rfl) _

set_option maxRecDepth 100000 in
set_option maxHeartbeats 8000000 in
theorem is_calls (w : World) (e : Value) (op path : ByteArray) (c : Int) (h1 : 0 ≤ c) (h2 : c ≤ 19) (h : FaultAt w e op path c) (hg : Glob w) :
    Calls Tryz.prog 33 #[e, .int .i64 c, .string op, .string path] w fun r w' => r = .returned (.bool true) ∧ Upd (fun _ => False) w w' := by
  have hcode := code_fault w e op path c h1 h2 h
  rcases h with ⟨rfl, rfl⟩ | ⟨h, b, rfl, hb⟩
  · have HC := Lib.hid hcode
    clear hcode
    go_enter Tryz.func33, Tryz.ntmps33
    go_wp2_with (go_at_call 18; refine HC.out.mono ?_; rintro e w1 ⟨rfl, rfl⟩)
    go_ret
    exact ⟨rfl, Upd.refl _ _⟩
  · have HC := Lib.hid hcode
    have e0 : (c == 0) = false := beq_eq_false_iff_ne.2 h
    have hlt := lt_of_heap hb
    have hg0 : 0 < w.heap.size := by omega
    have hgA : Glob (w.alloc (.cells #[.pointer none] 101)) := hg.upd ((Upd.refl (fun _ => False) _).alloc _) (fun _ _ => id)
    have htA : (w.alloc (.cells #[.pointer none] 101)).cell? ⟨w.heap.size, 0, none⟩ = some (.pointer none) := by simp
    have hfA : (w.alloc (.cells #[.pointer none] 101)).frozen? ⟨w.heap.size, 0, none⟩ = false := by simp
    have hhit := as_hit2 ⟨b, 0, none⟩ ⟨w.heap.size, 0, none⟩ (.pointer none) _ hgA htA hfA
    have HH := Lib.hid hhit
    have b0 : w.cell? ⟨b, 0, none⟩ = some (.string op) := (cell_of_heap hb 0).trans rfl
    have b1 : w.cell? ⟨b, 1, none⟩ = some (.string path) := (cell_of_heap hb 1).trans rfl
    have e2 : (c == c) = true := beq_self_eq_true c
    clear hcode hhit h hg hgA htA hfA hb
    go_enter Tryz.func33, Tryz.ntmps33
    go_wp2_with (first
      | (go_at_call 18; refine HC.out.mono ?_; rintro e w1 ⟨rfl, rfl⟩)
      | (go_at_call 60; refine HH.out.mono ?_; rintro e w1 ⟨rfl, hc9, hu1⟩; have f0 : w1.cell? ⟨b, 0, none⟩ = some (.string op) := (hu1.cell (p := ⟨b, 0, none⟩) (by simp; omega) (by simp; omega)).trans (by rw [World.cell?_alloc_lt _ _ _ hlt]; exact b0); have f1 : w1.cell? ⟨b, 1, none⟩ = some (.string path) := (hu1.cell (p := ⟨b, 1, none⟩) (by simp; omega) (by simp; omega)).trans (by rw [World.cell?_alloc_lt _ _ _ hlt]; exact b1); have HU1 := Lib.hid hu1; clear hu1))
    go_ret
    refine ⟨rfl, ?_⟩
    exact (((Upd.refl (· = w.heap.size) w).alloc _).trans HU1.out).mono (fun k hk h => by omega)
end Go.Proofs.YtggfepgablfbhaaGreatDoor
