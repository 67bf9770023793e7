/- A file's bytes turned. -/
import Derived.Test.YtggfepgablfbhaaGreatDoorHeld
namespace Go.Proofs.YtggfepgablfbhaaGreatDoor
open Go.RowKit Go.Lib

theorem fp_set {t bm : Nat} {L : Lay} {k : Int} {x : NL} {m : Nd} {g : Nat} (h : g ∈ fpOf t bm (L.set k x m)) : g ∈ fpOf t bm L ∨ g ∈ x.fp := by
  simp only [fpOf, List.mem_cons, List.mem_flatMap] at h ⊢
  rcases h with h | h | ⟨p, hp, hg⟩
  · exact .inl (.inl h)
  · exact .inl (.inr (.inl h))
  · unfold Lay.set at hp
    obtain ⟨q, hq, rfl⟩ := List.mem_map.1 hp
    split at hg
    · exact .inr hg
    · exact .inl (.inr (.inr ⟨q, hq, hg⟩))

theorem data_moves {w w6 : World} {t bm : Nat} {L : Lay} {T : Tr} (hT : TreeAt w t bm L T) {k : Int} {x : NL} {n : Nd} (hx : look k L = some (x, n)) {v : Value} {db : Option Nat} {bs : List Int} (hu : Upd (· = x.blk) w w6)
    (hc : w6.heap[x.blk]? = some (.cells #[.int .i64 n.kind, v, .map x.mb] 75 (0, 0))) (hb : BytesAt w6 v db bs) (hg : ∀ g, db = some g → w.heap.size ≤ g) :
    Moves w w6 t bm L (L.set k ⟨x.blk, v, db, x.mb⟩ { n with data := bs }) (T.setData k n bs) := by
  have hna := hT.at_ _ (look_mem hx)
  have hnd := hT.nodup_fp hx
  have hxb : x.blk < w.heap.size := lt_of_heap hna.cells
  have hmb : ∀ b, x.mb = some b → b ≠ x.blk ∧ b < w.heap.size := fun b hb => by
    constructor
    · rintro rfl
      rw [NL.fp, hb, List.nodup_cons] at hnd
      exact hnd.1 (by simp)
    · exact hna.lt b (by rw [NL.fp, hb]; simp)
  refine hT.setNode (x' := ⟨x.blk, v, db, x.mb⟩) (m := { n with data := bs }) hx rfl (hu.mono (fun g _ q => by subst q; simp [NL.fp])) ⟨hc, hb, ?_, hna.dir⟩ ?_ ?_
  · have h1 := hna.names
    show NamesAt w6 x.mb n.names
    cases hq : x.mb with
    | none => rw [hq] at h1; exact h1
    | some b =>
      rw [hq] at h1
      exact ⟨h1.1.kept (hu.block b (hmb b hq).2 (hmb b hq).1), h1.2⟩
  · intro g q
    simp only [NL.fp, List.mem_cons, List.mem_append, Option.mem_toList] at q ⊢
    rcases q with q | q | q
    · exact .inl (.inl q)
    · exact .inr (hg g q)
    · exact .inl (.inr (.inr q))
  · cases hd : db with
    | none =>
      cases hm : x.mb with
      | none => simp [NL.fp]
      | some b => have := (hmb b hm).1; simp [NL.fp]; exact fun q => this q.symm
    | some g =>
      have h1 := hg g hd
      cases hm : x.mb with
      | none => simp [NL.fp]; omega
      | some b => have h2 := hmb b hm; simp [NL.fp]; refine ⟨⟨by omega, fun q => h2.1 q.symm⟩, by omega⟩
end Go.Proofs.YtggfepgablfbhaaGreatDoor
