/- A tree in memory that is changed. -/
import Derived.Test.YtggfepgablfbhaaGreatDoorFind
namespace Go.Proofs.YtggfepgablfbhaaGreatDoor
open Go.RowKit

def setNode (k : Int) (m : Nd) (l : List (Int × Nd)) : List (Int × Nd) := l.map fun p => if p.1 = k then (p.1, m) else p
def Lay.set (k : Int) (x : NL) (m : Nd) (L : Lay) : Lay := L.map fun p => if p.1 = k then (p.1, (x, m)) else p

theorem Lay.set_nodes (k : Int) (x : NL) (m : Nd) (L : Lay) : (L.set k x m).nodes = setNode k m L.nodes := by
  unfold Lay.set Lay.nodes setNode
  rw [List.map_map, List.map_map]
  refine List.map_congr_left fun p _ => ?_
  simp only [Function.comp]
  split <;> rfl
theorem Lay.set_keys (k : Int) (x : NL) (m : Nd) (L : Lay) : (L.set k x m).map (·.1) = L.map (·.1) := by
  unfold Lay.set
  rw [List.map_map]
  refine List.map_congr_left fun p _ => ?_
  simp only [Function.comp]
  split <;> rfl
theorem look_split {κ α : Type} [DecidableEq κ] {k : κ} {v : α} {l : List (κ × α)} (h : look k l = some v) (hn : (l.map (·.1)).Nodup) : ∃ A B, l = A ++ (k, v) :: B ∧ (∀ p ∈ A, p.1 ≠ k) ∧ (∀ p ∈ B, p.1 ≠ k) := by
  obtain ⟨A, B, rfl⟩ := List.append_of_mem (look_mem h)
  refine ⟨A, B, rfl, ?_, ?_⟩
  · intro p hp e
    rw [List.map_append, List.nodup_append] at hn
    exact hn.2.2 p.1 (List.mem_map.2 ⟨p, hp, rfl⟩) k (by simp) e
  · intro p hp e
    rw [List.map_append, List.nodup_append] at hn
    have := hn.2.1
    simp only [List.map_cons, List.nodup_cons] at this
    exact this.1 (e ▸ List.mem_map.2 ⟨p, hp, rfl⟩)
theorem Lay.set_split {k : Int} {x : NL} {m : Nd} {A B : Lay} {y : NL × Nd} (hA : ∀ p ∈ A, p.1 ≠ k) (hB : ∀ p ∈ B, p.1 ≠ k) : Lay.set k x m (A ++ (k, y) :: B) = A ++ (k, (x, m)) :: B := by
  have h : ∀ C : Lay, (∀ p ∈ C, p.1 ≠ k) → (C.map fun p => if p.1 = k then (p.1, (x, m)) else p) = C := fun C hC => by
    conv => rhs; rw [← List.map_id C]
    exact List.map_congr_left fun p hp => if_neg (hC p hp)
  unfold Lay.set
  rw [List.map_append, List.map_cons, h A hA, h B hB]
  simp

/-- The change of a tree: what has turned lies in the tree, or is new. -/
structure Moves (w w' : World) (t bm : Nat) (L L' : Lay) (T' : Tr) : Prop where
  tree : TreeAt w' t bm L' T'
  upd : Upd (· ∈ fpOf t bm L) w w'
  fp : ∀ g ∈ fpOf t bm L', g ∈ fpOf t bm L ∨ w.heap.size ≤ g

theorem Moves.refl {w w' : World} {t bm : Nat} {L : Lay} {T : Tr} (h : TreeAt w t bm L T) (hu : Upd (fun _ => False) w w') : Moves w w' t bm L L T :=
  ⟨h.upd hu (fun _ _ => id), hu.mono (fun _ _ h => h.elim), fun _ h => .inl h⟩
theorem Moves.trans {w w1 w2 : World} {t bm : Nat} {L L1 L2 : Lay} {T1 T2 : Tr} (h : Moves w w1 t bm L L1 T1) (k : Moves w1 w2 t bm L1 L2 T2) : Moves w w2 t bm L L2 T2 := by
  refine ⟨k.tree, ⟨k.upd.os.trans h.upd.os, k.upd.tape.trans h.upd.tape, k.upd.output.trans h.upd.output, Nat.le_trans h.upd.size k.upd.size, fun i hi hf => ?_⟩, fun g hg => ?_⟩
  · refine (k.upd.block i (Nat.lt_of_lt_of_le hi h.upd.size) (fun q => ?_)).trans (h.upd.block i hi hf)
    rcases h.fp i q with q | q
    · exact hf q
    · omega
  · rcases k.fp g hg with q | q
    · exact h.fp g q
    · exact .inr (Nat.le_trans h.upd.size q)
theorem Moves.pre {w w1 w2 : World} {t bm : Nat} {L L2 : Lay} {T2 : Tr} (hu : Upd (fun _ => False) w w1) (k : Moves w1 w2 t bm L L2 T2) : Moves w w2 t bm L L2 T2 :=
  ⟨k.tree, (hu.mono (fun _ _ h => h.elim)).trans k.upd, fun g hg => (k.fp g hg).imp id (fun q => Nat.le_trans hu.size q)⟩
theorem Moves.post {w w1 w2 : World} {t bm : Nat} {L L1 : Lay} {T1 : Tr} (h : Moves w w1 t bm L L1 T1) (hu : Upd (fun _ => False) w1 w2) : Moves w w2 t bm L L1 T1 :=
  ⟨h.tree.upd hu (fun _ _ => id), h.upd.trans (hu.mono (fun _ _ h => h.elim)), h.fp⟩

theorem fp_split (t bm : Nat) (A B : Lay) (p : Int × (NL × Nd)) : (fpOf t bm (A ++ p :: B)).Perm (p.2.1.fp ++ (t :: bm :: (A.flatMap (·.2.1.fp) ++ B.flatMap (·.2.1.fp)))) := by
  unfold fpOf
  simp only [List.flatMap_append, List.flatMap_cons]
  refine List.Perm.trans ?_ (List.perm_append_comm (l₁ := t :: bm :: _))
  simp only [List.cons_append, List.append_assoc]
  refine (List.Perm.cons _ (List.Perm.cons _ ?_))
  exact (List.perm_append_comm (l₁ := p.2.1.fp)).append_left _

/-- A node's own memory turned: its inode is another one; its footprint is the old one, and new blocks. -/
theorem TreeAt.setNode {w w' : World} {t bm : Nat} {L : Lay} {T : Tr} (h : TreeAt w t bm L T) {k : Int} {x x' : NL} {n m : Nd} (hx : look k L = some (x, n)) (hb : x'.blk = x.blk)
    (hu : Upd (· ∈ x.fp) w w') (hm : NodeAt w' x' m) (hfp : ∀ g ∈ x'.fp, g ∈ x.fp ∨ w.heap.size ≤ g) (hnd : x'.fp.Nodup) :
    Moves w w' t bm L (L.set k x' m) { T with nodes := setNode k m T.nodes } := by
  obtain ⟨A, B, hL, hA, hB⟩ := look_split hx h.keys
  have hset : L.set k x' m = A ++ (k, (x', m)) :: B := by rw [hL]; exact Lay.set_split hA hB
  have hap := (fp_split t bm A B (k, (x, n))).nodup_iff.1 (by rw [← hL]; exact h.apart)
  rw [List.nodup_append] at hap
  obtain ⟨hn1, hn2, hn3⟩ := hap
  have hlt := h.fplt
  rw [hL] at hlt
  have hmem : ∀ g ∈ (t :: bm :: (A.flatMap (·.2.1.fp) ++ B.flatMap (·.2.1.fp))), g ∈ fpOf t bm (A ++ (k, (x, n)) :: B) := fun g hg => (fp_split t bm A B (k, (x, n))).mem_iff.2 (List.mem_append.2 (.inr hg))
  have hkeep : ∀ g ∈ (t :: bm :: (A.flatMap (·.2.1.fp) ++ B.flatMap (·.2.1.fp))), w'.heap[g]? = w.heap[g]? := fun g hg =>
    hu.block g (hlt g (hmem g hg)) (fun q => hn3 g q g hg rfl)
  have hfpL : ∀ g ∈ x.fp, g ∈ fpOf t bm L := fun g hg => by rw [hL]; exact (fp_split t bm A B (k, (x, n))).mem_iff.2 (List.mem_append.2 (.inl hg))
  refine ⟨⟨(hkeep t (by simp)).trans h.cells, ?_, by rw [Lay.set_keys]; exact h.keys, ?_, by rw [Lay.set_nodes, ← h.nodes], ?_⟩, hu.mono (fun g _ hg => hfpL g hg), ?_⟩
  · have : ptrs (L.set k x' m) = ptrs L := by
      rw [hset, hL]
      unfold ptrs
      simp [hb]
    rw [this]
    exact h.map.kept (hkeep bm (by simp))
  · intro p hp
    rw [hset] at hp
    rcases List.mem_append.1 hp with hp | hp
    · exact (h.at_ p (by rw [hL]; simp [hp])).kept fun g hg => hkeep g (by simp only [List.mem_cons, List.mem_append, List.mem_flatMap]; exact .inr (.inr (.inl ⟨p, hp, hg⟩)))
    · rcases List.mem_cons.1 hp with rfl | hp
      · exact hm
      · exact (h.at_ p (by rw [hL]; simp [hp])).kept fun g hg => hkeep g (by simp only [List.mem_cons, List.mem_append, List.mem_flatMap]; exact .inr (.inr (.inr ⟨p, hp, hg⟩)))
  · rw [hset]
    refine (fp_split t bm A B (k, (x', m))).nodup_iff.2 ?_
    rw [List.nodup_append]
    refine ⟨hnd, hn2, fun a ha b hb' e => ?_⟩
    subst e
    rcases hfp a ha with q | q
    · exact hn3 a q a hb' rfl
    · have := hlt a (hmem a hb')
      omega
  · intro g hg
    rw [hset] at hg
    rcases List.mem_append.1 ((fp_split t bm A B (k, (x', m))).mem_iff.1 hg) with q | q
    · exact (hfp g q).imp (hfpL g) id
    · exact .inl (by rw [hL]; exact hmem g q)

theorem TreeAt.nodup_fp {w : World} {t bm : Nat} {L : Lay} {T : Tr} (h : TreeAt w t bm L T) {k : Int} {x : NL} {n : Nd} (hx : look k L = some (x, n)) : x.fp.Nodup := by
  obtain ⟨A, B, hL, hA, hB⟩ := look_split hx h.keys
  have hap := (fp_split t bm A B (k, (x, n))).nodup_iff.1 (by rw [← hL]; exact h.apart)
  exact (List.nodup_append.1 hap).1

/-- A directory's names turned. -/
theorem TreeAt.setNames {w w' : World} {t bm : Nat} {L : Lay} {T : Tr} (h : TreeAt w t bm L T) {k : Int} {x : NL} {n : Nd} (hx : look k L = some (x, n)) {b : Nat} (hb : x.mb = some b) (l : List (ByteArray × Int))
    (hu : Upd (· = b) w w') (hm : MapIs w' encS b (l.map fun p => (p.1, Value.int .i64 p.2))) (hk : (l.map (·.1)).Nodup) :
    Moves w w' t bm L (L.set k x { n with names := l }) { T with nodes := Go.Proofs.YtggfepgablfbhaaGreatDoor.setNode k { n with names := l } T.nodes } := by
  have hna := h.at_ _ (look_mem hx)
  have hnd := h.nodup_fp hx
  have hne1 : x.blk ≠ b := by
    intro e
    rw [NL.fp, hb, List.nodup_cons] at hnd
    exact hnd.1 (by simp [e])
  refine h.setNode hx rfl (hu.mono (fun g _ hg => by subst hg; simp [NL.fp, hb])) ⟨?_, ?_, ?_, hna.dir⟩ (fun g hg => .inl hg) hnd
  · exact (hu.block _ (lt_of_heap hna.cells) hne1).trans hna.cells
  · refine hna.bytes.kept fun g hg => hu.block g (hna.lt g (by rw [NL.fp, hg]; simp)) (fun e => ?_)
    subst e
    rw [NL.fp, hb, hg] at hnd
    simp at hnd
  · rw [hb]; exact ⟨hm, hk⟩

/-- One more inode. -/
theorem TreeAt.add {w w' : World} {t bm : Nat} {L : Lay} {T : Tr} (h : TreeAt w t bm L T) {k : Int} {x : NL} {n : Nd} {next' : Int} (hk : look k L = none)
    (hu : Upd (fun g => g = bm ∨ g = t) w w') (hc : w'.heap[t]? = some (.cells #[.map (some bm), .int .i64 next'] 65 (0, 0)))
    (hm : MapIs w' encI bm (ptrs (L ++ [(k, (x, n))]))) (hn : NodeAt w' x n) (hfp : ∀ g ∈ x.fp, w.heap.size ≤ g) (hnd : x.fp.Nodup) :
    Moves w w' t bm L (L ++ [(k, (x, n))]) { nodes := T.nodes ++ [(k, n)], next := next' } := by
  have hap := h.apart
  have hlt := h.fplt
  have hp : (fpOf t bm (L ++ [(k, (x, n))])).Perm (x.fp ++ fpOf t bm L) := by
    unfold fpOf
    simp only [List.flatMap_append, List.flatMap_cons, List.flatMap_nil, List.append_nil]
    exact (List.perm_append_comm (l₁ := t :: bm :: _) (l₂ := x.fp))
  refine ⟨⟨hc, hm, ?_, ?_, ?_, ?_⟩, hu.mono (fun g _ hg => by rcases hg with rfl | rfl <;> simp [fpOf]), ?_⟩
  · rw [List.map_append, List.nodup_append]
    refine ⟨h.keys, by simp, fun a ha b hb => ?_⟩
    simp at hb
    subst hb
    rintro rfl
    exact look_none.1 hk ha
  · intro p hq
    rcases List.mem_append.1 hq with hq | hq
    · refine (h.at_ p hq).kept fun g hg => hu.block g (hlt g (fp_mem hq hg)) (fun e => ?_)
      unfold fpOf at hap
      simp only [List.nodup_cons, List.mem_cons, List.mem_flatMap, not_or] at hap
      rcases e with rfl | rfl
      · exact hap.2.1 ⟨p, hq, hg⟩
      · exact hap.1.2 ⟨p, hq, hg⟩
    · simp at hq
      subst hq
      exact hn
  · show _ = Lay.nodes _
    rw [h.nodes]
    simp [Lay.nodes]
  · refine hp.nodup_iff.2 ?_
    rw [List.nodup_append]
    exact ⟨hnd, hap, fun a ha b hb e => by subst e; have := hfp a ha; have := hlt a hb; omega⟩
  · intro g hg
    rcases List.mem_append.1 (hp.mem_iff.1 hg) with q | q
    · exact .inr (hfp g q)
    · exact .inl q

theorem flatMap_sublist {α β : Type} {f : α → List β} {l l' : List α} (h : List.Sublist l l') : List.Sublist (l.flatMap f) (l'.flatMap f) := by
  induction h with
  | slnil => exact List.Sublist.refl _
  | cons a _ ih => rw [List.flatMap_cons]; exact ih.trans (List.sublist_append_right _ _)
  | cons_cons a _ ih => rw [List.flatMap_cons, List.flatMap_cons]; exact ih.append_left _

/-- An inode less. -/
theorem TreeAt.drop {w w' : World} {t bm : Nat} {L : Lay} {T : Tr} (h : TreeAt w t bm L T) (k : Int)
    (hu : Upd (· = bm) w w') (hm : MapIs w' encI bm (del k (ptrs L))) :
    Moves w w' t bm L (del k L) { T with nodes := del k T.nodes } := by
  have hap := h.apart
  have hlt := h.fplt
  have hsub : ∀ g ∈ fpOf t bm (del k L), g ∈ fpOf t bm L := fun g hg => by
    simp only [fpOf, List.mem_cons, List.mem_flatMap] at hg ⊢
    rcases hg with q | q | ⟨p, hp, q⟩
    · exact .inl q
    · exact .inr (.inl q)
    · exact .inr (.inr ⟨p, (List.mem_filter.1 hp).1, q⟩)
  have hap' := hap
  unfold fpOf at hap'
  simp only [List.nodup_cons, List.mem_cons, List.mem_flatMap, not_or] at hap'
  refine ⟨⟨(hu.block t h.lt hap'.1.1).trans h.cells, ?_, del_keys h.keys, ?_, ?_, ?_⟩, hu.mono (fun g _ hg => by subst hg; simp [fpOf]), fun g hg => .inl (hsub g hg)⟩
  · have : ptrs (del k L) = del k (ptrs L) := by
      unfold ptrs del
      rw [List.filter_map]
      rfl
    rw [this]; exact hm
  · intro p hp
    have hpL := (List.mem_filter.1 hp).1
    exact (h.at_ p hpL).kept fun g hg => hu.block g (hlt g (fp_mem hpL hg)) (fun e => by subst e; exact hap'.2.1 ⟨p, hpL, hg⟩)
  · show del k T.nodes = Lay.nodes (del k L)
    rw [h.nodes]
    unfold Lay.nodes del
    rw [List.filter_map]
    rfl
  · unfold fpOf at hap ⊢
    refine List.Sublist.nodup ?_ hap
    refine List.Sublist.cons_cons _ (List.Sublist.cons_cons _ ?_)
    exact flatMap_sublist List.filter_sublist
#print axioms TreeAt.setNames
end Go.Proofs.YtggfepgablfbhaaGreatDoor
