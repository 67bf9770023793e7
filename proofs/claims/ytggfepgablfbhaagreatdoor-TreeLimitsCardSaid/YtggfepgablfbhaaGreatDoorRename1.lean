/- Walk of tree.rename, part 1. -/
import Derived.Test.YtggfepgablfbhaaGreatDoorLink
namespace Go.Proofs.YtggfepgablfbhaaGreatDoor
open Go.RowKit

/-- A name moved: given at one place, struck at another. -/
def Tr.moved (T : Tr) (k : Int) (d : Nd) (s : ByteArray) (j : Int) (f : Int) (sf : ByteArray) : Tr :=
  match look f (T.named k d s j).nodes with
  | none => T.named k d s j
  | some df => { T.named k d s j with nodes := setNode f { df with names := del sf df.names } (T.named k d s j).nodes }

def Tr.rename (T : Tr) (o : OpV) : Int × Tr :=
  if parentsS [o.path, o.dest] ≠ 0 then (parentsS [o.path, o.dest], T) else if (T.find o.path).2 ≠ 0 then ((T.find o.path).2, T) else
  match look (T.find o.path).1 T.nodes with
  | none => (5, T)
  | some x => if x.kind = 2 ∧ o.dest ≠ o.path ∧ underS o.dest o.path = true then (10, T) else if (T.at_ o.dest).1 ≠ 0 then ((T.at_ o.dest).1, T) else
    match look (T.at_ o.dest).2.1 T.nodes with
    | none => (5, T)
    | some d => match look (T.at_ o.dest).2.2 d.names with
      | none => (0, T.moved (T.at_ o.dest).2.1 d (T.at_ o.dest).2.2 (T.find o.path).1 (T.at_ o.path).2.1 (T.at_ o.path).2.2)
      | some j => match look j T.nodes with
        | none => (5, T)
        | some m => if j = (T.find o.path).1 then (0, T) else if x.kind = 2 ∧ m.kind = 1 then (8, T) else if x.kind = 1 ∧ m.kind = 2 then (7, T) else if m.names ≠ [] then (9, T) else
          (0, (T.dropAt (T.at_ o.dest).2.1 d (T.at_ o.dest).2.2).moved (T.at_ o.dest).2.1 { d with names := del (T.at_ o.dest).2.2 d.names } (T.at_ o.dest).2.2 (T.find o.path).1 ((T.dropAt (T.at_ o.dest).2.1 d (T.at_ o.dest).2.2).at_ o.path).2.1 ((T.dropAt (T.at_ o.dest).2.1 d (T.at_ o.dest).2.2).at_ o.path).2.2)

theorem parentsS_zero {l : List ByteArray} (h : parentsS l = 0) : ∀ p ∈ l, (parentS p).1 = 0 := by
  induction l with
  | nil => simp
  | cons p l ih =>
    intro q hq
    unfold parentsS at h
    by_cases hp : (parentS p).1 ≠ 0
    · rw [if_pos hp] at h; exact absurd h hp
    · rw [if_neg hp] at h
      rcases List.mem_cons.1 hq with rfl | hq
      · simpa using hp
      · exact ih h q hq
theorem look_zero {w : World} {t bm : Nat} {L : Lay} {T : Tr} (h : TreeAt w t bm L T) (ok : T.Ok) : look 0 (ptrs L) = none := by
  rw [look_none]
  unfold ptrs
  rw [keys_map (fun x : NL × Nd => Value.pointer (some ⟨x.1.blk, 0, none⟩)), ← keys_map (fun x : NL × Nd => x.2)]
  intro q
  have : look 0 T.nodes ≠ none := by
    rw [ne_eq, look_none, h.nodes, Lay.nodes]
    exact fun q2 => q2 q
  obtain ⟨n, hn⟩ := Option.ne_none_iff_exists'.1 this
  have := (ok.pos _ _ hn).1
  omega
/-- What must hold of the tree behind a name that went: given by the tree's own laws. -/
structure RenameOk (T : Tr) (o : OpV) : Prop where
  gone : ∀ d j m, (T.at_ o.dest).1 = 0 → look (T.at_ o.dest).2.1 T.nodes = some d → look (T.at_ o.dest).2.2 d.names = some j → look j T.nodes = some m → m.names = [] → j ≠ (T.find o.path).1 → (T.find o.path).2 = 0 → (parentS o.path).1 = 0 →
    (T.dropAt (T.at_ o.dest).2.1 d (T.at_ o.dest).2.2).Ok ∧ ((T.dropAt (T.at_ o.dest).2.1 d (T.at_ o.dest).2.2).at_ o.path).1 = 0 ∧ j ≠ (T.at_ o.dest).2.1
theorem look_setNode {k f : Int} {m : Nd} : ∀ {l : List (Int × Nd)}, look f (setNode k m l) = if f = k then (look f l).map (fun _ => m) else look f l
  | [] => by simp [setNode, look]
  | p :: l => by
    have ih := look_setNode (k := k) (f := f) (m := m) (l := l)
    unfold setNode at ih ⊢
    rw [List.map_cons]
    unfold look
    by_cases e : p.1 = k
    · rw [if_pos e]
      by_cases e2 : p.1 = f
      · simp only [e2, if_true]
        rw [if_pos (by rw [← e2, e])]
        simp
      · simp only [e2, if_false]
        exact ih
    · rw [if_neg e]
      by_cases e2 : p.1 = f
      · simp only [e2, if_true]
        rw [if_neg (by rw [← e2]; exact e)]
      · simp only [e2, if_false]
        exact ih
theorem look_laySet {k f : Int} {y : NL} {m : Nd} : ∀ {l : Lay}, look f (l.set k y m) = if f = k then (look f l).map (fun _ => (y, m)) else look f l
  | [] => by simp [Lay.set, look]
  | p :: l => by
    have ih := look_laySet (k := k) (f := f) (y := y) (m := m) (l := l)
    unfold Lay.set at ih ⊢
    rw [List.map_cons]
    unfold look
    by_cases e : p.1 = k
    · rw [if_pos e]
      by_cases e2 : p.1 = f
      · simp only [e2, if_true]
        rw [if_pos (by rw [← e2, e])]
        simp
      · simp only [e2, if_false]
        exact ih
    · rw [if_neg e]
      by_cases e2 : p.1 = f
      · simp only [e2, if_true]
        rw [if_neg (by rw [← e2]; exact e)]
      · simp only [e2, if_false]
        exact ih
theorem TreeAt.look_lay {w : World} {t bm : Nat} {L : Lay} {T : Tr} (h : TreeAt w t bm L T) {k : Int} {x : NL} {n : Nd} (hx : look k L = some (x, n)) : look k T.nodes = some n := by
  rw [h.nodes, Lay.nodes, look_map (fun x : NL × Nd => x.2), hx]; rfl
theorem look_del {κ α : Type} [DecidableEq κ] (k : κ) (l : List (κ × α)) : look k (del k l) = none := by
  rw [look_none]
  intro h
  obtain ⟨p, hp, e⟩ := List.mem_map.1 h
  have := (List.mem_filter.1 hp).2
  simp [e] at this
theorem look_del_ne {κ α : Type} [DecidableEq κ] {k j : κ} (h : j ≠ k) : ∀ (l : List (κ × α)), look k (del j l) = look k l
  | [] => rfl
  | p :: l => by
    have ih := look_del_ne h l
    unfold del at ih ⊢
    rw [List.filter_cons]
    by_cases e : p.1 = j
    · simp only [e, ne_eq, not_true, decide_false, Bool.false_eq_true, if_false]
      rw [ih]
      conv => rhs; unfold look
      rw [if_neg (by rw [e]; exact h)]
    · simp only [ne_eq, e, not_false_eq_true, decide_true, if_true]
      unfold look
      rw [ih]
theorem dropLay_look {T : Tr} {L : Lay} {k : Int} {y : NL} {d : Nd} {s : ByteArray} (hy : look k L = some (y, d)) (hj : d.at_ s ≠ k) : look k (T.dropLay L k y d s) = some (y, { d with names := del s d.names }) := by
  have h1 : look k (L.set k y { d with names := del s d.names }) = some (y, { d with names := del s d.names }) := by rw [look_laySet, if_pos rfl, hy]; rfl
  unfold Tr.dropLay
  split
  · rw [look_del_ne hj]; exact h1
  · exact h1
theorem look_both {L : Lay} {k f : Int} {y z : NL} {d n m : Nd} (hy : look k L = some (y, d)) (hz : look f L = some (z, n)) (hd : d.kind = 2) (hn : n.kind = 2) (hm : m.kind = d.kind) : ∃ df, True ∧ look f (L.set k y m) = some (z, df) ∧ df.kind = 2 := by
  rw [look_laySet]
  by_cases e : f = k
  · subst e
    rw [hy] at hz
    cases hz
    exact ⟨m, trivial, by rw [if_pos rfl, hy]; rfl, by rw [hm, hd]⟩
  · exact ⟨n, trivial, by rw [if_neg e, hz], hn⟩
theorem keepR {v v' : World} {t bm : Nat} {L : Lay} {T : Tr} {a a' a'' : Addr} {x y z : Value} (h : TreeAt v t bm L T ∧ v.cell? a = some x ∧ v.cell? a' = some y ∧ v.cell? a'' = some z) (hu : Upd (fun _ => False) v v') : TreeAt v' t bm L T ∧ v'.cell? a = some x ∧ v'.cell? a' = some y ∧ v'.cell? a'' = some z :=
  ⟨h.1.upd hu (fun _ _ => id), (hu.cell (World.block_lt_of_cell? v _ h.2.1) id).trans h.2.1, (hu.cell (World.block_lt_of_cell? v _ h.2.2.1) id).trans h.2.2.1, (hu.cell (World.block_lt_of_cell? v _ h.2.2.2) id).trans h.2.2.2⟩

set_option maxRecDepth 100000 in
set_option maxHeartbeats 8000000 in
theorem rename_early (w : World) (t bm : Nat) (L : Lay) (T : Tr) (hT : TreeAt w t bm L T) (ok : T.Ok) (o : OpV) (A : Option Addr) (c : Nat) (hp : o.path.size ≤ 9223372036854775807) (hq : o.dest.size ≤ 9223372036854775807) (hg : Glob w) (hearly : parentsS [o.path, o.dest] ≠ 0 ∨ (T.find o.path).2 ≠ 0) :
    Calls Tryz.prog 42 #[.pointer (some ⟨t, 0, none⟩), .agg (opCells o A c)] w fun e w' => e = .returned (errV (T.rename o).1) ∧ ∃ L', Moves w w' t bm L L' (T.rename o).2 := by
  have HT := Lib.hid hT
  have HO := Lib.hid ok
  have HG := Lib.hid hg
  have hlt := hT.lt
  have hlt1 : t ≤ w.heap.size + 1 := by omega
  have hlt2 : t < w.heap.size + 1 + 1 := by omega
  have c0 := hT.c0
  have HUA : ∀ X, Hid (Upd (fun _ => False) w (w.alloc X)) := fun X => (Upd.refl _ _).alloc X
  have HHUA := Lib.hid HUA
  clear hT ok hg HUA
  unfold opCells
  have HSZ : Hid (∀ s ∈ [o.path, o.dest], s.size ≤ 9223372036854775807) := fun s hs => by simp only [List.mem_cons, List.not_mem_nil, or_false] at hs; rcases hs with rfl | rfl; exact hp; exact hq
  by_cases h1 : parentsS [o.path, o.dest] ≠ 0
  · have hP : T.rename o = (parentsS [o.path, o.dest], T) := by unfold Tr.rename; rw [if_pos h1]
    have HP := Lib.hid hP
    have EP := Lib.hid (errV_pos h1)
    clear hP h1 hearly
    go_enter Tryz.func42, Tryz.ntmps42
    go_wp2_with (first
    | (go_at_call 68; refine (parents_calls _ _ _ [o.path, o.dest] (strsAt_new _ [o.path, o.dest] (by simp) (by simp)) HSZ.out (HG.out.upd ((HHUA.out _).out.alloc _) (fun _ _ => id))).mono ?_; rintro e w1 ⟨rfl, hu1⟩; obtain ⟨hc1, hf1⟩ := bcellU hu1 (fun _ => id); have hz1 : w.heap.size + 2 ≤ w1.heap.size := (by have := hu1.size; (try simp at this); omega); have hy1 : w.heap.size < w1.heap.size := (by omega); have ht1 : t < w1.heap.size := (by omega); have HU1 : Hid (Upd (fun _ => False) w w1) := ((HHUA.out _).out.alloc _).trans hu1; clear hu1; rw [EP.out])
    )
    go_ret
    rw [HP.out, EP.out]
    exact ⟨rfl, L, Moves.refl HT.out HU1.out⟩
  · have h0 : parentsS [o.path, o.dest] = 0 := by simpa using h1
    have EP : Hid (errV (parentsS [o.path, o.dest]) = .nilIface) := by show errV _ = _; rw [h0]; rfl
    have h2 : (T.find o.path).2 ≠ 0 := hearly.resolve_left h1
    have hP : T.rename o = ((T.find o.path).2, T) := by unfold Tr.rename; rw [if_neg h1, if_pos h2]
    have HP := Lib.hid hP
    have E2 := Lib.hid (errV_pos h2)
    clear hP h1 h0 h2 hearly
    go_enter Tryz.func42, Tryz.ntmps42
    go_wp2_with (first
    | (go_at_call 68; refine (parents_calls _ _ _ [o.path, o.dest] (strsAt_new _ [o.path, o.dest] (by simp) (by simp)) HSZ.out (HG.out.upd ((HHUA.out _).out.alloc _) (fun _ _ => id))).mono ?_; rintro e w1 ⟨rfl, hu1⟩; obtain ⟨hc1, hf1⟩ := bcellU hu1 (fun _ => id); have hz1 : w.heap.size + 2 ≤ w1.heap.size := (by have := hu1.size; (try simp at this); omega); have hy1 : w.heap.size < w1.heap.size := (by omega); have ht1 : t < w1.heap.size := (by omega); have HU1 : Hid (Upd (fun _ => False) w w1) := ((HHUA.out _).out.alloc _).trans hu1; clear hu1; rw [EP.out])
    | (go_at_call 17; refine (find_calls _ _ _ _ _ (HT.out.upd (HU1.out) (fun _ _ => id)) HO.out o.path hp (HG.out.upd (HU1.out) (fun _ _ => id))).mono ?_; rintro e w2 ⟨rfl, hu2⟩; obtain ⟨hc2, hf2⟩ := bcellU hu2 (fun _ => id); have hz2 : w.heap.size + 2 ≤ w2.heap.size := (by have := hu2.size; (try simp at this); omega); have hy2 : w.heap.size < w2.heap.size := (by omega); have ht2 : t < w2.heap.size := (by omega); have HU2 : Hid (Upd (fun _ => False) w w2) := (HU1.out).trans hu2; clear hu2; rw [E2.out])
    )
    go_ret
    rw [HP.out, E2.out]
    exact ⟨rfl, L, Moves.refl HT.out HU2.out⟩

set_option maxRecDepth 100000 in
set_option maxHeartbeats 8000000 in
theorem rename_loop (w : World) (t bm : Nat) (L : Lay) (T : Tr) (hT : TreeAt w t bm L T) (ok : T.Ok) (o : OpV) (A : Option Addr) (c : Nat) (hp : o.path.size ≤ 9223372036854775807) (hq : o.dest.size ≤ 9223372036854775807) (hg : Glob w) (h0 : parentsS [o.path, o.dest] = 0) (h2 : (T.find o.path).2 = 0) (n : Nd) (hn : look (T.find o.path).1 T.nodes = some n) (hk : n.kind = 2) (hs : o.dest ≠ o.path) (hu : underS o.dest o.path = true) :
    Calls Tryz.prog 42 #[.pointer (some ⟨t, 0, none⟩), .agg (opCells o A c)] w fun e w' => e = .returned (errV (T.rename o).1) ∧ ∃ L', Moves w w' t bm L L' (T.rename o).2 := by
  have HT := Lib.hid hT
  have HO := Lib.hid ok
  have HG := Lib.hid hg
  have hlt := hT.lt
  have hlt1 : t ≤ w.heap.size + 1 := by omega
  have hlt2 : t < w.heap.size + 1 + 1 := by omega
  have c0 := hT.c0
  have HUA : ∀ X, Hid (Upd (fun _ => False) w (w.alloc X)) := fun X => (Upd.refl _ _).alloc X
  have HHUA := Lib.hid HUA
  clear hT ok hg HUA
  unfold opCells
  have HSZ : Hid (∀ s ∈ [o.path, o.dest], s.size ≤ 9223372036854775807) := fun s hs => by simp only [List.mem_cons, List.not_mem_nil, or_false] at hs; rcases hs with rfl | rfl; exact hp; exact hq
  have EP : Hid (errV (parentsS [o.path, o.dest]) = .nilIface) := by show errV _ = _; rw [h0]; rfl
  have E2 : Hid (errV (T.find o.path).2 = .nilIface) := by show errV _ = _; rw [h2]; rfl
  obtain ⟨x, hx, hna, hpx⟩ := HT.out.node hn
  have HX := Lib.hid hx
  have HPX := Lib.hid hpx
  have HN := Lib.hid hn
  have H0 := Lib.hid h0
  have H2 := Lib.hid h2
  have hxb : x.blk < w.heap.size := lt_of_heap hna.cells
  have hxb1 : x.blk ≤ w.heap.size + 1 := by omega
  have hxb2 : x.blk < w.heap.size + 1 + 1 := by omega
  have n0 := HT.out.n0 hx
  have hkn := HO.out.kind _ _ hn
  clear hx hpx hna
  have HQ : Hid (T.rename o = (10, T)) := by show _ = _; unfold Tr.rename; rw [if_neg (by simpa using h0), if_neg (by simpa using h2), hn]; simp only; rw [if_pos ⟨hk, hs, hu⟩]
  have b1 : (n.kind == 2) = true := beq_iff_eq.2 hk
  have b2 : (o.dest.toList == o.path.toList) = false := by rw [toList_eq, toList_eq]; exact beq_eq_false_iff_ne.2 (fun q => hs (ba_ext q))
  have VU : Hid (underS o.dest o.path = true) := hu
  clear h0 h2 hn hk hs hu hkn
  go_enter Tryz.func42, Tryz.ntmps42
  go_wp2_with (first
    | (go_at_call 68; refine (parents_calls _ _ _ [o.path, o.dest] (strsAt_new _ [o.path, o.dest] (by simp) (by simp)) HSZ.out (HG.out.upd ((HHUA.out _).out.alloc _) (fun _ _ => id))).mono ?_; rintro e w1 ⟨rfl, hu1⟩; obtain ⟨hc1, hf1⟩ := bcellU hu1 (fun _ => id); have hz1 : w.heap.size + 2 ≤ w1.heap.size := (by have := hu1.size; (try simp at this); omega); have hy1 : w.heap.size < w1.heap.size := (by omega); have ht1 : t < w1.heap.size := (by omega); have hbx1 : x.blk < w1.heap.size := (by omega); have HU1 : Hid (Upd (fun _ => False) w w1) := ((HHUA.out _).out.alloc _).trans hu1; clear hu1; rw [EP.out])
    | (go_at_call 17; refine (find_calls _ _ _ _ _ (HT.out.upd (HU1.out) (fun _ _ => id)) HO.out o.path hp (HG.out.upd (HU1.out) (fun _ _ => id))).mono ?_; rintro e w2 ⟨rfl, hu2⟩; obtain ⟨hc2, hf2⟩ := bcellU hu2 (fun _ => id); have hz2 : w.heap.size + 2 ≤ w2.heap.size := (by have := hu2.size; (try simp at this); omega); have hy2 : w.heap.size < w2.heap.size := (by omega); have ht2 : t < w2.heap.size := (by omega); have hbx2 : x.blk < w2.heap.size := (by omega); have HU2 : Hid (Upd (fun _ => False) w w2) := (HU1.out).trans hu2; clear hu2; rw [E2.out])
    | (at_lookup; refine wpl_lookup _ (HT.out.upd (HU2.out) (fun _ _ => id)).map KeyOk.int HT.out.pkeys rfl _ _ 63 rfl Tryz.underlying63 Tryz.underlying3 (.pointer none) (zero72 _) rfl (T.find o.path).1 rfl (.pointer (some ⟨x.blk, 0, none⟩)) (by rw [HPX.out]; rfl) ?_)
    | (go_at_call 69; refine (under_calls _ _ _ hq hp (HG.out.upd (HU2.out) (fun _ _ => id))).mono ?_; rintro e w9 ⟨rfl, hu9⟩; obtain ⟨hc9, hf9⟩ := bcellU hu9 (fun _ => id); have hz9 : w.heap.size + 2 ≤ w9.heap.size := (by have := hu9.size; (try simp at this); omega); have hy9 : w.heap.size < w9.heap.size := (by omega); have ht9 : t < w9.heap.size := (by omega); have hbx9 : x.blk < w9.heap.size := (by omega); have HU9 : Hid (Upd (fun _ => False) w w9) := (HU2.out).trans hu9; clear hu9; rw [VU.out])
    )
  go_ret
  rw [HQ.out]
  exact ⟨rfl, L, Moves.refl HT.out HU9.out⟩

end Go.Proofs.YtggfepgablfbhaaGreatDoor
