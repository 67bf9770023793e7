/- Walks of fault.New, tree.Find, tree.at, place.ino. -/
import Derived.Test.YtggfepgablfbhaaGreatDoorUnder
import Derived.Test.YtggfepgablfbhaaGreatDoorLinks
namespace Go.Proofs.YtggfepgablfbhaaGreatDoor
open Go.RowKit

theorem bcellU {F : Nat → Prop} {W w1 : World} (hb : Upd F W w1) (hF : ∀ b, ¬ F b) : (∀ b o, b < W.heap.size → w1.cell? ⟨b, o, none⟩ = W.cell? ⟨b, o, none⟩) ∧ (∀ b o, b < W.heap.size → w1.frozen? ⟨b, o, none⟩ = W.frozen? ⟨b, o, none⟩) :=
  ⟨fun b o h => hb.cell (p := ⟨b, o, none⟩) h (hF b), fun b _ h => World.frozen?_of_block (w := W) (hb.block b h (hF b))⟩

/-- What fault.New hands back. -/
def FaultR (w : World) (op path : ByteArray) (c : Int) (e : Ending) (w' : World) : Prop :=
  (c = 0 ∧ e = .returned .nilIface ∧ w = w') ∨ (c ≠ 0 ∧ e = .returned (.iface 101 (.pointer (some ⟨w.heap.size, 0, none⟩))) ∧ w' = w.alloc (.cells #[.string op, .string path, errV c] 105))
theorem faultNew_calls (w : World) (op path : ByteArray) (c : Int) :
    Calls Tryz.prog 38 #[.string op, .string path, errV c] w (FaultR w op path c) := by
  by_cases h : c = 0
  · subst h
    rw [errV_zero]
    go_enter Tryz.func38, Tryz.ntmps38
    go_wp2
    go_ret
    exact .inl ⟨rfl, rfl, rfl⟩
  · have H := Lib.hid h
    rw [errV_pos h]
    clear h
    go_enter Tryz.func38, Tryz.ntmps38
    go_wp2
    go_ret
    rw [← errV_pos H.out]
    exact .inr ⟨H.out, rfl, rfl⟩

def Tr.find (T : Tr) (p : ByteArray) : Int × Int := if (splitS p).1 ≠ 0 then (0, (splitS p).1) else T.walk 1 (splitS p).2

set_option maxRecDepth 100000 in
set_option maxHeartbeats 2000000 in
theorem find_calls (w : World) (t bm : Nat) (L : Lay) (T : Tr) (hT : TreeAt w t bm L T) (ok : T.Ok) (p : ByteArray) (hp : p.size ≤ 9223372036854775807) (hg : Glob w) :
    Calls Tryz.prog 17 #[.pointer (some ⟨t, 0, none⟩), .string p] w fun e w' => e = .returned (.tuple #[.int .i64 (T.find p).1, errV (T.find p).2]) ∧ Upd (fun _ => False) w w' := by
  have HT := Lib.hid hT
  have HO := Lib.hid ok
  have HG := Lib.hid hg
  clear hT ok hg
  by_cases h1 : (splitS p).1 ≠ 0
  · have hP : T.find p = (0, (splitS p).1) := by unfold Tr.find; rw [if_pos h1]
    have HP := Lib.hid hP
    have E := Lib.hid (errV_pos h1)
    clear hP h1
    go_enter Tryz.func17, Tryz.ntmps17
    go_wp2_with (go_at_call 47; refine (split_calls' _ _ hp HG.out).mono ?_; rintro e w1 ⟨A1, c1, rfl, hc1, hs1, hu1⟩; have HU1 := Lib.hid hu1; clear hc1 hs1 hu1; rw [E.out])
    go_ret2
    rw [HP.out, E.out]
    exact ⟨rfl, HU1.out⟩
  · have h0 : (splitS p).1 = 0 := by simpa using h1
    have hP : T.find p = T.walk 1 (splitS p).2 := by unfold Tr.find; rw [if_neg h1]
    have HP := Lib.hid hP
    have E : Hid (errV (splitS p).1 = .nilIface) := by show errV _ = _; rw [h0]; rfl
    clear hP h1 h0
    go_enter Tryz.func17, Tryz.ntmps17
    go_wp2_with (first
      | (go_at_call 47; refine (split_calls' _ _ hp HG.out).mono ?_; rintro e w1 ⟨A1, c1, rfl, hc1, hs1, hu1⟩; have HU1 := Lib.hid hu1; have HS1 := Lib.hid hs1; clear hc1 hs1 hu1; rw [E.out])
      | (go_at_call 39; refine (ready_calls _ _ _ _ _ (HT.out.upd HU1.out (fun _ _ => id))).mono ?_; rintro e w' ⟨rfl, rfl⟩)
      | (go_at_call 48; refine (walk_calls _ _ _ _ _ (HT.out.upd HU1.out (fun _ _ => id)) HO.out _ _ _ HS1.out).mono ?_; rintro e w' ⟨rfl, rfl⟩))
    go_ret2
    rw [HP.out]
    exact ⟨rfl, HU1.out⟩

/-- Where a path's last name stands: why it can't; the directory; the name. -/
def Tr.at_ (T : Tr) (p : ByteArray) : Int × Int × ByteArray :=
  if (parentS p).1 ≠ 0 then ((parentS p).1, 0, ⟨#[]⟩) else if (T.find (parentS p).2.1).2 ≠ 0 then ((T.find (parentS p).2.1).2, 0, ⟨#[]⟩)
  else match look (T.find (parentS p).2.1).1 T.nodes with
    | none => (5, 0, ⟨#[]⟩)
    | some n => if n.kind = 1 then (8, 0, ⟨#[]⟩) else (0, (T.find (parentS p).2.1).1, (parentS p).2.2)

/-- What 'at' hands back. -/
def PlaceV (L : Lay) (r : Int × Int × ByteArray) (v : Value) : Prop :=
  (r.1 ≠ 0 ∧ v = .agg #[.pointer none, .string ⟨#[]⟩]) ∨ (r.1 = 0 ∧ ∃ x n, look r.2.1 L = some (x, n) ∧ n.kind = 2 ∧ v = .agg #[.pointer (some ⟨x.blk, 0, none⟩), .string r.2.2])

theorem walk_ok {T : Tr} (ok : T.Ok) : ∀ (l : List ByteArray) (k : Int), (∃ n, look k T.nodes = some n) → (T.walk k l).2 = 0 → ∃ n, look (T.walk k l).1 T.nodes = some n
  | [], k, h, _ => h
  | s :: l, k, ⟨n, hn⟩, h => by
    unfold Tr.walk at h ⊢
    rw [hn] at h ⊢
    simp only at h ⊢
    by_cases hk : n.kind = 1
    · rw [if_pos hk] at h; simp at h
    · rw [if_neg hk] at h ⊢
      cases hj : look s n.names with
      | none => rw [hj] at h; simp at h
      | some j =>
        rw [hj] at h
        exact walk_ok ok l j (ok.closed _ _ hn _ _ hj) h
theorem find_ok {T : Tr} (ok : T.Ok) {p : ByteArray} (h : (T.find p).2 = 0) : ∃ n, look (T.find p).1 T.nodes = some n := by
  unfold Tr.find at h ⊢
  split
  · rename_i h1; rw [if_pos h1] at h; exact absurd h h1
  · rename_i h1
    rw [if_neg h1] at h
    obtain ⟨n, hn, _⟩ := ok.root
    exact walk_ok ok _ _ ⟨n, hn⟩ h

theorem TreeAt.c0 {w : World} {t bm : Nat} {L : Lay} {T : Tr} (h : TreeAt w t bm L T) : w.cell? ⟨t, 0, none⟩ = some (.map (some bm)) := (cell_of_heap h.cells 0).trans rfl
theorem TreeAt.c1 {w : World} {t bm : Nat} {L : Lay} {T : Tr} (h : TreeAt w t bm L T) : w.cell? ⟨t, 1, none⟩ = some (.int .i64 T.next) := (cell_of_heap h.cells 1).trans rfl
theorem TreeAt.n0 {w : World} {t bm : Nat} {L : Lay} {T : Tr} (h : TreeAt w t bm L T) {k : Int} {x : NL} {n : Nd} (hx : look k L = some (x, n)) : w.cell? ⟨x.blk, 0, none⟩ = some (.int .i64 n.kind) := (cell_of_heap (h.at_ _ (look_mem hx)).cells 0).trans rfl
theorem TreeAt.n1 {w : World} {t bm : Nat} {L : Lay} {T : Tr} (h : TreeAt w t bm L T) {k : Int} {x : NL} {n : Nd} (hx : look k L = some (x, n)) : w.cell? ⟨x.blk, 1, none⟩ = some x.dv := (cell_of_heap (h.at_ _ (look_mem hx)).cells 1).trans rfl
theorem TreeAt.n2 {w : World} {t bm : Nat} {L : Lay} {T : Tr} (h : TreeAt w t bm L T) {k : Int} {x : NL} {n : Nd} (hx : look k L = some (x, n)) : w.cell? ⟨x.blk, 2, none⟩ = some (.map x.mb) := (cell_of_heap (h.at_ _ (look_mem hx)).cells 2).trans rfl
theorem setCell_heap {w : World} {b : Nat} {cs : Array Value} {e : TypeId} {fz : Nat × Nat} (h : w.heap[b]? = some (.cells cs e fz)) {i : Nat} {v : Value} : (w.setCell ⟨b, i, none⟩ v).heap[b]? = some (.cells (cs.setIfInBounds i v) e fz) := by
  simp [World.setCell, Array.getElem?_modify, h]
theorem Upd.heap {F : Nat → Prop} {w w' : World} (h : Upd F w w') {b : Nat} {o : Obj} (hb : w.heap[b]? = some o) (hF : ¬ F b) : w'.heap[b]? = some o := (h.block b (lt_of_heap hb) hF).trans hb
theorem results64 {a : Act} {w : World} {b : Nat} {e x y : Value} {ty : TypeId} {fz : Nat × Nat} (h4 : a.tmps[4]?.getD undef = .pointer (some ⟨b, 0, none⟩)) (h5 : a.tmps[5]?.getD undef = e) (hb : w.heap[b]? = some (.cells #[x, y] ty fz)) :
    (results Tryz.f64 a.tmps).run Tryz.prog w = .ok (.tuple #[.agg #[x, y], e]) w := by
  have hx : w.cell? ⟨b, 0, none⟩ = some x := (cell_of_heap hb 0).trans rfl
  have hy : w.cell? ⟨b, 1, none⟩ = some y := (cell_of_heap hb 1).trans rfl
  simp [results, Tryz.results64, go_sem, h4, h5, hx, hy]

set_option maxRecDepth 100000 in
set_option maxHeartbeats 4000000 in
theorem at_calls (w : World) (t bm : Nat) (L : Lay) (T : Tr) (hT : TreeAt w t bm L T) (ok : T.Ok) (p : ByteArray) (hp : p.size ≤ 9223372036854775807) (hpp : (parentS p).2.1.size ≤ 9223372036854775807) (hg : Glob w) :
    Calls Tryz.prog 64 #[.pointer (some ⟨t, 0, none⟩), .string p] w fun e w' => (∃ pv, e = .returned (.tuple #[pv, errV (T.at_ p).1]) ∧ PlaceV L (T.at_ p) pv) ∧ Upd (fun _ => False) w w' := by
  have HT := Lib.hid hT
  have HO := Lib.hid ok
  have HG := Lib.hid hg
  have hlt := hT.lt
  have c0 : w.cell? ⟨t, 0, none⟩ = some (.map (some bm)) := (cell_of_heap hT.cells 0).trans rfl
  have HUA : ∀ X, Hid (Upd (fun _ => False) w (w.alloc X)) := fun X => (Upd.refl _ _).alloc X
  have HHUA := Lib.hid HUA
  have HH : ∀ X, Hid ((w.alloc X).heap[w.heap.size]? = some X) := fun X => (MapKept.heap_alloc w X).1
  have HHH := Lib.hid HH
  clear hT ok hg HUA HH
  by_cases h1 : (parentS p).1 ≠ 0
  · have hP : T.at_ p = ((parentS p).1, 0, ⟨#[]⟩) := by unfold Tr.at_; rw [if_pos h1]
    have HP := Lib.hid hP
    have E := Lib.hid (errV_pos h1)
    have H1 := Lib.hid h1
    clear hP h1
    go_enter Tryz.func64, Tryz.ntmps64
    go_wp2_with (go_at_call 66; refine (parent_calls _ _ hp ?_).mono ?_; (exact HG.out.upd (HHUA.out _).out (fun _ _ => id)); rintro e w1 ⟨rfl, hu1⟩; obtain ⟨hc1, hf1⟩ := bcellU hu1 (fun _ => id); have hz1 : w.heap.size < w1.heap.size := (by have := hu1.size; simp at this; omega); have HU1 := Lib.hid hu1; clear hu1; rw [E.out])
    refine bodyPost_ret (results64 rfl rfl (setCell_heap (setCell_heap (HU1.out.heap (HHH.out _).out id)))) rfl ?_
    rw [HP.out, ← E.out]
    exact ⟨⟨_, rfl, .inl ⟨H1.out, rfl⟩⟩, (((HHUA.out _).out.trans HU1.out).setCell (.inl (Nat.le_refl _)) _).setCell (.inl (Nat.le_refl _)) _⟩
  · have h0 : (parentS p).1 = 0 := by simpa using h1
    have E : Hid (errV (parentS p).1 = .nilIface) := by show errV _ = _; rw [h0]; rfl
    by_cases h2 : (T.find (parentS p).2.1).2 ≠ 0
    · have hP : T.at_ p = ((T.find (parentS p).2.1).2, 0, ⟨#[]⟩) := by unfold Tr.at_; rw [if_neg h1, if_pos h2]
      have HP := Lib.hid hP
      have E2 := Lib.hid (errV_pos h2)
      have H2 := Lib.hid h2
      clear hP h1 h0 h2
      go_enter Tryz.func64, Tryz.ntmps64
      go_wp2_with (first
        | (go_at_call 66; refine (parent_calls _ _ hp ?_).mono ?_; (exact HG.out.upd (HHUA.out _).out (fun _ _ => id)); rintro e w1 ⟨rfl, hu1⟩; obtain ⟨hc1, hf1⟩ := bcellU hu1 (fun _ => id); have hz1 : w.heap.size < w1.heap.size := (by have := hu1.size; simp at this; omega); have HU1 := Lib.hid hu1; clear hu1; rw [E.out])
        | (go_at_call 17; refine (find_calls _ _ _ _ _ (HT.out.upd ((HHUA.out _).out.trans HU1.out) (fun _ _ => id)) HO.out _ hpp (HG.out.upd ((HHUA.out _).out.trans HU1.out) (fun _ _ => id))).mono ?_; rintro e w2 ⟨rfl, hu2⟩; obtain ⟨hc2, hf2⟩ := bcellU hu2 (fun _ => id); have hz2 : w.heap.size < w2.heap.size := (by have := hu2.size; omega); have HU2 := Lib.hid hu2; clear hu2; rw [E2.out]))
      refine bodyPost_ret (results64 rfl rfl (setCell_heap (setCell_heap (HU2.out.heap (HU1.out.heap (HHH.out _).out id) id)))) rfl ?_
      rw [HP.out, ← E2.out]
      exact ⟨⟨_, rfl, .inl ⟨H2.out, rfl⟩⟩, (((HHUA.out _).out.trans (HU1.out.trans HU2.out)).setCell (.inl (Nat.le_refl _)) _).setCell (.inl (Nat.le_refl _)) _⟩
    · have h2' : (T.find (parentS p).2.1).2 = 0 := by simpa using h2
      obtain ⟨n, hn⟩ := find_ok HO.out h2'
      obtain ⟨x, hx, hna, hpx⟩ := HT.out.node hn
      have E2 : Hid (errV (T.find (parentS p).2.1).2 = .nilIface) := by show errV _ = _; rw [h2']; rfl
      have hP : T.at_ p = if n.kind = 1 then (8, 0, ⟨#[]⟩) else (0, (T.find (parentS p).2.1).1, (parentS p).2.2) := by unfold Tr.at_; rw [if_neg h1, if_neg h2, hn]
      have HP := Lib.hid hP
      have HX := Lib.hid hx
      have HPX := Lib.hid hpx
      have HKN := Lib.hid (HO.out.kind _ _ hn)
      clear hP h1 h0 h2 h2' hn hx hna hpx
      by_cases hk : n.kind = 1
      · have e1 : (n.kind == 1) = true := beq_iff_eq.2 hk
        have HK := Lib.hid hk
        clear hk
        go_enter Tryz.func64, Tryz.ntmps64
        go_wp2_with (first
          | (go_at_call 66; refine (parent_calls _ _ hp ?_).mono ?_; (exact HG.out.upd (HHUA.out _).out (fun _ _ => id)); rintro e w1 ⟨rfl, hu1⟩; obtain ⟨hc1, hf1⟩ := bcellU hu1 (fun _ => id); have hz1 : w.heap.size < w1.heap.size := (by have := hu1.size; simp at this; omega); have HU1 := Lib.hid hu1; clear hu1; rw [E.out])
          | (go_at_call 17; refine (find_calls _ _ _ _ _ (HT.out.upd ((HHUA.out _).out.trans HU1.out) (fun _ _ => id)) HO.out _ hpp (HG.out.upd ((HHUA.out _).out.trans HU1.out) (fun _ _ => id))).mono ?_; rintro e w2 ⟨rfl, hu2⟩; obtain ⟨hc2, hf2⟩ := bcellU hu2 (fun _ => id); have hz2 : w.heap.size < w2.heap.size := (by have := hu2.size; omega); have HU2 := Lib.hid hu2; clear hu2; rw [E2.out]; have hT2 := HT.out.upd ((HHUA.out _).out.trans (HU1.out.trans HU2.out)) (fun _ _ => id); have d0 := hT2.c0; have d1 := hT2.n0 HX.out; have HT2 := Lib.hid hT2; clear hT2)
          | (at_lookup; refine wpl_lookup _ HT2.out.map KeyOk.int HT.out.pkeys rfl _ _ 63 rfl Tryz.underlying63 Tryz.underlying3 (.pointer none) (zero72 _) rfl (T.find (parentS p).2.1).1 rfl (.pointer (some ⟨x.blk, 0, none⟩)) (by rw [HPX.out]; rfl) ?_))
        refine bodyPost_ret (results64 rfl rfl (setCell_heap (setCell_heap (HU2.out.heap (HU1.out.heap (HHH.out _).out id) id)))) rfl ?_
        rw [HP.out, if_pos HK.out]
        exact ⟨⟨_, rfl, .inl ⟨by simp, rfl⟩⟩, (((HHUA.out _).out.trans (HU1.out.trans HU2.out)).setCell (.inl (Nat.le_refl _)) _).setCell (.inl (Nat.le_refl _)) _⟩
      · have e1 : (n.kind == 1) = false := beq_eq_false_iff_ne.2 hk
        have HK := Lib.hid hk
        clear hk
        go_enter Tryz.func64, Tryz.ntmps64
        go_wp2_with (first
          | (go_at_call 66; refine (parent_calls _ _ hp ?_).mono ?_; (exact HG.out.upd (HHUA.out _).out (fun _ _ => id)); rintro e w1 ⟨rfl, hu1⟩; obtain ⟨hc1, hf1⟩ := bcellU hu1 (fun _ => id); have hz1 : w.heap.size < w1.heap.size := (by have := hu1.size; simp at this; omega); have HU1 := Lib.hid hu1; clear hu1; rw [E.out])
          | (go_at_call 17; refine (find_calls _ _ _ _ _ (HT.out.upd ((HHUA.out _).out.trans HU1.out) (fun _ _ => id)) HO.out _ hpp (HG.out.upd ((HHUA.out _).out.trans HU1.out) (fun _ _ => id))).mono ?_; rintro e w2 ⟨rfl, hu2⟩; obtain ⟨hc2, hf2⟩ := bcellU hu2 (fun _ => id); have hz2 : w.heap.size < w2.heap.size := (by have := hu2.size; omega); have HU2 := Lib.hid hu2; clear hu2; rw [E2.out]; have hT2 := HT.out.upd ((HHUA.out _).out.trans (HU1.out.trans HU2.out)) (fun _ _ => id); have d0 := hT2.c0; have d1 := hT2.n0 HX.out; have HT2 := Lib.hid hT2; clear hT2)
          | (at_lookup; refine wpl_lookup _ HT2.out.map KeyOk.int HT.out.pkeys rfl _ _ 63 rfl Tryz.underlying63 Tryz.underlying3 (.pointer none) (zero72 _) rfl (T.find (parentS p).2.1).1 rfl (.pointer (some ⟨x.blk, 0, none⟩)) (by rw [HPX.out]; rfl) ?_))
        refine bodyPost_ret (results64 rfl rfl (setCell_heap (setCell_heap (HU2.out.heap (HU1.out.heap (HHH.out _).out id) id)))) rfl ?_
        rw [HP.out, if_neg HK.out]
        exact ⟨⟨_, rfl, .inr ⟨rfl, x, n, HX.out, HKN.out.resolve_left HK.out, rfl⟩⟩, (((HHUA.out _).out.trans (HU1.out.trans HU2.out)).setCell (.inl (Nat.le_refl _)) _).setCell (.inl (Nat.le_refl _)) _⟩
#print axioms at_calls
end Go.Proofs.YtggfepgablfbhaaGreatDoor
