/- Walk of tree.create. -/
import Derived.Test.YtggfepgablfbhaaGreatDoorRename1
namespace Go.Proofs.YtggfepgablfbhaaGreatDoor
open Go.RowKit

/-- A reply. -/
def replyV (ino kind size links n : Int) (data names snaps : Value) : Value := .agg #[.int .i64 ino, .int .i64 kind, .int .i64 size, .int .i64 links, .int .i64 n, data, names, snaps]
abbrev nilS : Value := .slice none 0 0
def zeroReply : Value := replyV 0 0 0 0 0 nilS nilS nilS

theorem resultsR {fn : Func} {a : Act} {w : World} {b : Nat} {e c0 c1 c2 c3 c4 c5 c6 c7 : Value} {ty : TypeId} {fz : Nat × Nat} (hfn : fn.results = #[.cell 4 29, .tmp 5]) (h4 : a.tmps[4]?.getD undef = .pointer (some ⟨b, 0, none⟩)) (h5 : a.tmps[5]?.getD undef = e) (hb : w.heap[b]? = some (.cells #[c0, c1, c2, c3, c4, c5, c6, c7] ty fz)) :
    (results fn a.tmps).run Tryz.prog w = .ok (.tuple #[.agg #[c0, c1, c2, c3, c4, c5, c6, c7], e]) w := by
  have h0 := fun i => cell_of_heap hb i
  have a0 := (h0 0).trans rfl
  have a1 := (h0 1).trans rfl
  have a2 := (h0 2).trans rfl
  have a3 := (h0 3).trans rfl
  have a4 := (h0 4).trans rfl
  have a5 := (h0 5).trans rfl
  have a6 := (h0 6).trans rfl
  have a7 := (h0 7).trans rfl
  simp [results, hfn, go_sem, h4, h5, a0, a1, a2, a3, a4, a5, a6, a7]

theorem heap_al {w : World} {b : Nat} {o X : Obj} (h : w.heap[b]? = some o) : (w.alloc X).heap[b]? = some o := ((MapKept.heap_alloc w X).2 b (lt_of_heap h)).trans h
theorem heap_second (w : World) (X Y : Obj) : ((w.alloc X).alloc Y).heap[w.heap.size + 1]? = some Y := by
  have h := (MapKept.heap_alloc (w.alloc X) Y).1
  rwa [show (w.alloc X).heap.size = w.heap.size + 1 by simp] at h
theorem heap8 {w : World} {b : Nat} {ty : TypeId} {fz : Nat × Nat} {c0 c1 c2 c3 c4 c5 c6 c7 v0 v1 v2 v3 v4 v5 v6 v7 : Value} (h : w.heap[b]? = some (.cells #[c0, c1, c2, c3, c4, c5, c6, c7] ty fz)) :
    ((((((((w.setCell ⟨b, 0, none⟩ v0).setCell ⟨b, 1, none⟩ v1).setCell ⟨b, 2, none⟩ v2).setCell ⟨b, 3, none⟩ v3).setCell ⟨b, 4, none⟩ v4).setCell ⟨b, 5, none⟩ v5).setCell ⟨b, 6, none⟩ v6).setCell ⟨b, 7, none⟩ v7).heap[b]? = some (.cells #[v0, v1, v2, v3, v4, v5, v6, v7] ty fz) := by
    have h1 := setCell_heap h (i := 0) (v := v0)
    simp only [List.setIfInBounds_toArray, List.set_cons_zero] at h1
    have h2 := setCell_heap h1 (i := 1) (v := v1)
    simp only [List.setIfInBounds_toArray, List.set_cons_zero, List.set_cons_succ] at h2
    have h3 := setCell_heap h2 (i := 2) (v := v2)
    simp only [List.setIfInBounds_toArray, List.set_cons_zero, List.set_cons_succ] at h3
    have h4 := setCell_heap h3 (i := 3) (v := v3)
    simp only [List.setIfInBounds_toArray, List.set_cons_zero, List.set_cons_succ] at h4
    have h5 := setCell_heap h4 (i := 4) (v := v4)
    simp only [List.setIfInBounds_toArray, List.set_cons_zero, List.set_cons_succ] at h5
    have h6 := setCell_heap h5 (i := 5) (v := v5)
    simp only [List.setIfInBounds_toArray, List.set_cons_zero, List.set_cons_succ] at h6
    have h7 := setCell_heap h6 (i := 6) (v := v6)
    simp only [List.setIfInBounds_toArray, List.set_cons_zero, List.set_cons_succ] at h7
    have h8 := setCell_heap h7 (i := 7) (v := v7)
    simp only [List.setIfInBounds_toArray, List.set_cons_zero, List.set_cons_succ] at h8
    exact h8
theorem Upd.set8 {F : Nat → Prop} {a w : World} (h : Upd F a w) {b : Nat} (hb : a.heap.size ≤ b) {v0 v1 v2 v3 v4 v5 v6 v7 : Value} :
    Upd F a ((((((((w.setCell ⟨b, 0, none⟩ v0).setCell ⟨b, 1, none⟩ v1).setCell ⟨b, 2, none⟩ v2).setCell ⟨b, 3, none⟩ v3).setCell ⟨b, 4, none⟩ v4).setCell ⟨b, 5, none⟩ v5).setCell ⟨b, 6, none⟩ v6).setCell ⟨b, 7, none⟩ v7) :=
  ((((((((h.setCell (.inl hb) _).setCell (.inl hb) _).setCell (.inl hb) _).setCell (.inl hb) _).setCell (.inl hb) _).setCell (.inl hb) _).setCell (.inl hb) _).setCell (.inl hb) _)

def newNd (kind : Int) : Nd := if kind = 2 then ⟨2, [], []⟩ else ⟨1, [], []⟩
def Tr.added (T : Tr) (n : Nd) : Tr := { nodes := T.nodes ++ [(T.next, n)], next := T.next + 1 }
def Tr.create (T : Tr) (o : OpV) : Int × Int × Tr :=
  if (T.at_ o.path).1 ≠ 0 then ((T.at_ o.path).1, 0, T) else
  match look (T.at_ o.path).2.1 T.nodes with
  | none => (5, 0, T)
  | some d => if look (T.at_ o.path).2.2 d.names ≠ none then (6, 0, T) else if T.nodes.length ≥ 60 ∨ T.next ≥ 1099511627776 then (16, 0, T) else (0, T.next, (T.added (newNd o.kind)).named (T.at_ o.path).2.1 d (T.at_ o.path).2.2 T.next)

set_option maxRecDepth 100000 in
set_option maxHeartbeats 8000000 in
theorem create_err (w : World) (t bm : Nat) (L : Lay) (T : Tr) (hT : TreeAt w t bm L T) (ok : T.Ok) (o : OpV) (A : Option Addr) (c : Nat) (hp : o.path.size ≤ 9223372036854775807) (hg : Glob w) (hce : (T.create o).1 ≠ 0) :
    Calls Tryz.prog 40 #[.pointer (some ⟨t, 0, none⟩), .agg (opCells o A c)] w fun e w' => e = .returned (.tuple #[zeroReply, errV (T.create o).1]) ∧ Upd (fun _ => False) w w' := by
  have HT := Lib.hid hT
  have HO := Lib.hid ok
  have HG := Lib.hid hg
  have hlt := hT.lt
  have hlt1 : t ≤ w.heap.size + 1 := by omega
  have hlt2 : t < w.heap.size + 1 + 1 := by omega
  have c0 := hT.c0
  have HUA : ∀ X, Hid (Upd (fun _ => False) w (w.alloc X)) := fun X => (Upd.refl _ _).alloc X
  have HHUA := Lib.hid HUA
  clear hT ok hg HUA
  unfold opCells
  by_cases ha : (T.at_ o.path).1 ≠ 0
  · have HQ : Hid (T.create o = ((T.at_ o.path).1, 0, T)) := by show _ = _; unfold Tr.create; rw [if_pos ha]
    have HAN := Lib.hid ha
    have EA := Lib.hid (errV_pos ha)
    clear ha hce
    go_enter Tryz.func40, Tryz.ntmps40
    go_wp2_with (first
    | (go_at_call 64; refine (at_calls _ _ _ _ _ (HT.out.upd (((HHUA.out _).out.alloc _)) (fun _ _ => id)) HO.out o.path hp (Nat.le_trans (parentS_sizes _) (by decide)) (HG.out.upd (((HHUA.out _).out.alloc _)) (fun _ _ => id))).mono ?_; rintro e w1 ⟨⟨pv, rfl, hpv⟩, hu1⟩; obtain rfl := placeV_err hpv HAN.out; clear hpv; obtain ⟨hc1, hf1⟩ := bcellU hu1 (fun _ => id); have hz1 : w.heap.size + 2 ≤ w1.heap.size := (by have := hu1.size; (try simp at this); omega); have hy1 : w.heap.size < w1.heap.size := (by omega); have hv1 : w.heap.size + 1 < w1.heap.size := (by omega); have HR1 : Hid (w1.heap[w.heap.size + 1]? = some (.cells #[.int .i64 0, .int .i64 0, .int .i64 0, .int .i64 0, .int .i64 0, .slice none 0 0, .slice none 0 0, .slice none 0 0] 29 (0, 0))) := hu1.heap (by repeat (first | exact HR0.out | exact heap_second _ _ _ | refine heap_al ?_)) id; have ht1 : t < w1.heap.size := (by omega); have HU1 : Hid (Upd (fun _ => False) w w1) := (((HHUA.out _).out.alloc _)).trans hu1; clear hu1; rw [EA.out])
    )
    have hb8 := heap_al (X := .cells #[.pointer none, .string ⟨#[]⟩] 111) (heap8 (v0 := .int .i64 0) (v1 := .int .i64 0) (v2 := .int .i64 0) (v3 := .int .i64 0) (v4 := .int .i64 0) (v5 := .slice none 0 0) (v6 := .slice none 0 0) (v7 := .slice none 0 0) HR1.out)
    have hu8 := ((HU1.out).set8 (b := w.heap.size + 1) (v0 := .int .i64 0) (v1 := .int .i64 0) (v2 := .int .i64 0) (v3 := .int .i64 0) (v4 := .int .i64 0) (v5 := .slice none 0 0) (v6 := .slice none 0 0) (v7 := .slice none 0 0) (by omega)).alloc (.cells #[.pointer none, .string ⟨#[]⟩] 111)
    refine bodyPost_ret (resultsR Tryz.results40 rfl rfl hb8) rfl ?_
    rw [HQ.out, EA.out]
    exact ⟨rfl, hu8⟩
  · have ha0 : (T.at_ o.path).1 = 0 := by simpa using ha
    obtain ⟨z1, z2, d, hd, hkd, z3, z4⟩ := at_zero ha0
    clear z1 z2 z3 z4
    obtain ⟨y, hy, hnay, _⟩ := HT.out.node hd
    have hkd2 := (HO.out.kind _ _ hd).resolve_left hkd
    have EA : Hid (errV (T.at_ o.path).1 = .nilIface) := by show errV _ = _; rw [ha0]; rfl
    have HA0 := Lib.hid ha0
    have HD := Lib.hid hd
    have HY_y := Lib.hid hy
    have HKY_y := Lib.hid hkd2
    have hyb : y.blk < w.heap.size := lt_of_heap hnay.cells
    have hyb1 : y.blk ≤ w.heap.size + 1 := by omega
    have hyb2 : y.blk < w.heap.size + 1 + 1 := by omega
    have hane := at_ne HO.out hd (T.at_ o.path).2.2
    have hP : T.create o = if look (T.at_ o.path).2.2 d.names ≠ none then (6, 0, T) else if T.nodes.length ≥ 60 ∨ T.next ≥ 1099511627776 then (16, 0, T) else (0, T.next, (T.added (newNd o.kind)).named (T.at_ o.path).2.1 d (T.at_ o.path).2.2 T.next) := by unfold Tr.create; rw [if_neg ha, hd]
    by_cases hl : look (T.at_ o.path).2.2 d.names ≠ none
    · have HQ : Hid (T.create o = (6, 0, T)) := by show _ = _; rw [hP, if_pos hl]
      have b2 : (d.at_ (T.at_ o.path).2.2 != 0) = true := by rw [bne_iff_ne]; exact fun q => hl (hane.1 q)
      clear ha ha0 hd hkd hy hnay hkd2 hl hane hP hce
      go_enter Tryz.func40, Tryz.ntmps40
      go_wp2_with (first
    | (go_at_call 64; refine (at_calls _ _ _ _ _ (HT.out.upd (((HHUA.out _).out.alloc _)) (fun _ _ => id)) HO.out o.path hp (Nat.le_trans (parentS_sizes _) (by decide)) (HG.out.upd (((HHUA.out _).out.alloc _)) (fun _ _ => id))).mono ?_; rintro e w1 ⟨⟨pv, rfl, hpv⟩, hu1⟩; obtain ⟨y', rfl, hly, hky⟩ := placeV_zero hpv HA0.out HT.out HD.out; have hyy : y' = y := (Prod.mk.inj (Option.some.inj (hly.symm.trans HY_y.out))).1; rw [hyy]; clear hpv hly hky hyy; obtain ⟨hc1, hf1⟩ := bcellU hu1 (fun _ => id); have hz1 : w.heap.size + 2 ≤ w1.heap.size := (by have := hu1.size; (try simp at this); omega); have hy1 : w.heap.size < w1.heap.size := (by omega); have hv1 : w.heap.size + 1 < w1.heap.size := (by omega); have HR1 : Hid (w1.heap[w.heap.size + 1]? = some (.cells #[.int .i64 0, .int .i64 0, .int .i64 0, .int .i64 0, .int .i64 0, .slice none 0 0, .slice none 0 0, .slice none 0 0] 29 (0, 0))) := hu1.heap (by repeat (first | exact HR0.out | exact heap_second _ _ _ | refine heap_al ?_)) id; have ht1 : t < w1.heap.size := (by omega); have hby1 : y.blk < w1.heap.size := (by omega); have HU1 : Hid (Upd (fun _ => False) w w1) := (((HHUA.out _).out.alloc _)).trans hu1; clear hu1; rw [EA.out])
    | (go_at_call 65; refine (ino_calls _ t bm L T (HT.out.upd (HU1.out.alloc _) (fun _ _ => id)) _ y _ HY_y.out HKY_y.out _).mono ?_; rintro e w2 ⟨rfl, hu2⟩; obtain ⟨hc2, hf2⟩ := bcellU hu2 (fun _ => id); have hz2 : w.heap.size + 2 ≤ w2.heap.size := (by have := hu2.size; (try simp at this); omega); have hy2 : w.heap.size < w2.heap.size := (by omega); have hv2 : w.heap.size + 1 < w2.heap.size := (by omega); have HR2 : Hid (w2.heap[w.heap.size + 1]? = some (.cells #[.int .i64 0, .int .i64 0, .int .i64 0, .int .i64 0, .int .i64 0, .slice none 0 0, .slice none 0 0, .slice none 0 0] 29 (0, 0))) := hu2.heap (by repeat (first | exact HR1.out | exact heap_second _ _ _ | refine heap_al ?_)) id; have ht2 : t < w2.heap.size := (by omega); have hby2 : y.blk < w2.heap.size := (by omega); have HU2 : Hid (Upd (fun _ => False) w w2) := (HU1.out.alloc _).trans hu2; clear hu2)
    )
      have hb8 := heap8 (v0 := .int .i64 0) (v1 := .int .i64 0) (v2 := .int .i64 0) (v3 := .int .i64 0) (v4 := .int .i64 0) (v5 := .slice none 0 0) (v6 := .slice none 0 0) (v7 := .slice none 0 0) HR2.out
      have hu8 := (HU2.out).set8 (b := w.heap.size + 1) (v0 := .int .i64 0) (v1 := .int .i64 0) (v2 := .int .i64 0) (v3 := .int .i64 0) (v4 := .int .i64 0) (v5 := .slice none 0 0) (v6 := .slice none 0 0) (v7 := .slice none 0 0) (by omega)
      refine bodyPost_ret (resultsR Tryz.results40 rfl rfl hb8) rfl ?_
      rw [HQ.out]
      exact ⟨rfl, hu8⟩
    · have hl0 : look (T.at_ o.path).2.2 d.names = none := by simpa using hl
      have VA : Hid (d.at_ (T.at_ o.path).2.2 = 0) := hane.2 hl0
      have hmany : T.nodes.length ≥ 60 ∨ T.next ≥ 1099511627776 := by
        rcases Decidable.em (T.nodes.length ≥ 60 ∨ T.next ≥ 1099511627776) with q | q
        · exact q
        · rw [hP, if_neg hl, if_neg q] at hce; simp at hce
      have HQ : Hid (T.create o = (16, 0, T)) := by show _ = _; rw [hP, if_neg hl, if_pos hmany]
      have c1 := HT.out.c1
      have hlen : (ptrs L).length = T.nodes.length := by rw [HT.out.nodes]; simp [ptrs, Lay.nodes]
      have HLEN := Lib.hid hlen
      have hnx := HO.out.next.2
      have hfew := HO.out.few
      clear ha ha0 hd hkd hy hnay hkd2 hl hane hP hce hl0 hlen
      by_cases hn60 : T.nodes.length ≥ 60
      · have hn60' : (T.nodes.length : Int) ≥ 60 := by omega
        have b3 : decide ((T.nodes.length : Int) ≥ 60) = true := decide_eq_true hn60'
        go_enter Tryz.func40, Tryz.ntmps40
        go_wp2_with (first
    | (go_at_call 64; refine (at_calls _ _ _ _ _ (HT.out.upd (((HHUA.out _).out.alloc _)) (fun _ _ => id)) HO.out o.path hp (Nat.le_trans (parentS_sizes _) (by decide)) (HG.out.upd (((HHUA.out _).out.alloc _)) (fun _ _ => id))).mono ?_; rintro e w1 ⟨⟨pv, rfl, hpv⟩, hu1⟩; obtain ⟨y', rfl, hly, hky⟩ := placeV_zero hpv HA0.out HT.out HD.out; have hyy : y' = y := (Prod.mk.inj (Option.some.inj (hly.symm.trans HY_y.out))).1; rw [hyy]; clear hpv hly hky hyy; obtain ⟨hc1, hf1⟩ := bcellU hu1 (fun _ => id); have hz1 : w.heap.size + 2 ≤ w1.heap.size := (by have := hu1.size; (try simp at this); omega); have hy1 : w.heap.size < w1.heap.size := (by omega); have hv1 : w.heap.size + 1 < w1.heap.size := (by omega); have HR1 : Hid (w1.heap[w.heap.size + 1]? = some (.cells #[.int .i64 0, .int .i64 0, .int .i64 0, .int .i64 0, .int .i64 0, .slice none 0 0, .slice none 0 0, .slice none 0 0] 29 (0, 0))) := hu1.heap (by repeat (first | exact HR0.out | exact heap_second _ _ _ | refine heap_al ?_)) id; have ht1 : t < w1.heap.size := (by omega); have hby1 : y.blk < w1.heap.size := (by omega); have HU1 : Hid (Upd (fun _ => False) w w1) := (((HHUA.out _).out.alloc _)).trans hu1; clear hu1; rw [EA.out])
    | (go_at_call 65; refine (ino_calls _ t bm L T (HT.out.upd (HU1.out.alloc _) (fun _ _ => id)) _ y _ HY_y.out HKY_y.out _).mono ?_; rintro e w2 ⟨rfl, hu2⟩; obtain ⟨hc2, hf2⟩ := bcellU hu2 (fun _ => id); have hz2 : w.heap.size + 2 ≤ w2.heap.size := (by have := hu2.size; (try simp at this); omega); have hy2 : w.heap.size < w2.heap.size := (by omega); have hv2 : w.heap.size + 1 < w2.heap.size := (by omega); have HR2 : Hid (w2.heap[w.heap.size + 1]? = some (.cells #[.int .i64 0, .int .i64 0, .int .i64 0, .int .i64 0, .int .i64 0, .slice none 0 0, .slice none 0 0, .slice none 0 0] 29 (0, 0))) := hu2.heap (by repeat (first | exact HR1.out | exact heap_second _ _ _ | refine heap_al ?_)) id; have ht2 : t < w2.heap.size := (by omega); have hby2 : y.blk < w2.heap.size := (by omega); have HU2 : Hid (Upd (fun _ => False) w w2) := (HU1.out.alloc _).trans hu2; clear hu2; rw [VA.out])
    | (at_len; refine wpl_len _ (HT.out.upd HU2.out (fun _ _ => id)).map rfl _ 63 rfl Tryz.underlying63 rfl ?_; rw [HLEN.out])
    )
        have hb8 := heap8 (v0 := .int .i64 0) (v1 := .int .i64 0) (v2 := .int .i64 0) (v3 := .int .i64 0) (v4 := .int .i64 0) (v5 := .slice none 0 0) (v6 := .slice none 0 0) (v7 := .slice none 0 0) HR2.out
        have hu8 := (HU2.out).set8 (b := w.heap.size + 1) (v0 := .int .i64 0) (v1 := .int .i64 0) (v2 := .int .i64 0) (v3 := .int .i64 0) (v4 := .int .i64 0) (v5 := .slice none 0 0) (v6 := .slice none 0 0) (v7 := .slice none 0 0) (by omega)
        refine bodyPost_ret (resultsR Tryz.results40 rfl rfl hb8) rfl ?_
        rw [HQ.out]
        exact ⟨rfl, hu8⟩
      · have hn60' : (T.nodes.length : Int) < 60 := by omega
        have hnx' : T.next ≥ 1099511627776 := hmany.resolve_left hn60
        have b3 : decide ((T.nodes.length : Int) ≥ 60) = false := by simp; omega
        have b4 : decide (T.next ≥ 1099511627776) = true := decide_eq_true hnx'
        go_enter Tryz.func40, Tryz.ntmps40
        go_wp2_with (first
    | (go_at_call 64; refine (at_calls _ _ _ _ _ (HT.out.upd (((HHUA.out _).out.alloc _)) (fun _ _ => id)) HO.out o.path hp (Nat.le_trans (parentS_sizes _) (by decide)) (HG.out.upd (((HHUA.out _).out.alloc _)) (fun _ _ => id))).mono ?_; rintro e w1 ⟨⟨pv, rfl, hpv⟩, hu1⟩; obtain ⟨y', rfl, hly, hky⟩ := placeV_zero hpv HA0.out HT.out HD.out; have hyy : y' = y := (Prod.mk.inj (Option.some.inj (hly.symm.trans HY_y.out))).1; rw [hyy]; clear hpv hly hky hyy; obtain ⟨hc1, hf1⟩ := bcellU hu1 (fun _ => id); have hz1 : w.heap.size + 2 ≤ w1.heap.size := (by have := hu1.size; (try simp at this); omega); have hy1 : w.heap.size < w1.heap.size := (by omega); have hv1 : w.heap.size + 1 < w1.heap.size := (by omega); have HR1 : Hid (w1.heap[w.heap.size + 1]? = some (.cells #[.int .i64 0, .int .i64 0, .int .i64 0, .int .i64 0, .int .i64 0, .slice none 0 0, .slice none 0 0, .slice none 0 0] 29 (0, 0))) := hu1.heap (by repeat (first | exact HR0.out | exact heap_second _ _ _ | refine heap_al ?_)) id; have ht1 : t < w1.heap.size := (by omega); have hby1 : y.blk < w1.heap.size := (by omega); have HU1 : Hid (Upd (fun _ => False) w w1) := (((HHUA.out _).out.alloc _)).trans hu1; clear hu1; rw [EA.out])
    | (go_at_call 65; refine (ino_calls _ t bm L T (HT.out.upd (HU1.out.alloc _) (fun _ _ => id)) _ y _ HY_y.out HKY_y.out _).mono ?_; rintro e w2 ⟨rfl, hu2⟩; obtain ⟨hc2, hf2⟩ := bcellU hu2 (fun _ => id); have hz2 : w.heap.size + 2 ≤ w2.heap.size := (by have := hu2.size; (try simp at this); omega); have hy2 : w.heap.size < w2.heap.size := (by omega); have hv2 : w.heap.size + 1 < w2.heap.size := (by omega); have HR2 : Hid (w2.heap[w.heap.size + 1]? = some (.cells #[.int .i64 0, .int .i64 0, .int .i64 0, .int .i64 0, .int .i64 0, .slice none 0 0, .slice none 0 0, .slice none 0 0] 29 (0, 0))) := hu2.heap (by repeat (first | exact HR1.out | exact heap_second _ _ _ | refine heap_al ?_)) id; have ht2 : t < w2.heap.size := (by omega); have hby2 : y.blk < w2.heap.size := (by omega); have HU2 : Hid (Upd (fun _ => False) w w2) := (HU1.out.alloc _).trans hu2; clear hu2; rw [VA.out])
    | (at_len; refine wpl_len _ (HT.out.upd HU2.out (fun _ _ => id)).map rfl _ 63 rfl Tryz.underlying63 rfl ?_; rw [HLEN.out])
    )
        have hb8 := heap8 (v0 := .int .i64 0) (v1 := .int .i64 0) (v2 := .int .i64 0) (v3 := .int .i64 0) (v4 := .int .i64 0) (v5 := .slice none 0 0) (v6 := .slice none 0 0) (v7 := .slice none 0 0) HR2.out
        have hu8 := (HU2.out).set8 (b := w.heap.size + 1) (v0 := .int .i64 0) (v1 := .int .i64 0) (v2 := .int .i64 0) (v3 := .int .i64 0) (v4 := .int .i64 0) (v5 := .slice none 0 0) (v6 := .slice none 0 0) (v7 := .slice none 0 0) (by omega)
        refine bodyPost_ret (resultsR Tryz.results40 rfl rfl hb8) rfl ?_
        rw [HQ.out]
        exact ⟨rfl, hu8⟩
end Go.Proofs.YtggfepgablfbhaaGreatDoor
