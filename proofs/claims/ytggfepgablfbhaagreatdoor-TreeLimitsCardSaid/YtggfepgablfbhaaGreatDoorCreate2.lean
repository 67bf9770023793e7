/- Walk of tree.create, where it makes one. -/
import Derived.Test.YtggfepgablfbhaaGreatDoorCreate
namespace Go.Proofs.YtggfepgablfbhaaGreatDoor
open Go.RowKit
theorem Upd.set8b {F : Nat → Prop} {a w : World} (h : Upd F a w) {b : Nat} (hb : F b) {v0 v1 v2 v3 v4 v5 v6 v7 : Value} :
    Upd F a ((((((((w.setCell ⟨b, 0, none⟩ v0).setCell ⟨b, 1, none⟩ v1).setCell ⟨b, 2, none⟩ v2).setCell ⟨b, 3, none⟩ v3).setCell ⟨b, 4, none⟩ v4).setCell ⟨b, 5, none⟩ v5).setCell ⟨b, 6, none⟩ v6).setCell ⟨b, 7, none⟩ v7) :=
  ((((((((h.setCell (.inr hb) _).setCell (.inr hb) _).setCell (.inr hb) _).setCell (.inr hb) _).setCell (.inr hb) _).setCell (.inr hb) _).setCell (.inr hb) _).setCell (.inr hb) _)
theorem Moves.postNew {w w1 w2 : World} {t bm : Nat} {L L1 : Lay} {T1 : Tr} (h : Moves w w1 t bm L L1 T1) {g : Nat} (hu : Upd (· = g) w1 w2) (hg : g ∉ fpOf t bm L1) (hn : w.heap.size ≤ g) : Moves w w2 t bm L L1 T1 := by
  refine ⟨h.tree.upd hu (fun i hi q => hg (q ▸ hi)), ⟨hu.os.trans h.upd.os, hu.tape.trans h.upd.tape, hu.output.trans h.upd.output, Nat.le_trans h.upd.size hu.size, fun i hi hf => ?_⟩, h.fp⟩
  exact (hu.block i (Nat.lt_of_lt_of_le hi h.upd.size) (fun q => by omega)).trans (h.upd.block i hi hf)
theorem fp_snoc {t bm : Nat} {L : Lay} {p : Int × (NL × Nd)} {g : Nat} (h : g ∈ fpOf t bm (L ++ [p])) : g ∈ fpOf t bm L ∨ g ∈ p.2.1.fp := by
  simp only [fpOf, List.flatMap_append, List.mem_cons, List.mem_append, List.flatMap_cons, List.flatMap_nil, List.append_nil] at h ⊢
  rcases h with h | h | h | h
  · exact .inl (.inl h)
  · exact .inl (.inr (.inl h))
  · exact .inl (.inr (.inr h))
  · exact .inr h
theorem look_snoc {κ α : Type} [DecidableEq κ] {k : κ} {v : α} {p : κ × α} : ∀ {l : List (κ × α)}, look k l = some v → look k (l ++ [p]) = some v
  | [], h => by cases h
  | q :: l, h => by
    simp only [List.cons_append, look] at h ⊢
    split
    · rename_i e; rw [if_pos e] at h; exact h
    · rename_i e; rw [if_neg e] at h; exact look_snoc h
theorem look_next {w : World} {t bm : Nat} {L : Lay} {T : Tr} (h : TreeAt w t bm L T) (ok : T.Ok) : look T.next L = none := by
  cases hq : look T.next L with
  | none => rfl
  | some x =>
    have h1 : look T.next T.nodes = some x.2 := by
      rw [h.nodes, Lay.nodes, look_map (fun x : NL × Nd => x.2), hq]
      rfl
    have := (ok.pos _ _ h1).2
    omega
theorem added_moves {w w3 w4 : World} {t bm : Nat} {L : Lay} {T : Tr} (h : TreeAt w t bm L T) (ok : T.Ok) {x : NL} {n : Nd} (h3 : Upd (· = t) w w3) (hc : w3.heap[t]? = some (.cells #[.map (some bm), .int .i64 (T.next + 1)] 65 (0, 0)))
    (hn : NodeAt w3 x n) (hfp : ∀ g ∈ x.fp, w.heap.size ≤ g) (hnd : x.fp.Nodup) (h4 : Upd (· = bm) w3.drew w4) (hm : MapIs w4 encI bm (upd T.next (.pointer (some ⟨x.blk, 0, none⟩)) (ptrs L))) :
    Moves w w4 t bm L (L ++ [(T.next, (x, n))]) (T.added n) ∧ ∀ k v, look k L = some v → look k (L ++ [(T.next, (x, n))]) = some v := by
  have hap := h.apart
  unfold fpOf at hap
  simp only [List.nodup_cons, List.mem_cons, not_or] at hap
  have hbm := h.map.lt
  have hnx := look_next h ok
  have hu34 : Upd (· = bm) w3 w4 := ((Upd.refl (fun _ => False) w3).drew.mono (fun _ _ h => h.elim)).trans h4
  refine ⟨h.add hnx ((h3.mono (fun _ _ q => .inr q)).trans (hu34.mono (fun _ _ q => .inl q))) ?_ ?_ ?_ hfp hnd, fun k v hk => look_snoc hk⟩
  · exact hu34.heap hc hap.1.1
  · refine hm.perm ?_
    rw [upd_look_none]
    · unfold ptrs; rw [List.map_append]; exact List.Perm.refl _
    · unfold ptrs
      rw [look_map (fun x : NL × Nd => Value.pointer (some ⟨x.1.blk, 0, none⟩)), hnx]
      rfl
  · exact hn.kept fun g hg => hu34.block g (hn.lt g hg) (fun q => by have := hfp g hg; omega)
set_option maxRecDepth 100000 in
set_option maxHeartbeats 8000000 in
theorem create_ok (w : World) (t bm : Nat) (L : Lay) (T : Tr) (hT : TreeAt w t bm L T) (ok : T.Ok) (o : OpV) (A : Option Addr) (c : Nat) (hp : o.path.size ≤ 9223372036854775807) (hg : Glob w) (hce : (T.create o).1 = 0) :
    Calls Tryz.prog 40 #[.pointer (some ⟨t, 0, none⟩), .agg (opCells o A c)] w fun e w' => e = .returned (.tuple #[replyV (T.create o).2.1 0 0 0 0 nilS nilS nilS, errV 0]) ∧ ∃ L', Moves w w' t bm L L' (T.create o).2.2 := by
  have HT := Lib.hid hT
  have HO := Lib.hid ok
  have HG := Lib.hid hg
  have hlt := hT.lt
  have hlt1 : t ≤ w.heap.size + 1 := by omega
  have hlt2 : t < w.heap.size + 1 + 1 := by omega
  have c0 := hT.c0
  have HUA : ∀ X, Hid (Upd (fun _ => False) w (w.alloc X)) := fun X => (Upd.refl _ _).alloc X
  have HHUA := Lib.hid HUA
  clear hT ok hg HUA
  unfold opCells
  have ha0 : (T.at_ o.path).1 = 0 := by
    rcases Decidable.em ((T.at_ o.path).1 = 0) with q | q
    · exact q
    · unfold Tr.create at hce; rw [if_pos q] at hce; exact absurd hce q
  obtain ⟨z1, z2, d, hd, hkd, z3, z4⟩ := at_zero ha0
  clear z1 z2 z3 z4
  obtain ⟨y, hy, hnay, _⟩ := HT.out.node hd
  have hkd2 := (HO.out.kind _ _ hd).resolve_left hkd
  obtain ⟨b, hb, hmb, hnd⟩ := HT.out.mb hy hkd2
  have EA : Hid (errV (T.at_ o.path).1 = .nilIface) := by show errV _ = _; rw [ha0]; rfl
  have HA0 := Lib.hid ha0
  have HD := Lib.hid hd
  have HY_y := Lib.hid hy
  have HKY_y := Lib.hid hkd2
  have HB := Lib.hid hb
  have HMB := Lib.hid hmb
  have HND := Lib.hid hnd
  have hyb : y.blk < w.heap.size := lt_of_heap hnay.cells
  have hyb1 : y.blk ≤ w.heap.size + 1 := by omega
  have hyb2 : y.blk < w.heap.size + 1 + 1 := by omega
  have y2 := HT.out.n2 hy
  rw [hb] at y2
  have hane := at_ne HO.out hd (T.at_ o.path).2.2
  have hP : T.create o = if look (T.at_ o.path).2.2 d.names ≠ none then (6, 0, T) else if T.nodes.length ≥ 60 ∨ T.next ≥ 1099511627776 then (16, 0, T) else (0, T.next, (T.added (newNd o.kind)).named (T.at_ o.path).2.1 d (T.at_ o.path).2.2 T.next) := by unfold Tr.create; rw [if_neg (by simpa using ha0), hd]
  have hl0 : look (T.at_ o.path).2.2 d.names = none := by
    cases hq : look (T.at_ o.path).2.2 d.names with
    | none => rfl
    | some j => rw [hP, if_pos (by rw [hq]; simp)] at hce; simp at hce
  have hmany : ¬ (T.nodes.length ≥ 60 ∨ T.next ≥ 1099511627776) := fun q => by rw [hP, if_neg (by simpa using hl0), if_pos q] at hce; simp at hce
  have HQ : Hid (T.create o = (0, T.next, (T.added (newNd o.kind)).named (T.at_ o.path).2.1 d (T.at_ o.path).2.2 T.next)) := by show _ = _; rw [hP, if_neg (by simpa using hl0), if_neg hmany]
  have VA : Hid (d.at_ (T.at_ o.path).2.2 = 0) := hane.2 hl0
  have HL0 := Lib.hid hl0
  have c1 := HT.out.c1
  have hlen : (ptrs L).length = T.nodes.length := by rw [HT.out.nodes]; simp [ptrs, Lay.nodes]
  have HLEN := Lib.hid hlen
  have hnx1 : T.next < 1099511627776 := by omega
  have hnx2 := HO.out.next.1
  have hn60 : (T.nodes.length : Int) < 60 := by omega
  have b3 : decide ((T.nodes.length : Int) ≥ 60) = false := by simp; omega
  have b4 : decide (T.next ≥ 1099511627776) = false := by simp; omega
  clear ha0 hd hkd hy hnay hkd2 hl0 hane hP hce hlen hmany hb hmb hnd
  have hft : w.frozen? ⟨t, 1, none⟩ = false := frozen_of_heap HT.out.cells 1
  by_cases hk2 : o.kind = 2
  · have b5 : (o.kind == 2) = true := beq_iff_eq.2 hk2
    have HNK : Hid (newNd o.kind = ⟨2, [], []⟩) := by show _ = _; unfold newNd; rw [if_pos hk2]
    clear hk2
    have hmm := @run_makeMap Tryz.prog
    go_enter Tryz.func40, Tryz.ntmps40
    go_wp2_with (first
    | (go_at_call 64; refine (at_calls _ _ _ _ _ (HT.out.upd (((HHUA.out _).out.alloc _)) (fun _ _ => id)) HO.out o.path hp (Nat.le_trans (parentS_sizes _) (by decide)) (HG.out.upd (((HHUA.out _).out.alloc _)) (fun _ _ => id))).mono ?_; rintro e w1 ⟨⟨pv, rfl, hpv⟩, hu1⟩; obtain ⟨y', rfl, hly, hky⟩ := placeV_zero hpv HA0.out HT.out HD.out; have hyy : y' = y := (Prod.mk.inj (Option.some.inj (hly.symm.trans HY_y.out))).1; rw [hyy]; clear hpv hly hky hyy; obtain ⟨hc1, hf1⟩ := bcellU hu1 (fun _ => id); have hz1 : w.heap.size + 2 ≤ w1.heap.size := (by have := hu1.size; (try simp at this); omega); have hy1 : w.heap.size < w1.heap.size := (by omega); have hv1 : w.heap.size + 1 < w1.heap.size := (by omega); have HR1 : Hid (w1.heap[w.heap.size + 1]? = some (.cells #[.int .i64 0, .int .i64 0, .int .i64 0, .int .i64 0, .int .i64 0, .slice none 0 0, .slice none 0 0, .slice none 0 0] 29 (0, 0))) := hu1.heap (by repeat (first | exact HR0.out | exact heap_second _ _ _ | refine heap_al ?_)) id; have ht1 : t < w1.heap.size := (by omega); have hby1 : y.blk < w1.heap.size := (by omega); have HU1 : Hid (Upd (fun _ => False) w w1) := (((HHUA.out _).out.alloc _)).trans hu1; clear hu1; rw [EA.out])
    | (go_at_call 65; refine (ino_calls _ t bm L T (HT.out.upd (HU1.out.alloc _) (fun _ _ => id)) _ y _ HY_y.out HKY_y.out _).mono ?_; rintro e w2 ⟨rfl, hu2⟩; obtain ⟨hc2, hf2⟩ := bcellU hu2 (fun _ => id); have hz2 : w.heap.size + 2 ≤ w2.heap.size := (by have := hu2.size; (try simp at this); omega); have hy2 : w.heap.size < w2.heap.size := (by omega); have hv2 : w.heap.size + 1 < w2.heap.size := (by omega); have HR2 : Hid (w2.heap[w.heap.size + 1]? = some (.cells #[.int .i64 0, .int .i64 0, .int .i64 0, .int .i64 0, .int .i64 0, .slice none 0 0, .slice none 0 0, .slice none 0 0] 29 (0, 0))) := hu2.heap (by repeat (first | exact HR1.out | exact heap_second _ _ _ | refine heap_al ?_)) id; have ht2 : t < w2.heap.size := (by omega); have hby2 : y.blk < w2.heap.size := (by omega); have HU2 : Hid (Upd (fun _ => False) w w2) := (HU1.out.alloc _).trans hu2; have HPL2 : Hid (w2.heap[w1.heap.size]? = some (.cells #[.pointer (some ⟨y.blk, 0, none⟩), .string (T.at_ o.path).2.2] 111)) := hu2.heap (MapKept.heap_alloc w1 _).1 id; have HPL2lt : Hid (w1.heap.size < w2.heap.size) := Lib.hid (by have := hu2.size; (try simp at this); omega); have hd0 : t ≤ w2.heap.size := (by omega); have hd1 : t ≤ w2.heap.size + 1 := (by omega); have hd2 : t < w2.heap.size + 1 := (by omega); have hd3 : t < w2.heap.size + 1 + 1 := (by omega); have hd4 : w.heap.size ≤ w2.heap.size := (by omega); have hd5 : w.heap.size ≤ w2.heap.size + 1 := (by omega); have hd6 : w.heap.size < w2.heap.size + 1 := (by omega); have hd7 : w.heap.size < w2.heap.size + 1 + 1 := (by omega); have hd8 : w.heap.size + 1 ≤ w2.heap.size := (by omega); have hd9 : w.heap.size + 1 ≤ w2.heap.size + 1 := (by omega); have hd10 : w.heap.size + 1 < w2.heap.size + 1 := (by omega); have hd11 : w.heap.size + 1 < w2.heap.size + 1 + 1 := (by omega); clear hu2; rw [VA.out])
    | (at_len; refine wpl_len _ (HT.out.upd HU2.out (fun _ _ => id)).map rfl _ 63 rfl Tryz.underlying63 rfl ?_; rw [HLEN.out])
    )
    have hT2 := HT.out.upd HU2.out (fun _ _ => id)
    have hnotin : ∀ g, w.heap.size ≤ g → g ∉ fpOf t bm L := fun g hg q => by have := HT.out.fplt g q; omega
    have htb : t ≠ bm := fun q => by
      have := HT.out.apart
      unfold fpOf at this
      simp only [List.nodup_cons, List.mem_cons, not_or] at this
      exact this.1.1 q
    have hbmt : bm < w.heap.size := HT.out.map.lt
    have hs2 : ((w2.setCell ⟨w.heap.size + 1, 0, none⟩ (.int .i64 T.next)).setCell ⟨t, 1, none⟩ (.int .i64 (T.next + 1))).heap.size = w2.heap.size := by simp [World.setCell]
    have keep : ∀ g, g ≠ w.heap.size + 1 → g ≠ t → ((w2.setCell ⟨w.heap.size + 1, 0, none⟩ (.int .i64 T.next)).setCell ⟨t, 1, none⟩ (.int .i64 (T.next + 1))).heap[g]? = w2.heap[g]? := fun g h1 h2 => (Below.heap_setCell _ _ _ _ h2).trans (Below.heap_setCell _ _ _ _ h1)
    have f_t : (((((w2.setCell ⟨w.heap.size + 1, 0, none⟩ (.int .i64 T.next)).setCell ⟨t, 1, none⟩ (.int .i64 (T.next + 1))).alloc (.cells #[.int .i64 1, .slice none 0 0, .map none] 75)).alloc (.map #[] 0)).alloc (.cells #[.int .i64 2, .slice none 0 0, .map (some (w2.heap.size + 1))] 75)).heap[t]? = some (.cells #[.map (some bm), .int .i64 (T.next + 1)] 65 (0, 0)) := by
      have h1 := setCell_heap (i := 1) (v := .int .i64 (T.next + 1)) ((Below.heap_setCell w2 ⟨w.heap.size + 1, 0, none⟩ (.int .i64 T.next) t (by show t ≠ w.heap.size + 1; omega)).trans hT2.cells)
      exact heap_al (heap_al (heap_al (h1)))
    have f_rep : (((((w2.setCell ⟨w.heap.size + 1, 0, none⟩ (.int .i64 T.next)).setCell ⟨t, 1, none⟩ (.int .i64 (T.next + 1))).alloc (.cells #[.int .i64 1, .slice none 0 0, .map none] 75)).alloc (.map #[] 0)).alloc (.cells #[.int .i64 2, .slice none 0 0, .map (some (w2.heap.size + 1))] 75)).heap[w.heap.size + 1]? = some (.cells #[.int .i64 T.next, .int .i64 0, .int .i64 0, .int .i64 0, .int .i64 0, .slice none 0 0, .slice none 0 0, .slice none 0 0] 29 (0, 0)) := by
      have h0 := setCell_heap (i := 0) (v := .int .i64 T.next) HR2.out
      have h1 := (Below.heap_setCell (w2.setCell ⟨w.heap.size + 1, 0, none⟩ (.int .i64 T.next)) ⟨t, 1, none⟩ (.int .i64 (T.next + 1)) (w.heap.size + 1) (by show w.heap.size + 1 ≠ t; omega)).trans h0
      exact heap_al (heap_al (heap_al (h1)))
    have f_pl : (((((w2.setCell ⟨w.heap.size + 1, 0, none⟩ (.int .i64 T.next)).setCell ⟨t, 1, none⟩ (.int .i64 (T.next + 1))).alloc (.cells #[.int .i64 1, .slice none 0 0, .map none] 75)).alloc (.map #[] 0)).alloc (.cells #[.int .i64 2, .slice none 0 0, .map (some (w2.heap.size + 1))] 75)).heap[w1.heap.size]? = some (.cells #[.pointer (some ⟨y.blk, 0, none⟩), .string (T.at_ o.path).2.2] 111) := by
      have h1 := (keep w1.heap.size (by omega) (by omega)).trans HPL2.out
      exact heap_al (heap_al (heap_al (h1)))
    have f_old : ∀ g, g < w.heap.size → g ≠ t → (((((w2.setCell ⟨w.heap.size + 1, 0, none⟩ (.int .i64 T.next)).setCell ⟨t, 1, none⟩ (.int .i64 (T.next + 1))).alloc (.cells #[.int .i64 1, .slice none 0 0, .map none] 75)).alloc (.map #[] 0)).alloc (.cells #[.int .i64 2, .slice none 0 0, .map (some (w2.heap.size + 1))] 75)).heap[g]? = w2.heap[g]? := fun g hg ht => by
      have hg2 : g < w2.heap.size := by have := HU2.out.size; omega
      obtain ⟨ob, hob⟩ : ∃ ob, w2.heap[g]? = some ob := ⟨_, Array.getElem?_eq_getElem hg2⟩
      have h1 := (keep g (by omega) ht).trans hob
      rw [hob]
      exact heap_al (heap_al (heap_al (h1)))
    have hs3 : (((((w2.setCell ⟨w.heap.size + 1, 0, none⟩ (.int .i64 T.next)).setCell ⟨t, 1, none⟩ (.int .i64 (T.next + 1))).alloc (.cells #[.int .i64 1, .slice none 0 0, .map none] 75)).alloc (.map #[] 0)).alloc (.cells #[.int .i64 2, .slice none 0 0, .map (some (w2.heap.size + 1))] 75)).heap.size = (w2.heap.size + 2) + 1 := by simp [World.setCell]
    have f_nd : (((((w2.setCell ⟨w.heap.size + 1, 0, none⟩ (.int .i64 T.next)).setCell ⟨t, 1, none⟩ (.int .i64 (T.next + 1))).alloc (.cells #[.int .i64 1, .slice none 0 0, .map none] 75)).alloc (.map #[] 0)).alloc (.cells #[.int .i64 2, .slice none 0 0, .map (some (w2.heap.size + 1))] 75)).heap[(w2.heap.size + 2)]? = some (.cells #[.int .i64 2, .slice none 0 0, .map (some (w2.heap.size + 1))] 75) := by
      have h1 := (MapKept.heap_alloc ((((w2.setCell ⟨w.heap.size + 1, 0, none⟩ (.int .i64 T.next)).setCell ⟨t, 1, none⟩ (.int .i64 (T.next + 1))).alloc (.cells #[.int .i64 1, .slice none 0 0, .map none] 75)).alloc (.map #[] 0)) (.cells #[.int .i64 2, .slice none 0 0, .map (some (w2.heap.size + 1))] 75)).1
      rwa [show ((((w2.setCell ⟨w.heap.size + 1, 0, none⟩ (.int .i64 T.next)).setCell ⟨t, 1, none⟩ (.int .i64 (T.next + 1))).alloc (.cells #[.int .i64 1, .slice none 0 0, .map none] 75)).alloc (.map #[] 0)).heap.size = (w2.heap.size + 2) by simp [World.setCell]] at h1
    have f_map : MapIs (((((w2.setCell ⟨w.heap.size + 1, 0, none⟩ (.int .i64 T.next)).setCell ⟨t, 1, none⟩ (.int .i64 (T.next + 1))).alloc (.cells #[.int .i64 1, .slice none 0 0, .map none] 75)).alloc (.map #[] 0)).alloc (.cells #[.int .i64 2, .slice none 0 0, .map (some (w2.heap.size + 1))] 75)) encS (w2.heap.size + 1) [] := by
      have h1 := (MapKept.heap_alloc (((w2.setCell ⟨w.heap.size + 1, 0, none⟩ (.int .i64 T.next)).setCell ⟨t, 1, none⟩ (.int .i64 (T.next + 1))).alloc (.cells #[.int .i64 1, .slice none 0 0, .map none] 75)) (.map #[] 0)).1
      rw [show (((w2.setCell ⟨w.heap.size + 1, 0, none⟩ (.int .i64 T.next)).setCell ⟨t, 1, none⟩ (.int .i64 (T.next + 1))).alloc (.cells #[.int .i64 1, .slice none 0 0, .map none] 75)).heap.size = w2.heap.size + 1 by simp [World.setCell]] at h1
      exact ⟨#[], 0, heap_al h1, by simp, by simp, by simp⟩
    have f_up : Upd (· = t) w (((((w2.setCell ⟨w.heap.size + 1, 0, none⟩ (.int .i64 T.next)).setCell ⟨t, 1, none⟩ (.int .i64 (T.next + 1))).alloc (.cells #[.int .i64 1, .slice none 0 0, .map none] 75)).alloc (.map #[] 0)).alloc (.cells #[.int .i64 2, .slice none 0 0, .map (some (w2.heap.size + 1))] 75)) := by
      refine ⟨HU2.out.os, HU2.out.tape, HU2.out.output, by rw [hs3]; have := HU2.out.size; omega, fun g hg ht => ?_⟩
      rw [f_old g hg ht]
      exact HU2.out.block g hg id
    have hn0 : (w2.heap.size + 2) ≠ w.heap.size + 1 ∧ w.heap.size + 1 < (w2.heap.size + 2) ∧ w.heap.size ≤ (w2.heap.size + 2) ∧ w1.heap.size < (w2.heap.size + 2) := by have := hv2; have := HPL2lt.out; refine ⟨?_, ?_, ?_, ?_⟩ <;> omega
    have hw1n : w.heap.size ≤ w1.heap.size := HU1.out.size
    have F_t := Lib.hid f_t
    have F_rep := Lib.hid f_rep
    have F_pl := Lib.hid f_pl
    have F_old := Lib.hid f_old
    have F_nd := Lib.hid f_nd
    have F_up := Lib.hid f_up
    have HS3 := Lib.hid hs3
    have HNOT := Lib.hid hnotin
    have HTB := Lib.hid htb
    have F_map := Lib.hid f_map
    clear f_map
    clear f_t f_rep f_pl f_old f_nd f_up hs3 hnotin hs2 keep hc1 hf1 hc2 hf2 hT2
    generalize ((((w2.setCell ⟨w.heap.size + 1, 0, none⟩ (.int .i64 T.next)).setCell ⟨t, 1, none⟩ (.int .i64 (T.next + 1))).alloc (.cells #[.int .i64 1, .slice none 0 0, .map none] 75)).alloc (.map #[] 0)).alloc (.cells #[.int .i64 2, .slice none 0 0, .map (some (w2.heap.size + 1))] 75) = w3 at F_t F_rep F_pl F_old F_nd F_up HS3 F_map ⊢
    have c30 : w3.cell? ⟨t, 0, none⟩ = some (.map (some bm)) := (cell_of_heap F_t.out 0).trans rfl
    have r30 : w3.cell? ⟨w.heap.size + 1, 0, none⟩ = some (.int .i64 T.next) := (cell_of_heap F_rep.out 0).trans rfl
    have HM3 : Hid (MapIs w3.drew encI bm (ptrs L)) := HT.out.map.kept (((Upd.refl (fun _ => False) w3).drew.block bm (by have := F_up.out.size; omega) id).trans (F_up.out.block bm hbmt (Ne.symm HTB.out)))
    have HN3 : Hid (NodeAt w3 (⟨w2.heap.size + 1 + 1, nilS, none, some (w2.heap.size + 1)⟩ : NL) (newNd o.kind)) := by
      show NodeAt _ _ _
      rw [HNK.out]
      exact ⟨F_nd.out, .inl ⟨rfl, rfl, none, 0, rfl⟩, ⟨F_map.out, by simp⟩, fun _ => by simp⟩
    refine wp_region_still_tail 7 (by kernel_rfl) (by kernel_rfl) ?_; simp only [List.take_succ_cons, List.take_zero, List.drop_succ_cons, List.drop_zero]; change wpStill _ _ w3.drew _ _ _; repeat still_step
    refine wpStill_nil ?_
    go_wp2_with (at_mapUpdate; refine wpl_update _ HM3.out KeyOk.int HT.out.pkeys rfl _ _ _ 63 rfl Tryz.underlying63 Tryz.underlying3 rfl T.next rfl (.pointer (some ⟨w2.heap.size + 1 + 1, 0, none⟩)) rfl (fun w4 hm4 hu4 hs4 => Hold.out ?_))
    refine ⟨?_⟩
    have hfx : ∀ g ∈ NL.fp (⟨w2.heap.size + 1 + 1, nilS, none, some (w2.heap.size + 1)⟩ : NL), w2.heap.size ≤ g := fun g hg => by simp [NL.fp] at hg; omega
    have hM4 := added_moves HT.out HO.out F_up.out F_t.out HN3.out (fun g hg => by have := hfx g hg; have := HU2.out.size; omega) (by simp [NL.fp]) hu4 hm4
    have HM4 := Lib.hid hM4.1
    have HY4 := Lib.hid (hM4.2 _ _ HY_y.out)
    have hs4' : w4.heap.size = w3.heap.size := hs4.trans rfl
    have HU4 := Lib.hid hu4
    clear hm4 hu4 hM4 hs4
    have f4 : ∀ g ob, w3.heap[g]? = some ob → g ≠ bm → w4.heap[g]? = some ob := fun g ob h1 h2 => HU4.out.heap (((Upd.refl (fun _ => False) w3).drew).heap h1 id) h2
    have F_pl4 := Lib.hid (f4 _ _ F_pl.out (by omega))
    have F_rep4 := Lib.hid (f4 _ _ F_rep.out (by omega))
    have p40 : w4.cell? ⟨w1.heap.size, 0, none⟩ = some (.pointer (some ⟨y.blk, 0, none⟩)) := (cell_of_heap F_pl4.out 0).trans rfl
    have p41 : w4.cell? ⟨w1.heap.size, 1, none⟩ = some (.string (T.at_ o.path).2.2) := (cell_of_heap F_pl4.out 1).trans rfl
    have r40 : w4.cell? ⟨w.heap.size + 1, 0, none⟩ = some (.int .i64 T.next) := (cell_of_heap F_rep4.out 0).trans rfl
    have y42 : w4.cell? ⟨y.blk, 2, none⟩ = some (.map (some b)) := by have := HM4.out.tree.n2 HY4.out; rw [HB.out] at this; exact this
    have HM4d := Lib.hid (HM4.out.tree.upd (Upd.refl (fun _ => False) w4).drew (fun _ _ => id))
    have hmb4 : MapIs w4.drew encS b (d.names.map fun p => (p.1, Value.int .i64 p.2)) := by
      obtain ⟨b', q1, q2, _⟩ := HM4d.out.mb HY4.out HKY_y.out
      rw [HB.out] at q1
      obtain rfl := Option.some.inj q1
      exact q2
    have hbw : b < w.heap.size := HMB.out.lt
    have HMB4 := Lib.hid hmb4
    clear c30 r30 f4 hmb4
    go_wp2
    refine wp_region_still_tail 9 (by kernel_rfl) (by kernel_rfl) ?_; simp only [List.take_succ_cons, List.take_zero, List.drop_succ_cons, List.drop_zero]; change wpStill _ _ w4.drew _ _ _; repeat still_step
    refine wpStill_nil ?_
    go_wp2_with (at_mapUpdate; refine wpl_update _ HMB4.out KeyOk.string (by rw [keys_map]; exact HND.out) rfl _ _ _ 73 rfl Tryz.underlying73 Tryz.underlying9 rfl (T.at_ o.path).2.2 rfl (.int .i64 T.next) rfl (fun w5 hm5 hu5 hs5 => Hold.out ?_))
    refine ⟨?_⟩
    have hmv := HM4d.out.setNames HY4.out HB.out (insN (T.at_ o.path).2.2 T.next d.names) hu5 (hm5.perm (upd_ins HL0.out)) (insN_keys HND.out HL0.out)
    have hmv2 := (HM4.out.post (Upd.refl (fun _ => False) w4).drew).trans hmv
    have F_rep5 : Hid (w5.heap[w.heap.size + 1]? = some (.cells #[.int .i64 T.next, .int .i64 0, .int .i64 0, .int .i64 0, .int .i64 0, .slice none 0 0, .slice none 0 0, .slice none 0 0] 29 (0, 0))) := hu5.heap (((Upd.refl (fun _ => False) w4).drew).heap F_rep4.out id) (by omega)
    have hnfp : w.heap.size + 1 ∉ fpOf t bm (Lay.set (T.at_ o.path).2.1 y { d with names := insN (T.at_ o.path).2.2 T.next d.names } (L ++ [(T.next, ((⟨w2.heap.size + 1 + 1, nilS, none, some (w2.heap.size + 1)⟩ : NL), newNd o.kind))])) := fun q => by
      rcases hmv.fp _ q with q | q
      · rcases fp_snoc q with q | q
        · exact HNOT.out _ (by omega) q
        · have := hfx _ q; omega
      · have q' : w4.heap.size ≤ w.heap.size + 1 := q
        have := HS3.out
        omega
    have HMV := Lib.hid hmv2
    have HNFP := Lib.hid hnfp
    clear hm5 hu5 hs5 hmv hmv2 hnfp p40 p41 r40 y42
    have g5 := frozen_of_heap F_rep5.out
    have r5 := fun i => cell_of_heap F_rep5.out i
    have r50 := (r5 0).trans rfl
    have r51 := (r5 1).trans rfl
    have r52 := (r5 2).trans rfl
    have r53 := (r5 3).trans rfl
    have r54 := (r5 4).trans rfl
    have r55 := (r5 5).trans rfl
    have r56 := (r5 6).trans rfl
    have r57 := (r5 7).trans rfl
    have g50 := g5 0
    have g51 := g5 1
    have g52 := g5 2
    have g53 := g5 3
    have g54 := g5 4
    have g55 := g5 5
    have g56 := g5 6
    have g57 := g5 7
    clear r5 g5
    simp only [List.getElem?_toArray, List.getElem?_cons_zero, List.getElem?_cons_succ] at r50 r51 r52 r53 r54 r55 r56 r57
    go_wp2
    have hb8 := heap8 (v0 := .int .i64 T.next) (v1 := .int .i64 0) (v2 := .int .i64 0) (v3 := .int .i64 0) (v4 := .int .i64 0) (v5 := .slice none 0 0) (v6 := .slice none 0 0) (v7 := .slice none 0 0) F_rep5.out
    refine bodyPost_ret (resultsR Tryz.results40 rfl rfl hb8) rfl ?_
    rw [HQ.out]
    exact ⟨rfl, _, HMV.out.postNew ((Upd.refl (· = w.heap.size + 1) w5).set8b (b := w.heap.size + 1) rfl) HNFP.out (by omega)⟩
  · have b5 : (o.kind == 2) = false := beq_eq_false_iff_ne.2 hk2
    have HNK : Hid (newNd o.kind = ⟨1, [], []⟩) := by show _ = _; unfold newNd; rw [if_neg hk2]
    clear hk2
    go_enter Tryz.func40, Tryz.ntmps40
    go_wp2_with (first
    | (go_at_call 64; refine (at_calls _ _ _ _ _ (HT.out.upd (((HHUA.out _).out.alloc _)) (fun _ _ => id)) HO.out o.path hp (Nat.le_trans (parentS_sizes _) (by decide)) (HG.out.upd (((HHUA.out _).out.alloc _)) (fun _ _ => id))).mono ?_; rintro e w1 ⟨⟨pv, rfl, hpv⟩, hu1⟩; obtain ⟨y', rfl, hly, hky⟩ := placeV_zero hpv HA0.out HT.out HD.out; have hyy : y' = y := (Prod.mk.inj (Option.some.inj (hly.symm.trans HY_y.out))).1; rw [hyy]; clear hpv hly hky hyy; obtain ⟨hc1, hf1⟩ := bcellU hu1 (fun _ => id); have hz1 : w.heap.size + 2 ≤ w1.heap.size := (by have := hu1.size; (try simp at this); omega); have hy1 : w.heap.size < w1.heap.size := (by omega); have hv1 : w.heap.size + 1 < w1.heap.size := (by omega); have HR1 : Hid (w1.heap[w.heap.size + 1]? = some (.cells #[.int .i64 0, .int .i64 0, .int .i64 0, .int .i64 0, .int .i64 0, .slice none 0 0, .slice none 0 0, .slice none 0 0] 29 (0, 0))) := hu1.heap (by repeat (first | exact HR0.out | exact heap_second _ _ _ | refine heap_al ?_)) id; have ht1 : t < w1.heap.size := (by omega); have hby1 : y.blk < w1.heap.size := (by omega); have HU1 : Hid (Upd (fun _ => False) w w1) := (((HHUA.out _).out.alloc _)).trans hu1; clear hu1; rw [EA.out])
    | (go_at_call 65; refine (ino_calls _ t bm L T (HT.out.upd (HU1.out.alloc _) (fun _ _ => id)) _ y _ HY_y.out HKY_y.out _).mono ?_; rintro e w2 ⟨rfl, hu2⟩; obtain ⟨hc2, hf2⟩ := bcellU hu2 (fun _ => id); have hz2 : w.heap.size + 2 ≤ w2.heap.size := (by have := hu2.size; (try simp at this); omega); have hy2 : w.heap.size < w2.heap.size := (by omega); have hv2 : w.heap.size + 1 < w2.heap.size := (by omega); have HR2 : Hid (w2.heap[w.heap.size + 1]? = some (.cells #[.int .i64 0, .int .i64 0, .int .i64 0, .int .i64 0, .int .i64 0, .slice none 0 0, .slice none 0 0, .slice none 0 0] 29 (0, 0))) := hu2.heap (by repeat (first | exact HR1.out | exact heap_second _ _ _ | refine heap_al ?_)) id; have ht2 : t < w2.heap.size := (by omega); have hby2 : y.blk < w2.heap.size := (by omega); have HU2 : Hid (Upd (fun _ => False) w w2) := (HU1.out.alloc _).trans hu2; have HPL2 : Hid (w2.heap[w1.heap.size]? = some (.cells #[.pointer (some ⟨y.blk, 0, none⟩), .string (T.at_ o.path).2.2] 111)) := hu2.heap (MapKept.heap_alloc w1 _).1 id; have HPL2lt : Hid (w1.heap.size < w2.heap.size) := Lib.hid (by have := hu2.size; (try simp at this); omega); have hd0 : t ≤ w2.heap.size := (by omega); have hd1 : t ≤ w2.heap.size + 1 := (by omega); have hd2 : t < w2.heap.size + 1 := (by omega); have hd3 : t < w2.heap.size + 1 + 1 := (by omega); have hd4 : w.heap.size ≤ w2.heap.size := (by omega); have hd5 : w.heap.size ≤ w2.heap.size + 1 := (by omega); have hd6 : w.heap.size < w2.heap.size + 1 := (by omega); have hd7 : w.heap.size < w2.heap.size + 1 + 1 := (by omega); have hd8 : w.heap.size + 1 ≤ w2.heap.size := (by omega); have hd9 : w.heap.size + 1 ≤ w2.heap.size + 1 := (by omega); have hd10 : w.heap.size + 1 < w2.heap.size + 1 := (by omega); have hd11 : w.heap.size + 1 < w2.heap.size + 1 + 1 := (by omega); clear hu2; rw [VA.out])
    | (at_len; refine wpl_len _ (HT.out.upd HU2.out (fun _ _ => id)).map rfl _ 63 rfl Tryz.underlying63 rfl ?_; rw [HLEN.out])
    )
    have hT2 := HT.out.upd HU2.out (fun _ _ => id)
    have hnotin : ∀ g, w.heap.size ≤ g → g ∉ fpOf t bm L := fun g hg q => by have := HT.out.fplt g q; omega
    have htb : t ≠ bm := fun q => by
      have := HT.out.apart
      unfold fpOf at this
      simp only [List.nodup_cons, List.mem_cons, not_or] at this
      exact this.1.1 q
    have hbmt : bm < w.heap.size := HT.out.map.lt
    have hs2 : ((w2.setCell ⟨w.heap.size + 1, 0, none⟩ (.int .i64 T.next)).setCell ⟨t, 1, none⟩ (.int .i64 (T.next + 1))).heap.size = w2.heap.size := by simp [World.setCell]
    have keep : ∀ g, g ≠ w.heap.size + 1 → g ≠ t → ((w2.setCell ⟨w.heap.size + 1, 0, none⟩ (.int .i64 T.next)).setCell ⟨t, 1, none⟩ (.int .i64 (T.next + 1))).heap[g]? = w2.heap[g]? := fun g h1 h2 => (Below.heap_setCell _ _ _ _ h2).trans (Below.heap_setCell _ _ _ _ h1)
    have f_t : (((w2.setCell ⟨w.heap.size + 1, 0, none⟩ (.int .i64 T.next)).setCell ⟨t, 1, none⟩ (.int .i64 (T.next + 1))).alloc (.cells #[.int .i64 1, .slice none 0 0, .map none] 75)).heap[t]? = some (.cells #[.map (some bm), .int .i64 (T.next + 1)] 65 (0, 0)) := by
      have h1 := setCell_heap (i := 1) (v := .int .i64 (T.next + 1)) ((Below.heap_setCell w2 ⟨w.heap.size + 1, 0, none⟩ (.int .i64 T.next) t (by show t ≠ w.heap.size + 1; omega)).trans hT2.cells)
      exact heap_al (h1)
    have f_rep : (((w2.setCell ⟨w.heap.size + 1, 0, none⟩ (.int .i64 T.next)).setCell ⟨t, 1, none⟩ (.int .i64 (T.next + 1))).alloc (.cells #[.int .i64 1, .slice none 0 0, .map none] 75)).heap[w.heap.size + 1]? = some (.cells #[.int .i64 T.next, .int .i64 0, .int .i64 0, .int .i64 0, .int .i64 0, .slice none 0 0, .slice none 0 0, .slice none 0 0] 29 (0, 0)) := by
      have h0 := setCell_heap (i := 0) (v := .int .i64 T.next) HR2.out
      have h1 := (Below.heap_setCell (w2.setCell ⟨w.heap.size + 1, 0, none⟩ (.int .i64 T.next)) ⟨t, 1, none⟩ (.int .i64 (T.next + 1)) (w.heap.size + 1) (by show w.heap.size + 1 ≠ t; omega)).trans h0
      exact heap_al (h1)
    have f_pl : (((w2.setCell ⟨w.heap.size + 1, 0, none⟩ (.int .i64 T.next)).setCell ⟨t, 1, none⟩ (.int .i64 (T.next + 1))).alloc (.cells #[.int .i64 1, .slice none 0 0, .map none] 75)).heap[w1.heap.size]? = some (.cells #[.pointer (some ⟨y.blk, 0, none⟩), .string (T.at_ o.path).2.2] 111) := by
      have h1 := (keep w1.heap.size (by omega) (by omega)).trans HPL2.out
      exact heap_al (h1)
    have f_old : ∀ g, g < w.heap.size → g ≠ t → (((w2.setCell ⟨w.heap.size + 1, 0, none⟩ (.int .i64 T.next)).setCell ⟨t, 1, none⟩ (.int .i64 (T.next + 1))).alloc (.cells #[.int .i64 1, .slice none 0 0, .map none] 75)).heap[g]? = w2.heap[g]? := fun g hg ht => by
      have hg2 : g < w2.heap.size := by have := HU2.out.size; omega
      obtain ⟨ob, hob⟩ : ∃ ob, w2.heap[g]? = some ob := ⟨_, Array.getElem?_eq_getElem hg2⟩
      have h1 := (keep g (by omega) ht).trans hob
      rw [hob]
      exact heap_al (h1)
    have hs3 : (((w2.setCell ⟨w.heap.size + 1, 0, none⟩ (.int .i64 T.next)).setCell ⟨t, 1, none⟩ (.int .i64 (T.next + 1))).alloc (.cells #[.int .i64 1, .slice none 0 0, .map none] 75)).heap.size = w2.heap.size + 1 := by simp [World.setCell]
    have f_nd : (((w2.setCell ⟨w.heap.size + 1, 0, none⟩ (.int .i64 T.next)).setCell ⟨t, 1, none⟩ (.int .i64 (T.next + 1))).alloc (.cells #[.int .i64 1, .slice none 0 0, .map none] 75)).heap[w2.heap.size]? = some (.cells #[.int .i64 1, .slice none 0 0, .map none] 75) := by
      have h1 := (MapKept.heap_alloc (((w2.setCell ⟨w.heap.size + 1, 0, none⟩ (.int .i64 T.next)).setCell ⟨t, 1, none⟩ (.int .i64 (T.next + 1)))) (.cells #[.int .i64 1, .slice none 0 0, .map none] 75)).1
      rwa [show (((w2.setCell ⟨w.heap.size + 1, 0, none⟩ (.int .i64 T.next)).setCell ⟨t, 1, none⟩ (.int .i64 (T.next + 1)))).heap.size = w2.heap.size by simp [World.setCell]] at h1
    have f_up : Upd (· = t) w (((w2.setCell ⟨w.heap.size + 1, 0, none⟩ (.int .i64 T.next)).setCell ⟨t, 1, none⟩ (.int .i64 (T.next + 1))).alloc (.cells #[.int .i64 1, .slice none 0 0, .map none] 75)) := by
      refine ⟨HU2.out.os, HU2.out.tape, HU2.out.output, by rw [hs3]; have := HU2.out.size; omega, fun g hg ht => ?_⟩
      rw [f_old g hg ht]
      exact HU2.out.block g hg id
    have hn0 : w2.heap.size ≠ w.heap.size + 1 ∧ w.heap.size + 1 < w2.heap.size ∧ w.heap.size ≤ w2.heap.size ∧ w1.heap.size < w2.heap.size := by have := hv2; have := HPL2lt.out; refine ⟨?_, ?_, ?_, ?_⟩ <;> omega
    have hw1n : w.heap.size ≤ w1.heap.size := HU1.out.size
    have F_t := Lib.hid f_t
    have F_rep := Lib.hid f_rep
    have F_pl := Lib.hid f_pl
    have F_old := Lib.hid f_old
    have F_nd := Lib.hid f_nd
    have F_up := Lib.hid f_up
    have HS3 := Lib.hid hs3
    have HNOT := Lib.hid hnotin
    have HTB := Lib.hid htb
    clear f_t f_rep f_pl f_old f_nd f_up hs3 hnotin hs2 keep hc1 hf1 hc2 hf2 hT2
    generalize ((w2.setCell ⟨w.heap.size + 1, 0, none⟩ (.int .i64 T.next)).setCell ⟨t, 1, none⟩ (.int .i64 (T.next + 1))).alloc (.cells #[.int .i64 1, .slice none 0 0, .map none] 75) = w3 at F_t F_rep F_pl F_old F_nd F_up HS3 ⊢
    have c30 : w3.cell? ⟨t, 0, none⟩ = some (.map (some bm)) := (cell_of_heap F_t.out 0).trans rfl
    have r30 : w3.cell? ⟨w.heap.size + 1, 0, none⟩ = some (.int .i64 T.next) := (cell_of_heap F_rep.out 0).trans rfl
    have HM3 : Hid (MapIs w3.drew encI bm (ptrs L)) := HT.out.map.kept (((Upd.refl (fun _ => False) w3).drew.block bm (by have := F_up.out.size; omega) id).trans (F_up.out.block bm hbmt (Ne.symm HTB.out)))
    have HN3 : Hid (NodeAt w3 (⟨w2.heap.size, nilS, none, none⟩ : NL) (newNd o.kind)) := by
      show NodeAt _ _ _
      rw [HNK.out]
      exact ⟨F_nd.out, .inl ⟨rfl, rfl, none, 0, rfl⟩, rfl, fun q => by simp at q⟩
    refine wp_region_still_tail 7 (by kernel_rfl) (by kernel_rfl) ?_; simp only [List.take_succ_cons, List.take_zero, List.drop_succ_cons, List.drop_zero]; change wpStill _ _ w3.drew _ _ _; repeat still_step
    refine wpStill_nil ?_
    go_wp2_with (at_mapUpdate; refine wpl_update _ HM3.out KeyOk.int HT.out.pkeys rfl _ _ _ 63 rfl Tryz.underlying63 Tryz.underlying3 rfl T.next rfl (.pointer (some ⟨w2.heap.size, 0, none⟩)) rfl (fun w4 hm4 hu4 hs4 => Hold.out ?_))
    refine ⟨?_⟩
    have hfx : ∀ g ∈ NL.fp (⟨w2.heap.size, nilS, none, none⟩ : NL), w2.heap.size ≤ g := fun g hg => by simp [NL.fp] at hg; omega
    have hM4 := added_moves HT.out HO.out F_up.out F_t.out HN3.out (fun g hg => by have := hfx g hg; have := HU2.out.size; omega) (by simp [NL.fp]) hu4 hm4
    have HM4 := Lib.hid hM4.1
    have HY4 := Lib.hid (hM4.2 _ _ HY_y.out)
    have hs4' : w4.heap.size = w3.heap.size := hs4.trans rfl
    have HU4 := Lib.hid hu4
    clear hm4 hu4 hM4 hs4
    have f4 : ∀ g ob, w3.heap[g]? = some ob → g ≠ bm → w4.heap[g]? = some ob := fun g ob h1 h2 => HU4.out.heap (((Upd.refl (fun _ => False) w3).drew).heap h1 id) h2
    have F_pl4 := Lib.hid (f4 _ _ F_pl.out (by omega))
    have F_rep4 := Lib.hid (f4 _ _ F_rep.out (by omega))
    have p40 : w4.cell? ⟨w1.heap.size, 0, none⟩ = some (.pointer (some ⟨y.blk, 0, none⟩)) := (cell_of_heap F_pl4.out 0).trans rfl
    have p41 : w4.cell? ⟨w1.heap.size, 1, none⟩ = some (.string (T.at_ o.path).2.2) := (cell_of_heap F_pl4.out 1).trans rfl
    have r40 : w4.cell? ⟨w.heap.size + 1, 0, none⟩ = some (.int .i64 T.next) := (cell_of_heap F_rep4.out 0).trans rfl
    have y42 : w4.cell? ⟨y.blk, 2, none⟩ = some (.map (some b)) := by have := HM4.out.tree.n2 HY4.out; rw [HB.out] at this; exact this
    have HM4d := Lib.hid (HM4.out.tree.upd (Upd.refl (fun _ => False) w4).drew (fun _ _ => id))
    have hmb4 : MapIs w4.drew encS b (d.names.map fun p => (p.1, Value.int .i64 p.2)) := by
      obtain ⟨b', q1, q2, _⟩ := HM4d.out.mb HY4.out HKY_y.out
      rw [HB.out] at q1
      obtain rfl := Option.some.inj q1
      exact q2
    have hbw : b < w.heap.size := HMB.out.lt
    have HMB4 := Lib.hid hmb4
    clear c30 r30 f4 hmb4
    go_wp2
    refine wp_region_still_tail 9 (by kernel_rfl) (by kernel_rfl) ?_; simp only [List.take_succ_cons, List.take_zero, List.drop_succ_cons, List.drop_zero]; change wpStill _ _ w4.drew _ _ _; repeat still_step
    refine wpStill_nil ?_
    go_wp2_with (at_mapUpdate; refine wpl_update _ HMB4.out KeyOk.string (by rw [keys_map]; exact HND.out) rfl _ _ _ 73 rfl Tryz.underlying73 Tryz.underlying9 rfl (T.at_ o.path).2.2 rfl (.int .i64 T.next) rfl (fun w5 hm5 hu5 hs5 => Hold.out ?_))
    refine ⟨?_⟩
    have hmv := HM4d.out.setNames HY4.out HB.out (insN (T.at_ o.path).2.2 T.next d.names) hu5 (hm5.perm (upd_ins HL0.out)) (insN_keys HND.out HL0.out)
    have hmv2 := (HM4.out.post (Upd.refl (fun _ => False) w4).drew).trans hmv
    have F_rep5 : Hid (w5.heap[w.heap.size + 1]? = some (.cells #[.int .i64 T.next, .int .i64 0, .int .i64 0, .int .i64 0, .int .i64 0, .slice none 0 0, .slice none 0 0, .slice none 0 0] 29 (0, 0))) := hu5.heap (((Upd.refl (fun _ => False) w4).drew).heap F_rep4.out id) (by omega)
    have hnfp : w.heap.size + 1 ∉ fpOf t bm (Lay.set (T.at_ o.path).2.1 y { d with names := insN (T.at_ o.path).2.2 T.next d.names } (L ++ [(T.next, ((⟨w2.heap.size, nilS, none, none⟩ : NL), newNd o.kind))])) := fun q => by
      rcases hmv.fp _ q with q | q
      · rcases fp_snoc q with q | q
        · exact HNOT.out _ (by omega) q
        · have := hfx _ q; omega
      · have q' : w4.heap.size ≤ w.heap.size + 1 := q
        have := HS3.out
        omega
    have HMV := Lib.hid hmv2
    have HNFP := Lib.hid hnfp
    clear hm5 hu5 hs5 hmv hmv2 hnfp p40 p41 r40 y42
    have g5 := frozen_of_heap F_rep5.out
    have r5 := fun i => cell_of_heap F_rep5.out i
    have r50 := (r5 0).trans rfl
    have r51 := (r5 1).trans rfl
    have r52 := (r5 2).trans rfl
    have r53 := (r5 3).trans rfl
    have r54 := (r5 4).trans rfl
    have r55 := (r5 5).trans rfl
    have r56 := (r5 6).trans rfl
    have r57 := (r5 7).trans rfl
    have g50 := g5 0
    have g51 := g5 1
    have g52 := g5 2
    have g53 := g5 3
    have g54 := g5 4
    have g55 := g5 5
    have g56 := g5 6
    have g57 := g5 7
    clear r5 g5
    simp only [List.getElem?_toArray, List.getElem?_cons_zero, List.getElem?_cons_succ] at r50 r51 r52 r53 r54 r55 r56 r57
    go_wp2
    have hb8 := heap8 (v0 := .int .i64 T.next) (v1 := .int .i64 0) (v2 := .int .i64 0) (v3 := .int .i64 0) (v4 := .int .i64 0) (v5 := .slice none 0 0) (v6 := .slice none 0 0) (v7 := .slice none 0 0) F_rep5.out
    refine bodyPost_ret (resultsR Tryz.results40 rfl rfl hb8) rfl ?_
    rw [HQ.out]
    exact ⟨rfl, _, HMV.out.postNew ((Upd.refl (· = w.heap.size + 1) w5).set8b (b := w.heap.size + 1) rfl) HNFP.out (by omega)⟩
#print axioms create_ok
end Go.Proofs.YtggfepgablfbhaaGreatDoor
