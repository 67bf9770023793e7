/- Walk of tree.file, where it cuts. -/
import Derived.Test.YtggfepgablfbhaaGreatDoorFile4
namespace Go.Proofs.YtggfepgablfbhaaGreatDoor
open Go.RowKit
open Go.Lib
set_option maxRecDepth 100000 in
set_option maxHeartbeats 8000000 in
theorem file_trunc (w : World) (t bm : Nat) (L : Lay) (T : Tr) (hT : TreeAt w t bm L T) (ok : T.Ok) (o : OpV) (A : Option Addr) (c : Nat) (hp : o.path.size ≤ 9223372036854775807) (hg : Glob w) (hsm : T.Small) (hk : o.kind = 9) (ha0 : (T.find o.path).2 = 0) (hn0 : 0 ≤ o.n) (hn1 : o.n ≤ 2000) (n : Nd) (hn : look (T.find o.path).1 T.nodes = some n) (hk2 : n.kind ≠ 2) :
    Calls Tryz.prog 44 #[.pointer (some ⟨t, 0, none⟩), .agg (opCells o A c)] w fun e w' => e = .returned (.tuple #[zeroReply, errV 0]) ∧ ∃ L', Moves w w' t bm L L' (T.setData (T.find o.path).1 n (sizedL n.data o.n.toNat)) := by
  have HT := Lib.hid hT
  have HO := Lib.hid ok
  have HG := Lib.hid hg
  have hlt := hT.lt
  have hlt1 : t ≤ w.heap.size + 1 := by omega
  have hlt2 : t < w.heap.size + 1 + 1 := by omega
  have c0 := hT.c0
  have HUA : ∀ X, Hid (Upd (fun _ => False) w (w.alloc X)) := fun X => (Upd.refl _ _).alloc X
  have HHUA := Lib.hid HUA
  clear hT ok hg HUA
  unfold opCells
  obtain ⟨x, hx, hna, hpx⟩ := HT.out.node hn
  have x0 := HT.out.n0 hx
  have HPX := Lib.hid hpx
  have HX := Lib.hid hx
  have HNA := Lib.hid hna
  have HN := Lib.hid hn
  have E1 : Hid (errV (T.find o.path).2 = .nilIface) := by show errV _ = _; rw [ha0]; rfl
  have hxb : x.blk < w.heap.size := lt_of_heap hna.cells
  have hxb1 : x.blk ≤ w.heap.size + 1 := by omega
  have hxb2 : x.blk < w.heap.size + 1 + 1 := by omega
  have hsn := hsm _ _ hn
  have x1 := HT.out.n1 hx
  have hBR : ByteR w x.dv n.data := hna.bytes.byteR
  obtain ⟨ao, c0, hdv, hcap, _, _⟩ := id hBR
  rw [hdv] at x1
  have HX1 := Lib.hid x1
  have HBR : Hid (ByteR w (.slice ao n.data.length c0) n.data) := by rw [← hdv]; exact hBR
  obtain ⟨N, hN⟩ : ∃ N : Nat, o.n = N := ⟨o.n.toNat, by omega⟩
  have HN2 : Hid (N ≤ 2000) := Lib.hid (by omega)
  have HSN := Lib.hid hsn
  have HNE := Lib.hid hN
  have b1 : (n.kind == 2) = false := beq_eq_false_iff_ne.2 hk2
  have b7 : (o.kind == 7) = false := beq_eq_false_iff_ne.2 (by omega)
  have b8 : (o.kind == 8) = false := beq_eq_false_iff_ne.2 (by omega)
  have b9 : (o.kind == 9) = true := beq_iff_eq.2 hk
  have b2 : decide (o.n < 0) = false := decide_eq_false (by omega)
  have b3 : decide (o.n > 2000) = false := decide_eq_false (by omega)
  clear hsm hk ha0 hn0 hn1 hn hk2 hx hna hpx hBR hsn hdv hcap hN
  go_enter Tryz.func44, Tryz.ntmps44
  go_wp2_with (first
    | (go_at_call 17; refine (find_calls _ _ _ _ _ (HT.out.upd (((HHUA.out _).out.alloc _)) (fun _ _ => id)) HO.out o.path hp (HG.out.upd (((HHUA.out _).out.alloc _)) (fun _ _ => id))).mono ?_; rintro e w1 ⟨rfl, hu1⟩; obtain ⟨hc1, hf1⟩ := bcellU hu1 (fun _ => id); have hz1 : w.heap.size + 2 ≤ w1.heap.size := (by have := hu1.size; (try simp at this); omega); have hy1 : w.heap.size < w1.heap.size := (by omega); have hv1 : w.heap.size + 1 < w1.heap.size := (by omega); have HR1 : Hid (w1.heap[w.heap.size + 1]? = some (.cells #[.int .i64 0, .int .i64 0, .int .i64 0, .int .i64 0, .int .i64 0, .slice none 0 0, .slice none 0 0, .slice none 0 0] 29 (0, 0))) := hu1.heap (by repeat (first | exact HR0.out | exact heap_second _ _ _ | refine heap_al ?_)) id; have ht1 : t < w1.heap.size := (by omega); have hbx1 : x.blk < w1.heap.size := (by omega); have HU1 : Hid (Upd (fun _ => False) w w1) := (((HHUA.out _).out.alloc _)).trans hu1; clear hu1; rw [E1.out])
    | (at_lookup; refine wpl_lookup _ (HT.out.upd (HU1.out) (fun _ _ => id)).map KeyOk.int HT.out.pkeys rfl _ _ 63 rfl Tryz.underlying63 Tryz.underlying3 (.pointer none) (zero72 _) rfl (T.find o.path).1 rfl (.pointer (some ⟨x.blk, 0, none⟩)) (by rw [HPX.out]; rfl) ?_)
    )
  have HU1d : Hid (Upd (fun _ => False) w w1.drew) := HU1.out.drew
  refine wp_region_free 7 (by kernel_rfl) (by kernel_rfl) (fun _ _ _ _ h => h) (v0 := .pointer (some ⟨x.blk, 0, none⟩)) (by rfl) (fun W => by go_simp) ?_
  simp only [List.take_succ_cons, List.take_zero, List.drop_succ_cons, List.drop_zero, Act.put, List.setIfInBounds_toArray, List.set_cons_zero, List.set_cons_succ]
  repeat (refine wpVal_cons (v := _) (by rfl) (by first | (go_simp; done) | (go_simp; with_reducible rfl)) ?_; (try simp only [Act.put, List.setIfInBounds_toArray, List.set_cons_zero, List.set_cons_succ]))
  refine wpVal_nil ?_
  go_wp2_with (first
    | (go_at_call 70; rw [HNE.out]; refine (sized_calls _ _ _ (HBR.out.upd HU1d.out) N HSN.out HN2.out).mono ?_; rintro e w4 ⟨⟨v4, rfl, ho4⟩, hu4⟩; obtain ⟨A4, m4, c4, hv4⟩ := own_slice ho4; rw [hv4] at ho4; rw [hv4]; clear hv4; have hfx : w4.frozen? ⟨x.blk, 1, none⟩ = false := frozen_of_heap ((HU1d.out.trans hu4).heap HNA.out.cells id) 1; have hcx := (HU1d.out.trans hu4).cellS (HX1.out) id; have HU4 := Lib.hid (HU1d.out.trans hu4); have HO4 := Lib.hid ho4; have hbb : w.heap.size + 1 ≠ x.blk := (by omega); have HRX4 : Hid ((w4.setCell ⟨x.blk, 1, none⟩ (.slice A4 m4 c4)).heap[w.heap.size + 1]? = _) := (Below.heap_setCell _ _ _ _ hbb).trans (hu4.heap HR1.out id); have r4 := fun i => cell_of_heap (HRX4.out) i; have r40 := (r4 0).trans rfl; have r41 := (r4 1).trans rfl; have r42 := (r4 2).trans rfl; have r43 := (r4 3).trans rfl; have r44 := (r4 4).trans rfl; have r45 := (r4 5).trans rfl; have r46 := (r4 6).trans rfl; have r47 := (r4 7).trans rfl; clear r4; simp only [List.getElem?_toArray, List.getElem?_cons_zero, List.getElem?_cons_succ] at r40 r41 r42 r43 r44 r45 r46 r47; have r4f := frozen_of_heap (HRX4.out); have r4f0 := r4f 0; have r4f1 := r4f 1; have r4f2 := r4f 2; have r4f3 := r4f 3; have r4f4 := r4f 4; have r4f5 := r4f 5; have r4f6 := r4f 6; have r4f7 := r4f 7; clear r4f; clear ho4 hu4))
  have h5 : (w4.setCell ⟨x.blk, 1, none⟩ (.slice A4 m4 c4)).ownsRow w.heap.size 5 1 (.slice A4 m4 c4) (sizedL n.data N).length (nums8 (sizedL n.data N)) := by
    rw [sizedL_length]
    exact own_upd HO4.out ((Upd.refl (· = x.blk) w4).setCell (p := ⟨x.blk, 1, none⟩) (.inr rfl) _) (fun g hg q => by have := (HO4.out.lt g hg).1; have := HU1d.out.size; omega) HU1d.out.size
  obtain ⟨db, hby, hdb⟩ := bytesAt_own h5
  have hN5 : (w4.setCell ⟨x.blk, 1, none⟩ (.slice A4 m4 c4)).heap[x.blk]? = some (.cells #[.int .i64 n.kind, .slice A4 m4 c4, .map x.mb] 75 (0, 0)) := setCell_heap (i := 1) (v := .slice A4 m4 c4) (HU4.out.heap HNA.out.cells id)
  have hu5 : Upd (· = x.blk) w (w4.setCell ⟨x.blk, 1, none⟩ (.slice A4 m4 c4)) := (Upd.mono HU4.out (G := (· = x.blk)) (fun _ _ q => q.elim)).setCell (p := ⟨x.blk, 1, none⟩) (.inr rfl) _
  have hmv := data_moves HT.out HX.out hu5 hN5 hby hdb
  have hdb1 : ∀ g, db = some g → g ≠ w.heap.size + 1 := fun g hg q => by
    have h6 := h5
    rcases hby with ⟨_, q2, _⟩ | ⟨g', c', q2, _, q3, _⟩
    · rw [hg] at q2; cases q2
    · rw [hg] at q2
      cases q2
      have := (HO4.out.lt g (by rw [q3]; rfl)).1
      have h7 : w1.drew.heap.size = w1.heap.size := rfl
      omega
  have HMV := Lib.hid hmv
  have HDB := Lib.hid hdb1
  clear h5 hby hdb hN5 hu5 hmv hdb1
  have hb8 := heap8 (v0 := .int .i64 0) (v1 := .int .i64 0) (v2 := .int .i64 0) (v3 := .int .i64 0) (v4 := .int .i64 0) (v5 := .slice none 0 0) (v6 := .slice none 0 0) (v7 := .slice none 0 0) HRX4.out
  refine bodyPost_ret (resultsR Tryz.results44 rfl rfl hb8) rfl ?_
  rw [show o.n.toNat = N by have := HNE.out; omega]
  exact ⟨rfl, _, HMV.out.postNew ((Upd.refl (· = w.heap.size + 1) _).set8b (b := w.heap.size + 1) rfl) (fun q => by
    rcases fp_set q with q | q
    · have := HT.out.fplt _ q; omega
    · simp only [NL.fp, List.mem_cons, List.mem_append, Option.mem_toList] at q
      rcases q with q | q | q
      · omega
      · exact HDB.out _ q rfl
      · have := HNA.out.lt (w.heap.size + 1) (by simp [NL.fp, q]); omega) (by omega)⟩
end Go.Proofs.YtggfepgablfbhaaGreatDoor
