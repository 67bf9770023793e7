/- Walk of tree.file, where it writes. -/
import Derived.Test.YtggfepgablfbhaaGreatDoorData
namespace Go.Proofs.YtggfepgablfbhaaGreatDoor
open Go.RowKit
open Go.Lib

theorem own_some {w : World} {B : Nat} {e : TypeId} {v : Value} {n : Nat} {xs : List Value} (h : w.ownsRow B e 1 v n xs) (hn : 0 < n) : ∃ g cap cur, v = .slice (some ⟨g, 0, none⟩) n cap ∧ B ≤ g ∧ w.heap[g]? = some (.cells cur e (0, 0)) ∧ n ≤ cap ∧ cap ≤ maxLen ∧ cur.size = cap ∧ cur.toList.take n = xs := by
  rcases h.2 with ⟨_, h0⟩ | ⟨g, cap, cur, rfl, hb, hg, h1, h2, h3, h4⟩
  · omega
  · exact ⟨g, cap, cur, rfl, hb, hg, h1, h2, by simpa using h3, by simpa using h4⟩
theorem slice_own_from {g N cap off r2 c2 : Nat} {K : Int} (hK : K = off) (h1 : off < N) (h2 : N ≤ cap) (hr : r2 = N - off) (hc : c2 = cap - off) : ∀ W, (Instr.slice 22 (.slice (some ⟨g, 0, none⟩) N cap) (some (.int .i64 K)) none none).run Tryz.prog W = .ok (.slice (some ⟨g, off, none⟩) r2 c2) W := by
  intro W
  subst hK
  subst hr
  subst hc
  obtain ⟨i0, hi, hz0, hz1, hz2⟩ := info_parts info_u8
  have he : Tryz.prog.elem 22 = 5 := by kernel_rfl
  rw [run_slice_l W 22 _ N cap (by rw [he]; exact Tryz.underlying22) .i64 off (by omega) (by omega), he]
  have : ¬ (cap = off) := by omega
  simp [sizeOf, typeInfo, hi, hz1, sliced, this, Addr.add_lit]
theorem take_splice {α : Type} (L cs : List α) (off N : Nat) (h : off + cs.length ≤ N) (hL : N ≤ L.length) : (L.take off ++ (cs ++ L.drop (off + cs.length))).take N = splice (L.take N) off cs := by
  unfold splice
  rw [List.take_append, List.take_append, List.take_take]
  have h1 : min N off = off := by omega
  have h2 : (L.take off).length = off := by rw [List.length_take]; omega
  rw [List.take_take, show min off N = off by omega, show min N off = off by omega, h2, List.take_of_length_le (l := cs) (by omega), List.drop_take]
  congr 3
  omega
theorem nums8_splice (L cs : List Int) (off : Nat) : nums8 (splice L off cs) = splice (nums8 L) off (nums8 cs) := by
  unfold nums8 splice
  simp [List.map_append, List.map_take, List.map_drop]
theorem not_node {w : World} {x : NL} {n : Nd} (h : NodeAt w x n) {p : Addr} {u : Int} (hc : w.cell? p = some (.int .u8 u)) : p.block ≠ x.blk := by
  intro q
  have hh := h.cells
  rw [← q] at hh
  obtain ⟨ao, c, hdv, _⟩ := h.bytes.byteR
  unfold World.cell? at hc
  rw [hh, hdv] at hc
  simp only at hc
  rcases hi : p.off with _ | _ | _ | i <;> rw [hi] at hc <;> simp at hc

theorem keepW {w W v : World} {R : Obj} {y z u : Value} {xb : Nat} (hx : xb < w.heap.size) (h : Upd (· = xb) w W ∧ W.heap[w.heap.size + 1]? = some R ∧ W.cell? ⟨w.heap.size, 3, none⟩ = some y ∧ W.cell? ⟨w.heap.size + 1, 4, none⟩ = some z ∧ W.cell? ⟨w.heap.size, 5, none⟩ = some u) (hu : Upd (· = xb) W v) :
    Upd (· = xb) w v ∧ v.heap[w.heap.size + 1]? = some R ∧ v.cell? ⟨w.heap.size, 3, none⟩ = some y ∧ v.cell? ⟨w.heap.size + 1, 4, none⟩ = some z ∧ v.cell? ⟨w.heap.size, 5, none⟩ = some u :=
  ⟨h.1.trans hu, hu.heap h.2.1 (by omega), hu.cellS h.2.2.1 (by simp; omega), hu.cellS h.2.2.2.1 (by simp; omega), hu.cellS h.2.2.2.2 (by simp; omega)⟩
set_option maxRecDepth 100000 in
set_option maxHeartbeats 8000000 in
theorem file_write (w : World) (t bm : Nat) (L : Lay) (T : Tr) (hT : TreeAt w t bm L T) (ok : T.Ok) (o : OpV) (A : Option Addr) (c : Nat) (hp : o.path.size ≤ 9223372036854775807) (hg : Glob w) (hsm : T.Small) (hk : o.kind = 8) (ha0 : (T.find o.path).2 = 0) (hoff : 0 ≤ o.off) (hoff2 : (o.off.toNat + o.data.length : Nat) ≤ 2000) (n : Nd) (hn : look (T.find o.path).1 T.nodes = some n) (hk2 : n.kind ≠ 2) (hd0 : o.data ≠ []) (hD : ByteR w (.slice A o.data.length c) o.data) :
    Calls Tryz.prog 44 #[.pointer (some ⟨t, 0, none⟩), .agg (opCells o A c)] w fun e w' => e = .returned (.tuple #[replyV 0 0 0 0 o.data.length nilS nilS nilS, errV 0]) ∧ ∃ L', Moves w w' t bm L L' (T.setData (T.find o.path).1 n (splice (sizedL n.data (max n.data.length (o.off.toNat + o.data.length))) o.off.toNat o.data)) := by
  have HT := Lib.hid hT
  have HO := Lib.hid ok
  have HG := Lib.hid hg
  have hlt := hT.lt
  have hlt1 : t ≤ w.heap.size + 1 := by omega
  have hlt2 : t < w.heap.size + 1 + 1 := by omega
  have c0 := hT.c0
  have HUA : ∀ X, Hid (Upd (fun _ => False) w (w.alloc X)) := fun X => (Upd.refl _ _).alloc X
  have HHUA := Lib.hid HUA
  clear hT ok hg HUA
  unfold opCells
  obtain ⟨x, hx, hna, hpx⟩ := HT.out.node hn
  have x0 := HT.out.n0 hx
  have HPX := Lib.hid hpx
  have HX := Lib.hid hx
  have HNA := Lib.hid hna
  have HN := Lib.hid hn
  have E1 : Hid (errV (T.find o.path).2 = .nilIface) := by show errV _ = _; rw [ha0]; rfl
  have hxb : x.blk < w.heap.size := lt_of_heap hna.cells
  have hxb1 : x.blk ≤ w.heap.size + 1 := by omega
  have hxb2 : x.blk < w.heap.size + 1 + 1 := by omega
  have hsn := hsm _ _ hn
  have x1 := HT.out.n1 hx
  have hBR : ByteR w x.dv n.data := hna.bytes.byteR
  have HBR := Lib.hid hBR
  obtain ⟨off, hoffn⟩ : ∃ off : Nat, o.off = off := ⟨o.off.toNat, by omega⟩
  have b1 : (n.kind == 2) = false := beq_eq_false_iff_ne.2 hk2
  have b7 : (o.kind == 7) = false := beq_eq_false_iff_ne.2 (by omega)
  have b8 : (o.kind == 8) = true := beq_iff_eq.2 hk
  have b2 : decide (o.off < 0) = false := decide_eq_false (by omega)
  have b3 : decide (o.off > 2000) = false := decide_eq_false (by omega)
  have b4 : decide ((o.data.length : Int) > 2000 - o.off) = false := decide_eq_false (by omega)
  have hw : IntKind.i64.wrap (2000 - o.off) = 2000 - o.off := by rw [IntKind.wrap_i64]; omega
  have HDR := Lib.hid hD
  have hdl : 0 < o.data.length := List.length_pos_iff.2 hd0
  have b5 : decide ((o.data.length : Int) > 0) = true := decide_eq_true (by omega)
  have HDL := Lib.hid hdl
  have HOFF := Lib.hid hoffn
  have HSN := Lib.hid hsn
  have HOFF2 := Lib.hid hoff2
  have hw2 : IntKind.i64.wrap (o.off + (o.data.length : Int)) = o.off + (o.data.length : Int) := by rw [IntKind.wrap_i64]; omega
  obtain ⟨N, hN⟩ : ∃ N, N = max n.data.length (o.off.toNat + o.data.length) := ⟨_, rfl⟩
  have hmax : max (n.data.length : Int) (o.off + (o.data.length : Int)) = (N : Int) := by omega
  have HNP : Hid (0 < N) := Lib.hid (by omega)
  have HN2 : Hid (N ≤ 2000) := Lib.hid (by omega)
  have HNE := Lib.hid hN
  obtain ⟨ao, c0, hdv, hcap, _, _⟩ := hBR
  rw [hdv] at x1
  have HX1 := Lib.hid x1
  have HBR : Hid (ByteR w (.slice ao n.data.length c0) n.data) := by rw [← hdv]; exact HBR.out
  clear hsm hk ha0 hoff hoff2 hn hk2 hx hna hpx hsn hoffn hD hdl hd0 hN hcap
  go_enter Tryz.func44, Tryz.ntmps44
  go_wp2_with (first
    | (go_at_call 17; refine (find_calls _ _ _ _ _ (HT.out.upd (((HHUA.out _).out.alloc _)) (fun _ _ => id)) HO.out o.path hp (HG.out.upd (((HHUA.out _).out.alloc _)) (fun _ _ => id))).mono ?_; rintro e w1 ⟨rfl, hu1⟩; obtain ⟨hc1, hf1⟩ := bcellU hu1 (fun _ => id); have hz1 : w.heap.size + 2 ≤ w1.heap.size := (by have := hu1.size; (try simp at this); omega); have hy1 : w.heap.size < w1.heap.size := (by omega); have hv1 : w.heap.size + 1 < w1.heap.size := (by omega); have HR1 : Hid (w1.heap[w.heap.size + 1]? = some (.cells #[.int .i64 0, .int .i64 0, .int .i64 0, .int .i64 0, .int .i64 0, .slice none 0 0, .slice none 0 0, .slice none 0 0] 29 (0, 0))) := hu1.heap (by repeat (first | exact HR0.out | exact heap_second _ _ _ | refine heap_al ?_)) id; have ht1 : t < w1.heap.size := (by omega); have hbx1 : x.blk < w1.heap.size := (by omega); have HU1 : Hid (Upd (fun _ => False) w w1) := (((HHUA.out _).out.alloc _)).trans hu1; clear hu1; rw [E1.out])
    | (at_lookup; refine wpl_lookup _ (HT.out.upd (HU1.out) (fun _ _ => id)).map KeyOk.int HT.out.pkeys rfl _ _ 63 rfl Tryz.underlying63 Tryz.underlying3 (.pointer none) (zero72 _) rfl (T.find o.path).1 rfl (.pointer (some ⟨x.blk, 0, none⟩)) (by rw [HPX.out]; rfl) ?_)
    )
  have hS0 : Upd (· = x.blk) w (w1.setCell ⟨w.heap.size + 1, 4, none⟩ (.int .i64 (o.data.length : Int))) ∧ (w1.setCell ⟨w.heap.size + 1, 4, none⟩ (.int .i64 (o.data.length : Int))).heap[w.heap.size + 1]? = some (.cells #[.int .i64 0, .int .i64 0, .int .i64 0, .int .i64 0, .int .i64 (o.data.length : Int), .slice none 0 0, .slice none 0 0, .slice none 0 0] 29 (0, 0)) ∧ (w1.setCell ⟨w.heap.size + 1, 4, none⟩ (.int .i64 (o.data.length : Int))).cell? ⟨w.heap.size, 3, none⟩ = some (.int .i64 o.off) ∧ (w1.setCell ⟨w.heap.size + 1, 4, none⟩ (.int .i64 (o.data.length : Int))).cell? ⟨w.heap.size + 1, 4, none⟩ = some (.int .i64 (o.data.length : Int)) ∧ (w1.setCell ⟨w.heap.size + 1, 4, none⟩ (.int .i64 (o.data.length : Int))).cell? ⟨w.heap.size, 5, none⟩ = some (.slice A o.data.length c) := by
    refine ⟨(HU1.out.mono (fun _ _ q => q.elim)).setCell (p := ⟨w.heap.size + 1, 4, none⟩) (.inl (by show w.heap.size ≤ w.heap.size + 1; omega)) _, setCell_heap (i := 4) (v := .int .i64 (o.data.length : Int)) HR1.out, ?_, ?_, ?_⟩
    · exact (World.cell?_setCell_other _ _ _ _ (by intro q; injection q with q1 q2 q3; omega)).trans ((hc1 _ _ (by simp; omega)).trans (by go_simp))
    · exact (cell_of_heap (setCell_heap (i := 4) (v := .int .i64 (o.data.length : Int)) HR1.out) 4).trans rfl
    · exact (World.cell?_setCell_other _ _ _ _ (by intro q; injection q with q1 q2 q3; omega)).trans ((hc1 _ _ (by simp; omega)).trans (by go_simp))
  have HS0 := Lib.hid hS0
  clear hS0
  have HU1d : Hid (Upd (fun _ => False) w (w1.setCell ⟨w.heap.size + 1, 4, none⟩ (.int .i64 (o.data.length : Int))).drew) := (HU1.out.setCell (p := ⟨w.heap.size + 1, 4, none⟩) (.inl (by show w.heap.size ≤ w.heap.size + 1; omega)) _).drew
  refine wp_region_free 16 (by kernel_rfl) (by kernel_rfl) (fun _ _ _ _ h => h) (v0 := .pointer (some ⟨x.blk, 0, none⟩)) (by rfl) (fun W => by go_simp) ?_
  simp only [List.take_succ_cons, List.take_zero, List.drop_succ_cons, List.drop_zero, Act.put, List.setIfInBounds_toArray, List.set_cons_zero, List.set_cons_succ]
  repeat (refine wpVal_cons (v := _) (by rfl) (by first | (go_simp; done) | (go_simp; with_reducible rfl)) ?_; (try simp only [Act.put, List.setIfInBounds_toArray, List.set_cons_zero, List.set_cons_succ]))
  refine wpVal_nil ?_
  go_wp2_with (first
    | (go_at_call 70; refine (sized_calls _ _ _ (HBR.out.upd HU1d.out) N HSN.out HN2.out).mono ?_; rintro e w4 ⟨⟨v4, rfl, ho4⟩, hu4⟩; obtain ⟨g, cap, cur, hv4, hbg, hg4, hncap, hcm, hcs, htk⟩ := own_some ho4 HNP.out; rw [hv4]; clear hv4; have hfx : w4.frozen? ⟨x.blk, 1, none⟩ = false := frozen_of_heap ((HU1d.out.trans hu4).heap HNA.out.cells id) 1; have hcx := (HU1d.out.trans hu4).cellS (HX1.out) id; have HU4 := Lib.hid (HU1d.out.trans hu4); have HBG := Lib.hid hbg; have HG4 := Lib.hid hg4; have HNC := Lib.hid hncap; have HCM := Lib.hid hcm; have HCS := Lib.hid hcs; have HTK := Lib.hid htk; have hs4 := keepW hxb HS0.out ((Upd.refl _ _).drew.trans (hu4.mono (fun _ _ q => q.elim))); have HS4 := Lib.hid hs4; clear ho4 hbg hg4 hncap hcm hcs htk hu4 hs4))
  · have hS9 := keepW hxb HS4.out ((Upd.refl (· = x.blk) w4).setCell (p := ⟨x.blk, 1, none⟩) (.inr rfl) (.slice (some ⟨g, 0, none⟩) N cap))
    have hxg : x.blk ≠ g := by have := HBG.out; have := HU1d.out.size; omega
    have hwg : w.heap.size + 1 < g := by have := HBG.out; have hz := hz1; simp [World.setCell] at this; omega
    have hN5 : Hid ((w4.setCell ⟨x.blk, 1, none⟩ (.slice (some ⟨g, 0, none⟩) N cap)).heap[x.blk]? = some (.cells #[.int .i64 n.kind, .slice (some ⟨g, 0, none⟩) N cap, .map x.mb] 75 (0, 0))) := setCell_heap (i := 1) (v := .slice (some ⟨g, 0, none⟩) N cap) (HU4.out.heap HNA.out.cells id)
    have hG5 : Hid ((w4.setCell ⟨x.blk, 1, none⟩ (.slice (some ⟨g, 0, none⟩) N cap)).heap[g]? = some (.cells cur 5 (0, 0))) := (Below.heap_setCell _ _ _ _ (Ne.symm hxg)).trans HG4.out
    have hsz4 := HU4.out.size
    have hsz5 : w4.heap.size = (w4.setCell ⟨x.blk, 1, none⟩ (.slice (some ⟨g, 0, none⟩) N cap)).heap.size := by simp [World.setCell]
    rw [hsz5] at hsz4
    have HS9 := Lib.hid hS9
    clear hS9
    clear hfx hcx HG4 hc1 hf1 hsz5
    generalize w4.setCell ⟨x.blk, 1, none⟩ (.slice (some ⟨g, 0, none⟩) N cap) = w5 at *
    have c51 : w5.cell? ⟨x.blk, 1, none⟩ = some (.slice (some ⟨g, 0, none⟩) N cap) := (cell_of_heap hN5.out 1).trans rfl
    have c53 := HS9.out.2.2.1
    have c55 := HS9.out.2.2.2.2
    have hoN : o.off.toNat + o.data.length ≤ N := by have := HNE.out; omega
    obtain ⟨r2, hr2⟩ : ∃ r2, r2 = N - off := ⟨_, rfl⟩
    obtain ⟨c2, hc2⟩ : ∃ c2, c2 = cap - off := ⟨_, rfl⟩
    have hrun3 : ∀ W, (Instr.slice 22 (.slice (some ⟨g, 0, none⟩) N cap) (some (.int .i64 o.off)) none none).run Tryz.prog W = .ok (.slice (some ⟨g, off, none⟩) r2 c2) W := slice_own_from HOFF.out (by have := HDL.out; have := HOFF.out; omega) HNC.out hr2 hc2
    obtain ⟨ad, hA, had⟩ : ∃ ad, A = some ad ∧ ∀ j x, o.data[j]? = some x → w.cell? (ad.add j) = some (.int .u8 x) := by
      obtain ⟨ao9, c9, q1, q2, q3, q4⟩ := HDR.out
      injection q1 with q1a q1b q1c
      subst q1a
      cases A with
      | none => have := q3 rfl; have hz := HDL.out; rw [this] at hz; simp at hz
      | some ad => exact ⟨ad, rfl, q4 ad rfl⟩
    have hsrc : ∀ j v, (nums8 o.data)[j]? = some v → w5.drew.cell? (ad.add j) = some v := fun j v hj => by
      obtain ⟨u, hu, rfl⟩ := nums8_get hj
      have h1 := had j u hu
      exact HS9.out.1.drew.cellS h1 (not_node HNA.out h1)
    have HA9 := Lib.hid hA
    have HSRC := Lib.hid hsrc
    have HON := Lib.hid hoN
    have HR2 := Lib.hid hr2
    clear hA hsrc had hoN hr2 hc2
    go_wp2
    refine wp_region_still_tail 9 (by kernel_rfl) (by kernel_rfl) ?_; simp only [List.take_succ_cons, List.take_zero, List.drop_succ_cons, List.drop_zero]; change wpStill _ _ w5.drew _ _ _; repeat still_step
    refine wpStill_nil ?_
    rw [HA9.out]
    go_loud (refine wpList_copy_own rfl _ _ 22 22 rfl 5 Tryz.underlying22 (by kernel_rfl) g off r2 c2 ad o.data.length c rfl rfl cur 5 hG5.out (nums8 o.data) (by unfold nums8; rw [List.length_map]; have := HR2.out; have := HON.out; have := HOFF.out; show _ = min _ _; omega) HSRC.out (by unfold nums8; rw [List.length_map]; have := HON.out; have := HOFF.out; have := HNC.out; have := HCS.out; omega) (fun v hv => by obtain ⟨x, _, rfl⟩ := List.mem_map.1 hv; rfl) ?_)
    obtain ⟨X, hX⟩ : ∃ X, X = (List.take off cur.toList ++ (nums8 o.data ++ List.drop (off + (nums8 o.data).length) cur.toList)) := ⟨_, rfl⟩
    rw [← hX]
    have hrow6 := setRow_heap w5.drew g cur X.toArray 5 (0, 0) hG5.out
    have hu6 : Upd (· = g) w5 (w5.drew.setRow g X.toArray) := ⟨rfl, rfl, rfl, by simp [World.setRow], fun k _ hk => setRow_other w5.drew g k _ hk⟩
    have HROW := Lib.hid hrow6
    have HU6 := Lib.hid hu6
    have HX6 := Lib.hid hX
    clear hrow6 hu6 hX c51 c53 c55 hrun3
    change wpList _ _ _ _ _ (w5.drew.setRow g X.toArray)
    generalize w5.drew.setRow g X.toArray = w6 at HROW HU6 ⊢
    have HR6 := Lib.hid (HU6.out.heap HS9.out.2.1 (by omega))
    have HN6 := Lib.hid (HU6.out.heap hN5.out hxg)
    have hu06 : Upd (· = x.blk) w w6 := ⟨HU6.out.os.trans HS9.out.1.os, HU6.out.tape.trans HS9.out.1.tape, HU6.out.output.trans HS9.out.1.output, Nat.le_trans HS9.out.1.size HU6.out.size, fun i hi hf => (HU6.out.block i (Nat.lt_of_lt_of_le hi HS9.out.1.size) (by omega)).trans (HS9.out.1.block i hi hf)⟩
    have HU06 := Lib.hid hu06
    clear hu06
    have r6 := fun i => cell_of_heap (HR6.out) i; have r60 := (r6 0).trans rfl; have r61 := (r6 1).trans rfl; have r62 := (r6 2).trans rfl; have r63 := (r6 3).trans rfl; have r64 := (r6 4).trans rfl; have r65 := (r6 5).trans rfl; have r66 := (r6 6).trans rfl; have r67 := (r6 7).trans rfl; clear r6; simp only [List.getElem?_toArray, List.getElem?_cons_zero, List.getElem?_cons_succ] at r60 r61 r62 r63 r64 r65 r66 r67; have r6f := frozen_of_heap (HR6.out); have r6f0 := r6f 0; have r6f1 := r6f 1; have r6f2 := r6f 2; have r6f3 := r6f 3; have r6f4 := r6f 4; have r6f5 := r6f 5; have r6f6 := r6f 6; have r6f7 := r6f 7; clear r6f
    go_wp2
    have hoffn : o.off.toNat = off := by have := HOFF.out; omega
    have hfit : off + o.data.length ≤ N := by have := HON.out; omega
    have hsl : (sizedL n.data N).length = N := sizedL_length _ _
    have hlen : (splice (sizedL n.data N) off o.data).length = N := (length_splice _ _ _ (by rw [hsl]; exact hfit)).trans hsl
    have hbytes : BytesAt w6 (.slice (some ⟨g, 0, none⟩) N cap) (some g) (splice (sizedL n.data N) off o.data) := by
      refine .inr ⟨g, cap, rfl, fun q => ?_, by rw [hlen], ?_⟩
      · rw [q] at hlen; have := HNP.out; simp at hlen; omega
      · rw [hlen]
        refine ⟨by unfold nums8; rw [List.length_map, hlen, Nat.mul_one], .inr ⟨g, cap, X.toArray, rfl, Nat.zero_le _, HROW.out, HNC.out, HCM.out, ?_, ?_⟩⟩
        · rw [HX6.out]
          have := HCS.out
          have := HNC.out
          simp [nums8]
          omega
        · rw [nums8_splice, ← HTK.out, HX6.out]
          have h1 : (nums8 o.data).length = o.data.length := by simp [nums8]
          have := HCS.out
          have := HNC.out
          have h2 := take_splice cur.toList (nums8 o.data) off N (by rw [h1]; exact hfit) (by rw [Array.length_toList]; omega)
          simpa using h2
    have hmv := data_moves HT.out HX.out HU06.out HN6.out hbytes (fun g' q => by cases q; omega)
    have HMV := Lib.hid hmv
    clear hmv hbytes
    have hb8 := heap8 (v0 := .int .i64 0) (v1 := .int .i64 0) (v2 := .int .i64 0) (v3 := .int .i64 0) (v4 := .int .i64 (o.data.length : Int)) (v5 := .slice none 0 0) (v6 := .slice none 0 0) (v7 := .slice none 0 0) HR6.out
    refine bodyPost_ret (resultsR Tryz.results44 rfl rfl hb8) rfl ?_
    rw [← HNE.out, hoffn]
    exact ⟨rfl, _, HMV.out.postNew ((Upd.refl (· = w.heap.size + 1) w6).set8b (b := w.heap.size + 1) rfl) (fun q => by
      rcases fp_set q with q | q
      · have := HT.out.fplt _ q; omega
      · simp only [NL.fp, List.mem_cons, List.mem_append, Option.mem_toList] at q
        rcases q with q | q | q
        · omega
        · injection q with q; omega
        · have := HNA.out.lt (w.heap.size + 1) (by simp [NL.fp, q]); omega) (by omega)⟩
end Go.Proofs.YtggfepgablfbhaaGreatDoor
