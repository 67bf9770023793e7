/- Walk of tree.file. -/
import Derived.Test.YtggfepgablfbhaaGreatDoorSized
namespace Go.Proofs.YtggfepgablfbhaaGreatDoor
open Go.RowKit

/-- A reply's datum. -/
structure RepV where
  ino : Int
  kind : Int
  size : Int
  links : Int
  n : Int
  data : List Int
  names : List ByteArray
def zeroRep : RepV := ⟨0, 0, 0, 0, 0, [], []⟩
def Tr.setData (T : Tr) (k : Int) (x : Nd) (d : List Int) : Tr := { T with nodes := setNode k { x with data := d } T.nodes }
def Tr.Small (T : Tr) : Prop := ∀ k n, look k T.nodes = some n → n.data.length ≤ 2000
def Tr.file (T : Tr) (o : OpV) : Int × RepV × Tr :=
  if (T.find o.path).2 ≠ 0 then ((T.find o.path).2, zeroRep, T) else
  match look (T.find o.path).1 T.nodes with
  | none => (5, zeroRep, T)
  | some x => if x.kind = 2 then (7, zeroRep, T) else
    if o.kind = 7 then (if o.off < 0 ∨ o.n < 0 then (12, zeroRep, T) else (0, { zeroRep with data := (x.data.drop o.off.toNat).take o.n.toNat }, T))
    else if o.kind = 8 then (if o.off < 0 ∨ o.off > 2000 ∨ (o.data.length : Int) > 2000 - o.off then (12, zeroRep, T) else if o.data = [] then (0, zeroRep, T) else (0, { zeroRep with n := o.data.length }, T.setData (T.find o.path).1 x (splice (sizedL x.data (max x.data.length (o.off.toNat + o.data.length))) o.off.toNat o.data)))
    else (if o.n < 0 ∨ o.n > 2000 then (12, zeroRep, T) else (0, zeroRep, T.setData (T.find o.path).1 x (sizedL x.data o.n.toNat)))

set_option maxRecDepth 100000 in
set_option maxHeartbeats 8000000 in
theorem file_err (w : World) (t bm : Nat) (L : Lay) (T : Tr) (hT : TreeAt w t bm L T) (ok : T.Ok) (o : OpV) (A : Option Addr) (c : Nat) (hp : o.path.size ≤ 9223372036854775807) (hg : Glob w) (hk : o.kind = 7 ∨ o.kind = 8 ∨ o.kind = 9) (_hlen : o.data.length ≤ 1000000) (hce : (T.file o).1 ≠ 0) :
    Calls Tryz.prog 44 #[.pointer (some ⟨t, 0, none⟩), .agg (opCells o A c)] w fun e w' => e = .returned (.tuple #[zeroReply, errV (T.file o).1]) ∧ Upd (fun _ => False) w w' := by
  have HT := Lib.hid hT
  have HO := Lib.hid ok
  have HG := Lib.hid hg
  have hlt := hT.lt
  have hlt1 : t ≤ w.heap.size + 1 := by omega
  have hlt2 : t < w.heap.size + 1 + 1 := by omega
  have c0 := hT.c0
  have HUA : ∀ X, Hid (Upd (fun _ => False) w (w.alloc X)) := fun X => (Upd.refl _ _).alloc X
  have HHUA := Lib.hid HUA
  clear hT ok hg HUA
  unfold opCells
  by_cases ha : (T.find o.path).2 ≠ 0
  · have HQ : Hid ((T.file o).1 = (T.find o.path).2) := by show _ = _; unfold Tr.file; rw [if_pos ha]
    have E1 := Lib.hid (errV_pos ha)
    clear ha hce hk
    go_enter Tryz.func44, Tryz.ntmps44
    go_wp2_with (first
    | (go_at_call 17; refine (find_calls _ _ _ _ _ (HT.out.upd (((HHUA.out _).out.alloc _)) (fun _ _ => id)) HO.out o.path hp (HG.out.upd (((HHUA.out _).out.alloc _)) (fun _ _ => id))).mono ?_; rintro e w1 ⟨rfl, hu1⟩; obtain ⟨hc1, hf1⟩ := bcellU hu1 (fun _ => id); have hz1 : w.heap.size + 2 ≤ w1.heap.size := (by have := hu1.size; (try simp at this); omega); have hy1 : w.heap.size < w1.heap.size := (by omega); have hv1 : w.heap.size + 1 < w1.heap.size := (by omega); have HR1 : Hid (w1.heap[w.heap.size + 1]? = some (.cells #[.int .i64 0, .int .i64 0, .int .i64 0, .int .i64 0, .int .i64 0, .slice none 0 0, .slice none 0 0, .slice none 0 0] 29 (0, 0))) := hu1.heap (by repeat (first | exact HR0.out | exact heap_second _ _ _ | refine heap_al ?_)) id; have ht1 : t < w1.heap.size := (by omega); have HU1 : Hid (Upd (fun _ => False) w w1) := (((HHUA.out _).out.alloc _)).trans hu1; clear hu1; rw [E1.out])
    )
    have hb8 := heap8 (v0 := .int .i64 0) (v1 := .int .i64 0) (v2 := .int .i64 0) (v3 := .int .i64 0) (v4 := .int .i64 0) (v5 := .slice none 0 0) (v6 := .slice none 0 0) (v7 := .slice none 0 0) HR1.out
    have hu8 := (HU1.out).set8 (b := w.heap.size + 1) (v0 := .int .i64 0) (v1 := .int .i64 0) (v2 := .int .i64 0) (v3 := .int .i64 0) (v4 := .int .i64 0) (v5 := .slice none 0 0) (v6 := .slice none 0 0) (v7 := .slice none 0 0) (by omega)
    refine bodyPost_ret (resultsR Tryz.results44 rfl rfl hb8) rfl ?_
    rw [HQ.out, E1.out]
    exact ⟨rfl, hu8⟩
  have ha0 : (T.find o.path).2 = 0 := by simpa using ha
  obtain ⟨n, hn⟩ := find_ok HO.out ha0
  obtain ⟨x, hx, hna, hpx⟩ := HT.out.node hn
  have x0 := HT.out.n0 hx
  have HPX := Lib.hid hpx
  have HX := Lib.hid hx
  have HNA := Lib.hid hna
  have HN := Lib.hid hn
  have E1 : Hid (errV (T.find o.path).2 = .nilIface) := by show errV _ = _; rw [ha0]; rfl
  have hxb : x.blk < w.heap.size := lt_of_heap hna.cells
  have hxb1 : x.blk ≤ w.heap.size + 1 := by omega
  have hxb2 : x.blk < w.heap.size + 1 + 1 := by omega
  have HP : Hid (T.file o = if n.kind = 2 then (7, zeroRep, T) else
    if o.kind = 7 then (if o.off < 0 ∨ o.n < 0 then (12, zeroRep, T) else (0, { zeroRep with data := (n.data.drop o.off.toNat).take o.n.toNat }, T))
    else if o.kind = 8 then (if o.off < 0 ∨ o.off > 2000 ∨ (o.data.length : Int) > 2000 - o.off then (12, zeroRep, T) else if o.data = [] then (0, zeroRep, T) else (0, { zeroRep with n := o.data.length }, T.setData (T.find o.path).1 n (splice (sizedL n.data (max n.data.length (o.off.toNat + o.data.length))) o.off.toNat o.data)))
    else (if o.n < 0 ∨ o.n > 2000 then (12, zeroRep, T) else (0, zeroRep, T.setData (T.find o.path).1 n (sizedL n.data o.n.toNat)))) := by show _ = _; unfold Tr.file; rw [if_neg ha, hn]
  clear ha ha0 hn hx hna hpx
  by_cases hk2 : n.kind = 2
  · have HQ : Hid ((T.file o).1 = 7) := by show _ = _; rw [HP.out, if_pos hk2]
    have b1 : (n.kind == 2) = true := beq_iff_eq.2 hk2
    clear hk2 hce hk
    go_enter Tryz.func44, Tryz.ntmps44
    go_wp2_with (first
    | (go_at_call 17; refine (find_calls _ _ _ _ _ (HT.out.upd (((HHUA.out _).out.alloc _)) (fun _ _ => id)) HO.out o.path hp (HG.out.upd (((HHUA.out _).out.alloc _)) (fun _ _ => id))).mono ?_; rintro e w1 ⟨rfl, hu1⟩; obtain ⟨hc1, hf1⟩ := bcellU hu1 (fun _ => id); have hz1 : w.heap.size + 2 ≤ w1.heap.size := (by have := hu1.size; (try simp at this); omega); have hy1 : w.heap.size < w1.heap.size := (by omega); have hv1 : w.heap.size + 1 < w1.heap.size := (by omega); have HR1 : Hid (w1.heap[w.heap.size + 1]? = some (.cells #[.int .i64 0, .int .i64 0, .int .i64 0, .int .i64 0, .int .i64 0, .slice none 0 0, .slice none 0 0, .slice none 0 0] 29 (0, 0))) := hu1.heap (by repeat (first | exact HR0.out | exact heap_second _ _ _ | refine heap_al ?_)) id; have ht1 : t < w1.heap.size := (by omega); have hbx1 : x.blk < w1.heap.size := (by omega); have HU1 : Hid (Upd (fun _ => False) w w1) := (((HHUA.out _).out.alloc _)).trans hu1; clear hu1; rw [E1.out])
    | (at_lookup; refine wpl_lookup _ (HT.out.upd (HU1.out) (fun _ _ => id)).map KeyOk.int HT.out.pkeys rfl _ _ 63 rfl Tryz.underlying63 Tryz.underlying3 (.pointer none) (zero72 _) rfl (T.find o.path).1 rfl (.pointer (some ⟨x.blk, 0, none⟩)) (by rw [HPX.out]; rfl) ?_)
    )
    have hb8 := heap8 (v0 := .int .i64 0) (v1 := .int .i64 0) (v2 := .int .i64 0) (v3 := .int .i64 0) (v4 := .int .i64 0) (v5 := .slice none 0 0) (v6 := .slice none 0 0) (v7 := .slice none 0 0) HR1.out
    have hu8 := (HU1.out).set8 (b := w.heap.size + 1) (v0 := .int .i64 0) (v1 := .int .i64 0) (v2 := .int .i64 0) (v3 := .int .i64 0) (v4 := .int .i64 0) (v5 := .slice none 0 0) (v6 := .slice none 0 0) (v7 := .slice none 0 0) (by omega)
    refine bodyPost_ret (resultsR Tryz.results44 rfl rfl hb8) rfl ?_
    rw [HQ.out]
    exact ⟨rfl, hu8⟩
  have b1 : (n.kind == 2) = false := beq_eq_false_iff_ne.2 hk2
  rcases hk with hk | hk | hk
  · have b7 : (o.kind == 7) = true := beq_iff_eq.2 hk
    have hce' := hce
    rw [HP.out, if_neg hk2, if_pos hk] at hce'
    have hbad : o.off < 0 ∨ o.n < 0 := by
      rcases Decidable.em (o.off < 0 ∨ o.n < 0) with q | q
      · exact q
      · rw [if_neg q] at hce'; exact absurd rfl hce'
    have HQ : Hid ((T.file o).1 = 12) := by show _ = _; rw [HP.out, if_neg hk2, if_pos hk, if_pos hbad]
    clear hce hce' hk hk2
    by_cases hoff : o.off < 0
    · have b2 : decide (o.off < 0) = true := decide_eq_true hoff
      clear hbad hoff
      go_enter Tryz.func44, Tryz.ntmps44
      go_wp2_with (first
    | (go_at_call 17; refine (find_calls _ _ _ _ _ (HT.out.upd (((HHUA.out _).out.alloc _)) (fun _ _ => id)) HO.out o.path hp (HG.out.upd (((HHUA.out _).out.alloc _)) (fun _ _ => id))).mono ?_; rintro e w1 ⟨rfl, hu1⟩; obtain ⟨hc1, hf1⟩ := bcellU hu1 (fun _ => id); have hz1 : w.heap.size + 2 ≤ w1.heap.size := (by have := hu1.size; (try simp at this); omega); have hy1 : w.heap.size < w1.heap.size := (by omega); have hv1 : w.heap.size + 1 < w1.heap.size := (by omega); have HR1 : Hid (w1.heap[w.heap.size + 1]? = some (.cells #[.int .i64 0, .int .i64 0, .int .i64 0, .int .i64 0, .int .i64 0, .slice none 0 0, .slice none 0 0, .slice none 0 0] 29 (0, 0))) := hu1.heap (by repeat (first | exact HR0.out | exact heap_second _ _ _ | refine heap_al ?_)) id; have ht1 : t < w1.heap.size := (by omega); have hbx1 : x.blk < w1.heap.size := (by omega); have HU1 : Hid (Upd (fun _ => False) w w1) := (((HHUA.out _).out.alloc _)).trans hu1; clear hu1; rw [E1.out])
    | (at_lookup; refine wpl_lookup _ (HT.out.upd (HU1.out) (fun _ _ => id)).map KeyOk.int HT.out.pkeys rfl _ _ 63 rfl Tryz.underlying63 Tryz.underlying3 (.pointer none) (zero72 _) rfl (T.find o.path).1 rfl (.pointer (some ⟨x.blk, 0, none⟩)) (by rw [HPX.out]; rfl) ?_)
    )
      have hb8 := heap8 (v0 := .int .i64 0) (v1 := .int .i64 0) (v2 := .int .i64 0) (v3 := .int .i64 0) (v4 := .int .i64 0) (v5 := .slice none 0 0) (v6 := .slice none 0 0) (v7 := .slice none 0 0) HR1.out
      have hu8 := (HU1.out).set8 (b := w.heap.size + 1) (v0 := .int .i64 0) (v1 := .int .i64 0) (v2 := .int .i64 0) (v3 := .int .i64 0) (v4 := .int .i64 0) (v5 := .slice none 0 0) (v6 := .slice none 0 0) (v7 := .slice none 0 0) (by omega)
      refine bodyPost_ret (resultsR Tryz.results44 rfl rfl hb8) rfl ?_
      rw [HQ.out]
      exact ⟨rfl, hu8⟩
    · have b2 : decide (o.off < 0) = false := decide_eq_false hoff
      have b3 : decide (o.n < 0) = true := decide_eq_true (hbad.resolve_left hoff)
      clear hbad hoff
      go_enter Tryz.func44, Tryz.ntmps44
      go_wp2_with (first
    | (go_at_call 17; refine (find_calls _ _ _ _ _ (HT.out.upd (((HHUA.out _).out.alloc _)) (fun _ _ => id)) HO.out o.path hp (HG.out.upd (((HHUA.out _).out.alloc _)) (fun _ _ => id))).mono ?_; rintro e w1 ⟨rfl, hu1⟩; obtain ⟨hc1, hf1⟩ := bcellU hu1 (fun _ => id); have hz1 : w.heap.size + 2 ≤ w1.heap.size := (by have := hu1.size; (try simp at this); omega); have hy1 : w.heap.size < w1.heap.size := (by omega); have hv1 : w.heap.size + 1 < w1.heap.size := (by omega); have HR1 : Hid (w1.heap[w.heap.size + 1]? = some (.cells #[.int .i64 0, .int .i64 0, .int .i64 0, .int .i64 0, .int .i64 0, .slice none 0 0, .slice none 0 0, .slice none 0 0] 29 (0, 0))) := hu1.heap (by repeat (first | exact HR0.out | exact heap_second _ _ _ | refine heap_al ?_)) id; have ht1 : t < w1.heap.size := (by omega); have hbx1 : x.blk < w1.heap.size := (by omega); have HU1 : Hid (Upd (fun _ => False) w w1) := (((HHUA.out _).out.alloc _)).trans hu1; clear hu1; rw [E1.out])
    | (at_lookup; refine wpl_lookup _ (HT.out.upd (HU1.out) (fun _ _ => id)).map KeyOk.int HT.out.pkeys rfl _ _ 63 rfl Tryz.underlying63 Tryz.underlying3 (.pointer none) (zero72 _) rfl (T.find o.path).1 rfl (.pointer (some ⟨x.blk, 0, none⟩)) (by rw [HPX.out]; rfl) ?_)
    )
      have hb8 := heap8 (v0 := .int .i64 0) (v1 := .int .i64 0) (v2 := .int .i64 0) (v3 := .int .i64 0) (v4 := .int .i64 0) (v5 := .slice none 0 0) (v6 := .slice none 0 0) (v7 := .slice none 0 0) HR1.out
      have hu8 := (HU1.out).set8 (b := w.heap.size + 1) (v0 := .int .i64 0) (v1 := .int .i64 0) (v2 := .int .i64 0) (v3 := .int .i64 0) (v4 := .int .i64 0) (v5 := .slice none 0 0) (v6 := .slice none 0 0) (v7 := .slice none 0 0) (by omega)
      refine bodyPost_ret (resultsR Tryz.results44 rfl rfl hb8) rfl ?_
      rw [HQ.out]
      exact ⟨rfl, hu8⟩
  · have b7 : (o.kind == 7) = false := beq_eq_false_iff_ne.2 (by omega)
    have b8 : (o.kind == 8) = true := beq_iff_eq.2 hk
    have hce' := hce
    rw [HP.out, if_neg hk2, if_neg (by omega), if_pos hk] at hce'
    have hbad : o.off < 0 ∨ o.off > 2000 ∨ (o.data.length : Int) > 2000 - o.off := by
      rcases Decidable.em (o.off < 0 ∨ o.off > 2000 ∨ (o.data.length : Int) > 2000 - o.off) with q | q
      · exact q
      · rw [if_neg q] at hce'; split at hce' <;> exact absurd rfl hce'
    have HQ : Hid ((T.file o).1 = 12) := by show _ = _; rw [HP.out, if_neg hk2, if_neg (by omega), if_pos hk, if_pos hbad]
    clear hce hce' hk hk2
    by_cases hoff : o.off < 0
    · have b2 : decide (o.off < 0) = true := decide_eq_true hoff
      clear hbad hoff
      go_enter Tryz.func44, Tryz.ntmps44
      go_wp2_with (first
    | (go_at_call 17; refine (find_calls _ _ _ _ _ (HT.out.upd (((HHUA.out _).out.alloc _)) (fun _ _ => id)) HO.out o.path hp (HG.out.upd (((HHUA.out _).out.alloc _)) (fun _ _ => id))).mono ?_; rintro e w1 ⟨rfl, hu1⟩; obtain ⟨hc1, hf1⟩ := bcellU hu1 (fun _ => id); have hz1 : w.heap.size + 2 ≤ w1.heap.size := (by have := hu1.size; (try simp at this); omega); have hy1 : w.heap.size < w1.heap.size := (by omega); have hv1 : w.heap.size + 1 < w1.heap.size := (by omega); have HR1 : Hid (w1.heap[w.heap.size + 1]? = some (.cells #[.int .i64 0, .int .i64 0, .int .i64 0, .int .i64 0, .int .i64 0, .slice none 0 0, .slice none 0 0, .slice none 0 0] 29 (0, 0))) := hu1.heap (by repeat (first | exact HR0.out | exact heap_second _ _ _ | refine heap_al ?_)) id; have ht1 : t < w1.heap.size := (by omega); have hbx1 : x.blk < w1.heap.size := (by omega); have HU1 : Hid (Upd (fun _ => False) w w1) := (((HHUA.out _).out.alloc _)).trans hu1; clear hu1; rw [E1.out])
    | (at_lookup; refine wpl_lookup _ (HT.out.upd (HU1.out) (fun _ _ => id)).map KeyOk.int HT.out.pkeys rfl _ _ 63 rfl Tryz.underlying63 Tryz.underlying3 (.pointer none) (zero72 _) rfl (T.find o.path).1 rfl (.pointer (some ⟨x.blk, 0, none⟩)) (by rw [HPX.out]; rfl) ?_)
    )
      have hb8 := heap8 (v0 := .int .i64 0) (v1 := .int .i64 0) (v2 := .int .i64 0) (v3 := .int .i64 0) (v4 := .int .i64 0) (v5 := .slice none 0 0) (v6 := .slice none 0 0) (v7 := .slice none 0 0) HR1.out
      have hu8 := (HU1.out).set8 (b := w.heap.size + 1) (v0 := .int .i64 0) (v1 := .int .i64 0) (v2 := .int .i64 0) (v3 := .int .i64 0) (v4 := .int .i64 0) (v5 := .slice none 0 0) (v6 := .slice none 0 0) (v7 := .slice none 0 0) (by omega)
      refine bodyPost_ret (resultsR Tryz.results44 rfl rfl hb8) rfl ?_
      rw [HQ.out]
      exact ⟨rfl, hu8⟩
    by_cases hoff2 : o.off > 2000
    · have b2 : decide (o.off < 0) = false := decide_eq_false hoff
      have b3 : decide (o.off > 2000) = true := decide_eq_true hoff2
      clear hbad hoff hoff2
      go_enter Tryz.func44, Tryz.ntmps44
      go_wp2_with (first
    | (go_at_call 17; refine (find_calls _ _ _ _ _ (HT.out.upd (((HHUA.out _).out.alloc _)) (fun _ _ => id)) HO.out o.path hp (HG.out.upd (((HHUA.out _).out.alloc _)) (fun _ _ => id))).mono ?_; rintro e w1 ⟨rfl, hu1⟩; obtain ⟨hc1, hf1⟩ := bcellU hu1 (fun _ => id); have hz1 : w.heap.size + 2 ≤ w1.heap.size := (by have := hu1.size; (try simp at this); omega); have hy1 : w.heap.size < w1.heap.size := (by omega); have hv1 : w.heap.size + 1 < w1.heap.size := (by omega); have HR1 : Hid (w1.heap[w.heap.size + 1]? = some (.cells #[.int .i64 0, .int .i64 0, .int .i64 0, .int .i64 0, .int .i64 0, .slice none 0 0, .slice none 0 0, .slice none 0 0] 29 (0, 0))) := hu1.heap (by repeat (first | exact HR0.out | exact heap_second _ _ _ | refine heap_al ?_)) id; have ht1 : t < w1.heap.size := (by omega); have hbx1 : x.blk < w1.heap.size := (by omega); have HU1 : Hid (Upd (fun _ => False) w w1) := (((HHUA.out _).out.alloc _)).trans hu1; clear hu1; rw [E1.out])
    | (at_lookup; refine wpl_lookup _ (HT.out.upd (HU1.out) (fun _ _ => id)).map KeyOk.int HT.out.pkeys rfl _ _ 63 rfl Tryz.underlying63 Tryz.underlying3 (.pointer none) (zero72 _) rfl (T.find o.path).1 rfl (.pointer (some ⟨x.blk, 0, none⟩)) (by rw [HPX.out]; rfl) ?_)
    )
      have hb8 := heap8 (v0 := .int .i64 0) (v1 := .int .i64 0) (v2 := .int .i64 0) (v3 := .int .i64 0) (v4 := .int .i64 0) (v5 := .slice none 0 0) (v6 := .slice none 0 0) (v7 := .slice none 0 0) HR1.out
      have hu8 := (HU1.out).set8 (b := w.heap.size + 1) (v0 := .int .i64 0) (v1 := .int .i64 0) (v2 := .int .i64 0) (v3 := .int .i64 0) (v4 := .int .i64 0) (v5 := .slice none 0 0) (v6 := .slice none 0 0) (v7 := .slice none 0 0) (by omega)
      refine bodyPost_ret (resultsR Tryz.results44 rfl rfl hb8) rfl ?_
      rw [HQ.out]
      exact ⟨rfl, hu8⟩
    · have b2 : decide (o.off < 0) = false := decide_eq_false hoff
      have b3 : decide (o.off > 2000) = false := decide_eq_false hoff2
      have hb4 : (o.data.length : Int) > 2000 - o.off := (hbad.resolve_left hoff).resolve_left hoff2
      have b4 : decide ((o.data.length : Int) > 2000 - o.off) = true := decide_eq_true hb4
      have hw : IntKind.i64.wrap (2000 - o.off) = 2000 - o.off := by rw [IntKind.wrap_i64]; omega
      clear hbad hoff hoff2 hb4
      go_enter Tryz.func44, Tryz.ntmps44
      go_wp2_with (first
    | (go_at_call 17; refine (find_calls _ _ _ _ _ (HT.out.upd (((HHUA.out _).out.alloc _)) (fun _ _ => id)) HO.out o.path hp (HG.out.upd (((HHUA.out _).out.alloc _)) (fun _ _ => id))).mono ?_; rintro e w1 ⟨rfl, hu1⟩; obtain ⟨hc1, hf1⟩ := bcellU hu1 (fun _ => id); have hz1 : w.heap.size + 2 ≤ w1.heap.size := (by have := hu1.size; (try simp at this); omega); have hy1 : w.heap.size < w1.heap.size := (by omega); have hv1 : w.heap.size + 1 < w1.heap.size := (by omega); have HR1 : Hid (w1.heap[w.heap.size + 1]? = some (.cells #[.int .i64 0, .int .i64 0, .int .i64 0, .int .i64 0, .int .i64 0, .slice none 0 0, .slice none 0 0, .slice none 0 0] 29 (0, 0))) := hu1.heap (by repeat (first | exact HR0.out | exact heap_second _ _ _ | refine heap_al ?_)) id; have ht1 : t < w1.heap.size := (by omega); have hbx1 : x.blk < w1.heap.size := (by omega); have HU1 : Hid (Upd (fun _ => False) w w1) := (((HHUA.out _).out.alloc _)).trans hu1; clear hu1; rw [E1.out])
    | (at_lookup; refine wpl_lookup _ (HT.out.upd (HU1.out) (fun _ _ => id)).map KeyOk.int HT.out.pkeys rfl _ _ 63 rfl Tryz.underlying63 Tryz.underlying3 (.pointer none) (zero72 _) rfl (T.find o.path).1 rfl (.pointer (some ⟨x.blk, 0, none⟩)) (by rw [HPX.out]; rfl) ?_)
    )
      have hb8 := heap8 (v0 := .int .i64 0) (v1 := .int .i64 0) (v2 := .int .i64 0) (v3 := .int .i64 0) (v4 := .int .i64 0) (v5 := .slice none 0 0) (v6 := .slice none 0 0) (v7 := .slice none 0 0) HR1.out
      have hu8 := (HU1.out).set8 (b := w.heap.size + 1) (v0 := .int .i64 0) (v1 := .int .i64 0) (v2 := .int .i64 0) (v3 := .int .i64 0) (v4 := .int .i64 0) (v5 := .slice none 0 0) (v6 := .slice none 0 0) (v7 := .slice none 0 0) (by omega)
      refine bodyPost_ret (resultsR Tryz.results44 rfl rfl hb8) rfl ?_
      rw [HQ.out]
      exact ⟨rfl, hu8⟩
  · have b7 : (o.kind == 7) = false := beq_eq_false_iff_ne.2 (by omega)
    have b8 : (o.kind == 8) = false := beq_eq_false_iff_ne.2 (by omega)
    have b9 : (o.kind == 9) = true := beq_iff_eq.2 hk
    have hce' := hce
    rw [HP.out, if_neg hk2, if_neg (by omega), if_neg (by omega)] at hce'
    have hbad : o.n < 0 ∨ o.n > 2000 := by
      rcases Decidable.em (o.n < 0 ∨ o.n > 2000) with q | q
      · exact q
      · rw [if_neg q] at hce'; exact absurd rfl hce'
    have HQ : Hid ((T.file o).1 = 12) := by show _ = _; rw [HP.out, if_neg hk2, if_neg (by omega), if_neg (by omega), if_pos hbad]
    clear hce hce' hk hk2
    by_cases hoff : o.n < 0
    · have b2 : decide (o.n < 0) = true := decide_eq_true hoff
      clear hbad hoff
      go_enter Tryz.func44, Tryz.ntmps44
      go_wp2_with (first
    | (go_at_call 17; refine (find_calls _ _ _ _ _ (HT.out.upd (((HHUA.out _).out.alloc _)) (fun _ _ => id)) HO.out o.path hp (HG.out.upd (((HHUA.out _).out.alloc _)) (fun _ _ => id))).mono ?_; rintro e w1 ⟨rfl, hu1⟩; obtain ⟨hc1, hf1⟩ := bcellU hu1 (fun _ => id); have hz1 : w.heap.size + 2 ≤ w1.heap.size := (by have := hu1.size; (try simp at this); omega); have hy1 : w.heap.size < w1.heap.size := (by omega); have hv1 : w.heap.size + 1 < w1.heap.size := (by omega); have HR1 : Hid (w1.heap[w.heap.size + 1]? = some (.cells #[.int .i64 0, .int .i64 0, .int .i64 0, .int .i64 0, .int .i64 0, .slice none 0 0, .slice none 0 0, .slice none 0 0] 29 (0, 0))) := hu1.heap (by repeat (first | exact HR0.out | exact heap_second _ _ _ | refine heap_al ?_)) id; have ht1 : t < w1.heap.size := (by omega); have hbx1 : x.blk < w1.heap.size := (by omega); have HU1 : Hid (Upd (fun _ => False) w w1) := (((HHUA.out _).out.alloc _)).trans hu1; clear hu1; rw [E1.out])
    | (at_lookup; refine wpl_lookup _ (HT.out.upd (HU1.out) (fun _ _ => id)).map KeyOk.int HT.out.pkeys rfl _ _ 63 rfl Tryz.underlying63 Tryz.underlying3 (.pointer none) (zero72 _) rfl (T.find o.path).1 rfl (.pointer (some ⟨x.blk, 0, none⟩)) (by rw [HPX.out]; rfl) ?_)
    )
      have hb8 := heap8 (v0 := .int .i64 0) (v1 := .int .i64 0) (v2 := .int .i64 0) (v3 := .int .i64 0) (v4 := .int .i64 0) (v5 := .slice none 0 0) (v6 := .slice none 0 0) (v7 := .slice none 0 0) HR1.out
      have hu8 := (HU1.out).set8 (b := w.heap.size + 1) (v0 := .int .i64 0) (v1 := .int .i64 0) (v2 := .int .i64 0) (v3 := .int .i64 0) (v4 := .int .i64 0) (v5 := .slice none 0 0) (v6 := .slice none 0 0) (v7 := .slice none 0 0) (by omega)
      refine bodyPost_ret (resultsR Tryz.results44 rfl rfl hb8) rfl ?_
      rw [HQ.out]
      exact ⟨rfl, hu8⟩
    · have b2 : decide (o.n < 0) = false := decide_eq_false hoff
      have b3 : decide (o.n > 2000) = true := decide_eq_true (hbad.resolve_left hoff)
      clear hbad hoff
      go_enter Tryz.func44, Tryz.ntmps44
      go_wp2_with (first
    | (go_at_call 17; refine (find_calls _ _ _ _ _ (HT.out.upd (((HHUA.out _).out.alloc _)) (fun _ _ => id)) HO.out o.path hp (HG.out.upd (((HHUA.out _).out.alloc _)) (fun _ _ => id))).mono ?_; rintro e w1 ⟨rfl, hu1⟩; obtain ⟨hc1, hf1⟩ := bcellU hu1 (fun _ => id); have hz1 : w.heap.size + 2 ≤ w1.heap.size := (by have := hu1.size; (try simp at this); omega); have hy1 : w.heap.size < w1.heap.size := (by omega); have hv1 : w.heap.size + 1 < w1.heap.size := (by omega); have HR1 : Hid (w1.heap[w.heap.size + 1]? = some (.cells #[.int .i64 0, .int .i64 0, .int .i64 0, .int .i64 0, .int .i64 0, .slice none 0 0, .slice none 0 0, .slice none 0 0] 29 (0, 0))) := hu1.heap (by repeat (first | exact HR0.out | exact heap_second _ _ _ | refine heap_al ?_)) id; have ht1 : t < w1.heap.size := (by omega); have hbx1 : x.blk < w1.heap.size := (by omega); have HU1 : Hid (Upd (fun _ => False) w w1) := (((HHUA.out _).out.alloc _)).trans hu1; clear hu1; rw [E1.out])
    | (at_lookup; refine wpl_lookup _ (HT.out.upd (HU1.out) (fun _ _ => id)).map KeyOk.int HT.out.pkeys rfl _ _ 63 rfl Tryz.underlying63 Tryz.underlying3 (.pointer none) (zero72 _) rfl (T.find o.path).1 rfl (.pointer (some ⟨x.blk, 0, none⟩)) (by rw [HPX.out]; rfl) ?_)
    )
      have hb8 := heap8 (v0 := .int .i64 0) (v1 := .int .i64 0) (v2 := .int .i64 0) (v3 := .int .i64 0) (v4 := .int .i64 0) (v5 := .slice none 0 0) (v6 := .slice none 0 0) (v7 := .slice none 0 0) HR1.out
      have hu8 := (HU1.out).set8 (b := w.heap.size + 1) (v0 := .int .i64 0) (v1 := .int .i64 0) (v2 := .int .i64 0) (v3 := .int .i64 0) (v4 := .int .i64 0) (v5 := .slice none 0 0) (v6 := .slice none 0 0) (v7 := .slice none 0 0) (by omega)
      refine bodyPost_ret (resultsR Tryz.results44 rfl rfl hb8) rfl ?_
      rw [HQ.out]
      exact ⟨rfl, hu8⟩
end Go.Proofs.YtggfepgablfbhaaGreatDoor
