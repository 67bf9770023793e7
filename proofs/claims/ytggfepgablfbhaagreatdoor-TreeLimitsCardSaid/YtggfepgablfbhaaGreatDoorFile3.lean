/- Walk of tree.file, where it writes nothing. -/
import Derived.Test.YtggfepgablfbhaaGreatDoorFile2
namespace Go.Proofs.YtggfepgablfbhaaGreatDoor
open Go.RowKit
open Go.Lib
set_option maxRecDepth 100000 in
set_option maxHeartbeats 8000000 in
theorem file_nought (w : World) (t bm : Nat) (L : Lay) (T : Tr) (hT : TreeAt w t bm L T) (ok : T.Ok) (o : OpV) (A : Option Addr) (c : Nat) (hp : o.path.size ≤ 9223372036854775807) (hg : Glob w) (hsm : T.Small) (hk : o.kind = 8) (ha0 : (T.find o.path).2 = 0) (hoff : 0 ≤ o.off) (hoff2 : (o.off.toNat + o.data.length : Nat) ≤ 2000) (n : Nd) (hn : look (T.find o.path).1 T.nodes = some n) (hk2 : n.kind ≠ 2) (hd0 : o.data = []) :
    Calls Tryz.prog 44 #[.pointer (some ⟨t, 0, none⟩), .agg (opCells o A c)] w fun e w' => e = .returned (.tuple #[zeroReply, errV 0]) ∧ Upd (fun _ => False) w w' := by
  have HT := Lib.hid hT
  have HO := Lib.hid ok
  have HG := Lib.hid hg
  have hlt := hT.lt
  have hlt1 : t ≤ w.heap.size + 1 := by omega
  have hlt2 : t < w.heap.size + 1 + 1 := by omega
  have c0 := hT.c0
  have HUA : ∀ X, Hid (Upd (fun _ => False) w (w.alloc X)) := fun X => (Upd.refl _ _).alloc X
  have HHUA := Lib.hid HUA
  clear hT ok hg HUA
  unfold opCells
  obtain ⟨x, hx, hna, hpx⟩ := HT.out.node hn
  have x0 := HT.out.n0 hx
  have HPX := Lib.hid hpx
  have HX := Lib.hid hx
  have HNA := Lib.hid hna
  have HN := Lib.hid hn
  have E1 : Hid (errV (T.find o.path).2 = .nilIface) := by show errV _ = _; rw [ha0]; rfl
  have hxb : x.blk < w.heap.size := lt_of_heap hna.cells
  have hxb1 : x.blk ≤ w.heap.size + 1 := by omega
  have hxb2 : x.blk < w.heap.size + 1 + 1 := by omega
  have hsn := hsm _ _ hn
  have x1 := HT.out.n1 hx
  have hBR : ByteR w x.dv n.data := hna.bytes.byteR
  have HBR := Lib.hid hBR
  obtain ⟨off, hoffn⟩ : ∃ off : Nat, o.off = off := ⟨o.off.toNat, by omega⟩
  have b1 : (n.kind == 2) = false := beq_eq_false_iff_ne.2 hk2
  have b7 : (o.kind == 7) = false := beq_eq_false_iff_ne.2 (by omega)
  have b8 : (o.kind == 8) = true := beq_iff_eq.2 hk
  have b2 : decide (o.off < 0) = false := decide_eq_false (by omega)
  have b3 : decide (o.off > 2000) = false := decide_eq_false (by omega)
  have b4 : decide ((o.data.length : Int) > 2000 - o.off) = false := decide_eq_false (by omega)
  have hw : IntKind.i64.wrap (2000 - o.off) = 2000 - o.off := by rw [IntKind.wrap_i64]; omega
  rw [hd0]
  simp only [List.length_nil]
  clear b4
  have b4 : decide ((0 : Int) > 2000 - o.off) = false := decide_eq_false (by omega)
  clear hsm hk ha0 hoff hoff2 hn hk2 hx hna hpx hBR hsn hoffn hd0
  go_enter Tryz.func44, Tryz.ntmps44
  go_wp2_with (first
    | (go_at_call 17; refine (find_calls _ _ _ _ _ (HT.out.upd (((HHUA.out _).out.alloc _)) (fun _ _ => id)) HO.out o.path hp (HG.out.upd (((HHUA.out _).out.alloc _)) (fun _ _ => id))).mono ?_; rintro e w1 ⟨rfl, hu1⟩; obtain ⟨hc1, hf1⟩ := bcellU hu1 (fun _ => id); have hz1 : w.heap.size + 2 ≤ w1.heap.size := (by have := hu1.size; (try simp at this); omega); have hy1 : w.heap.size < w1.heap.size := (by omega); have hv1 : w.heap.size + 1 < w1.heap.size := (by omega); have HR1 : Hid (w1.heap[w.heap.size + 1]? = some (.cells #[.int .i64 0, .int .i64 0, .int .i64 0, .int .i64 0, .int .i64 0, .slice none 0 0, .slice none 0 0, .slice none 0 0] 29 (0, 0))) := hu1.heap (by repeat (first | exact HR0.out | exact heap_second _ _ _ | refine heap_al ?_)) id; have ht1 : t < w1.heap.size := (by omega); have hbx1 : x.blk < w1.heap.size := (by omega); have HU1 : Hid (Upd (fun _ => False) w w1) := (((HHUA.out _).out.alloc _)).trans hu1; clear hu1; rw [E1.out])
    | (at_lookup; refine wpl_lookup _ (HT.out.upd (HU1.out) (fun _ _ => id)).map KeyOk.int HT.out.pkeys rfl _ _ 63 rfl Tryz.underlying63 Tryz.underlying3 (.pointer none) (zero72 _) rfl (T.find o.path).1 rfl (.pointer (some ⟨x.blk, 0, none⟩)) (by rw [HPX.out]; rfl) ?_)
    )
  have HRX : Hid ((w1.setCell ⟨w.heap.size + 1, 4, none⟩ (.int .i64 0)).heap[w.heap.size + 1]? = some (.cells #[.int .i64 0, .int .i64 0, .int .i64 0, .int .i64 0, .int .i64 0, .slice none 0 0, .slice none 0 0, .slice none 0 0] 29 (0, 0))) := setCell_heap (i := 4) (v := .int .i64 0) HR1.out
  have hb8 := heap8 (v0 := .int .i64 0) (v1 := .int .i64 0) (v2 := .int .i64 0) (v3 := .int .i64 0) (v4 := .int .i64 0) (v5 := .slice none 0 0) (v6 := .slice none 0 0) (v7 := .slice none 0 0) HRX.out
  have hu8 := (HU1.out.setCell (p := ⟨w.heap.size + 1, 4, none⟩) (.inl (by show w.heap.size ≤ w.heap.size + 1; omega)) (.int .i64 0)).set8 (b := w.heap.size + 1) (v0 := .int .i64 0) (v1 := .int .i64 0) (v2 := .int .i64 0) (v3 := .int .i64 0) (v4 := .int .i64 0) (v5 := .slice none 0 0) (v6 := .slice none 0 0) (v7 := .slice none 0 0) (by omega)
  refine bodyPost_ret (resultsR Tryz.results44 rfl rfl hb8) rfl ?_
  skip
  exact ⟨rfl, hu8⟩

end Go.Proofs.YtggfepgablfbhaaGreatDoor
