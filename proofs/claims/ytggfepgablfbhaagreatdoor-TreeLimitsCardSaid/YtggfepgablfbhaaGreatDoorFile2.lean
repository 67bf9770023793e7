/- Walk of tree.file, where it reads. -/
import Derived.Test.YtggfepgablfbhaaGreatDoorFile
namespace Go.Proofs.YtggfepgablfbhaaGreatDoor
open Go.RowKit
open Go.Lib

/-- A reply in memory, in blocks of its own from B on, apart from F. -/
def ReplyAt (w : World) (B : Nat) (rv : Value) (r : RepV) (F : Nat → Prop) : Prop :=
  ∃ dv nv, rv = replyV r.ino r.kind r.size r.links r.n dv nv nilS ∧ w.ownsRow B 5 1 dv r.data.length (nums8 r.data) ∧ w.ownsRow B 9 1 nv r.names.length (r.names.map Value.string) ∧ (∀ g, dv.ownBlock = some g → ¬ F g) ∧ ∀ g, nv.ownBlock = some g → ¬ F g
theorem own_upd {w w' : World} {B B' : Nat} {e : TypeId} {z : Nat} {v : Value} {n : Nat} {xs : List Value} {F : Nat → Prop} (h : w.ownsRow B e z v n xs) (hu : Upd F w w') (hF : ∀ g, v.ownBlock = some g → ¬ F g) (hB : B' ≤ B) : w'.ownsRow B' e z v n xs := by
  refine ⟨h.1, ?_⟩
  rcases h.2 with q | ⟨g, cap, cur, rfl, hb, hg, r⟩
  · exact .inl q
  · exact .inr ⟨g, cap, cur, rfl, Nat.le_trans hB hb, hu.heap hg (hF g rfl), r⟩
theorem own_slice {w : World} {B : Nat} {e : TypeId} {z : Nat} {v : Value} {n : Nat} {xs : List Value} (h : w.ownsRow B e z v n xs) : ∃ A m c, v = .slice A m c := by
  rcases h.2 with ⟨rfl, _⟩ | ⟨g, cap, _, rfl, _⟩
  · exact ⟨_, _, _, rfl⟩
  · exact ⟨_, _, _, rfl⟩
theorem ReplyAt.zero (w : World) (B : Nat) (F : Nat → Prop) : ReplyAt w B zeroReply zeroRep F :=
  ⟨nilS, nilS, rfl, World.ownsRow_nil _ _ _ _, World.ownsRow_nil _ _ _ _, fun g q => (by cases q), fun g q => (by cases q)⟩
set_option maxRecDepth 100000 in
set_option maxHeartbeats 8000000 in
theorem file_read (w : World) (t bm : Nat) (L : Lay) (T : Tr) (hT : TreeAt w t bm L T) (ok : T.Ok) (o : OpV) (A : Option Addr) (c : Nat) (hp : o.path.size ≤ 9223372036854775807) (hg : Glob w) (hsm : T.Small) (hk : o.kind = 7) (_hce : (T.file o).1 = 0) (ha0 : (T.find o.path).2 = 0) (hoff : 0 ≤ o.off) (hn0 : 0 ≤ o.n) (n : Nd) (hn : look (T.find o.path).1 T.nodes = some n) (hk2 : n.kind ≠ 2) :
    Calls Tryz.prog 44 #[.pointer (some ⟨t, 0, none⟩), .agg (opCells o A c)] w fun e w' => ∃ rv, e = .returned (.tuple #[rv, errV 0]) ∧ ReplyAt w' w.heap.size rv { zeroRep with data := (n.data.drop o.off.toNat).take o.n.toNat } (· ∈ fpOf t bm L) ∧ Upd (fun _ => False) w w' := by
  have HT := Lib.hid hT
  have HO := Lib.hid ok
  have HG := Lib.hid hg
  have hlt := hT.lt
  have hlt1 : t ≤ w.heap.size + 1 := by omega
  have hlt2 : t < w.heap.size + 1 + 1 := by omega
  have c0 := hT.c0
  have HUA : ∀ X, Hid (Upd (fun _ => False) w (w.alloc X)) := fun X => (Upd.refl _ _).alloc X
  have HHUA := Lib.hid HUA
  clear hT ok hg HUA
  unfold opCells
  obtain ⟨x, hx, hna, hpx⟩ := HT.out.node hn
  have x0 := HT.out.n0 hx
  have HPX := Lib.hid hpx
  have HX := Lib.hid hx
  have HNA := Lib.hid hna
  have HN := Lib.hid hn
  have E1 : Hid (errV (T.find o.path).2 = .nilIface) := by show errV _ = _; rw [ha0]; rfl
  have hxb : x.blk < w.heap.size := lt_of_heap hna.cells
  have hxb1 : x.blk ≤ w.heap.size + 1 := by omega
  have hxb2 : x.blk < w.heap.size + 1 + 1 := by omega
  have hsn := hsm _ _ hn
  obtain ⟨ao, c0, hdv, hcap, hno, hcells⟩ := hna.bytes.byteR
  have x1 := HT.out.n1 hx
  rw [hdv] at x1
  have hR : ByteR w (.slice ao n.data.length c0) n.data := ⟨ao, c0, rfl, hcap, hno, hcells⟩
  obtain ⟨i0, hi, hz0, hz1, hz2⟩ := info_parts info_u8
  obtain ⟨k, hk1⟩ : ∃ k : Nat, min o.off (n.data.length : Int) = k := ⟨(min o.off (n.data.length : Int)).toNat, by omega⟩
  have hk3 : k ≤ n.data.length := by omega
  obtain ⟨a1, hrun1, hR1⟩ := slice_from Tryz.underlying22 hi hz1 hR k hk3
  obtain ⟨r, hr⟩ : ∃ r, r = n.data.length - k := ⟨_, rfl⟩
  obtain ⟨c1, hc1⟩ : ∃ c1, c1 = c0 - k := ⟨_, rfl⟩
  rw [← hr, ← hc1] at hrun1 hR1
  obtain ⟨m, hm1⟩ : ∃ m : Nat, min o.n (r : Int) = m := ⟨(min o.n (r : Int)).toNat, by omega⟩
  have hm3 : m ≤ r := by omega
  obtain ⟨hrun2, hR2⟩ := slice_to Tryz.underlying22 hi hz1 hR1 m hm3
  have HR2 : Hid (ByteR w (.slice a1 m c1) ((n.data.drop o.off.toNat).take o.n.toNat)) := by
    have e : (n.data.drop k).take m = (n.data.drop o.off.toNat).take o.n.toNat := by
      rcases Nat.lt_or_ge o.off.toNat n.data.length with q | q
      · have : k = o.off.toNat := by omega
        subst this
        rcases Nat.lt_or_ge o.n.toNat r with q2 | q2
        · rw [show m = o.n.toNat by omega]
        · rw [List.take_of_length_le (by rw [List.length_drop]; omega), List.take_of_length_le (by rw [List.length_drop]; omega)]
      · rw [List.drop_eq_nil_of_le q, List.drop_eq_nil_of_le (by omega)]; simp
    show ByteR _ _ _
    rw [← e]; exact hR2
  have HSN : Hid (((n.data.drop o.off.toNat).take o.n.toNat).length ≤ 100000) := Lib.hid (by simp only [List.length_take, List.length_drop]; omega)
  have b1 : (n.kind == 2) = false := beq_eq_false_iff_ne.2 hk2
  have b7 : (o.kind == 7) = true := beq_iff_eq.2 hk
  have b2 : decide (o.off < 0) = false := decide_eq_false (by omega)
  have b3 : decide (o.n < 0) = false := decide_eq_false (by omega)
  clear hsm hk _hce ha0 hoff hn0 hn hk2 hx hna hpx hno hcells hR hR1 hR2 hr hc1 hdv hi hz0 hz1 hz2 hk3 hm3 hcap hsn
  go_enter Tryz.func44, Tryz.ntmps44
  go_wp2_with (first
    | (go_at_call 17; refine (find_calls _ _ _ _ _ (HT.out.upd (((HHUA.out _).out.alloc _)) (fun _ _ => id)) HO.out o.path hp (HG.out.upd (((HHUA.out _).out.alloc _)) (fun _ _ => id))).mono ?_; rintro e w1 ⟨rfl, hu1⟩; obtain ⟨hc1, hf1⟩ := bcellU hu1 (fun _ => id); have hz1 : w.heap.size + 2 ≤ w1.heap.size := (by have := hu1.size; (try simp at this); omega); have hy1 : w.heap.size < w1.heap.size := (by omega); have hv1 : w.heap.size + 1 < w1.heap.size := (by omega); have HR1 : Hid (w1.heap[w.heap.size + 1]? = some (.cells #[.int .i64 0, .int .i64 0, .int .i64 0, .int .i64 0, .int .i64 0, .slice none 0 0, .slice none 0 0, .slice none 0 0] 29 (0, 0))) := hu1.heap (by repeat (first | exact HR0.out | exact heap_second _ _ _ | refine heap_al ?_)) id; have ht1 : t < w1.heap.size := (by omega); have hbx1 : x.blk < w1.heap.size := (by omega); have HU1 : Hid (Upd (fun _ => False) w w1) := (((HHUA.out _).out.alloc _)).trans hu1; clear hu1; rw [E1.out])
    | (at_lookup; refine wpl_lookup _ (HT.out.upd (HU1.out) (fun _ _ => id)).map KeyOk.int HT.out.pkeys rfl _ _ 63 rfl Tryz.underlying63 Tryz.underlying3 (.pointer none) (zero72 _) rfl (T.find o.path).1 rfl (.pointer (some ⟨x.blk, 0, none⟩)) (by rw [HPX.out]; rfl) ?_)
    )
  go_quiet (fail)
  have HU2 : Hid (Upd (fun _ => False) w (w1.drewN nq)) := HU1.out.drewN nq
  go_wp2_with (first
    | (go_at_call 54; refine (clone_calls _ _ _ (HR2.out.upd HU2.out) HSN.out).mono ?_; rintro e w2 ⟨⟨v2, rfl, ho2⟩, hu2⟩; obtain ⟨A2, m2, cc2, hv2s⟩ := own_slice ho2; rw [hv2s] at ho2; rw [hv2s]; clear hv2s; have HO2 := Lib.hid ho2; obtain ⟨hc2, hf2⟩ := bcellU hu2 (fun _ => id); have hz2 : w.heap.size + 2 ≤ w2.heap.size := (by have := hu2.size; (try simp at this); omega); have hv2 : w.heap.size + 1 < w2.heap.size := (by omega); have HRB2 : Hid (w2.heap[w.heap.size + 1]? = some (.cells #[.int .i64 0, .int .i64 0, .int .i64 0, .int .i64 0, .int .i64 0, .slice none 0 0, .slice none 0 0, .slice none 0 0] 29 (0, 0))) := hu2.heap HR1.out id; have HU3 : Hid (Upd (fun _ => False) w w2) := HU2.out.trans hu2; clear hu2 ho2; have r2 := fun i => cell_of_heap (HRB2.out) i; have r20 := (r2 0).trans rfl; have r21 := (r2 1).trans rfl; have r22 := (r2 2).trans rfl; have r23 := (r2 3).trans rfl; have r24 := (r2 4).trans rfl; have r25 := (r2 5).trans rfl; have r26 := (r2 6).trans rfl; have r27 := (r2 7).trans rfl; clear r2; simp only [List.getElem?_toArray, List.getElem?_cons_zero, List.getElem?_cons_succ] at r20 r21 r22 r23 r24 r25 r26 r27; have r2f := frozen_of_heap (HRB2.out); have r2f0 := r2f 0; have r2f1 := r2f 1; have r2f2 := r2f 2; have r2f3 := r2f 3; have r2f4 := r2f 4; have r2f5 := r2f 5; have r2f6 := r2f 6; have r2f7 := r2f 7; clear r2f))
  have HRX : Hid ((w2.setCell ⟨w.heap.size + 1, 5, none⟩ (.slice A2 m2 cc2)).heap[w.heap.size + 1]? = some (.cells #[.int .i64 0, .int .i64 0, .int .i64 0, .int .i64 0, .int .i64 0, .slice A2 m2 cc2, .slice none 0 0, .slice none 0 0] 29 (0, 0))) := setCell_heap (i := 5) (v := .slice A2 m2 cc2) HRB2.out
  have hb8 := heap8 (v0 := .int .i64 0) (v1 := .int .i64 0) (v2 := .int .i64 0) (v3 := .int .i64 0) (v4 := .int .i64 0) (v5 := .slice A2 m2 cc2) (v6 := .slice none 0 0) (v7 := .slice none 0 0) HRX.out
  have hu8 := (HU3.out.setCell (p := ⟨w.heap.size + 1, 5, none⟩) (.inl (by show w.heap.size ≤ w.heap.size + 1; omega)) (.slice A2 m2 cc2)).set8 (b := w.heap.size + 1) (v0 := .int .i64 0) (v1 := .int .i64 0) (v2 := .int .i64 0) (v3 := .int .i64 0) (v4 := .int .i64 0) (v5 := .slice A2 m2 cc2) (v6 := .slice none 0 0) (v7 := .slice none 0 0) (by omega)
  refine bodyPost_ret (resultsR Tryz.results44 rfl rfl hb8) rfl ?_
  skip
  refine ⟨_, rfl, ⟨.slice A2 m2 cc2, nilS, rfl, ?_, World.ownsRow_nil _ _ _ _, fun g hg => ?_, fun g q => (by cases q)⟩, hu8⟩

  · exact own_upd HO2.out (((Upd.refl (· = w.heap.size + 1) w2).setCell (p := ⟨w.heap.size + 1, 5, none⟩) (.inr rfl) (.slice A2 m2 cc2)).set8b (b := w.heap.size + 1) rfl) (fun g hg q => by have := (HO2.out.lt g hg).1; simp at this; omega) HU2.out.size
  · have := (HO2.out.lt g hg).1
    intro q
    have := HT.out.fplt g q
    have := HU2.out.size
    omega
end Go.Proofs.YtggfepgablfbhaaGreatDoor
