/- Walk of tree.Do: each kind of operation, by its callee's contract. -/
import Derived.Test.YtggfepgablfbhaaGreatDoorAlike
import Derived.Test.YtggfepgablfbhaaGreatDoorFile2
import Derived.Test.YtggfepgablfbhaaGreatDoorCreate2
namespace Go.Proofs.YtggfepgablfbhaaGreatDoor
open Go.RowKit

theorem faultNew2 (w : World) (op path : ByteArray) (c : Int) :
    Calls Tryz.prog 38 #[.string op, .string path, errV c] w fun e w' => ∃ v, e = .returned v ∧ FaultAt w' v op path c ∧ Upd (fun _ => False) w w' ∧ ∀ b, v = .iface 101 (.pointer (some ⟨b, 0, none⟩)) → w.heap.size ≤ b := by
  refine (faultNew_calls w op path c).mono ?_
  rintro e w' (⟨h0, rfl, rfl⟩ | ⟨h0, rfl, rfl⟩)
  · exact ⟨_, rfl, .inl ⟨h0, rfl⟩, Upd.refl _ _, fun b q => by cases q⟩
  · exact ⟨_, rfl, .inr ⟨h0, _, rfl, (MapKept.heap_alloc w _).1⟩, (Upd.refl _ _).alloc _, fun b q => by cases q; exact Nat.le_refl _⟩

/-- "tree". -/
def treeS : ByteArray := ⟨#[116, 114, 101, 101]⟩
/-- What Do hands back: a reply, an error within a fault, a tree. -/
def DoR (w : World) (t bm : Nat) (L : Lay) (path : ByteArray) (r : Int × RepV × Tr) (e : Ending) (w' : World) : Prop :=
  ∃ rv ev, e = .returned (.tuple #[rv, ev]) ∧ FaultAt w' ev treeS path r.1 ∧ ∃ L', ReplyAt w' w.heap.size rv r.2.1 (· ∈ fpOf t bm L') ∧ Moves w w' t bm L L' r.2.2

/-- What a callee hands back that answers with a reply. -/
def RepR (W : World) (t bm : Nat) (L : Lay) (r : Int × RepV × Tr) (e : Ending) (w' : World) : Prop :=
  ∃ rv, e = .returned (.tuple #[rv, errV r.1]) ∧ ∃ L', ReplyAt w' W.heap.size rv r.2.1 (· ∈ fpOf t bm L') ∧ Moves W w' t bm L L' r.2.2
/-- What a callee hands back that answers with an error alone. -/
def ErrR (W : World) (t bm : Nat) (L : Lay) (r : Int × RepV × Tr) (e : Ending) (w' : World) : Prop :=
  e = .returned (errV r.1) ∧ ∃ L', Moves W w' t bm L L' r.2.2

theorem Moves.heap {w w' : World} {t bm : Nat} {L L' : Lay} {T' : Tr} (h : Moves w w' t bm L L' T') {b : Nat} {o : Obj} (hb : w.heap[b]? = some o) (hF : b ∉ fpOf t bm L) : w'.heap[b]? = some o := h.upd.heap hb hF
theorem faultAt_ne {w : World} {e : Value} {op path : ByteArray} {c : Int} (h : FaultAt w e op path c) (h0 : c ≠ 0) : ∃ b, e = .iface 101 (.pointer (some ⟨b, 0, none⟩)) ∧ w.heap[b]? = some (.cells #[.string op, .string path, errV c] 105 (0, 0)) := by
  rcases h with ⟨q, _⟩ | ⟨_, h⟩
  · exact absurd q h0
  · exact h

set_option maxRecDepth 100000 in
set_option maxHeartbeats 8000000 in
theorem do_create1 (w : World) (t bm : Nat) (L : Lay) (T : Tr) (hT : TreeAt w t bm L T) (o : OpV) (A : Option Addr) (c : Nat) (hk : o.kind = 1) (r : Int × RepV × Tr) (hz : r.1 ≠ 0 → r.2.1 = zeroRep)
    (hcall : ∀ W, Upd (fun _ => False) w W → Calls Tryz.prog 40 #[.pointer (some ⟨t, 0, none⟩), .agg (opCells o A c)] W (RepR W t bm L r)) :
    Calls Tryz.prog 15 #[.pointer (some ⟨t, 0, none⟩), .agg (opCells o A c)] w (DoR w t bm L o.path r) := by
  have HT := Lib.hid hT
  have hlt := hT.lt
  have hlt1 : t ≤ w.heap.size + 1 := by omega
  have hlt2 : t < w.heap.size + 1 + 1 := by omega
  have HUA : ∀ X Y, Hid (Upd (fun _ => False) w ((w.alloc X).alloc Y)) := fun X Y => ((Upd.refl _ _).alloc X).alloc Y
  have HHUA := Lib.hid HUA
  have HF0 : Hid (w.heap.size ∉ fpOf t bm L) := fun q => by have := hT.fplt _ q; omega
  have HF1 : Hid (w.heap.size + 1 ∉ fpOf t bm L) := fun q => by have := hT.fplt _ q; omega
  have HBX : ∀ X Y, Hid (((w.alloc X).alloc Y).heap[w.heap.size]? = some X) := fun X Y => heap_al (MapKept.heap_alloc w X).1
  have HBY : ∀ X Y, Hid (((w.alloc X).alloc Y).heap[w.heap.size + 1]? = some Y) := fun X Y => heap_second w X Y
  have HHBX := Lib.hid HBX
  have HHBY := Lib.hid HBY
  clear hT HUA HBX HBY
  obtain ⟨kind, path, dest, off, n, data, snap⟩ := o
  obtain ⟨c1, rep, T1⟩ := r
  unfold opCells at *
  simp only at *
  have HC := Lib.hid hcall
  have HZ := Lib.hid hz
  clear hcall hz
  by_cases h0 : c1 = 0
  · subst h0
    have E : Hid (errV 0 = .nilIface) := rfl
    subst hk
    go_enter Tryz.func15, Tryz.ntmps15
    go_wp2_with (first
      | (go_at_call 39; refine (ready_calls _ t bm L T (HT.out.upd ((HHUA.out _ _).out) (fun _ _ => id))).mono ?_; rintro e w' ⟨rfl, rfl⟩)
      | (go_at_call 40; refine (HC.out _ (HHUA.out _ _).out).mono ?_; rintro e w1 ⟨rv, rfl, L1, ⟨dv, nv, rfl, ho1, ho2, hx1, hx2⟩, hm1⟩; obtain ⟨dA, dn, dc, rfl⟩ := own_slice ho1; obtain ⟨nA, nn, nc, rfl⟩ := own_slice ho2; unfold replyV; have HO1 := Lib.hid ho1; have HO2 := Lib.hid ho2; have HX1 := Lib.hid hx1; have HX2 := Lib.hid hx2; clear ho1 ho2 hx1 hx2; have hz1 : w.heap.size + 2 ≤ w1.heap.size := (by have := hm1.upd.size; simp at this; omega); have HR1 : Hid (w1.heap[w.heap.size + 1]? = some (.cells #[.int .i64 0, .int .i64 0, .int .i64 0, .int .i64 0, .int .i64 0, .slice none 0 0, .slice none 0 0, .slice none 0 0] 29 (0, 0))) := hm1.heap (HHBY.out _ _).out HF1.out; have b1 : w1.cell? ⟨w.heap.size, 1, none⟩ = some (.string path) := (cell_of_heap (hm1.heap (HHBX.out _ _).out HF0.out) 1).trans rfl; have HM1 := Lib.hid hm1; clear hm1; have r1 := fun i => cell_of_heap (HR1.out) i; have r10 := (r1 0).trans rfl; have r11 := (r1 1).trans rfl; have r12 := (r1 2).trans rfl; have r13 := (r1 3).trans rfl; have r14 := (r1 4).trans rfl; have r15 := (r1 5).trans rfl; have r16 := (r1 6).trans rfl; have r17 := (r1 7).trans rfl; clear r1; simp only [List.getElem?_toArray, List.getElem?_cons_zero, List.getElem?_cons_succ] at r10 r11 r12 r13 r14 r15 r16 r17; have r1f := frozen_of_heap (HR1.out); have r1f0 := r1f 0; have r1f1 := r1f 1; have r1f2 := r1f 2; have r1f3 := r1f 3; have r1f4 := r1f 4; have r1f5 := r1f 5; have r1f6 := r1f 6; have r1f7 := r1f 7; clear r1f; try rw [E.out]))
    have HRX := Lib.hid (heap8 (v0 := .int .i64 rep.ino) (v1 := .int .i64 rep.kind) (v2 := .int .i64 rep.size) (v3 := .int .i64 rep.links) (v4 := .int .i64 rep.n) (v5 := .slice dA dn dc) (v6 := .slice nA nn nc) (v7 := .slice none 0 0) HR1.out)
    have hb8 := heap8 (v0 := .int .i64 rep.ino) (v1 := .int .i64 rep.kind) (v2 := .int .i64 rep.size) (v3 := .int .i64 rep.links) (v4 := .int .i64 rep.n) (v5 := .slice dA dn dc) (v6 := .slice nA nn nc) (v7 := .slice none 0 0) HRX.out
    have hu8 := ((Upd.refl (· = w.heap.size + 1) w1).set8b (b := w.heap.size + 1) (v0 := .int .i64 rep.ino) (v1 := .int .i64 rep.kind) (v2 := .int .i64 rep.size) (v3 := .int .i64 rep.links) (v4 := .int .i64 rep.n) (v5 := .slice dA dn dc) (v6 := .slice nA nn nc) (v7 := .slice none 0 0) rfl).set8b (b := w.heap.size + 1) (v0 := .int .i64 rep.ino) (v1 := .int .i64 rep.kind) (v2 := .int .i64 rep.size) (v3 := .int .i64 rep.links) (v4 := .int .i64 rep.n) (v5 := .slice dA dn dc) (v6 := .slice nA nn nc) (v7 := .slice none 0 0) rfl
    refine bodyPost_ret (resultsR Tryz.results15 rfl rfl hb8) rfl ?_
    have hg1 : w.heap.size + 1 ∉ fpOf t bm L1 := fun q => by
      rcases HM1.out.fp _ q with q | q
      · exact HF1.out q
      · simp at q; omega
    refine ⟨_, _, rfl, .inl ⟨rfl, rfl⟩, L1, ?_, ((HM1.out.pre (HHUA.out _ _).out).postNew hu8 hg1 (by omega))⟩
    refine ⟨_, _, rfl, own_upd HO1.out hu8 (fun g hg q => by have := (HO1.out.lt g hg).1; simp at this; omega) (by simp; omega), own_upd HO2.out hu8 (fun g hg q => by have := (HO2.out.lt g hg).1; simp at this; omega) (by simp; omega), HX1.out, HX2.out⟩
  · have HCE := Lib.hid h0
    have E := Lib.hid (errV_pos h0)
    clear h0
    subst hk
    go_enter Tryz.func15, Tryz.ntmps15
    go_wp2_with (first
      | (go_at_call 39; refine (ready_calls _ t bm L T (HT.out.upd ((HHUA.out _ _).out) (fun _ _ => id))).mono ?_; rintro e w' ⟨rfl, rfl⟩)
      | (go_at_call 40; refine (HC.out _ (HHUA.out _ _).out).mono ?_; rintro e w1 ⟨rv, rfl, L1, ⟨dv, nv, rfl, ho1, ho2, hx1, hx2⟩, hm1⟩; obtain ⟨dA, dn, dc, rfl⟩ := own_slice ho1; obtain ⟨nA, nn, nc, rfl⟩ := own_slice ho2; unfold replyV; have HO1 := Lib.hid ho1; have HO2 := Lib.hid ho2; have HX1 := Lib.hid hx1; have HX2 := Lib.hid hx2; clear ho1 ho2 hx1 hx2; have hz1 : w.heap.size + 2 ≤ w1.heap.size := (by have := hm1.upd.size; simp at this; omega); have HR1 : Hid (w1.heap[w.heap.size + 1]? = some (.cells #[.int .i64 0, .int .i64 0, .int .i64 0, .int .i64 0, .int .i64 0, .slice none 0 0, .slice none 0 0, .slice none 0 0] 29 (0, 0))) := hm1.heap (HHBY.out _ _).out HF1.out; have b1 : w1.cell? ⟨w.heap.size, 1, none⟩ = some (.string path) := (cell_of_heap (hm1.heap (HHBX.out _ _).out HF0.out) 1).trans rfl; have HM1 := Lib.hid hm1; clear hm1; have r1 := fun i => cell_of_heap (HR1.out) i; have r10 := (r1 0).trans rfl; have r11 := (r1 1).trans rfl; have r12 := (r1 2).trans rfl; have r13 := (r1 3).trans rfl; have r14 := (r1 4).trans rfl; have r15 := (r1 5).trans rfl; have r16 := (r1 6).trans rfl; have r17 := (r1 7).trans rfl; clear r1; simp only [List.getElem?_toArray, List.getElem?_cons_zero, List.getElem?_cons_succ] at r10 r11 r12 r13 r14 r15 r16 r17; have r1f := frozen_of_heap (HR1.out); have r1f0 := r1f 0; have r1f1 := r1f 1; have r1f2 := r1f 2; have r1f3 := r1f 3; have r1f4 := r1f 4; have r1f5 := r1f 5; have r1f6 := r1f 6; have r1f7 := r1f 7; clear r1f; have HRX := Lib.hid (heap8 (v0 := .int .i64 rep.ino) (v1 := .int .i64 rep.kind) (v2 := .int .i64 rep.size) (v3 := .int .i64 rep.links) (v4 := .int .i64 rep.n) (v5 := .slice dA dn dc) (v6 := .slice nA nn nc) (v7 := .slice none 0 0) HR1.out); try rw [E.out])
      | (go_at_call 38; rw [← E.out]; refine (faultNew2 _ _ path c1).mono ?_; rintro e w2 ⟨v2, rfl, hf2, hu2, hn2⟩; obtain ⟨b2, rfl, hb2⟩ := faultAt_ne hf2 HCE.out; have hz2 : w.heap.size + 2 ≤ b2 := (by have := hn2 b2 rfl; (try simp at this); omega); have HB2 := Lib.hid hb2; have HR2 : Hid (w2.heap[w.heap.size + 1]? = some (.cells #[.int .i64 rep.ino, .int .i64 rep.kind, .int .i64 rep.size, .int .i64 rep.links, .int .i64 rep.n, .slice dA dn dc, .slice nA nn nc, .slice none 0 0] 29 (0, 0))) := hu2.heap HRX.out id; have HU2 := Lib.hid hu2; clear hu2 hf2 hb2 hn2; have r2 := fun i => cell_of_heap (HR2.out) i; have r20 := (r2 0).trans rfl; have r21 := (r2 1).trans rfl; have r22 := (r2 2).trans rfl; have r23 := (r2 3).trans rfl; have r24 := (r2 4).trans rfl; have r25 := (r2 5).trans rfl; have r26 := (r2 6).trans rfl; have r27 := (r2 7).trans rfl; clear r2; simp only [List.getElem?_toArray, List.getElem?_cons_zero, List.getElem?_cons_succ] at r20 r21 r22 r23 r24 r25 r26 r27; have r2f := frozen_of_heap (HR2.out); have r2f0 := r2f 0; have r2f1 := r2f 1; have r2f2 := r2f 2; have r2f3 := r2f 3; have r2f4 := r2f 4; have r2f5 := r2f 5; have r2f6 := r2f 6; have r2f7 := r2f 7; clear r2f))
    have hb8 := heap8 (v0 := .int .i64 0) (v1 := .int .i64 0) (v2 := .int .i64 0) (v3 := .int .i64 0) (v4 := .int .i64 0) (v5 := .slice none 0 0) (v6 := .slice none 0 0) (v7 := .slice none 0 0) HR2.out
    have hu8 := (Upd.refl (· = w.heap.size + 1) w2).set8b (b := w.heap.size + 1) (v0 := .int .i64 0) (v1 := .int .i64 0) (v2 := .int .i64 0) (v3 := .int .i64 0) (v4 := .int .i64 0) (v5 := .slice none 0 0) (v6 := .slice none 0 0) (v7 := .slice none 0 0) rfl
    refine bodyPost_ret (resultsR Tryz.results15 rfl rfl hb8) rfl ?_
    have hg1 : w.heap.size + 1 ∉ fpOf t bm L1 := fun q => by
      rcases HM1.out.fp _ q with q | q
      · exact HF1.out q
      · simp at q; omega
    refine ⟨_, _, rfl, .inr ⟨HCE.out, b2, rfl, hu8.heap HB2.out (by omega)⟩, L1, ?_, (HM1.out.pre (HHUA.out _ _).out).postNew (((((Upd.refl (· = w.heap.size + 1) w1).set8b (b := w.heap.size + 1) (v0 := .int .i64 rep.ino) (v1 := .int .i64 rep.kind) (v2 := .int .i64 rep.size) (v3 := .int .i64 rep.links) (v4 := .int .i64 rep.n) (v5 := .slice dA dn dc) (v6 := .slice nA nn nc) (v7 := .slice none 0 0) rfl)).trans (HU2.out.mono (fun _ _ q => q.elim))).trans hu8) hg1 (by omega)⟩
    rw [show (c1, rep, T1).2.1 = zeroRep from HZ.out HCE.out]
    exact ReplyAt.zero _ _ _

set_option maxRecDepth 100000 in
set_option maxHeartbeats 8000000 in
theorem do_create2 (w : World) (t bm : Nat) (L : Lay) (T : Tr) (hT : TreeAt w t bm L T) (o : OpV) (A : Option Addr) (c : Nat) (hk : o.kind = 2) (r : Int × RepV × Tr) (hz : r.1 ≠ 0 → r.2.1 = zeroRep)
    (hcall : ∀ W, Upd (fun _ => False) w W → Calls Tryz.prog 40 #[.pointer (some ⟨t, 0, none⟩), .agg (opCells o A c)] W (RepR W t bm L r)) :
    Calls Tryz.prog 15 #[.pointer (some ⟨t, 0, none⟩), .agg (opCells o A c)] w (DoR w t bm L o.path r) := by
  have HT := Lib.hid hT
  have hlt := hT.lt
  have hlt1 : t ≤ w.heap.size + 1 := by omega
  have hlt2 : t < w.heap.size + 1 + 1 := by omega
  have HUA : ∀ X Y, Hid (Upd (fun _ => False) w ((w.alloc X).alloc Y)) := fun X Y => ((Upd.refl _ _).alloc X).alloc Y
  have HHUA := Lib.hid HUA
  have HF0 : Hid (w.heap.size ∉ fpOf t bm L) := fun q => by have := hT.fplt _ q; omega
  have HF1 : Hid (w.heap.size + 1 ∉ fpOf t bm L) := fun q => by have := hT.fplt _ q; omega
  have HBX : ∀ X Y, Hid (((w.alloc X).alloc Y).heap[w.heap.size]? = some X) := fun X Y => heap_al (MapKept.heap_alloc w X).1
  have HBY : ∀ X Y, Hid (((w.alloc X).alloc Y).heap[w.heap.size + 1]? = some Y) := fun X Y => heap_second w X Y
  have HHBX := Lib.hid HBX
  have HHBY := Lib.hid HBY
  clear hT HUA HBX HBY
  obtain ⟨kind, path, dest, off, n, data, snap⟩ := o
  obtain ⟨c1, rep, T1⟩ := r
  unfold opCells at *
  simp only at *
  have HC := Lib.hid hcall
  have HZ := Lib.hid hz
  clear hcall hz
  by_cases h0 : c1 = 0
  · subst h0
    have E : Hid (errV 0 = .nilIface) := rfl
    subst hk
    go_enter Tryz.func15, Tryz.ntmps15
    go_wp2_with (first
      | (go_at_call 39; refine (ready_calls _ t bm L T (HT.out.upd ((HHUA.out _ _).out) (fun _ _ => id))).mono ?_; rintro e w' ⟨rfl, rfl⟩)
      | (go_at_call 40; refine (HC.out _ (HHUA.out _ _).out).mono ?_; rintro e w1 ⟨rv, rfl, L1, ⟨dv, nv, rfl, ho1, ho2, hx1, hx2⟩, hm1⟩; obtain ⟨dA, dn, dc, rfl⟩ := own_slice ho1; obtain ⟨nA, nn, nc, rfl⟩ := own_slice ho2; unfold replyV; have HO1 := Lib.hid ho1; have HO2 := Lib.hid ho2; have HX1 := Lib.hid hx1; have HX2 := Lib.hid hx2; clear ho1 ho2 hx1 hx2; have hz1 : w.heap.size + 2 ≤ w1.heap.size := (by have := hm1.upd.size; simp at this; omega); have HR1 : Hid (w1.heap[w.heap.size + 1]? = some (.cells #[.int .i64 0, .int .i64 0, .int .i64 0, .int .i64 0, .int .i64 0, .slice none 0 0, .slice none 0 0, .slice none 0 0] 29 (0, 0))) := hm1.heap (HHBY.out _ _).out HF1.out; have b1 : w1.cell? ⟨w.heap.size, 1, none⟩ = some (.string path) := (cell_of_heap (hm1.heap (HHBX.out _ _).out HF0.out) 1).trans rfl; have HM1 := Lib.hid hm1; clear hm1; have r1 := fun i => cell_of_heap (HR1.out) i; have r10 := (r1 0).trans rfl; have r11 := (r1 1).trans rfl; have r12 := (r1 2).trans rfl; have r13 := (r1 3).trans rfl; have r14 := (r1 4).trans rfl; have r15 := (r1 5).trans rfl; have r16 := (r1 6).trans rfl; have r17 := (r1 7).trans rfl; clear r1; simp only [List.getElem?_toArray, List.getElem?_cons_zero, List.getElem?_cons_succ] at r10 r11 r12 r13 r14 r15 r16 r17; have r1f := frozen_of_heap (HR1.out); have r1f0 := r1f 0; have r1f1 := r1f 1; have r1f2 := r1f 2; have r1f3 := r1f 3; have r1f4 := r1f 4; have r1f5 := r1f 5; have r1f6 := r1f 6; have r1f7 := r1f 7; clear r1f; try rw [E.out]))
    have HRX := Lib.hid (heap8 (v0 := .int .i64 rep.ino) (v1 := .int .i64 rep.kind) (v2 := .int .i64 rep.size) (v3 := .int .i64 rep.links) (v4 := .int .i64 rep.n) (v5 := .slice dA dn dc) (v6 := .slice nA nn nc) (v7 := .slice none 0 0) HR1.out)
    have hb8 := heap8 (v0 := .int .i64 rep.ino) (v1 := .int .i64 rep.kind) (v2 := .int .i64 rep.size) (v3 := .int .i64 rep.links) (v4 := .int .i64 rep.n) (v5 := .slice dA dn dc) (v6 := .slice nA nn nc) (v7 := .slice none 0 0) HRX.out
    have hu8 := ((Upd.refl (· = w.heap.size + 1) w1).set8b (b := w.heap.size + 1) (v0 := .int .i64 rep.ino) (v1 := .int .i64 rep.kind) (v2 := .int .i64 rep.size) (v3 := .int .i64 rep.links) (v4 := .int .i64 rep.n) (v5 := .slice dA dn dc) (v6 := .slice nA nn nc) (v7 := .slice none 0 0) rfl).set8b (b := w.heap.size + 1) (v0 := .int .i64 rep.ino) (v1 := .int .i64 rep.kind) (v2 := .int .i64 rep.size) (v3 := .int .i64 rep.links) (v4 := .int .i64 rep.n) (v5 := .slice dA dn dc) (v6 := .slice nA nn nc) (v7 := .slice none 0 0) rfl
    refine bodyPost_ret (resultsR Tryz.results15 rfl rfl hb8) rfl ?_
    have hg1 : w.heap.size + 1 ∉ fpOf t bm L1 := fun q => by
      rcases HM1.out.fp _ q with q | q
      · exact HF1.out q
      · simp at q; omega
    refine ⟨_, _, rfl, .inl ⟨rfl, rfl⟩, L1, ?_, ((HM1.out.pre (HHUA.out _ _).out).postNew hu8 hg1 (by omega))⟩
    refine ⟨_, _, rfl, own_upd HO1.out hu8 (fun g hg q => by have := (HO1.out.lt g hg).1; simp at this; omega) (by simp; omega), own_upd HO2.out hu8 (fun g hg q => by have := (HO2.out.lt g hg).1; simp at this; omega) (by simp; omega), HX1.out, HX2.out⟩
  · have HCE := Lib.hid h0
    have E := Lib.hid (errV_pos h0)
    clear h0
    subst hk
    go_enter Tryz.func15, Tryz.ntmps15
    go_wp2_with (first
      | (go_at_call 39; refine (ready_calls _ t bm L T (HT.out.upd ((HHUA.out _ _).out) (fun _ _ => id))).mono ?_; rintro e w' ⟨rfl, rfl⟩)
      | (go_at_call 40; refine (HC.out _ (HHUA.out _ _).out).mono ?_; rintro e w1 ⟨rv, rfl, L1, ⟨dv, nv, rfl, ho1, ho2, hx1, hx2⟩, hm1⟩; obtain ⟨dA, dn, dc, rfl⟩ := own_slice ho1; obtain ⟨nA, nn, nc, rfl⟩ := own_slice ho2; unfold replyV; have HO1 := Lib.hid ho1; have HO2 := Lib.hid ho2; have HX1 := Lib.hid hx1; have HX2 := Lib.hid hx2; clear ho1 ho2 hx1 hx2; have hz1 : w.heap.size + 2 ≤ w1.heap.size := (by have := hm1.upd.size; simp at this; omega); have HR1 : Hid (w1.heap[w.heap.size + 1]? = some (.cells #[.int .i64 0, .int .i64 0, .int .i64 0, .int .i64 0, .int .i64 0, .slice none 0 0, .slice none 0 0, .slice none 0 0] 29 (0, 0))) := hm1.heap (HHBY.out _ _).out HF1.out; have b1 : w1.cell? ⟨w.heap.size, 1, none⟩ = some (.string path) := (cell_of_heap (hm1.heap (HHBX.out _ _).out HF0.out) 1).trans rfl; have HM1 := Lib.hid hm1; clear hm1; have r1 := fun i => cell_of_heap (HR1.out) i; have r10 := (r1 0).trans rfl; have r11 := (r1 1).trans rfl; have r12 := (r1 2).trans rfl; have r13 := (r1 3).trans rfl; have r14 := (r1 4).trans rfl; have r15 := (r1 5).trans rfl; have r16 := (r1 6).trans rfl; have r17 := (r1 7).trans rfl; clear r1; simp only [List.getElem?_toArray, List.getElem?_cons_zero, List.getElem?_cons_succ] at r10 r11 r12 r13 r14 r15 r16 r17; have r1f := frozen_of_heap (HR1.out); have r1f0 := r1f 0; have r1f1 := r1f 1; have r1f2 := r1f 2; have r1f3 := r1f 3; have r1f4 := r1f 4; have r1f5 := r1f 5; have r1f6 := r1f 6; have r1f7 := r1f 7; clear r1f; have HRX := Lib.hid (heap8 (v0 := .int .i64 rep.ino) (v1 := .int .i64 rep.kind) (v2 := .int .i64 rep.size) (v3 := .int .i64 rep.links) (v4 := .int .i64 rep.n) (v5 := .slice dA dn dc) (v6 := .slice nA nn nc) (v7 := .slice none 0 0) HR1.out); try rw [E.out])
      | (go_at_call 38; rw [← E.out]; refine (faultNew2 _ _ path c1).mono ?_; rintro e w2 ⟨v2, rfl, hf2, hu2, hn2⟩; obtain ⟨b2, rfl, hb2⟩ := faultAt_ne hf2 HCE.out; have hz2 : w.heap.size + 2 ≤ b2 := (by have := hn2 b2 rfl; (try simp at this); omega); have HB2 := Lib.hid hb2; have HR2 : Hid (w2.heap[w.heap.size + 1]? = some (.cells #[.int .i64 rep.ino, .int .i64 rep.kind, .int .i64 rep.size, .int .i64 rep.links, .int .i64 rep.n, .slice dA dn dc, .slice nA nn nc, .slice none 0 0] 29 (0, 0))) := hu2.heap HRX.out id; have HU2 := Lib.hid hu2; clear hu2 hf2 hb2 hn2; have r2 := fun i => cell_of_heap (HR2.out) i; have r20 := (r2 0).trans rfl; have r21 := (r2 1).trans rfl; have r22 := (r2 2).trans rfl; have r23 := (r2 3).trans rfl; have r24 := (r2 4).trans rfl; have r25 := (r2 5).trans rfl; have r26 := (r2 6).trans rfl; have r27 := (r2 7).trans rfl; clear r2; simp only [List.getElem?_toArray, List.getElem?_cons_zero, List.getElem?_cons_succ] at r20 r21 r22 r23 r24 r25 r26 r27; have r2f := frozen_of_heap (HR2.out); have r2f0 := r2f 0; have r2f1 := r2f 1; have r2f2 := r2f 2; have r2f3 := r2f 3; have r2f4 := r2f 4; have r2f5 := r2f 5; have r2f6 := r2f 6; have r2f7 := r2f 7; clear r2f))
    have hb8 := heap8 (v0 := .int .i64 0) (v1 := .int .i64 0) (v2 := .int .i64 0) (v3 := .int .i64 0) (v4 := .int .i64 0) (v5 := .slice none 0 0) (v6 := .slice none 0 0) (v7 := .slice none 0 0) HR2.out
    have hu8 := (Upd.refl (· = w.heap.size + 1) w2).set8b (b := w.heap.size + 1) (v0 := .int .i64 0) (v1 := .int .i64 0) (v2 := .int .i64 0) (v3 := .int .i64 0) (v4 := .int .i64 0) (v5 := .slice none 0 0) (v6 := .slice none 0 0) (v7 := .slice none 0 0) rfl
    refine bodyPost_ret (resultsR Tryz.results15 rfl rfl hb8) rfl ?_
    have hg1 : w.heap.size + 1 ∉ fpOf t bm L1 := fun q => by
      rcases HM1.out.fp _ q with q | q
      · exact HF1.out q
      · simp at q; omega
    refine ⟨_, _, rfl, .inr ⟨HCE.out, b2, rfl, hu8.heap HB2.out (by omega)⟩, L1, ?_, (HM1.out.pre (HHUA.out _ _).out).postNew (((((Upd.refl (· = w.heap.size + 1) w1).set8b (b := w.heap.size + 1) (v0 := .int .i64 rep.ino) (v1 := .int .i64 rep.kind) (v2 := .int .i64 rep.size) (v3 := .int .i64 rep.links) (v4 := .int .i64 rep.n) (v5 := .slice dA dn dc) (v6 := .slice nA nn nc) (v7 := .slice none 0 0) rfl)).trans (HU2.out.mono (fun _ _ q => q.elim))).trans hu8) hg1 (by omega)⟩
    rw [show (c1, rep, T1).2.1 = zeroRep from HZ.out HCE.out]
    exact ReplyAt.zero _ _ _

set_option maxRecDepth 100000 in
set_option maxHeartbeats 8000000 in
theorem do_remove3 (w : World) (t bm : Nat) (L : Lay) (T : Tr) (hT : TreeAt w t bm L T) (o : OpV) (A : Option Addr) (c : Nat) (hk : o.kind = 3) (r : Int × RepV × Tr) (hz : r.1 ≠ 0 → r.2.1 = zeroRep) (hz2 : r.2.1 = zeroRep)
    (hcall : ∀ W, Upd (fun _ => False) w W → Calls Tryz.prog 41 #[.pointer (some ⟨t, 0, none⟩), .agg (opCells o A c)] W (ErrR W t bm L r)) :
    Calls Tryz.prog 15 #[.pointer (some ⟨t, 0, none⟩), .agg (opCells o A c)] w (DoR w t bm L o.path r) := by
  have HT := Lib.hid hT
  have hlt := hT.lt
  have hlt1 : t ≤ w.heap.size + 1 := by omega
  have hlt2 : t < w.heap.size + 1 + 1 := by omega
  have HUA : ∀ X Y, Hid (Upd (fun _ => False) w ((w.alloc X).alloc Y)) := fun X Y => ((Upd.refl _ _).alloc X).alloc Y
  have HHUA := Lib.hid HUA
  have HF0 : Hid (w.heap.size ∉ fpOf t bm L) := fun q => by have := hT.fplt _ q; omega
  have HF1 : Hid (w.heap.size + 1 ∉ fpOf t bm L) := fun q => by have := hT.fplt _ q; omega
  have HBX : ∀ X Y, Hid (((w.alloc X).alloc Y).heap[w.heap.size]? = some X) := fun X Y => heap_al (MapKept.heap_alloc w X).1
  have HBY : ∀ X Y, Hid (((w.alloc X).alloc Y).heap[w.heap.size + 1]? = some Y) := fun X Y => heap_second w X Y
  have HHBX := Lib.hid HBX
  have HHBY := Lib.hid HBY
  clear hT HUA HBX HBY
  obtain ⟨kind, path, dest, off, n, data, snap⟩ := o
  obtain ⟨c1, rep, T1⟩ := r
  unfold opCells at *
  simp only at *
  have HC := Lib.hid hcall
  have HZ := Lib.hid hz
  have HZ2 := Lib.hid hz2
  clear hcall hz hz2
  by_cases h0 : c1 = 0
  · subst h0
    have E : Hid (errV 0 = .nilIface) := rfl
    subst hk
    go_enter Tryz.func15, Tryz.ntmps15
    go_wp2_with (first
      | (go_at_call 39; refine (ready_calls _ t bm L T (HT.out.upd ((HHUA.out _ _).out) (fun _ _ => id))).mono ?_; rintro e w' ⟨rfl, rfl⟩)
      | (go_at_call 41; refine (HC.out _ (HHUA.out _ _).out).mono ?_; rintro e w1 ⟨rfl, L1, hm1⟩; have hz1 : w.heap.size + 2 ≤ w1.heap.size := (by have := hm1.upd.size; simp at this; omega); have HR1 : Hid (w1.heap[w.heap.size + 1]? = some (.cells #[.int .i64 0, .int .i64 0, .int .i64 0, .int .i64 0, .int .i64 0, .slice none 0 0, .slice none 0 0, .slice none 0 0] 29 (0, 0))) := hm1.heap (HHBY.out _ _).out HF1.out; have b1 : w1.cell? ⟨w.heap.size, 1, none⟩ = some (.string path) := (cell_of_heap (hm1.heap (HHBX.out _ _).out HF0.out) 1).trans rfl; have HM1 := Lib.hid hm1; clear hm1; have r1 := fun i => cell_of_heap (HR1.out) i; have r10 := (r1 0).trans rfl; have r11 := (r1 1).trans rfl; have r12 := (r1 2).trans rfl; have r13 := (r1 3).trans rfl; have r14 := (r1 4).trans rfl; have r15 := (r1 5).trans rfl; have r16 := (r1 6).trans rfl; have r17 := (r1 7).trans rfl; clear r1; simp only [List.getElem?_toArray, List.getElem?_cons_zero, List.getElem?_cons_succ] at r10 r11 r12 r13 r14 r15 r16 r17; have r1f := frozen_of_heap (HR1.out); have r1f0 := r1f 0; have r1f1 := r1f 1; have r1f2 := r1f 2; have r1f3 := r1f 3; have r1f4 := r1f 4; have r1f5 := r1f 5; have r1f6 := r1f 6; have r1f7 := r1f 7; clear r1f; try rw [E.out]))
    have hb8 := heap8 (v0 := .int .i64 0) (v1 := .int .i64 0) (v2 := .int .i64 0) (v3 := .int .i64 0) (v4 := .int .i64 0) (v5 := .slice none 0 0) (v6 := .slice none 0 0) (v7 := .slice none 0 0) HR1.out
    have hu8 := (Upd.refl (· = w.heap.size + 1) w1).set8b (b := w.heap.size + 1) (v0 := .int .i64 0) (v1 := .int .i64 0) (v2 := .int .i64 0) (v3 := .int .i64 0) (v4 := .int .i64 0) (v5 := .slice none 0 0) (v6 := .slice none 0 0) (v7 := .slice none 0 0) rfl
    refine bodyPost_ret (resultsR Tryz.results15 rfl rfl hb8) rfl ?_
    have hg1 : w.heap.size + 1 ∉ fpOf t bm L1 := fun q => by
      rcases HM1.out.fp _ q with q | q
      · exact HF1.out q
      · simp at q; omega
    refine ⟨_, _, rfl, .inl ⟨rfl, rfl⟩, L1, ?_, ((HM1.out.pre (HHUA.out _ _).out).postNew hu8 hg1 (by omega))⟩
    rw [show (0, rep, T1).2.1 = zeroRep from HZ2.out]
    exact ReplyAt.zero _ _ _
  · have HCE := Lib.hid h0
    have E := Lib.hid (errV_pos h0)
    clear h0
    subst hk
    go_enter Tryz.func15, Tryz.ntmps15
    go_wp2_with (first
      | (go_at_call 39; refine (ready_calls _ t bm L T (HT.out.upd ((HHUA.out _ _).out) (fun _ _ => id))).mono ?_; rintro e w' ⟨rfl, rfl⟩)
      | (go_at_call 41; refine (HC.out _ (HHUA.out _ _).out).mono ?_; rintro e w1 ⟨rfl, L1, hm1⟩; have hz1 : w.heap.size + 2 ≤ w1.heap.size := (by have := hm1.upd.size; simp at this; omega); have HR1 : Hid (w1.heap[w.heap.size + 1]? = some (.cells #[.int .i64 0, .int .i64 0, .int .i64 0, .int .i64 0, .int .i64 0, .slice none 0 0, .slice none 0 0, .slice none 0 0] 29 (0, 0))) := hm1.heap (HHBY.out _ _).out HF1.out; have b1 : w1.cell? ⟨w.heap.size, 1, none⟩ = some (.string path) := (cell_of_heap (hm1.heap (HHBX.out _ _).out HF0.out) 1).trans rfl; have HM1 := Lib.hid hm1; clear hm1; have r1 := fun i => cell_of_heap (HR1.out) i; have r10 := (r1 0).trans rfl; have r11 := (r1 1).trans rfl; have r12 := (r1 2).trans rfl; have r13 := (r1 3).trans rfl; have r14 := (r1 4).trans rfl; have r15 := (r1 5).trans rfl; have r16 := (r1 6).trans rfl; have r17 := (r1 7).trans rfl; clear r1; simp only [List.getElem?_toArray, List.getElem?_cons_zero, List.getElem?_cons_succ] at r10 r11 r12 r13 r14 r15 r16 r17; have r1f := frozen_of_heap (HR1.out); have r1f0 := r1f 0; have r1f1 := r1f 1; have r1f2 := r1f 2; have r1f3 := r1f 3; have r1f4 := r1f 4; have r1f5 := r1f 5; have r1f6 := r1f 6; have r1f7 := r1f 7; clear r1f; have HRX := HR1; try rw [E.out])
      | (go_at_call 38; rw [← E.out]; refine (faultNew2 _ _ path c1).mono ?_; rintro e w2 ⟨v2, rfl, hf2, hu2, hn2⟩; obtain ⟨b2, rfl, hb2⟩ := faultAt_ne hf2 HCE.out; have hz2 : w.heap.size + 2 ≤ b2 := (by have := hn2 b2 rfl; (try simp at this); omega); have HB2 := Lib.hid hb2; have HR2 : Hid (w2.heap[w.heap.size + 1]? = some (.cells #[.int .i64 0, .int .i64 0, .int .i64 0, .int .i64 0, .int .i64 0, .slice none 0 0, .slice none 0 0, .slice none 0 0] 29 (0, 0))) := hu2.heap HRX.out id; have HU2 := Lib.hid hu2; clear hu2 hf2 hb2 hn2; have r2 := fun i => cell_of_heap (HR2.out) i; have r20 := (r2 0).trans rfl; have r21 := (r2 1).trans rfl; have r22 := (r2 2).trans rfl; have r23 := (r2 3).trans rfl; have r24 := (r2 4).trans rfl; have r25 := (r2 5).trans rfl; have r26 := (r2 6).trans rfl; have r27 := (r2 7).trans rfl; clear r2; simp only [List.getElem?_toArray, List.getElem?_cons_zero, List.getElem?_cons_succ] at r20 r21 r22 r23 r24 r25 r26 r27; have r2f := frozen_of_heap (HR2.out); have r2f0 := r2f 0; have r2f1 := r2f 1; have r2f2 := r2f 2; have r2f3 := r2f 3; have r2f4 := r2f 4; have r2f5 := r2f 5; have r2f6 := r2f 6; have r2f7 := r2f 7; clear r2f))
    have hb8 := heap8 (v0 := .int .i64 0) (v1 := .int .i64 0) (v2 := .int .i64 0) (v3 := .int .i64 0) (v4 := .int .i64 0) (v5 := .slice none 0 0) (v6 := .slice none 0 0) (v7 := .slice none 0 0) HR2.out
    have hu8 := (Upd.refl (· = w.heap.size + 1) w2).set8b (b := w.heap.size + 1) (v0 := .int .i64 0) (v1 := .int .i64 0) (v2 := .int .i64 0) (v3 := .int .i64 0) (v4 := .int .i64 0) (v5 := .slice none 0 0) (v6 := .slice none 0 0) (v7 := .slice none 0 0) rfl
    refine bodyPost_ret (resultsR Tryz.results15 rfl rfl hb8) rfl ?_
    have hg1 : w.heap.size + 1 ∉ fpOf t bm L1 := fun q => by
      rcases HM1.out.fp _ q with q | q
      · exact HF1.out q
      · simp at q; omega
    refine ⟨_, _, rfl, .inr ⟨HCE.out, b2, rfl, hu8.heap HB2.out (by omega)⟩, L1, ?_, (HM1.out.pre (HHUA.out _ _).out).postNew ((HU2.out.mono (fun _ _ q => q.elim)).trans hu8) hg1 (by omega)⟩
    rw [show (c1, rep, T1).2.1 = zeroRep from HZ.out HCE.out]
    exact ReplyAt.zero _ _ _

set_option maxRecDepth 100000 in
set_option maxHeartbeats 8000000 in
theorem do_remove4 (w : World) (t bm : Nat) (L : Lay) (T : Tr) (hT : TreeAt w t bm L T) (o : OpV) (A : Option Addr) (c : Nat) (hk : o.kind = 4) (r : Int × RepV × Tr) (hz : r.1 ≠ 0 → r.2.1 = zeroRep) (hz2 : r.2.1 = zeroRep)
    (hcall : ∀ W, Upd (fun _ => False) w W → Calls Tryz.prog 41 #[.pointer (some ⟨t, 0, none⟩), .agg (opCells o A c)] W (ErrR W t bm L r)) :
    Calls Tryz.prog 15 #[.pointer (some ⟨t, 0, none⟩), .agg (opCells o A c)] w (DoR w t bm L o.path r) := by
  have HT := Lib.hid hT
  have hlt := hT.lt
  have hlt1 : t ≤ w.heap.size + 1 := by omega
  have hlt2 : t < w.heap.size + 1 + 1 := by omega
  have HUA : ∀ X Y, Hid (Upd (fun _ => False) w ((w.alloc X).alloc Y)) := fun X Y => ((Upd.refl _ _).alloc X).alloc Y
  have HHUA := Lib.hid HUA
  have HF0 : Hid (w.heap.size ∉ fpOf t bm L) := fun q => by have := hT.fplt _ q; omega
  have HF1 : Hid (w.heap.size + 1 ∉ fpOf t bm L) := fun q => by have := hT.fplt _ q; omega
  have HBX : ∀ X Y, Hid (((w.alloc X).alloc Y).heap[w.heap.size]? = some X) := fun X Y => heap_al (MapKept.heap_alloc w X).1
  have HBY : ∀ X Y, Hid (((w.alloc X).alloc Y).heap[w.heap.size + 1]? = some Y) := fun X Y => heap_second w X Y
  have HHBX := Lib.hid HBX
  have HHBY := Lib.hid HBY
  clear hT HUA HBX HBY
  obtain ⟨kind, path, dest, off, n, data, snap⟩ := o
  obtain ⟨c1, rep, T1⟩ := r
  unfold opCells at *
  simp only at *
  have HC := Lib.hid hcall
  have HZ := Lib.hid hz
  have HZ2 := Lib.hid hz2
  clear hcall hz hz2
  by_cases h0 : c1 = 0
  · subst h0
    have E : Hid (errV 0 = .nilIface) := rfl
    subst hk
    go_enter Tryz.func15, Tryz.ntmps15
    go_wp2_with (first
      | (go_at_call 39; refine (ready_calls _ t bm L T (HT.out.upd ((HHUA.out _ _).out) (fun _ _ => id))).mono ?_; rintro e w' ⟨rfl, rfl⟩)
      | (go_at_call 41; refine (HC.out _ (HHUA.out _ _).out).mono ?_; rintro e w1 ⟨rfl, L1, hm1⟩; have hz1 : w.heap.size + 2 ≤ w1.heap.size := (by have := hm1.upd.size; simp at this; omega); have HR1 : Hid (w1.heap[w.heap.size + 1]? = some (.cells #[.int .i64 0, .int .i64 0, .int .i64 0, .int .i64 0, .int .i64 0, .slice none 0 0, .slice none 0 0, .slice none 0 0] 29 (0, 0))) := hm1.heap (HHBY.out _ _).out HF1.out; have b1 : w1.cell? ⟨w.heap.size, 1, none⟩ = some (.string path) := (cell_of_heap (hm1.heap (HHBX.out _ _).out HF0.out) 1).trans rfl; have HM1 := Lib.hid hm1; clear hm1; have r1 := fun i => cell_of_heap (HR1.out) i; have r10 := (r1 0).trans rfl; have r11 := (r1 1).trans rfl; have r12 := (r1 2).trans rfl; have r13 := (r1 3).trans rfl; have r14 := (r1 4).trans rfl; have r15 := (r1 5).trans rfl; have r16 := (r1 6).trans rfl; have r17 := (r1 7).trans rfl; clear r1; simp only [List.getElem?_toArray, List.getElem?_cons_zero, List.getElem?_cons_succ] at r10 r11 r12 r13 r14 r15 r16 r17; have r1f := frozen_of_heap (HR1.out); have r1f0 := r1f 0; have r1f1 := r1f 1; have r1f2 := r1f 2; have r1f3 := r1f 3; have r1f4 := r1f 4; have r1f5 := r1f 5; have r1f6 := r1f 6; have r1f7 := r1f 7; clear r1f; try rw [E.out]))
    have hb8 := heap8 (v0 := .int .i64 0) (v1 := .int .i64 0) (v2 := .int .i64 0) (v3 := .int .i64 0) (v4 := .int .i64 0) (v5 := .slice none 0 0) (v6 := .slice none 0 0) (v7 := .slice none 0 0) HR1.out
    have hu8 := (Upd.refl (· = w.heap.size + 1) w1).set8b (b := w.heap.size + 1) (v0 := .int .i64 0) (v1 := .int .i64 0) (v2 := .int .i64 0) (v3 := .int .i64 0) (v4 := .int .i64 0) (v5 := .slice none 0 0) (v6 := .slice none 0 0) (v7 := .slice none 0 0) rfl
    refine bodyPost_ret (resultsR Tryz.results15 rfl rfl hb8) rfl ?_
    have hg1 : w.heap.size + 1 ∉ fpOf t bm L1 := fun q => by
      rcases HM1.out.fp _ q with q | q
      · exact HF1.out q
      · simp at q; omega
    refine ⟨_, _, rfl, .inl ⟨rfl, rfl⟩, L1, ?_, ((HM1.out.pre (HHUA.out _ _).out).postNew hu8 hg1 (by omega))⟩
    rw [show (0, rep, T1).2.1 = zeroRep from HZ2.out]
    exact ReplyAt.zero _ _ _
  · have HCE := Lib.hid h0
    have E := Lib.hid (errV_pos h0)
    clear h0
    subst hk
    go_enter Tryz.func15, Tryz.ntmps15
    go_wp2_with (first
      | (go_at_call 39; refine (ready_calls _ t bm L T (HT.out.upd ((HHUA.out _ _).out) (fun _ _ => id))).mono ?_; rintro e w' ⟨rfl, rfl⟩)
      | (go_at_call 41; refine (HC.out _ (HHUA.out _ _).out).mono ?_; rintro e w1 ⟨rfl, L1, hm1⟩; have hz1 : w.heap.size + 2 ≤ w1.heap.size := (by have := hm1.upd.size; simp at this; omega); have HR1 : Hid (w1.heap[w.heap.size + 1]? = some (.cells #[.int .i64 0, .int .i64 0, .int .i64 0, .int .i64 0, .int .i64 0, .slice none 0 0, .slice none 0 0, .slice none 0 0] 29 (0, 0))) := hm1.heap (HHBY.out _ _).out HF1.out; have b1 : w1.cell? ⟨w.heap.size, 1, none⟩ = some (.string path) := (cell_of_heap (hm1.heap (HHBX.out _ _).out HF0.out) 1).trans rfl; have HM1 := Lib.hid hm1; clear hm1; have r1 := fun i => cell_of_heap (HR1.out) i; have r10 := (r1 0).trans rfl; have r11 := (r1 1).trans rfl; have r12 := (r1 2).trans rfl; have r13 := (r1 3).trans rfl; have r14 := (r1 4).trans rfl; have r15 := (r1 5).trans rfl; have r16 := (r1 6).trans rfl; have r17 := (r1 7).trans rfl; clear r1; simp only [List.getElem?_toArray, List.getElem?_cons_zero, List.getElem?_cons_succ] at r10 r11 r12 r13 r14 r15 r16 r17; have r1f := frozen_of_heap (HR1.out); have r1f0 := r1f 0; have r1f1 := r1f 1; have r1f2 := r1f 2; have r1f3 := r1f 3; have r1f4 := r1f 4; have r1f5 := r1f 5; have r1f6 := r1f 6; have r1f7 := r1f 7; clear r1f; have HRX := HR1; try rw [E.out])
      | (go_at_call 38; rw [← E.out]; refine (faultNew2 _ _ path c1).mono ?_; rintro e w2 ⟨v2, rfl, hf2, hu2, hn2⟩; obtain ⟨b2, rfl, hb2⟩ := faultAt_ne hf2 HCE.out; have hz2 : w.heap.size + 2 ≤ b2 := (by have := hn2 b2 rfl; (try simp at this); omega); have HB2 := Lib.hid hb2; have HR2 : Hid (w2.heap[w.heap.size + 1]? = some (.cells #[.int .i64 0, .int .i64 0, .int .i64 0, .int .i64 0, .int .i64 0, .slice none 0 0, .slice none 0 0, .slice none 0 0] 29 (0, 0))) := hu2.heap HRX.out id; have HU2 := Lib.hid hu2; clear hu2 hf2 hb2 hn2; have r2 := fun i => cell_of_heap (HR2.out) i; have r20 := (r2 0).trans rfl; have r21 := (r2 1).trans rfl; have r22 := (r2 2).trans rfl; have r23 := (r2 3).trans rfl; have r24 := (r2 4).trans rfl; have r25 := (r2 5).trans rfl; have r26 := (r2 6).trans rfl; have r27 := (r2 7).trans rfl; clear r2; simp only [List.getElem?_toArray, List.getElem?_cons_zero, List.getElem?_cons_succ] at r20 r21 r22 r23 r24 r25 r26 r27; have r2f := frozen_of_heap (HR2.out); have r2f0 := r2f 0; have r2f1 := r2f 1; have r2f2 := r2f 2; have r2f3 := r2f 3; have r2f4 := r2f 4; have r2f5 := r2f 5; have r2f6 := r2f 6; have r2f7 := r2f 7; clear r2f))
    have hb8 := heap8 (v0 := .int .i64 0) (v1 := .int .i64 0) (v2 := .int .i64 0) (v3 := .int .i64 0) (v4 := .int .i64 0) (v5 := .slice none 0 0) (v6 := .slice none 0 0) (v7 := .slice none 0 0) HR2.out
    have hu8 := (Upd.refl (· = w.heap.size + 1) w2).set8b (b := w.heap.size + 1) (v0 := .int .i64 0) (v1 := .int .i64 0) (v2 := .int .i64 0) (v3 := .int .i64 0) (v4 := .int .i64 0) (v5 := .slice none 0 0) (v6 := .slice none 0 0) (v7 := .slice none 0 0) rfl
    refine bodyPost_ret (resultsR Tryz.results15 rfl rfl hb8) rfl ?_
    have hg1 : w.heap.size + 1 ∉ fpOf t bm L1 := fun q => by
      rcases HM1.out.fp _ q with q | q
      · exact HF1.out q
      · simp at q; omega
    refine ⟨_, _, rfl, .inr ⟨HCE.out, b2, rfl, hu8.heap HB2.out (by omega)⟩, L1, ?_, (HM1.out.pre (HHUA.out _ _).out).postNew ((HU2.out.mono (fun _ _ q => q.elim)).trans hu8) hg1 (by omega)⟩
    rw [show (c1, rep, T1).2.1 = zeroRep from HZ.out HCE.out]
    exact ReplyAt.zero _ _ _

set_option maxRecDepth 100000 in
set_option maxHeartbeats 8000000 in
theorem do_rename5 (w : World) (t bm : Nat) (L : Lay) (T : Tr) (hT : TreeAt w t bm L T) (o : OpV) (A : Option Addr) (c : Nat) (hk : o.kind = 5) (r : Int × RepV × Tr) (hz : r.1 ≠ 0 → r.2.1 = zeroRep) (hz2 : r.2.1 = zeroRep)
    (hcall : ∀ W, Upd (fun _ => False) w W → Calls Tryz.prog 42 #[.pointer (some ⟨t, 0, none⟩), .agg (opCells o A c)] W (ErrR W t bm L r)) :
    Calls Tryz.prog 15 #[.pointer (some ⟨t, 0, none⟩), .agg (opCells o A c)] w (DoR w t bm L o.path r) := by
  have HT := Lib.hid hT
  have hlt := hT.lt
  have hlt1 : t ≤ w.heap.size + 1 := by omega
  have hlt2 : t < w.heap.size + 1 + 1 := by omega
  have HUA : ∀ X Y, Hid (Upd (fun _ => False) w ((w.alloc X).alloc Y)) := fun X Y => ((Upd.refl _ _).alloc X).alloc Y
  have HHUA := Lib.hid HUA
  have HF0 : Hid (w.heap.size ∉ fpOf t bm L) := fun q => by have := hT.fplt _ q; omega
  have HF1 : Hid (w.heap.size + 1 ∉ fpOf t bm L) := fun q => by have := hT.fplt _ q; omega
  have HBX : ∀ X Y, Hid (((w.alloc X).alloc Y).heap[w.heap.size]? = some X) := fun X Y => heap_al (MapKept.heap_alloc w X).1
  have HBY : ∀ X Y, Hid (((w.alloc X).alloc Y).heap[w.heap.size + 1]? = some Y) := fun X Y => heap_second w X Y
  have HHBX := Lib.hid HBX
  have HHBY := Lib.hid HBY
  clear hT HUA HBX HBY
  obtain ⟨kind, path, dest, off, n, data, snap⟩ := o
  obtain ⟨c1, rep, T1⟩ := r
  unfold opCells at *
  simp only at *
  have HC := Lib.hid hcall
  have HZ := Lib.hid hz
  have HZ2 := Lib.hid hz2
  clear hcall hz hz2
  by_cases h0 : c1 = 0
  · subst h0
    have E : Hid (errV 0 = .nilIface) := rfl
    subst hk
    go_enter Tryz.func15, Tryz.ntmps15
    go_wp2_with (first
      | (go_at_call 39; refine (ready_calls _ t bm L T (HT.out.upd ((HHUA.out _ _).out) (fun _ _ => id))).mono ?_; rintro e w' ⟨rfl, rfl⟩)
      | (go_at_call 42; refine (HC.out _ (HHUA.out _ _).out).mono ?_; rintro e w1 ⟨rfl, L1, hm1⟩; have hz1 : w.heap.size + 2 ≤ w1.heap.size := (by have := hm1.upd.size; simp at this; omega); have HR1 : Hid (w1.heap[w.heap.size + 1]? = some (.cells #[.int .i64 0, .int .i64 0, .int .i64 0, .int .i64 0, .int .i64 0, .slice none 0 0, .slice none 0 0, .slice none 0 0] 29 (0, 0))) := hm1.heap (HHBY.out _ _).out HF1.out; have b1 : w1.cell? ⟨w.heap.size, 1, none⟩ = some (.string path) := (cell_of_heap (hm1.heap (HHBX.out _ _).out HF0.out) 1).trans rfl; have HM1 := Lib.hid hm1; clear hm1; have r1 := fun i => cell_of_heap (HR1.out) i; have r10 := (r1 0).trans rfl; have r11 := (r1 1).trans rfl; have r12 := (r1 2).trans rfl; have r13 := (r1 3).trans rfl; have r14 := (r1 4).trans rfl; have r15 := (r1 5).trans rfl; have r16 := (r1 6).trans rfl; have r17 := (r1 7).trans rfl; clear r1; simp only [List.getElem?_toArray, List.getElem?_cons_zero, List.getElem?_cons_succ] at r10 r11 r12 r13 r14 r15 r16 r17; have r1f := frozen_of_heap (HR1.out); have r1f0 := r1f 0; have r1f1 := r1f 1; have r1f2 := r1f 2; have r1f3 := r1f 3; have r1f4 := r1f 4; have r1f5 := r1f 5; have r1f6 := r1f 6; have r1f7 := r1f 7; clear r1f; try rw [E.out]))
    have hb8 := heap8 (v0 := .int .i64 0) (v1 := .int .i64 0) (v2 := .int .i64 0) (v3 := .int .i64 0) (v4 := .int .i64 0) (v5 := .slice none 0 0) (v6 := .slice none 0 0) (v7 := .slice none 0 0) HR1.out
    have hu8 := (Upd.refl (· = w.heap.size + 1) w1).set8b (b := w.heap.size + 1) (v0 := .int .i64 0) (v1 := .int .i64 0) (v2 := .int .i64 0) (v3 := .int .i64 0) (v4 := .int .i64 0) (v5 := .slice none 0 0) (v6 := .slice none 0 0) (v7 := .slice none 0 0) rfl
    refine bodyPost_ret (resultsR Tryz.results15 rfl rfl hb8) rfl ?_
    have hg1 : w.heap.size + 1 ∉ fpOf t bm L1 := fun q => by
      rcases HM1.out.fp _ q with q | q
      · exact HF1.out q
      · simp at q; omega
    refine ⟨_, _, rfl, .inl ⟨rfl, rfl⟩, L1, ?_, ((HM1.out.pre (HHUA.out _ _).out).postNew hu8 hg1 (by omega))⟩
    rw [show (0, rep, T1).2.1 = zeroRep from HZ2.out]
    exact ReplyAt.zero _ _ _
  · have HCE := Lib.hid h0
    have E := Lib.hid (errV_pos h0)
    clear h0
    subst hk
    go_enter Tryz.func15, Tryz.ntmps15
    go_wp2_with (first
      | (go_at_call 39; refine (ready_calls _ t bm L T (HT.out.upd ((HHUA.out _ _).out) (fun _ _ => id))).mono ?_; rintro e w' ⟨rfl, rfl⟩)
      | (go_at_call 42; refine (HC.out _ (HHUA.out _ _).out).mono ?_; rintro e w1 ⟨rfl, L1, hm1⟩; have hz1 : w.heap.size + 2 ≤ w1.heap.size := (by have := hm1.upd.size; simp at this; omega); have HR1 : Hid (w1.heap[w.heap.size + 1]? = some (.cells #[.int .i64 0, .int .i64 0, .int .i64 0, .int .i64 0, .int .i64 0, .slice none 0 0, .slice none 0 0, .slice none 0 0] 29 (0, 0))) := hm1.heap (HHBY.out _ _).out HF1.out; have b1 : w1.cell? ⟨w.heap.size, 1, none⟩ = some (.string path) := (cell_of_heap (hm1.heap (HHBX.out _ _).out HF0.out) 1).trans rfl; have HM1 := Lib.hid hm1; clear hm1; have r1 := fun i => cell_of_heap (HR1.out) i; have r10 := (r1 0).trans rfl; have r11 := (r1 1).trans rfl; have r12 := (r1 2).trans rfl; have r13 := (r1 3).trans rfl; have r14 := (r1 4).trans rfl; have r15 := (r1 5).trans rfl; have r16 := (r1 6).trans rfl; have r17 := (r1 7).trans rfl; clear r1; simp only [List.getElem?_toArray, List.getElem?_cons_zero, List.getElem?_cons_succ] at r10 r11 r12 r13 r14 r15 r16 r17; have r1f := frozen_of_heap (HR1.out); have r1f0 := r1f 0; have r1f1 := r1f 1; have r1f2 := r1f 2; have r1f3 := r1f 3; have r1f4 := r1f 4; have r1f5 := r1f 5; have r1f6 := r1f 6; have r1f7 := r1f 7; clear r1f; have HRX := HR1; try rw [E.out])
      | (go_at_call 38; rw [← E.out]; refine (faultNew2 _ _ path c1).mono ?_; rintro e w2 ⟨v2, rfl, hf2, hu2, hn2⟩; obtain ⟨b2, rfl, hb2⟩ := faultAt_ne hf2 HCE.out; have hz2 : w.heap.size + 2 ≤ b2 := (by have := hn2 b2 rfl; (try simp at this); omega); have HB2 := Lib.hid hb2; have HR2 : Hid (w2.heap[w.heap.size + 1]? = some (.cells #[.int .i64 0, .int .i64 0, .int .i64 0, .int .i64 0, .int .i64 0, .slice none 0 0, .slice none 0 0, .slice none 0 0] 29 (0, 0))) := hu2.heap HRX.out id; have HU2 := Lib.hid hu2; clear hu2 hf2 hb2 hn2; have r2 := fun i => cell_of_heap (HR2.out) i; have r20 := (r2 0).trans rfl; have r21 := (r2 1).trans rfl; have r22 := (r2 2).trans rfl; have r23 := (r2 3).trans rfl; have r24 := (r2 4).trans rfl; have r25 := (r2 5).trans rfl; have r26 := (r2 6).trans rfl; have r27 := (r2 7).trans rfl; clear r2; simp only [List.getElem?_toArray, List.getElem?_cons_zero, List.getElem?_cons_succ] at r20 r21 r22 r23 r24 r25 r26 r27; have r2f := frozen_of_heap (HR2.out); have r2f0 := r2f 0; have r2f1 := r2f 1; have r2f2 := r2f 2; have r2f3 := r2f 3; have r2f4 := r2f 4; have r2f5 := r2f 5; have r2f6 := r2f 6; have r2f7 := r2f 7; clear r2f))
    have hb8 := heap8 (v0 := .int .i64 0) (v1 := .int .i64 0) (v2 := .int .i64 0) (v3 := .int .i64 0) (v4 := .int .i64 0) (v5 := .slice none 0 0) (v6 := .slice none 0 0) (v7 := .slice none 0 0) HR2.out
    have hu8 := (Upd.refl (· = w.heap.size + 1) w2).set8b (b := w.heap.size + 1) (v0 := .int .i64 0) (v1 := .int .i64 0) (v2 := .int .i64 0) (v3 := .int .i64 0) (v4 := .int .i64 0) (v5 := .slice none 0 0) (v6 := .slice none 0 0) (v7 := .slice none 0 0) rfl
    refine bodyPost_ret (resultsR Tryz.results15 rfl rfl hb8) rfl ?_
    have hg1 : w.heap.size + 1 ∉ fpOf t bm L1 := fun q => by
      rcases HM1.out.fp _ q with q | q
      · exact HF1.out q
      · simp at q; omega
    refine ⟨_, _, rfl, .inr ⟨HCE.out, b2, rfl, hu8.heap HB2.out (by omega)⟩, L1, ?_, (HM1.out.pre (HHUA.out _ _).out).postNew ((HU2.out.mono (fun _ _ q => q.elim)).trans hu8) hg1 (by omega)⟩
    rw [show (c1, rep, T1).2.1 = zeroRep from HZ.out HCE.out]
    exact ReplyAt.zero _ _ _

set_option maxRecDepth 100000 in
set_option maxHeartbeats 8000000 in
theorem do_link6 (w : World) (t bm : Nat) (L : Lay) (T : Tr) (hT : TreeAt w t bm L T) (o : OpV) (A : Option Addr) (c : Nat) (hk : o.kind = 6) (r : Int × RepV × Tr) (hz : r.1 ≠ 0 → r.2.1 = zeroRep) (hz2 : r.2.1 = zeroRep)
    (hcall : ∀ W, Upd (fun _ => False) w W → Calls Tryz.prog 43 #[.pointer (some ⟨t, 0, none⟩), .agg (opCells o A c)] W (ErrR W t bm L r)) :
    Calls Tryz.prog 15 #[.pointer (some ⟨t, 0, none⟩), .agg (opCells o A c)] w (DoR w t bm L o.path r) := by
  have HT := Lib.hid hT
  have hlt := hT.lt
  have hlt1 : t ≤ w.heap.size + 1 := by omega
  have hlt2 : t < w.heap.size + 1 + 1 := by omega
  have HUA : ∀ X Y, Hid (Upd (fun _ => False) w ((w.alloc X).alloc Y)) := fun X Y => ((Upd.refl _ _).alloc X).alloc Y
  have HHUA := Lib.hid HUA
  have HF0 : Hid (w.heap.size ∉ fpOf t bm L) := fun q => by have := hT.fplt _ q; omega
  have HF1 : Hid (w.heap.size + 1 ∉ fpOf t bm L) := fun q => by have := hT.fplt _ q; omega
  have HBX : ∀ X Y, Hid (((w.alloc X).alloc Y).heap[w.heap.size]? = some X) := fun X Y => heap_al (MapKept.heap_alloc w X).1
  have HBY : ∀ X Y, Hid (((w.alloc X).alloc Y).heap[w.heap.size + 1]? = some Y) := fun X Y => heap_second w X Y
  have HHBX := Lib.hid HBX
  have HHBY := Lib.hid HBY
  clear hT HUA HBX HBY
  obtain ⟨kind, path, dest, off, n, data, snap⟩ := o
  obtain ⟨c1, rep, T1⟩ := r
  unfold opCells at *
  simp only at *
  have HC := Lib.hid hcall
  have HZ := Lib.hid hz
  have HZ2 := Lib.hid hz2
  clear hcall hz hz2
  by_cases h0 : c1 = 0
  · subst h0
    have E : Hid (errV 0 = .nilIface) := rfl
    subst hk
    go_enter Tryz.func15, Tryz.ntmps15
    go_wp2_with (first
      | (go_at_call 39; refine (ready_calls _ t bm L T (HT.out.upd ((HHUA.out _ _).out) (fun _ _ => id))).mono ?_; rintro e w' ⟨rfl, rfl⟩)
      | (go_at_call 43; refine (HC.out _ (HHUA.out _ _).out).mono ?_; rintro e w1 ⟨rfl, L1, hm1⟩; have hz1 : w.heap.size + 2 ≤ w1.heap.size := (by have := hm1.upd.size; simp at this; omega); have HR1 : Hid (w1.heap[w.heap.size + 1]? = some (.cells #[.int .i64 0, .int .i64 0, .int .i64 0, .int .i64 0, .int .i64 0, .slice none 0 0, .slice none 0 0, .slice none 0 0] 29 (0, 0))) := hm1.heap (HHBY.out _ _).out HF1.out; have b1 : w1.cell? ⟨w.heap.size, 1, none⟩ = some (.string path) := (cell_of_heap (hm1.heap (HHBX.out _ _).out HF0.out) 1).trans rfl; have HM1 := Lib.hid hm1; clear hm1; have r1 := fun i => cell_of_heap (HR1.out) i; have r10 := (r1 0).trans rfl; have r11 := (r1 1).trans rfl; have r12 := (r1 2).trans rfl; have r13 := (r1 3).trans rfl; have r14 := (r1 4).trans rfl; have r15 := (r1 5).trans rfl; have r16 := (r1 6).trans rfl; have r17 := (r1 7).trans rfl; clear r1; simp only [List.getElem?_toArray, List.getElem?_cons_zero, List.getElem?_cons_succ] at r10 r11 r12 r13 r14 r15 r16 r17; have r1f := frozen_of_heap (HR1.out); have r1f0 := r1f 0; have r1f1 := r1f 1; have r1f2 := r1f 2; have r1f3 := r1f 3; have r1f4 := r1f 4; have r1f5 := r1f 5; have r1f6 := r1f 6; have r1f7 := r1f 7; clear r1f; try rw [E.out]))
    have hb8 := heap8 (v0 := .int .i64 0) (v1 := .int .i64 0) (v2 := .int .i64 0) (v3 := .int .i64 0) (v4 := .int .i64 0) (v5 := .slice none 0 0) (v6 := .slice none 0 0) (v7 := .slice none 0 0) HR1.out
    have hu8 := (Upd.refl (· = w.heap.size + 1) w1).set8b (b := w.heap.size + 1) (v0 := .int .i64 0) (v1 := .int .i64 0) (v2 := .int .i64 0) (v3 := .int .i64 0) (v4 := .int .i64 0) (v5 := .slice none 0 0) (v6 := .slice none 0 0) (v7 := .slice none 0 0) rfl
    refine bodyPost_ret (resultsR Tryz.results15 rfl rfl hb8) rfl ?_
    have hg1 : w.heap.size + 1 ∉ fpOf t bm L1 := fun q => by
      rcases HM1.out.fp _ q with q | q
      · exact HF1.out q
      · simp at q; omega
    refine ⟨_, _, rfl, .inl ⟨rfl, rfl⟩, L1, ?_, ((HM1.out.pre (HHUA.out _ _).out).postNew hu8 hg1 (by omega))⟩
    rw [show (0, rep, T1).2.1 = zeroRep from HZ2.out]
    exact ReplyAt.zero _ _ _
  · have HCE := Lib.hid h0
    have E := Lib.hid (errV_pos h0)
    clear h0
    subst hk
    go_enter Tryz.func15, Tryz.ntmps15
    go_wp2_with (first
      | (go_at_call 39; refine (ready_calls _ t bm L T (HT.out.upd ((HHUA.out _ _).out) (fun _ _ => id))).mono ?_; rintro e w' ⟨rfl, rfl⟩)
      | (go_at_call 43; refine (HC.out _ (HHUA.out _ _).out).mono ?_; rintro e w1 ⟨rfl, L1, hm1⟩; have hz1 : w.heap.size + 2 ≤ w1.heap.size := (by have := hm1.upd.size; simp at this; omega); have HR1 : Hid (w1.heap[w.heap.size + 1]? = some (.cells #[.int .i64 0, .int .i64 0, .int .i64 0, .int .i64 0, .int .i64 0, .slice none 0 0, .slice none 0 0, .slice none 0 0] 29 (0, 0))) := hm1.heap (HHBY.out _ _).out HF1.out; have b1 : w1.cell? ⟨w.heap.size, 1, none⟩ = some (.string path) := (cell_of_heap (hm1.heap (HHBX.out _ _).out HF0.out) 1).trans rfl; have HM1 := Lib.hid hm1; clear hm1; have r1 := fun i => cell_of_heap (HR1.out) i; have r10 := (r1 0).trans rfl; have r11 := (r1 1).trans rfl; have r12 := (r1 2).trans rfl; have r13 := (r1 3).trans rfl; have r14 := (r1 4).trans rfl; have r15 := (r1 5).trans rfl; have r16 := (r1 6).trans rfl; have r17 := (r1 7).trans rfl; clear r1; simp only [List.getElem?_toArray, List.getElem?_cons_zero, List.getElem?_cons_succ] at r10 r11 r12 r13 r14 r15 r16 r17; have r1f := frozen_of_heap (HR1.out); have r1f0 := r1f 0; have r1f1 := r1f 1; have r1f2 := r1f 2; have r1f3 := r1f 3; have r1f4 := r1f 4; have r1f5 := r1f 5; have r1f6 := r1f 6; have r1f7 := r1f 7; clear r1f; have HRX := HR1; try rw [E.out])
      | (go_at_call 38; rw [← E.out]; refine (faultNew2 _ _ path c1).mono ?_; rintro e w2 ⟨v2, rfl, hf2, hu2, hn2⟩; obtain ⟨b2, rfl, hb2⟩ := faultAt_ne hf2 HCE.out; have hz2 : w.heap.size + 2 ≤ b2 := (by have := hn2 b2 rfl; (try simp at this); omega); have HB2 := Lib.hid hb2; have HR2 : Hid (w2.heap[w.heap.size + 1]? = some (.cells #[.int .i64 0, .int .i64 0, .int .i64 0, .int .i64 0, .int .i64 0, .slice none 0 0, .slice none 0 0, .slice none 0 0] 29 (0, 0))) := hu2.heap HRX.out id; have HU2 := Lib.hid hu2; clear hu2 hf2 hb2 hn2; have r2 := fun i => cell_of_heap (HR2.out) i; have r20 := (r2 0).trans rfl; have r21 := (r2 1).trans rfl; have r22 := (r2 2).trans rfl; have r23 := (r2 3).trans rfl; have r24 := (r2 4).trans rfl; have r25 := (r2 5).trans rfl; have r26 := (r2 6).trans rfl; have r27 := (r2 7).trans rfl; clear r2; simp only [List.getElem?_toArray, List.getElem?_cons_zero, List.getElem?_cons_succ] at r20 r21 r22 r23 r24 r25 r26 r27; have r2f := frozen_of_heap (HR2.out); have r2f0 := r2f 0; have r2f1 := r2f 1; have r2f2 := r2f 2; have r2f3 := r2f 3; have r2f4 := r2f 4; have r2f5 := r2f 5; have r2f6 := r2f 6; have r2f7 := r2f 7; clear r2f))
    have hb8 := heap8 (v0 := .int .i64 0) (v1 := .int .i64 0) (v2 := .int .i64 0) (v3 := .int .i64 0) (v4 := .int .i64 0) (v5 := .slice none 0 0) (v6 := .slice none 0 0) (v7 := .slice none 0 0) HR2.out
    have hu8 := (Upd.refl (· = w.heap.size + 1) w2).set8b (b := w.heap.size + 1) (v0 := .int .i64 0) (v1 := .int .i64 0) (v2 := .int .i64 0) (v3 := .int .i64 0) (v4 := .int .i64 0) (v5 := .slice none 0 0) (v6 := .slice none 0 0) (v7 := .slice none 0 0) rfl
    refine bodyPost_ret (resultsR Tryz.results15 rfl rfl hb8) rfl ?_
    have hg1 : w.heap.size + 1 ∉ fpOf t bm L1 := fun q => by
      rcases HM1.out.fp _ q with q | q
      · exact HF1.out q
      · simp at q; omega
    refine ⟨_, _, rfl, .inr ⟨HCE.out, b2, rfl, hu8.heap HB2.out (by omega)⟩, L1, ?_, (HM1.out.pre (HHUA.out _ _).out).postNew ((HU2.out.mono (fun _ _ q => q.elim)).trans hu8) hg1 (by omega)⟩
    rw [show (c1, rep, T1).2.1 = zeroRep from HZ.out HCE.out]
    exact ReplyAt.zero _ _ _

set_option maxRecDepth 100000 in
set_option maxHeartbeats 8000000 in
theorem do_file7 (w : World) (t bm : Nat) (L : Lay) (T : Tr) (hT : TreeAt w t bm L T) (o : OpV) (A : Option Addr) (c : Nat) (hk : o.kind = 7) (r : Int × RepV × Tr) (hz : r.1 ≠ 0 → r.2.1 = zeroRep)
    (hcall : ∀ W, Upd (fun _ => False) w W → Calls Tryz.prog 44 #[.pointer (some ⟨t, 0, none⟩), .agg (opCells o A c)] W (RepR W t bm L r)) :
    Calls Tryz.prog 15 #[.pointer (some ⟨t, 0, none⟩), .agg (opCells o A c)] w (DoR w t bm L o.path r) := by
  have HT := Lib.hid hT
  have hlt := hT.lt
  have hlt1 : t ≤ w.heap.size + 1 := by omega
  have hlt2 : t < w.heap.size + 1 + 1 := by omega
  have HUA : ∀ X Y, Hid (Upd (fun _ => False) w ((w.alloc X).alloc Y)) := fun X Y => ((Upd.refl _ _).alloc X).alloc Y
  have HHUA := Lib.hid HUA
  have HF0 : Hid (w.heap.size ∉ fpOf t bm L) := fun q => by have := hT.fplt _ q; omega
  have HF1 : Hid (w.heap.size + 1 ∉ fpOf t bm L) := fun q => by have := hT.fplt _ q; omega
  have HBX : ∀ X Y, Hid (((w.alloc X).alloc Y).heap[w.heap.size]? = some X) := fun X Y => heap_al (MapKept.heap_alloc w X).1
  have HBY : ∀ X Y, Hid (((w.alloc X).alloc Y).heap[w.heap.size + 1]? = some Y) := fun X Y => heap_second w X Y
  have HHBX := Lib.hid HBX
  have HHBY := Lib.hid HBY
  clear hT HUA HBX HBY
  obtain ⟨kind, path, dest, off, n, data, snap⟩ := o
  obtain ⟨c1, rep, T1⟩ := r
  unfold opCells at *
  simp only at *
  have HC := Lib.hid hcall
  have HZ := Lib.hid hz
  clear hcall hz
  by_cases h0 : c1 = 0
  · subst h0
    have E : Hid (errV 0 = .nilIface) := rfl
    subst hk
    go_enter Tryz.func15, Tryz.ntmps15
    go_wp2_with (first
      | (go_at_call 39; refine (ready_calls _ t bm L T (HT.out.upd ((HHUA.out _ _).out) (fun _ _ => id))).mono ?_; rintro e w' ⟨rfl, rfl⟩)
      | (go_at_call 44; refine (HC.out _ (HHUA.out _ _).out).mono ?_; rintro e w1 ⟨rv, rfl, L1, ⟨dv, nv, rfl, ho1, ho2, hx1, hx2⟩, hm1⟩; obtain ⟨dA, dn, dc, rfl⟩ := own_slice ho1; obtain ⟨nA, nn, nc, rfl⟩ := own_slice ho2; unfold replyV; have HO1 := Lib.hid ho1; have HO2 := Lib.hid ho2; have HX1 := Lib.hid hx1; have HX2 := Lib.hid hx2; clear ho1 ho2 hx1 hx2; have hz1 : w.heap.size + 2 ≤ w1.heap.size := (by have := hm1.upd.size; simp at this; omega); have HR1 : Hid (w1.heap[w.heap.size + 1]? = some (.cells #[.int .i64 0, .int .i64 0, .int .i64 0, .int .i64 0, .int .i64 0, .slice none 0 0, .slice none 0 0, .slice none 0 0] 29 (0, 0))) := hm1.heap (HHBY.out _ _).out HF1.out; have b1 : w1.cell? ⟨w.heap.size, 1, none⟩ = some (.string path) := (cell_of_heap (hm1.heap (HHBX.out _ _).out HF0.out) 1).trans rfl; have HM1 := Lib.hid hm1; clear hm1; have r1 := fun i => cell_of_heap (HR1.out) i; have r10 := (r1 0).trans rfl; have r11 := (r1 1).trans rfl; have r12 := (r1 2).trans rfl; have r13 := (r1 3).trans rfl; have r14 := (r1 4).trans rfl; have r15 := (r1 5).trans rfl; have r16 := (r1 6).trans rfl; have r17 := (r1 7).trans rfl; clear r1; simp only [List.getElem?_toArray, List.getElem?_cons_zero, List.getElem?_cons_succ] at r10 r11 r12 r13 r14 r15 r16 r17; have r1f := frozen_of_heap (HR1.out); have r1f0 := r1f 0; have r1f1 := r1f 1; have r1f2 := r1f 2; have r1f3 := r1f 3; have r1f4 := r1f 4; have r1f5 := r1f 5; have r1f6 := r1f 6; have r1f7 := r1f 7; clear r1f; try rw [E.out]))
    have HRX := Lib.hid (heap8 (v0 := .int .i64 rep.ino) (v1 := .int .i64 rep.kind) (v2 := .int .i64 rep.size) (v3 := .int .i64 rep.links) (v4 := .int .i64 rep.n) (v5 := .slice dA dn dc) (v6 := .slice nA nn nc) (v7 := .slice none 0 0) HR1.out)
    have hb8 := heap8 (v0 := .int .i64 rep.ino) (v1 := .int .i64 rep.kind) (v2 := .int .i64 rep.size) (v3 := .int .i64 rep.links) (v4 := .int .i64 rep.n) (v5 := .slice dA dn dc) (v6 := .slice nA nn nc) (v7 := .slice none 0 0) HRX.out
    have hu8 := ((Upd.refl (· = w.heap.size + 1) w1).set8b (b := w.heap.size + 1) (v0 := .int .i64 rep.ino) (v1 := .int .i64 rep.kind) (v2 := .int .i64 rep.size) (v3 := .int .i64 rep.links) (v4 := .int .i64 rep.n) (v5 := .slice dA dn dc) (v6 := .slice nA nn nc) (v7 := .slice none 0 0) rfl).set8b (b := w.heap.size + 1) (v0 := .int .i64 rep.ino) (v1 := .int .i64 rep.kind) (v2 := .int .i64 rep.size) (v3 := .int .i64 rep.links) (v4 := .int .i64 rep.n) (v5 := .slice dA dn dc) (v6 := .slice nA nn nc) (v7 := .slice none 0 0) rfl
    refine bodyPost_ret (resultsR Tryz.results15 rfl rfl hb8) rfl ?_
    have hg1 : w.heap.size + 1 ∉ fpOf t bm L1 := fun q => by
      rcases HM1.out.fp _ q with q | q
      · exact HF1.out q
      · simp at q; omega
    refine ⟨_, _, rfl, .inl ⟨rfl, rfl⟩, L1, ?_, ((HM1.out.pre (HHUA.out _ _).out).postNew hu8 hg1 (by omega))⟩
    refine ⟨_, _, rfl, own_upd HO1.out hu8 (fun g hg q => by have := (HO1.out.lt g hg).1; simp at this; omega) (by simp; omega), own_upd HO2.out hu8 (fun g hg q => by have := (HO2.out.lt g hg).1; simp at this; omega) (by simp; omega), HX1.out, HX2.out⟩
  · have HCE := Lib.hid h0
    have E := Lib.hid (errV_pos h0)
    clear h0
    subst hk
    go_enter Tryz.func15, Tryz.ntmps15
    go_wp2_with (first
      | (go_at_call 39; refine (ready_calls _ t bm L T (HT.out.upd ((HHUA.out _ _).out) (fun _ _ => id))).mono ?_; rintro e w' ⟨rfl, rfl⟩)
      | (go_at_call 44; refine (HC.out _ (HHUA.out _ _).out).mono ?_; rintro e w1 ⟨rv, rfl, L1, ⟨dv, nv, rfl, ho1, ho2, hx1, hx2⟩, hm1⟩; obtain ⟨dA, dn, dc, rfl⟩ := own_slice ho1; obtain ⟨nA, nn, nc, rfl⟩ := own_slice ho2; unfold replyV; have HO1 := Lib.hid ho1; have HO2 := Lib.hid ho2; have HX1 := Lib.hid hx1; have HX2 := Lib.hid hx2; clear ho1 ho2 hx1 hx2; have hz1 : w.heap.size + 2 ≤ w1.heap.size := (by have := hm1.upd.size; simp at this; omega); have HR1 : Hid (w1.heap[w.heap.size + 1]? = some (.cells #[.int .i64 0, .int .i64 0, .int .i64 0, .int .i64 0, .int .i64 0, .slice none 0 0, .slice none 0 0, .slice none 0 0] 29 (0, 0))) := hm1.heap (HHBY.out _ _).out HF1.out; have b1 : w1.cell? ⟨w.heap.size, 1, none⟩ = some (.string path) := (cell_of_heap (hm1.heap (HHBX.out _ _).out HF0.out) 1).trans rfl; have HM1 := Lib.hid hm1; clear hm1; have r1 := fun i => cell_of_heap (HR1.out) i; have r10 := (r1 0).trans rfl; have r11 := (r1 1).trans rfl; have r12 := (r1 2).trans rfl; have r13 := (r1 3).trans rfl; have r14 := (r1 4).trans rfl; have r15 := (r1 5).trans rfl; have r16 := (r1 6).trans rfl; have r17 := (r1 7).trans rfl; clear r1; simp only [List.getElem?_toArray, List.getElem?_cons_zero, List.getElem?_cons_succ] at r10 r11 r12 r13 r14 r15 r16 r17; have r1f := frozen_of_heap (HR1.out); have r1f0 := r1f 0; have r1f1 := r1f 1; have r1f2 := r1f 2; have r1f3 := r1f 3; have r1f4 := r1f 4; have r1f5 := r1f 5; have r1f6 := r1f 6; have r1f7 := r1f 7; clear r1f; have HRX := Lib.hid (heap8 (v0 := .int .i64 rep.ino) (v1 := .int .i64 rep.kind) (v2 := .int .i64 rep.size) (v3 := .int .i64 rep.links) (v4 := .int .i64 rep.n) (v5 := .slice dA dn dc) (v6 := .slice nA nn nc) (v7 := .slice none 0 0) HR1.out); try rw [E.out])
      | (go_at_call 38; rw [← E.out]; refine (faultNew2 _ _ path c1).mono ?_; rintro e w2 ⟨v2, rfl, hf2, hu2, hn2⟩; obtain ⟨b2, rfl, hb2⟩ := faultAt_ne hf2 HCE.out; have hz2 : w.heap.size + 2 ≤ b2 := (by have := hn2 b2 rfl; (try simp at this); omega); have HB2 := Lib.hid hb2; have HR2 : Hid (w2.heap[w.heap.size + 1]? = some (.cells #[.int .i64 rep.ino, .int .i64 rep.kind, .int .i64 rep.size, .int .i64 rep.links, .int .i64 rep.n, .slice dA dn dc, .slice nA nn nc, .slice none 0 0] 29 (0, 0))) := hu2.heap HRX.out id; have HU2 := Lib.hid hu2; clear hu2 hf2 hb2 hn2; have r2 := fun i => cell_of_heap (HR2.out) i; have r20 := (r2 0).trans rfl; have r21 := (r2 1).trans rfl; have r22 := (r2 2).trans rfl; have r23 := (r2 3).trans rfl; have r24 := (r2 4).trans rfl; have r25 := (r2 5).trans rfl; have r26 := (r2 6).trans rfl; have r27 := (r2 7).trans rfl; clear r2; simp only [List.getElem?_toArray, List.getElem?_cons_zero, List.getElem?_cons_succ] at r20 r21 r22 r23 r24 r25 r26 r27; have r2f := frozen_of_heap (HR2.out); have r2f0 := r2f 0; have r2f1 := r2f 1; have r2f2 := r2f 2; have r2f3 := r2f 3; have r2f4 := r2f 4; have r2f5 := r2f 5; have r2f6 := r2f 6; have r2f7 := r2f 7; clear r2f))
    have hb8 := heap8 (v0 := .int .i64 0) (v1 := .int .i64 0) (v2 := .int .i64 0) (v3 := .int .i64 0) (v4 := .int .i64 0) (v5 := .slice none 0 0) (v6 := .slice none 0 0) (v7 := .slice none 0 0) HR2.out
    have hu8 := (Upd.refl (· = w.heap.size + 1) w2).set8b (b := w.heap.size + 1) (v0 := .int .i64 0) (v1 := .int .i64 0) (v2 := .int .i64 0) (v3 := .int .i64 0) (v4 := .int .i64 0) (v5 := .slice none 0 0) (v6 := .slice none 0 0) (v7 := .slice none 0 0) rfl
    refine bodyPost_ret (resultsR Tryz.results15 rfl rfl hb8) rfl ?_
    have hg1 : w.heap.size + 1 ∉ fpOf t bm L1 := fun q => by
      rcases HM1.out.fp _ q with q | q
      · exact HF1.out q
      · simp at q; omega
    refine ⟨_, _, rfl, .inr ⟨HCE.out, b2, rfl, hu8.heap HB2.out (by omega)⟩, L1, ?_, (HM1.out.pre (HHUA.out _ _).out).postNew (((((Upd.refl (· = w.heap.size + 1) w1).set8b (b := w.heap.size + 1) (v0 := .int .i64 rep.ino) (v1 := .int .i64 rep.kind) (v2 := .int .i64 rep.size) (v3 := .int .i64 rep.links) (v4 := .int .i64 rep.n) (v5 := .slice dA dn dc) (v6 := .slice nA nn nc) (v7 := .slice none 0 0) rfl)).trans (HU2.out.mono (fun _ _ q => q.elim))).trans hu8) hg1 (by omega)⟩
    rw [show (c1, rep, T1).2.1 = zeroRep from HZ.out HCE.out]
    exact ReplyAt.zero _ _ _

set_option maxRecDepth 100000 in
set_option maxHeartbeats 8000000 in
theorem do_file8 (w : World) (t bm : Nat) (L : Lay) (T : Tr) (hT : TreeAt w t bm L T) (o : OpV) (A : Option Addr) (c : Nat) (hk : o.kind = 8) (r : Int × RepV × Tr) (hz : r.1 ≠ 0 → r.2.1 = zeroRep)
    (hcall : ∀ W, Upd (fun _ => False) w W → Calls Tryz.prog 44 #[.pointer (some ⟨t, 0, none⟩), .agg (opCells o A c)] W (RepR W t bm L r)) :
    Calls Tryz.prog 15 #[.pointer (some ⟨t, 0, none⟩), .agg (opCells o A c)] w (DoR w t bm L o.path r) := by
  have HT := Lib.hid hT
  have hlt := hT.lt
  have hlt1 : t ≤ w.heap.size + 1 := by omega
  have hlt2 : t < w.heap.size + 1 + 1 := by omega
  have HUA : ∀ X Y, Hid (Upd (fun _ => False) w ((w.alloc X).alloc Y)) := fun X Y => ((Upd.refl _ _).alloc X).alloc Y
  have HHUA := Lib.hid HUA
  have HF0 : Hid (w.heap.size ∉ fpOf t bm L) := fun q => by have := hT.fplt _ q; omega
  have HF1 : Hid (w.heap.size + 1 ∉ fpOf t bm L) := fun q => by have := hT.fplt _ q; omega
  have HBX : ∀ X Y, Hid (((w.alloc X).alloc Y).heap[w.heap.size]? = some X) := fun X Y => heap_al (MapKept.heap_alloc w X).1
  have HBY : ∀ X Y, Hid (((w.alloc X).alloc Y).heap[w.heap.size + 1]? = some Y) := fun X Y => heap_second w X Y
  have HHBX := Lib.hid HBX
  have HHBY := Lib.hid HBY
  clear hT HUA HBX HBY
  obtain ⟨kind, path, dest, off, n, data, snap⟩ := o
  obtain ⟨c1, rep, T1⟩ := r
  unfold opCells at *
  simp only at *
  have HC := Lib.hid hcall
  have HZ := Lib.hid hz
  clear hcall hz
  by_cases h0 : c1 = 0
  · subst h0
    have E : Hid (errV 0 = .nilIface) := rfl
    subst hk
    go_enter Tryz.func15, Tryz.ntmps15
    go_wp2_with (first
      | (go_at_call 39; refine (ready_calls _ t bm L T (HT.out.upd ((HHUA.out _ _).out) (fun _ _ => id))).mono ?_; rintro e w' ⟨rfl, rfl⟩)
      | (go_at_call 44; refine (HC.out _ (HHUA.out _ _).out).mono ?_; rintro e w1 ⟨rv, rfl, L1, ⟨dv, nv, rfl, ho1, ho2, hx1, hx2⟩, hm1⟩; obtain ⟨dA, dn, dc, rfl⟩ := own_slice ho1; obtain ⟨nA, nn, nc, rfl⟩ := own_slice ho2; unfold replyV; have HO1 := Lib.hid ho1; have HO2 := Lib.hid ho2; have HX1 := Lib.hid hx1; have HX2 := Lib.hid hx2; clear ho1 ho2 hx1 hx2; have hz1 : w.heap.size + 2 ≤ w1.heap.size := (by have := hm1.upd.size; simp at this; omega); have HR1 : Hid (w1.heap[w.heap.size + 1]? = some (.cells #[.int .i64 0, .int .i64 0, .int .i64 0, .int .i64 0, .int .i64 0, .slice none 0 0, .slice none 0 0, .slice none 0 0] 29 (0, 0))) := hm1.heap (HHBY.out _ _).out HF1.out; have b1 : w1.cell? ⟨w.heap.size, 1, none⟩ = some (.string path) := (cell_of_heap (hm1.heap (HHBX.out _ _).out HF0.out) 1).trans rfl; have HM1 := Lib.hid hm1; clear hm1; have r1 := fun i => cell_of_heap (HR1.out) i; have r10 := (r1 0).trans rfl; have r11 := (r1 1).trans rfl; have r12 := (r1 2).trans rfl; have r13 := (r1 3).trans rfl; have r14 := (r1 4).trans rfl; have r15 := (r1 5).trans rfl; have r16 := (r1 6).trans rfl; have r17 := (r1 7).trans rfl; clear r1; simp only [List.getElem?_toArray, List.getElem?_cons_zero, List.getElem?_cons_succ] at r10 r11 r12 r13 r14 r15 r16 r17; have r1f := frozen_of_heap (HR1.out); have r1f0 := r1f 0; have r1f1 := r1f 1; have r1f2 := r1f 2; have r1f3 := r1f 3; have r1f4 := r1f 4; have r1f5 := r1f 5; have r1f6 := r1f 6; have r1f7 := r1f 7; clear r1f; try rw [E.out]))
    have HRX := Lib.hid (heap8 (v0 := .int .i64 rep.ino) (v1 := .int .i64 rep.kind) (v2 := .int .i64 rep.size) (v3 := .int .i64 rep.links) (v4 := .int .i64 rep.n) (v5 := .slice dA dn dc) (v6 := .slice nA nn nc) (v7 := .slice none 0 0) HR1.out)
    have hb8 := heap8 (v0 := .int .i64 rep.ino) (v1 := .int .i64 rep.kind) (v2 := .int .i64 rep.size) (v3 := .int .i64 rep.links) (v4 := .int .i64 rep.n) (v5 := .slice dA dn dc) (v6 := .slice nA nn nc) (v7 := .slice none 0 0) HRX.out
    have hu8 := ((Upd.refl (· = w.heap.size + 1) w1).set8b (b := w.heap.size + 1) (v0 := .int .i64 rep.ino) (v1 := .int .i64 rep.kind) (v2 := .int .i64 rep.size) (v3 := .int .i64 rep.links) (v4 := .int .i64 rep.n) (v5 := .slice dA dn dc) (v6 := .slice nA nn nc) (v7 := .slice none 0 0) rfl).set8b (b := w.heap.size + 1) (v0 := .int .i64 rep.ino) (v1 := .int .i64 rep.kind) (v2 := .int .i64 rep.size) (v3 := .int .i64 rep.links) (v4 := .int .i64 rep.n) (v5 := .slice dA dn dc) (v6 := .slice nA nn nc) (v7 := .slice none 0 0) rfl
    refine bodyPost_ret (resultsR Tryz.results15 rfl rfl hb8) rfl ?_
    have hg1 : w.heap.size + 1 ∉ fpOf t bm L1 := fun q => by
      rcases HM1.out.fp _ q with q | q
      · exact HF1.out q
      · simp at q; omega
    refine ⟨_, _, rfl, .inl ⟨rfl, rfl⟩, L1, ?_, ((HM1.out.pre (HHUA.out _ _).out).postNew hu8 hg1 (by omega))⟩
    refine ⟨_, _, rfl, own_upd HO1.out hu8 (fun g hg q => by have := (HO1.out.lt g hg).1; simp at this; omega) (by simp; omega), own_upd HO2.out hu8 (fun g hg q => by have := (HO2.out.lt g hg).1; simp at this; omega) (by simp; omega), HX1.out, HX2.out⟩
  · have HCE := Lib.hid h0
    have E := Lib.hid (errV_pos h0)
    clear h0
    subst hk
    go_enter Tryz.func15, Tryz.ntmps15
    go_wp2_with (first
      | (go_at_call 39; refine (ready_calls _ t bm L T (HT.out.upd ((HHUA.out _ _).out) (fun _ _ => id))).mono ?_; rintro e w' ⟨rfl, rfl⟩)
      | (go_at_call 44; refine (HC.out _ (HHUA.out _ _).out).mono ?_; rintro e w1 ⟨rv, rfl, L1, ⟨dv, nv, rfl, ho1, ho2, hx1, hx2⟩, hm1⟩; obtain ⟨dA, dn, dc, rfl⟩ := own_slice ho1; obtain ⟨nA, nn, nc, rfl⟩ := own_slice ho2; unfold replyV; have HO1 := Lib.hid ho1; have HO2 := Lib.hid ho2; have HX1 := Lib.hid hx1; have HX2 := Lib.hid hx2; clear ho1 ho2 hx1 hx2; have hz1 : w.heap.size + 2 ≤ w1.heap.size := (by have := hm1.upd.size; simp at this; omega); have HR1 : Hid (w1.heap[w.heap.size + 1]? = some (.cells #[.int .i64 0, .int .i64 0, .int .i64 0, .int .i64 0, .int .i64 0, .slice none 0 0, .slice none 0 0, .slice none 0 0] 29 (0, 0))) := hm1.heap (HHBY.out _ _).out HF1.out; have b1 : w1.cell? ⟨w.heap.size, 1, none⟩ = some (.string path) := (cell_of_heap (hm1.heap (HHBX.out _ _).out HF0.out) 1).trans rfl; have HM1 := Lib.hid hm1; clear hm1; have r1 := fun i => cell_of_heap (HR1.out) i; have r10 := (r1 0).trans rfl; have r11 := (r1 1).trans rfl; have r12 := (r1 2).trans rfl; have r13 := (r1 3).trans rfl; have r14 := (r1 4).trans rfl; have r15 := (r1 5).trans rfl; have r16 := (r1 6).trans rfl; have r17 := (r1 7).trans rfl; clear r1; simp only [List.getElem?_toArray, List.getElem?_cons_zero, List.getElem?_cons_succ] at r10 r11 r12 r13 r14 r15 r16 r17; have r1f := frozen_of_heap (HR1.out); have r1f0 := r1f 0; have r1f1 := r1f 1; have r1f2 := r1f 2; have r1f3 := r1f 3; have r1f4 := r1f 4; have r1f5 := r1f 5; have r1f6 := r1f 6; have r1f7 := r1f 7; clear r1f; have HRX := Lib.hid (heap8 (v0 := .int .i64 rep.ino) (v1 := .int .i64 rep.kind) (v2 := .int .i64 rep.size) (v3 := .int .i64 rep.links) (v4 := .int .i64 rep.n) (v5 := .slice dA dn dc) (v6 := .slice nA nn nc) (v7 := .slice none 0 0) HR1.out); try rw [E.out])
      | (go_at_call 38; rw [← E.out]; refine (faultNew2 _ _ path c1).mono ?_; rintro e w2 ⟨v2, rfl, hf2, hu2, hn2⟩; obtain ⟨b2, rfl, hb2⟩ := faultAt_ne hf2 HCE.out; have hz2 : w.heap.size + 2 ≤ b2 := (by have := hn2 b2 rfl; (try simp at this); omega); have HB2 := Lib.hid hb2; have HR2 : Hid (w2.heap[w.heap.size + 1]? = some (.cells #[.int .i64 rep.ino, .int .i64 rep.kind, .int .i64 rep.size, .int .i64 rep.links, .int .i64 rep.n, .slice dA dn dc, .slice nA nn nc, .slice none 0 0] 29 (0, 0))) := hu2.heap HRX.out id; have HU2 := Lib.hid hu2; clear hu2 hf2 hb2 hn2; have r2 := fun i => cell_of_heap (HR2.out) i; have r20 := (r2 0).trans rfl; have r21 := (r2 1).trans rfl; have r22 := (r2 2).trans rfl; have r23 := (r2 3).trans rfl; have r24 := (r2 4).trans rfl; have r25 := (r2 5).trans rfl; have r26 := (r2 6).trans rfl; have r27 := (r2 7).trans rfl; clear r2; simp only [List.getElem?_toArray, List.getElem?_cons_zero, List.getElem?_cons_succ] at r20 r21 r22 r23 r24 r25 r26 r27; have r2f := frozen_of_heap (HR2.out); have r2f0 := r2f 0; have r2f1 := r2f 1; have r2f2 := r2f 2; have r2f3 := r2f 3; have r2f4 := r2f 4; have r2f5 := r2f 5; have r2f6 := r2f 6; have r2f7 := r2f 7; clear r2f))
    have hb8 := heap8 (v0 := .int .i64 0) (v1 := .int .i64 0) (v2 := .int .i64 0) (v3 := .int .i64 0) (v4 := .int .i64 0) (v5 := .slice none 0 0) (v6 := .slice none 0 0) (v7 := .slice none 0 0) HR2.out
    have hu8 := (Upd.refl (· = w.heap.size + 1) w2).set8b (b := w.heap.size + 1) (v0 := .int .i64 0) (v1 := .int .i64 0) (v2 := .int .i64 0) (v3 := .int .i64 0) (v4 := .int .i64 0) (v5 := .slice none 0 0) (v6 := .slice none 0 0) (v7 := .slice none 0 0) rfl
    refine bodyPost_ret (resultsR Tryz.results15 rfl rfl hb8) rfl ?_
    have hg1 : w.heap.size + 1 ∉ fpOf t bm L1 := fun q => by
      rcases HM1.out.fp _ q with q | q
      · exact HF1.out q
      · simp at q; omega
    refine ⟨_, _, rfl, .inr ⟨HCE.out, b2, rfl, hu8.heap HB2.out (by omega)⟩, L1, ?_, (HM1.out.pre (HHUA.out _ _).out).postNew (((((Upd.refl (· = w.heap.size + 1) w1).set8b (b := w.heap.size + 1) (v0 := .int .i64 rep.ino) (v1 := .int .i64 rep.kind) (v2 := .int .i64 rep.size) (v3 := .int .i64 rep.links) (v4 := .int .i64 rep.n) (v5 := .slice dA dn dc) (v6 := .slice nA nn nc) (v7 := .slice none 0 0) rfl)).trans (HU2.out.mono (fun _ _ q => q.elim))).trans hu8) hg1 (by omega)⟩
    rw [show (c1, rep, T1).2.1 = zeroRep from HZ.out HCE.out]
    exact ReplyAt.zero _ _ _

set_option maxRecDepth 100000 in
set_option maxHeartbeats 8000000 in
theorem do_file9 (w : World) (t bm : Nat) (L : Lay) (T : Tr) (hT : TreeAt w t bm L T) (o : OpV) (A : Option Addr) (c : Nat) (hk : o.kind = 9) (r : Int × RepV × Tr) (hz : r.1 ≠ 0 → r.2.1 = zeroRep)
    (hcall : ∀ W, Upd (fun _ => False) w W → Calls Tryz.prog 44 #[.pointer (some ⟨t, 0, none⟩), .agg (opCells o A c)] W (RepR W t bm L r)) :
    Calls Tryz.prog 15 #[.pointer (some ⟨t, 0, none⟩), .agg (opCells o A c)] w (DoR w t bm L o.path r) := by
  have HT := Lib.hid hT
  have hlt := hT.lt
  have hlt1 : t ≤ w.heap.size + 1 := by omega
  have hlt2 : t < w.heap.size + 1 + 1 := by omega
  have HUA : ∀ X Y, Hid (Upd (fun _ => False) w ((w.alloc X).alloc Y)) := fun X Y => ((Upd.refl _ _).alloc X).alloc Y
  have HHUA := Lib.hid HUA
  have HF0 : Hid (w.heap.size ∉ fpOf t bm L) := fun q => by have := hT.fplt _ q; omega
  have HF1 : Hid (w.heap.size + 1 ∉ fpOf t bm L) := fun q => by have := hT.fplt _ q; omega
  have HBX : ∀ X Y, Hid (((w.alloc X).alloc Y).heap[w.heap.size]? = some X) := fun X Y => heap_al (MapKept.heap_alloc w X).1
  have HBY : ∀ X Y, Hid (((w.alloc X).alloc Y).heap[w.heap.size + 1]? = some Y) := fun X Y => heap_second w X Y
  have HHBX := Lib.hid HBX
  have HHBY := Lib.hid HBY
  clear hT HUA HBX HBY
  obtain ⟨kind, path, dest, off, n, data, snap⟩ := o
  obtain ⟨c1, rep, T1⟩ := r
  unfold opCells at *
  simp only at *
  have HC := Lib.hid hcall
  have HZ := Lib.hid hz
  clear hcall hz
  by_cases h0 : c1 = 0
  · subst h0
    have E : Hid (errV 0 = .nilIface) := rfl
    subst hk
    go_enter Tryz.func15, Tryz.ntmps15
    go_wp2_with (first
      | (go_at_call 39; refine (ready_calls _ t bm L T (HT.out.upd ((HHUA.out _ _).out) (fun _ _ => id))).mono ?_; rintro e w' ⟨rfl, rfl⟩)
      | (go_at_call 44; refine (HC.out _ (HHUA.out _ _).out).mono ?_; rintro e w1 ⟨rv, rfl, L1, ⟨dv, nv, rfl, ho1, ho2, hx1, hx2⟩, hm1⟩; obtain ⟨dA, dn, dc, rfl⟩ := own_slice ho1; obtain ⟨nA, nn, nc, rfl⟩ := own_slice ho2; unfold replyV; have HO1 := Lib.hid ho1; have HO2 := Lib.hid ho2; have HX1 := Lib.hid hx1; have HX2 := Lib.hid hx2; clear ho1 ho2 hx1 hx2; have hz1 : w.heap.size + 2 ≤ w1.heap.size := (by have := hm1.upd.size; simp at this; omega); have HR1 : Hid (w1.heap[w.heap.size + 1]? = some (.cells #[.int .i64 0, .int .i64 0, .int .i64 0, .int .i64 0, .int .i64 0, .slice none 0 0, .slice none 0 0, .slice none 0 0] 29 (0, 0))) := hm1.heap (HHBY.out _ _).out HF1.out; have b1 : w1.cell? ⟨w.heap.size, 1, none⟩ = some (.string path) := (cell_of_heap (hm1.heap (HHBX.out _ _).out HF0.out) 1).trans rfl; have HM1 := Lib.hid hm1; clear hm1; have r1 := fun i => cell_of_heap (HR1.out) i; have r10 := (r1 0).trans rfl; have r11 := (r1 1).trans rfl; have r12 := (r1 2).trans rfl; have r13 := (r1 3).trans rfl; have r14 := (r1 4).trans rfl; have r15 := (r1 5).trans rfl; have r16 := (r1 6).trans rfl; have r17 := (r1 7).trans rfl; clear r1; simp only [List.getElem?_toArray, List.getElem?_cons_zero, List.getElem?_cons_succ] at r10 r11 r12 r13 r14 r15 r16 r17; have r1f := frozen_of_heap (HR1.out); have r1f0 := r1f 0; have r1f1 := r1f 1; have r1f2 := r1f 2; have r1f3 := r1f 3; have r1f4 := r1f 4; have r1f5 := r1f 5; have r1f6 := r1f 6; have r1f7 := r1f 7; clear r1f; try rw [E.out]))
    have HRX := Lib.hid (heap8 (v0 := .int .i64 rep.ino) (v1 := .int .i64 rep.kind) (v2 := .int .i64 rep.size) (v3 := .int .i64 rep.links) (v4 := .int .i64 rep.n) (v5 := .slice dA dn dc) (v6 := .slice nA nn nc) (v7 := .slice none 0 0) HR1.out)
    have hb8 := heap8 (v0 := .int .i64 rep.ino) (v1 := .int .i64 rep.kind) (v2 := .int .i64 rep.size) (v3 := .int .i64 rep.links) (v4 := .int .i64 rep.n) (v5 := .slice dA dn dc) (v6 := .slice nA nn nc) (v7 := .slice none 0 0) HRX.out
    have hu8 := ((Upd.refl (· = w.heap.size + 1) w1).set8b (b := w.heap.size + 1) (v0 := .int .i64 rep.ino) (v1 := .int .i64 rep.kind) (v2 := .int .i64 rep.size) (v3 := .int .i64 rep.links) (v4 := .int .i64 rep.n) (v5 := .slice dA dn dc) (v6 := .slice nA nn nc) (v7 := .slice none 0 0) rfl).set8b (b := w.heap.size + 1) (v0 := .int .i64 rep.ino) (v1 := .int .i64 rep.kind) (v2 := .int .i64 rep.size) (v3 := .int .i64 rep.links) (v4 := .int .i64 rep.n) (v5 := .slice dA dn dc) (v6 := .slice nA nn nc) (v7 := .slice none 0 0) rfl
    refine bodyPost_ret (resultsR Tryz.results15 rfl rfl hb8) rfl ?_
    have hg1 : w.heap.size + 1 ∉ fpOf t bm L1 := fun q => by
      rcases HM1.out.fp _ q with q | q
      · exact HF1.out q
      · simp at q; omega
    refine ⟨_, _, rfl, .inl ⟨rfl, rfl⟩, L1, ?_, ((HM1.out.pre (HHUA.out _ _).out).postNew hu8 hg1 (by omega))⟩
    refine ⟨_, _, rfl, own_upd HO1.out hu8 (fun g hg q => by have := (HO1.out.lt g hg).1; simp at this; omega) (by simp; omega), own_upd HO2.out hu8 (fun g hg q => by have := (HO2.out.lt g hg).1; simp at this; omega) (by simp; omega), HX1.out, HX2.out⟩
  · have HCE := Lib.hid h0
    have E := Lib.hid (errV_pos h0)
    clear h0
    subst hk
    go_enter Tryz.func15, Tryz.ntmps15
    go_wp2_with (first
      | (go_at_call 39; refine (ready_calls _ t bm L T (HT.out.upd ((HHUA.out _ _).out) (fun _ _ => id))).mono ?_; rintro e w' ⟨rfl, rfl⟩)
      | (go_at_call 44; refine (HC.out _ (HHUA.out _ _).out).mono ?_; rintro e w1 ⟨rv, rfl, L1, ⟨dv, nv, rfl, ho1, ho2, hx1, hx2⟩, hm1⟩; obtain ⟨dA, dn, dc, rfl⟩ := own_slice ho1; obtain ⟨nA, nn, nc, rfl⟩ := own_slice ho2; unfold replyV; have HO1 := Lib.hid ho1; have HO2 := Lib.hid ho2; have HX1 := Lib.hid hx1; have HX2 := Lib.hid hx2; clear ho1 ho2 hx1 hx2; have hz1 : w.heap.size + 2 ≤ w1.heap.size := (by have := hm1.upd.size; simp at this; omega); have HR1 : Hid (w1.heap[w.heap.size + 1]? = some (.cells #[.int .i64 0, .int .i64 0, .int .i64 0, .int .i64 0, .int .i64 0, .slice none 0 0, .slice none 0 0, .slice none 0 0] 29 (0, 0))) := hm1.heap (HHBY.out _ _).out HF1.out; have b1 : w1.cell? ⟨w.heap.size, 1, none⟩ = some (.string path) := (cell_of_heap (hm1.heap (HHBX.out _ _).out HF0.out) 1).trans rfl; have HM1 := Lib.hid hm1; clear hm1; have r1 := fun i => cell_of_heap (HR1.out) i; have r10 := (r1 0).trans rfl; have r11 := (r1 1).trans rfl; have r12 := (r1 2).trans rfl; have r13 := (r1 3).trans rfl; have r14 := (r1 4).trans rfl; have r15 := (r1 5).trans rfl; have r16 := (r1 6).trans rfl; have r17 := (r1 7).trans rfl; clear r1; simp only [List.getElem?_toArray, List.getElem?_cons_zero, List.getElem?_cons_succ] at r10 r11 r12 r13 r14 r15 r16 r17; have r1f := frozen_of_heap (HR1.out); have r1f0 := r1f 0; have r1f1 := r1f 1; have r1f2 := r1f 2; have r1f3 := r1f 3; have r1f4 := r1f 4; have r1f5 := r1f 5; have r1f6 := r1f 6; have r1f7 := r1f 7; clear r1f; have HRX := Lib.hid (heap8 (v0 := .int .i64 rep.ino) (v1 := .int .i64 rep.kind) (v2 := .int .i64 rep.size) (v3 := .int .i64 rep.links) (v4 := .int .i64 rep.n) (v5 := .slice dA dn dc) (v6 := .slice nA nn nc) (v7 := .slice none 0 0) HR1.out); try rw [E.out])
      | (go_at_call 38; rw [← E.out]; refine (faultNew2 _ _ path c1).mono ?_; rintro e w2 ⟨v2, rfl, hf2, hu2, hn2⟩; obtain ⟨b2, rfl, hb2⟩ := faultAt_ne hf2 HCE.out; have hz2 : w.heap.size + 2 ≤ b2 := (by have := hn2 b2 rfl; (try simp at this); omega); have HB2 := Lib.hid hb2; have HR2 : Hid (w2.heap[w.heap.size + 1]? = some (.cells #[.int .i64 rep.ino, .int .i64 rep.kind, .int .i64 rep.size, .int .i64 rep.links, .int .i64 rep.n, .slice dA dn dc, .slice nA nn nc, .slice none 0 0] 29 (0, 0))) := hu2.heap HRX.out id; have HU2 := Lib.hid hu2; clear hu2 hf2 hb2 hn2; have r2 := fun i => cell_of_heap (HR2.out) i; have r20 := (r2 0).trans rfl; have r21 := (r2 1).trans rfl; have r22 := (r2 2).trans rfl; have r23 := (r2 3).trans rfl; have r24 := (r2 4).trans rfl; have r25 := (r2 5).trans rfl; have r26 := (r2 6).trans rfl; have r27 := (r2 7).trans rfl; clear r2; simp only [List.getElem?_toArray, List.getElem?_cons_zero, List.getElem?_cons_succ] at r20 r21 r22 r23 r24 r25 r26 r27; have r2f := frozen_of_heap (HR2.out); have r2f0 := r2f 0; have r2f1 := r2f 1; have r2f2 := r2f 2; have r2f3 := r2f 3; have r2f4 := r2f 4; have r2f5 := r2f 5; have r2f6 := r2f 6; have r2f7 := r2f 7; clear r2f))
    have hb8 := heap8 (v0 := .int .i64 0) (v1 := .int .i64 0) (v2 := .int .i64 0) (v3 := .int .i64 0) (v4 := .int .i64 0) (v5 := .slice none 0 0) (v6 := .slice none 0 0) (v7 := .slice none 0 0) HR2.out
    have hu8 := (Upd.refl (· = w.heap.size + 1) w2).set8b (b := w.heap.size + 1) (v0 := .int .i64 0) (v1 := .int .i64 0) (v2 := .int .i64 0) (v3 := .int .i64 0) (v4 := .int .i64 0) (v5 := .slice none 0 0) (v6 := .slice none 0 0) (v7 := .slice none 0 0) rfl
    refine bodyPost_ret (resultsR Tryz.results15 rfl rfl hb8) rfl ?_
    have hg1 : w.heap.size + 1 ∉ fpOf t bm L1 := fun q => by
      rcases HM1.out.fp _ q with q | q
      · exact HF1.out q
      · simp at q; omega
    refine ⟨_, _, rfl, .inr ⟨HCE.out, b2, rfl, hu8.heap HB2.out (by omega)⟩, L1, ?_, (HM1.out.pre (HHUA.out _ _).out).postNew (((((Upd.refl (· = w.heap.size + 1) w1).set8b (b := w.heap.size + 1) (v0 := .int .i64 rep.ino) (v1 := .int .i64 rep.kind) (v2 := .int .i64 rep.size) (v3 := .int .i64 rep.links) (v4 := .int .i64 rep.n) (v5 := .slice dA dn dc) (v6 := .slice nA nn nc) (v7 := .slice none 0 0) rfl)).trans (HU2.out.mono (fun _ _ q => q.elim))).trans hu8) hg1 (by omega)⟩
    rw [show (c1, rep, T1).2.1 = zeroRep from HZ.out HCE.out]
    exact ReplyAt.zero _ _ _

set_option maxRecDepth 100000 in
set_option maxHeartbeats 8000000 in
theorem do_look10 (w : World) (t bm : Nat) (L : Lay) (T : Tr) (hT : TreeAt w t bm L T) (o : OpV) (A : Option Addr) (c : Nat) (hk : o.kind = 10) (r : Int × RepV × Tr) (hz : r.1 ≠ 0 → r.2.1 = zeroRep)
    (hcall : ∀ W, Upd (fun _ => False) w W → Calls Tryz.prog 45 #[.pointer (some ⟨t, 0, none⟩), .agg (opCells o A c)] W (RepR W t bm L r)) :
    Calls Tryz.prog 15 #[.pointer (some ⟨t, 0, none⟩), .agg (opCells o A c)] w (DoR w t bm L o.path r) := by
  have HT := Lib.hid hT
  have hlt := hT.lt
  have hlt1 : t ≤ w.heap.size + 1 := by omega
  have hlt2 : t < w.heap.size + 1 + 1 := by omega
  have HUA : ∀ X Y, Hid (Upd (fun _ => False) w ((w.alloc X).alloc Y)) := fun X Y => ((Upd.refl _ _).alloc X).alloc Y
  have HHUA := Lib.hid HUA
  have HF0 : Hid (w.heap.size ∉ fpOf t bm L) := fun q => by have := hT.fplt _ q; omega
  have HF1 : Hid (w.heap.size + 1 ∉ fpOf t bm L) := fun q => by have := hT.fplt _ q; omega
  have HBX : ∀ X Y, Hid (((w.alloc X).alloc Y).heap[w.heap.size]? = some X) := fun X Y => heap_al (MapKept.heap_alloc w X).1
  have HBY : ∀ X Y, Hid (((w.alloc X).alloc Y).heap[w.heap.size + 1]? = some Y) := fun X Y => heap_second w X Y
  have HHBX := Lib.hid HBX
  have HHBY := Lib.hid HBY
  clear hT HUA HBX HBY
  obtain ⟨kind, path, dest, off, n, data, snap⟩ := o
  obtain ⟨c1, rep, T1⟩ := r
  unfold opCells at *
  simp only at *
  have HC := Lib.hid hcall
  have HZ := Lib.hid hz
  clear hcall hz
  by_cases h0 : c1 = 0
  · subst h0
    have E : Hid (errV 0 = .nilIface) := rfl
    subst hk
    go_enter Tryz.func15, Tryz.ntmps15
    go_wp2_with (first
      | (go_at_call 39; refine (ready_calls _ t bm L T (HT.out.upd ((HHUA.out _ _).out) (fun _ _ => id))).mono ?_; rintro e w' ⟨rfl, rfl⟩)
      | (go_at_call 45; refine (HC.out _ (HHUA.out _ _).out).mono ?_; rintro e w1 ⟨rv, rfl, L1, ⟨dv, nv, rfl, ho1, ho2, hx1, hx2⟩, hm1⟩; obtain ⟨dA, dn, dc, rfl⟩ := own_slice ho1; obtain ⟨nA, nn, nc, rfl⟩ := own_slice ho2; unfold replyV; have HO1 := Lib.hid ho1; have HO2 := Lib.hid ho2; have HX1 := Lib.hid hx1; have HX2 := Lib.hid hx2; clear ho1 ho2 hx1 hx2; have hz1 : w.heap.size + 2 ≤ w1.heap.size := (by have := hm1.upd.size; simp at this; omega); have HR1 : Hid (w1.heap[w.heap.size + 1]? = some (.cells #[.int .i64 0, .int .i64 0, .int .i64 0, .int .i64 0, .int .i64 0, .slice none 0 0, .slice none 0 0, .slice none 0 0] 29 (0, 0))) := hm1.heap (HHBY.out _ _).out HF1.out; have b1 : w1.cell? ⟨w.heap.size, 1, none⟩ = some (.string path) := (cell_of_heap (hm1.heap (HHBX.out _ _).out HF0.out) 1).trans rfl; have HM1 := Lib.hid hm1; clear hm1; have r1 := fun i => cell_of_heap (HR1.out) i; have r10 := (r1 0).trans rfl; have r11 := (r1 1).trans rfl; have r12 := (r1 2).trans rfl; have r13 := (r1 3).trans rfl; have r14 := (r1 4).trans rfl; have r15 := (r1 5).trans rfl; have r16 := (r1 6).trans rfl; have r17 := (r1 7).trans rfl; clear r1; simp only [List.getElem?_toArray, List.getElem?_cons_zero, List.getElem?_cons_succ] at r10 r11 r12 r13 r14 r15 r16 r17; have r1f := frozen_of_heap (HR1.out); have r1f0 := r1f 0; have r1f1 := r1f 1; have r1f2 := r1f 2; have r1f3 := r1f 3; have r1f4 := r1f 4; have r1f5 := r1f 5; have r1f6 := r1f 6; have r1f7 := r1f 7; clear r1f; try rw [E.out]))
    have HRX := Lib.hid (heap8 (v0 := .int .i64 rep.ino) (v1 := .int .i64 rep.kind) (v2 := .int .i64 rep.size) (v3 := .int .i64 rep.links) (v4 := .int .i64 rep.n) (v5 := .slice dA dn dc) (v6 := .slice nA nn nc) (v7 := .slice none 0 0) HR1.out)
    have hb8 := heap8 (v0 := .int .i64 rep.ino) (v1 := .int .i64 rep.kind) (v2 := .int .i64 rep.size) (v3 := .int .i64 rep.links) (v4 := .int .i64 rep.n) (v5 := .slice dA dn dc) (v6 := .slice nA nn nc) (v7 := .slice none 0 0) HRX.out
    have hu8 := ((Upd.refl (· = w.heap.size + 1) w1).set8b (b := w.heap.size + 1) (v0 := .int .i64 rep.ino) (v1 := .int .i64 rep.kind) (v2 := .int .i64 rep.size) (v3 := .int .i64 rep.links) (v4 := .int .i64 rep.n) (v5 := .slice dA dn dc) (v6 := .slice nA nn nc) (v7 := .slice none 0 0) rfl).set8b (b := w.heap.size + 1) (v0 := .int .i64 rep.ino) (v1 := .int .i64 rep.kind) (v2 := .int .i64 rep.size) (v3 := .int .i64 rep.links) (v4 := .int .i64 rep.n) (v5 := .slice dA dn dc) (v6 := .slice nA nn nc) (v7 := .slice none 0 0) rfl
    refine bodyPost_ret (resultsR Tryz.results15 rfl rfl hb8) rfl ?_
    have hg1 : w.heap.size + 1 ∉ fpOf t bm L1 := fun q => by
      rcases HM1.out.fp _ q with q | q
      · exact HF1.out q
      · simp at q; omega
    refine ⟨_, _, rfl, .inl ⟨rfl, rfl⟩, L1, ?_, ((HM1.out.pre (HHUA.out _ _).out).postNew hu8 hg1 (by omega))⟩
    refine ⟨_, _, rfl, own_upd HO1.out hu8 (fun g hg q => by have := (HO1.out.lt g hg).1; simp at this; omega) (by simp; omega), own_upd HO2.out hu8 (fun g hg q => by have := (HO2.out.lt g hg).1; simp at this; omega) (by simp; omega), HX1.out, HX2.out⟩
  · have HCE := Lib.hid h0
    have E := Lib.hid (errV_pos h0)
    clear h0
    subst hk
    go_enter Tryz.func15, Tryz.ntmps15
    go_wp2_with (first
      | (go_at_call 39; refine (ready_calls _ t bm L T (HT.out.upd ((HHUA.out _ _).out) (fun _ _ => id))).mono ?_; rintro e w' ⟨rfl, rfl⟩)
      | (go_at_call 45; refine (HC.out _ (HHUA.out _ _).out).mono ?_; rintro e w1 ⟨rv, rfl, L1, ⟨dv, nv, rfl, ho1, ho2, hx1, hx2⟩, hm1⟩; obtain ⟨dA, dn, dc, rfl⟩ := own_slice ho1; obtain ⟨nA, nn, nc, rfl⟩ := own_slice ho2; unfold replyV; have HO1 := Lib.hid ho1; have HO2 := Lib.hid ho2; have HX1 := Lib.hid hx1; have HX2 := Lib.hid hx2; clear ho1 ho2 hx1 hx2; have hz1 : w.heap.size + 2 ≤ w1.heap.size := (by have := hm1.upd.size; simp at this; omega); have HR1 : Hid (w1.heap[w.heap.size + 1]? = some (.cells #[.int .i64 0, .int .i64 0, .int .i64 0, .int .i64 0, .int .i64 0, .slice none 0 0, .slice none 0 0, .slice none 0 0] 29 (0, 0))) := hm1.heap (HHBY.out _ _).out HF1.out; have b1 : w1.cell? ⟨w.heap.size, 1, none⟩ = some (.string path) := (cell_of_heap (hm1.heap (HHBX.out _ _).out HF0.out) 1).trans rfl; have HM1 := Lib.hid hm1; clear hm1; have r1 := fun i => cell_of_heap (HR1.out) i; have r10 := (r1 0).trans rfl; have r11 := (r1 1).trans rfl; have r12 := (r1 2).trans rfl; have r13 := (r1 3).trans rfl; have r14 := (r1 4).trans rfl; have r15 := (r1 5).trans rfl; have r16 := (r1 6).trans rfl; have r17 := (r1 7).trans rfl; clear r1; simp only [List.getElem?_toArray, List.getElem?_cons_zero, List.getElem?_cons_succ] at r10 r11 r12 r13 r14 r15 r16 r17; have r1f := frozen_of_heap (HR1.out); have r1f0 := r1f 0; have r1f1 := r1f 1; have r1f2 := r1f 2; have r1f3 := r1f 3; have r1f4 := r1f 4; have r1f5 := r1f 5; have r1f6 := r1f 6; have r1f7 := r1f 7; clear r1f; have HRX := Lib.hid (heap8 (v0 := .int .i64 rep.ino) (v1 := .int .i64 rep.kind) (v2 := .int .i64 rep.size) (v3 := .int .i64 rep.links) (v4 := .int .i64 rep.n) (v5 := .slice dA dn dc) (v6 := .slice nA nn nc) (v7 := .slice none 0 0) HR1.out); try rw [E.out])
      | (go_at_call 38; rw [← E.out]; refine (faultNew2 _ _ path c1).mono ?_; rintro e w2 ⟨v2, rfl, hf2, hu2, hn2⟩; obtain ⟨b2, rfl, hb2⟩ := faultAt_ne hf2 HCE.out; have hz2 : w.heap.size + 2 ≤ b2 := (by have := hn2 b2 rfl; (try simp at this); omega); have HB2 := Lib.hid hb2; have HR2 : Hid (w2.heap[w.heap.size + 1]? = some (.cells #[.int .i64 rep.ino, .int .i64 rep.kind, .int .i64 rep.size, .int .i64 rep.links, .int .i64 rep.n, .slice dA dn dc, .slice nA nn nc, .slice none 0 0] 29 (0, 0))) := hu2.heap HRX.out id; have HU2 := Lib.hid hu2; clear hu2 hf2 hb2 hn2; have r2 := fun i => cell_of_heap (HR2.out) i; have r20 := (r2 0).trans rfl; have r21 := (r2 1).trans rfl; have r22 := (r2 2).trans rfl; have r23 := (r2 3).trans rfl; have r24 := (r2 4).trans rfl; have r25 := (r2 5).trans rfl; have r26 := (r2 6).trans rfl; have r27 := (r2 7).trans rfl; clear r2; simp only [List.getElem?_toArray, List.getElem?_cons_zero, List.getElem?_cons_succ] at r20 r21 r22 r23 r24 r25 r26 r27; have r2f := frozen_of_heap (HR2.out); have r2f0 := r2f 0; have r2f1 := r2f 1; have r2f2 := r2f 2; have r2f3 := r2f 3; have r2f4 := r2f 4; have r2f5 := r2f 5; have r2f6 := r2f 6; have r2f7 := r2f 7; clear r2f))
    have hb8 := heap8 (v0 := .int .i64 0) (v1 := .int .i64 0) (v2 := .int .i64 0) (v3 := .int .i64 0) (v4 := .int .i64 0) (v5 := .slice none 0 0) (v6 := .slice none 0 0) (v7 := .slice none 0 0) HR2.out
    have hu8 := (Upd.refl (· = w.heap.size + 1) w2).set8b (b := w.heap.size + 1) (v0 := .int .i64 0) (v1 := .int .i64 0) (v2 := .int .i64 0) (v3 := .int .i64 0) (v4 := .int .i64 0) (v5 := .slice none 0 0) (v6 := .slice none 0 0) (v7 := .slice none 0 0) rfl
    refine bodyPost_ret (resultsR Tryz.results15 rfl rfl hb8) rfl ?_
    have hg1 : w.heap.size + 1 ∉ fpOf t bm L1 := fun q => by
      rcases HM1.out.fp _ q with q | q
      · exact HF1.out q
      · simp at q; omega
    refine ⟨_, _, rfl, .inr ⟨HCE.out, b2, rfl, hu8.heap HB2.out (by omega)⟩, L1, ?_, (HM1.out.pre (HHUA.out _ _).out).postNew (((((Upd.refl (· = w.heap.size + 1) w1).set8b (b := w.heap.size + 1) (v0 := .int .i64 rep.ino) (v1 := .int .i64 rep.kind) (v2 := .int .i64 rep.size) (v3 := .int .i64 rep.links) (v4 := .int .i64 rep.n) (v5 := .slice dA dn dc) (v6 := .slice nA nn nc) (v7 := .slice none 0 0) rfl)).trans (HU2.out.mono (fun _ _ q => q.elim))).trans hu8) hg1 (by omega)⟩
    rw [show (c1, rep, T1).2.1 = zeroRep from HZ.out HCE.out]
    exact ReplyAt.zero _ _ _

set_option maxRecDepth 100000 in
set_option maxHeartbeats 8000000 in
theorem do_look11 (w : World) (t bm : Nat) (L : Lay) (T : Tr) (hT : TreeAt w t bm L T) (o : OpV) (A : Option Addr) (c : Nat) (hk : o.kind = 11) (r : Int × RepV × Tr) (hz : r.1 ≠ 0 → r.2.1 = zeroRep)
    (hcall : ∀ W, Upd (fun _ => False) w W → Calls Tryz.prog 45 #[.pointer (some ⟨t, 0, none⟩), .agg (opCells o A c)] W (RepR W t bm L r)) :
    Calls Tryz.prog 15 #[.pointer (some ⟨t, 0, none⟩), .agg (opCells o A c)] w (DoR w t bm L o.path r) := by
  have HT := Lib.hid hT
  have hlt := hT.lt
  have hlt1 : t ≤ w.heap.size + 1 := by omega
  have hlt2 : t < w.heap.size + 1 + 1 := by omega
  have HUA : ∀ X Y, Hid (Upd (fun _ => False) w ((w.alloc X).alloc Y)) := fun X Y => ((Upd.refl _ _).alloc X).alloc Y
  have HHUA := Lib.hid HUA
  have HF0 : Hid (w.heap.size ∉ fpOf t bm L) := fun q => by have := hT.fplt _ q; omega
  have HF1 : Hid (w.heap.size + 1 ∉ fpOf t bm L) := fun q => by have := hT.fplt _ q; omega
  have HBX : ∀ X Y, Hid (((w.alloc X).alloc Y).heap[w.heap.size]? = some X) := fun X Y => heap_al (MapKept.heap_alloc w X).1
  have HBY : ∀ X Y, Hid (((w.alloc X).alloc Y).heap[w.heap.size + 1]? = some Y) := fun X Y => heap_second w X Y
  have HHBX := Lib.hid HBX
  have HHBY := Lib.hid HBY
  clear hT HUA HBX HBY
  obtain ⟨kind, path, dest, off, n, data, snap⟩ := o
  obtain ⟨c1, rep, T1⟩ := r
  unfold opCells at *
  simp only at *
  have HC := Lib.hid hcall
  have HZ := Lib.hid hz
  clear hcall hz
  by_cases h0 : c1 = 0
  · subst h0
    have E : Hid (errV 0 = .nilIface) := rfl
    subst hk
    go_enter Tryz.func15, Tryz.ntmps15
    go_wp2_with (first
      | (go_at_call 39; refine (ready_calls _ t bm L T (HT.out.upd ((HHUA.out _ _).out) (fun _ _ => id))).mono ?_; rintro e w' ⟨rfl, rfl⟩)
      | (go_at_call 45; refine (HC.out _ (HHUA.out _ _).out).mono ?_; rintro e w1 ⟨rv, rfl, L1, ⟨dv, nv, rfl, ho1, ho2, hx1, hx2⟩, hm1⟩; obtain ⟨dA, dn, dc, rfl⟩ := own_slice ho1; obtain ⟨nA, nn, nc, rfl⟩ := own_slice ho2; unfold replyV; have HO1 := Lib.hid ho1; have HO2 := Lib.hid ho2; have HX1 := Lib.hid hx1; have HX2 := Lib.hid hx2; clear ho1 ho2 hx1 hx2; have hz1 : w.heap.size + 2 ≤ w1.heap.size := (by have := hm1.upd.size; simp at this; omega); have HR1 : Hid (w1.heap[w.heap.size + 1]? = some (.cells #[.int .i64 0, .int .i64 0, .int .i64 0, .int .i64 0, .int .i64 0, .slice none 0 0, .slice none 0 0, .slice none 0 0] 29 (0, 0))) := hm1.heap (HHBY.out _ _).out HF1.out; have b1 : w1.cell? ⟨w.heap.size, 1, none⟩ = some (.string path) := (cell_of_heap (hm1.heap (HHBX.out _ _).out HF0.out) 1).trans rfl; have HM1 := Lib.hid hm1; clear hm1; have r1 := fun i => cell_of_heap (HR1.out) i; have r10 := (r1 0).trans rfl; have r11 := (r1 1).trans rfl; have r12 := (r1 2).trans rfl; have r13 := (r1 3).trans rfl; have r14 := (r1 4).trans rfl; have r15 := (r1 5).trans rfl; have r16 := (r1 6).trans rfl; have r17 := (r1 7).trans rfl; clear r1; simp only [List.getElem?_toArray, List.getElem?_cons_zero, List.getElem?_cons_succ] at r10 r11 r12 r13 r14 r15 r16 r17; have r1f := frozen_of_heap (HR1.out); have r1f0 := r1f 0; have r1f1 := r1f 1; have r1f2 := r1f 2; have r1f3 := r1f 3; have r1f4 := r1f 4; have r1f5 := r1f 5; have r1f6 := r1f 6; have r1f7 := r1f 7; clear r1f; try rw [E.out]))
    have HRX := Lib.hid (heap8 (v0 := .int .i64 rep.ino) (v1 := .int .i64 rep.kind) (v2 := .int .i64 rep.size) (v3 := .int .i64 rep.links) (v4 := .int .i64 rep.n) (v5 := .slice dA dn dc) (v6 := .slice nA nn nc) (v7 := .slice none 0 0) HR1.out)
    have hb8 := heap8 (v0 := .int .i64 rep.ino) (v1 := .int .i64 rep.kind) (v2 := .int .i64 rep.size) (v3 := .int .i64 rep.links) (v4 := .int .i64 rep.n) (v5 := .slice dA dn dc) (v6 := .slice nA nn nc) (v7 := .slice none 0 0) HRX.out
    have hu8 := ((Upd.refl (· = w.heap.size + 1) w1).set8b (b := w.heap.size + 1) (v0 := .int .i64 rep.ino) (v1 := .int .i64 rep.kind) (v2 := .int .i64 rep.size) (v3 := .int .i64 rep.links) (v4 := .int .i64 rep.n) (v5 := .slice dA dn dc) (v6 := .slice nA nn nc) (v7 := .slice none 0 0) rfl).set8b (b := w.heap.size + 1) (v0 := .int .i64 rep.ino) (v1 := .int .i64 rep.kind) (v2 := .int .i64 rep.size) (v3 := .int .i64 rep.links) (v4 := .int .i64 rep.n) (v5 := .slice dA dn dc) (v6 := .slice nA nn nc) (v7 := .slice none 0 0) rfl
    refine bodyPost_ret (resultsR Tryz.results15 rfl rfl hb8) rfl ?_
    have hg1 : w.heap.size + 1 ∉ fpOf t bm L1 := fun q => by
      rcases HM1.out.fp _ q with q | q
      · exact HF1.out q
      · simp at q; omega
    refine ⟨_, _, rfl, .inl ⟨rfl, rfl⟩, L1, ?_, ((HM1.out.pre (HHUA.out _ _).out).postNew hu8 hg1 (by omega))⟩
    refine ⟨_, _, rfl, own_upd HO1.out hu8 (fun g hg q => by have := (HO1.out.lt g hg).1; simp at this; omega) (by simp; omega), own_upd HO2.out hu8 (fun g hg q => by have := (HO2.out.lt g hg).1; simp at this; omega) (by simp; omega), HX1.out, HX2.out⟩
  · have HCE := Lib.hid h0
    have E := Lib.hid (errV_pos h0)
    clear h0
    subst hk
    go_enter Tryz.func15, Tryz.ntmps15
    go_wp2_with (first
      | (go_at_call 39; refine (ready_calls _ t bm L T (HT.out.upd ((HHUA.out _ _).out) (fun _ _ => id))).mono ?_; rintro e w' ⟨rfl, rfl⟩)
      | (go_at_call 45; refine (HC.out _ (HHUA.out _ _).out).mono ?_; rintro e w1 ⟨rv, rfl, L1, ⟨dv, nv, rfl, ho1, ho2, hx1, hx2⟩, hm1⟩; obtain ⟨dA, dn, dc, rfl⟩ := own_slice ho1; obtain ⟨nA, nn, nc, rfl⟩ := own_slice ho2; unfold replyV; have HO1 := Lib.hid ho1; have HO2 := Lib.hid ho2; have HX1 := Lib.hid hx1; have HX2 := Lib.hid hx2; clear ho1 ho2 hx1 hx2; have hz1 : w.heap.size + 2 ≤ w1.heap.size := (by have := hm1.upd.size; simp at this; omega); have HR1 : Hid (w1.heap[w.heap.size + 1]? = some (.cells #[.int .i64 0, .int .i64 0, .int .i64 0, .int .i64 0, .int .i64 0, .slice none 0 0, .slice none 0 0, .slice none 0 0] 29 (0, 0))) := hm1.heap (HHBY.out _ _).out HF1.out; have b1 : w1.cell? ⟨w.heap.size, 1, none⟩ = some (.string path) := (cell_of_heap (hm1.heap (HHBX.out _ _).out HF0.out) 1).trans rfl; have HM1 := Lib.hid hm1; clear hm1; have r1 := fun i => cell_of_heap (HR1.out) i; have r10 := (r1 0).trans rfl; have r11 := (r1 1).trans rfl; have r12 := (r1 2).trans rfl; have r13 := (r1 3).trans rfl; have r14 := (r1 4).trans rfl; have r15 := (r1 5).trans rfl; have r16 := (r1 6).trans rfl; have r17 := (r1 7).trans rfl; clear r1; simp only [List.getElem?_toArray, List.getElem?_cons_zero, List.getElem?_cons_succ] at r10 r11 r12 r13 r14 r15 r16 r17; have r1f := frozen_of_heap (HR1.out); have r1f0 := r1f 0; have r1f1 := r1f 1; have r1f2 := r1f 2; have r1f3 := r1f 3; have r1f4 := r1f 4; have r1f5 := r1f 5; have r1f6 := r1f 6; have r1f7 := r1f 7; clear r1f; have HRX := Lib.hid (heap8 (v0 := .int .i64 rep.ino) (v1 := .int .i64 rep.kind) (v2 := .int .i64 rep.size) (v3 := .int .i64 rep.links) (v4 := .int .i64 rep.n) (v5 := .slice dA dn dc) (v6 := .slice nA nn nc) (v7 := .slice none 0 0) HR1.out); try rw [E.out])
      | (go_at_call 38; rw [← E.out]; refine (faultNew2 _ _ path c1).mono ?_; rintro e w2 ⟨v2, rfl, hf2, hu2, hn2⟩; obtain ⟨b2, rfl, hb2⟩ := faultAt_ne hf2 HCE.out; have hz2 : w.heap.size + 2 ≤ b2 := (by have := hn2 b2 rfl; (try simp at this); omega); have HB2 := Lib.hid hb2; have HR2 : Hid (w2.heap[w.heap.size + 1]? = some (.cells #[.int .i64 rep.ino, .int .i64 rep.kind, .int .i64 rep.size, .int .i64 rep.links, .int .i64 rep.n, .slice dA dn dc, .slice nA nn nc, .slice none 0 0] 29 (0, 0))) := hu2.heap HRX.out id; have HU2 := Lib.hid hu2; clear hu2 hf2 hb2 hn2; have r2 := fun i => cell_of_heap (HR2.out) i; have r20 := (r2 0).trans rfl; have r21 := (r2 1).trans rfl; have r22 := (r2 2).trans rfl; have r23 := (r2 3).trans rfl; have r24 := (r2 4).trans rfl; have r25 := (r2 5).trans rfl; have r26 := (r2 6).trans rfl; have r27 := (r2 7).trans rfl; clear r2; simp only [List.getElem?_toArray, List.getElem?_cons_zero, List.getElem?_cons_succ] at r20 r21 r22 r23 r24 r25 r26 r27; have r2f := frozen_of_heap (HR2.out); have r2f0 := r2f 0; have r2f1 := r2f 1; have r2f2 := r2f 2; have r2f3 := r2f 3; have r2f4 := r2f 4; have r2f5 := r2f 5; have r2f6 := r2f 6; have r2f7 := r2f 7; clear r2f))
    have hb8 := heap8 (v0 := .int .i64 0) (v1 := .int .i64 0) (v2 := .int .i64 0) (v3 := .int .i64 0) (v4 := .int .i64 0) (v5 := .slice none 0 0) (v6 := .slice none 0 0) (v7 := .slice none 0 0) HR2.out
    have hu8 := (Upd.refl (· = w.heap.size + 1) w2).set8b (b := w.heap.size + 1) (v0 := .int .i64 0) (v1 := .int .i64 0) (v2 := .int .i64 0) (v3 := .int .i64 0) (v4 := .int .i64 0) (v5 := .slice none 0 0) (v6 := .slice none 0 0) (v7 := .slice none 0 0) rfl
    refine bodyPost_ret (resultsR Tryz.results15 rfl rfl hb8) rfl ?_
    have hg1 : w.heap.size + 1 ∉ fpOf t bm L1 := fun q => by
      rcases HM1.out.fp _ q with q | q
      · exact HF1.out q
      · simp at q; omega
    refine ⟨_, _, rfl, .inr ⟨HCE.out, b2, rfl, hu8.heap HB2.out (by omega)⟩, L1, ?_, (HM1.out.pre (HHUA.out _ _).out).postNew (((((Upd.refl (· = w.heap.size + 1) w1).set8b (b := w.heap.size + 1) (v0 := .int .i64 rep.ino) (v1 := .int .i64 rep.kind) (v2 := .int .i64 rep.size) (v3 := .int .i64 rep.links) (v4 := .int .i64 rep.n) (v5 := .slice dA dn dc) (v6 := .slice nA nn nc) (v7 := .slice none 0 0) rfl)).trans (HU2.out.mono (fun _ _ q => q.elim))).trans hu8) hg1 (by omega)⟩
    rw [show (c1, rep, T1).2.1 = zeroRep from HZ.out HCE.out]
    exact ReplyAt.zero _ _ _
end Go.Proofs.YtggfepgablfbhaaGreatDoor
