/- Walk of dolmenlaw5.awake. -/
import Derived.Test.YtggfepgablfbhaaGreatDoorDoes
namespace Go.Proofs.YtggfepgablfbhaaGreatDoor
open Go.RowKit Go.Lib

def pA : ByteArray := ⟨#[47, 97]⟩
def opA : OpV := ⟨1, ⟨#[47, 97]⟩, ⟨#[]⟩, 0, 0, [], 0⟩
def treeA : Tr := { nodes := [(1, ⟨2, [], [(⟨#[97]⟩, 2)]⟩), (2, ⟨1, [], []⟩)], next := 3 }
theorem awake1 : Tr.new.createR opA = (0, { zeroRep with ino := 2 }, treeA) := by kernel_rfl
theorem awake2 : treeA.createR opA = (6, zeroRep, treeA) := by kernel_rfl
theorem awake3 : treeA.links 2 = 1 := by kernel_rfl

theorem faultAt_nil {w : World} {e : Value} {op path : ByteArray} {c : Int} (h : FaultAt w e op path c) (h0 : c = 0) : e = .nilIface := by
  rcases h with ⟨_, q⟩ | ⟨q, _⟩
  · exact q
  · exact absurd h0 q
theorem St.start {w w' : World} (hg : Glob w) {t bm : Nat} {L : Lay} (hT : TreeAt w' t bm L Tr.new) (hu : Upd (fun _ => False) w w') (hf : ∀ g ∈ fpOf t bm L, w.heap.size ≤ g) : St w.heap.size w' t bm L Tr.new 2 0 :=
  ⟨hT, Tr.new_fit, hg.upd hu (fun _ _ => id), hg.size, hf, hu.size⟩

set_option maxRecDepth 100000 in
set_option maxHeartbeats 8000000 in
theorem awake_calls (w : World) (hg : Glob w) : Calls Tryz.prog 13 #[] w fun e w' => e = .returned (.bool true) ∧ Upd (fun _ => False) w w' := by
  have HG := Lib.hid hg
  have tok1 : Hid True := Lib.hid trivial
  clear hg
  go_enter Tryz.func13, Tryz.ntmps13
  go_wp2_with (first
    | (go_at_call 14; refine (new_calls w).mono ?_; rintro e w1 ⟨t, bm, L1, rfl, hT1, hu1, hfp1⟩; have HS1 : Hid (St w.heap.size w1 t bm L1 Tr.new 2 0) := St.start HG.out hT1 hu1 hfp1; have HU1 := Lib.hid hu1; have hlt1 : t < w1.heap.size := hT1.lt; clear hT1 hu1 hfp1)
    | (go_at_call 15; clear tok1; refine (do_create HS1.out (by decide) (by decide) opA none 0 (by decide) (.inl rfl)).mono ?_; rintro e w2 ⟨rv, ev, rfl, hf2, L2, hr2, hm2, hs2⟩; rw [awake1] at hf2 hr2 hm2 hs2; obtain rfl := faultAt_nil hf2 rfl; obtain ⟨dv2, nv2, rfl, ho2, hp2, _, _⟩ := hr2; obtain ⟨A2, m2, c2, rfl⟩ := own_slice ho2; obtain ⟨B2, n2, d2, rfl⟩ := own_slice hp2; unfold replyV; have HS2 := Lib.hid hs2; have HM2 := Lib.hid hm2; have hlt2 : t < w2.heap.size := hs2.tree.lt; clear hf2 ho2 hp2 hm2 hs2)
    | (go_at_call 15; refine (do_create (HS2.out.upd ((Upd.refl _ _).alloc _)) (by decide) (by decide) opA none 0 (by decide) (.inl rfl)).mono ?_; rintro e w3 ⟨rv, ev, rfl, hf3, L3, hr3, hm3, hs3⟩; rw [awake2] at hf3 hr3 hm3 hs3; obtain ⟨b3, rfl, hb3⟩ := faultAt_ne hf3 (by decide); obtain ⟨dv3, nv3, rfl, ho3, hp3, _, _⟩ := hr3; obtain ⟨A3, m3, c3, rfl⟩ := own_slice ho3; obtain ⟨B3, n3, d3, rfl⟩ := own_slice hp3; unfold replyV; have HS3 := Lib.hid hs3; have HM3 := Lib.hid hm3; have HF3 := Lib.hid hf3; have hlt3 : t < w3.heap.size := hs3.tree.lt; have hz3 : w2.heap.size < w3.heap.size := (by have := hm3.upd.size; simp at this; omega); have r2 : w3.cell? ⟨w2.heap.size, 0, none⟩ = some (.int .i64 2) := (cell_of_heap ((hm3.out (g := w2.heap.size) (by simp) (fun r => by have := HS2.out.tree.fplt _ r; omega)).2.2.trans (MapKept.heap_alloc _ _).1) 0).trans rfl; clear hf3 hb3 ho3 hp3 hm3 hs3)
    | (go_at_call 33; refine (is_calls _ _ treeS pA 6 (by decide) (by decide) (HF3.out.upd ((Upd.refl _ _).alloc _)) (HS3.out.glob.upd ((Upd.refl (fun _ => False) _).alloc _) (fun _ _ => id))).mono ?_; rintro e w4 ⟨rfl, hu4⟩; have HS4 : Hid (St w.heap.size w4 t bm L3 treeA 4 2) := (HS3.out.upd ((Upd.refl _ _).alloc _)).upd hu4; have HU4 := Lib.hid hu4; clear hu4)
    | (go_at_call 25; refine (links_calls _ _ _ _ _ HS4.out.tree (by have := HS4.out.fit.tot; omega) 2).mono ?_; rintro e w5 ⟨rfl, hu5⟩; rw [awake3]; have HU5 := Lib.hid hu5; clear hu5))
  go_ret
  have g2 := HS1.out.frame HM2.out HU1.out
  have g3 := (HS2.out.upd ((Upd.refl _ _).alloc _)).frame HM3.out (g2.alloc _)
  exact ⟨rfl, ((g3.alloc _).trans HU4.out).trans HU5.out⟩
end Go.Proofs.YtggfepgablfbhaaGreatDoor
