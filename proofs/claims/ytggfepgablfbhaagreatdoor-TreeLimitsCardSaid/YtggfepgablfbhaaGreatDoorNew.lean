/- Walk of tree.New. -/
import Derived.Test.YtggfepgablfbhaaGreatDoorFileC
namespace Go.Proofs.YtggfepgablfbhaaGreatDoor
open Go.RowKit Go.Lib

def Tr.new : Tr := { nodes := [(1, ⟨2, [], []⟩)], next := 2 }
set_option maxRecDepth 100000 in
set_option maxHeartbeats 2000000 in
theorem new_calls (w : World) : Calls Tryz.prog 14 #[] w fun e w' => ∃ t bm L, e = .returned (.pointer (some ⟨t, 0, none⟩)) ∧ TreeAt w' t bm L Tr.new ∧ Upd (fun _ => False) w w' ∧ ∀ g ∈ fpOf t bm L, w.heap.size ≤ g := by
  have hmm := @run_makeMap Tryz.prog
  have h0 : MapIs (((w.alloc (.map #[] 0)).alloc (.map #[] 0)).alloc (.cells #[.int .i64 2, .slice none 0 0, .map (some (w.heap.size + 1))] 75)) encI w.heap.size [] := by
    have h1 := (MapKept.heap_alloc w (.map #[] 0)).1
    exact ⟨#[], 0, heap_al (heap_al h1), by simp, by simp, by simp⟩
  obtain ⟨w4, hrun, hm4, hu4, hs4⟩ := h0.run_update (P := Tryz.prog) KeyOk.int (by simp) Tryz.underlying63 Tryz.underlying3 1 (.pointer (some ⟨w.heap.size + 1 + 1, 0, none⟩))
  have HM4 := Lib.hid hm4
  have HU4 := Lib.hid hu4
  have HS4 := Lib.hid hs4
  clear h0 hm4 hu4 hs4
  go_enter Tryz.func14, Tryz.ntmps14
  go_wp2
  go_ret
  have hs3 : w4.heap.size = w.heap.size + 3 := by rw [HS4.out]; simp
  have hN4 : w4.heap[w.heap.size + 1 + 1]? = some (.cells #[.int .i64 2, .slice none 0 0, .map (some (w.heap.size + 1))] 75 (0, 0)) := HU4.out.heap (by have h1 := (MapKept.heap_alloc ((w.alloc (.map #[] 0)).alloc (.map #[] 0)) (.cells #[.int .i64 2, .slice none 0 0, .map (some (w.heap.size + 1))] 75)).1; simpa using h1) (by omega)
  have hM4 : w4.heap[w.heap.size + 1]? = some (.map #[] 0) := HU4.out.heap (heap_al (heap_second w _ _)) (by omega)
  refine ⟨w4.heap.size, w.heap.size, [(1, (⟨w.heap.size + 1 + 1, nilS, none, some (w.heap.size + 1)⟩, ⟨2, [], []⟩))], rfl, ⟨(MapKept.heap_alloc w4 _).1, ?_, by simp, ?_, rfl, ?_⟩, ?_, ?_⟩
  · exact (HM4.out.perm (List.Perm.refl _)).kept ((MapKept.heap_alloc w4 _).2 _ (by omega))
  · intro p hp
    obtain rfl := List.mem_singleton.1 hp
    exact ⟨heap_al hN4, .inl ⟨rfl, rfl, none, 0, rfl⟩, ⟨⟨#[], 0, heap_al hM4, by simp, by simp, by simp⟩, by simp⟩, fun _ => by simp⟩
  · simp [fpOf, NL.fp]; omega
  · exact ((((((Upd.refl (fun _ => False) w).alloc _).alloc _).alloc _).mono (G := (· = w.heap.size)) (fun _ _ q => q.elim)).trans HU4.out).alloc _ |>.mono (fun k hk q => by omega)
  · intro g hg
    simp [fpOf, NL.fp] at hg
    omega
end Go.Proofs.YtggfepgablfbhaaGreatDoor
