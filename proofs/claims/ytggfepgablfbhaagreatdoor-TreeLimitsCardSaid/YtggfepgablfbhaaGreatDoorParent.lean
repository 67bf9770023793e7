/- Walks of names.Join, names.Parent, names.Under. -/
import Derived.Test.YtggfepgablfbhaaGreatDoorSplit
import Derived.Deep.DeepMust
import Derived.ShutString
namespace Go.Proofs.YtggfepgablfbhaaGreatDoor
open Go.RowKit

theorem StrsAt.upd {w w' : World} {A : Option Addr} {l : List ByteArray} (h : StrsAt w A l) (hu : Upd (fun _ => False) w w') : StrsAt w' A l := by
  refine ⟨h.1, fun hne => ?_⟩
  obtain ⟨b, o, h1, h2, h3⟩ := h.2 hne
  exact ⟨b, o, h1, Nat.lt_of_lt_of_le h2 hu.size, fun i hi => (hu.cell (p := ⟨b, o + i, none⟩) h2 id).trans (h3 i hi)⟩
theorem StrsAt.take {w : World} {A : Option Addr} {l : List ByteArray} (h : StrsAt w A l) (k : Nat) : StrsAt w A (l.take k) := by
  refine ⟨by have := h.1; rw [List.length_take]; omega, fun hne => ?_⟩
  obtain ⟨b, o, h1, h2, h3⟩ := h.2 (by rintro rfl; simp at hne)
  refine ⟨b, o, h1, h2, fun i hi => ?_⟩
  rw [List.length_take] at hi
  rw [h3 i (by omega)]
  simp only [List.getD_eq_getElem?_getD, List.getElem?_take]
  rw [if_pos (by omega)]
theorem Glob.upd {w w' : World} (h : Glob w) {F : Nat → Prop} (hu : Upd F w w') (hF : ∀ k, k < nG → ¬ F k) : Glob w' := by
  obtain ⟨m, hm⟩ := h.maxLen
  exact ⟨⟨m, (hu.cell (p := ⟨1, 0, none⟩) (World.block_lt_of_cell? w _ hm) (hF _ (by decide))).trans hm⟩, (hu.cell (p := ⟨0, 0, none⟩) (World.block_lt_of_cell? w _ h.err) (hF _ (by decide))).trans h.err, Nat.le_trans h.size hu.size⟩

def joinS (l : List ByteArray) : ByteArray := (⟨#[47]⟩ : ByteArray) ++ ⟨(Lib.join (l.map fun x => x.data.toList) [47]).toArray⟩

set_option maxRecDepth 100000 in
set_option maxHeartbeats 1000000 in
theorem join_calls (w : World) (A : Option Addr) (c : Nat) (l : List ByteArray) (hl : StrsAt w A l) (hc : l.length ≤ c) (hn : l.length ≤ 1000) (hb : (Lib.join (l.map fun x => x.data.toList) [47]).length ≤ 100000) :
    Calls Tryz.prog 100 #[.slice A l.length c] w fun e w' => e = .returned (.string (joinS l)) ∧ Upd (fun _ => False) w w' := by
  by_cases hne : l = []
  · subst hne
    go_enter Tryz.func100, Tryz.ntmps100
    go_wp2_with (go_at_call 121; refine (Tryz.strings_Join_none _ _ _ _).mono ?_; rintro e w' ⟨rfl, rfl⟩)
    go_ret
    exact ⟨rfl, Upd.refl _ _⟩
  · obtain ⟨b, o, rfl, h2, h3⟩ := hl.2 hne
    have HC : Hid (∀ (j : Nat) (x : ByteArray), l[j]? = some x → w.cell? { block := b, off := o + j } = some (Go.Value.string x)) := fun j x hj => by
      obtain ⟨hlt, e⟩ := List.getElem?_eq_some_iff.1 hj
      rw [h3 j hlt, List.getD_eq_getElem?_getD, hj]; rfl
    have HB := Lib.hid hb
    clear h3 hl hne
    go_enter Tryz.func100, Tryz.ntmps100
    go_wp2_with (go_at_call 121; go_must (refine (Tryz.strings_Join _ _ _ _ _ _ HC.out h2 (by omega) hc (Nat.le_trans HB.out (by decide))).mono ?_); rintro e w' ⟨rfl, hu⟩; have HU := Lib.hid hu; clear hu)
    go_ret
    exact ⟨rfl, Upd.of_below HU.out⟩

theorem join_calls' (w : World) (A : Option Addr) (n c : Nat) (l : List ByteArray) (hn : n = l.length) (hl : StrsAt w A l) (hc : l.length ≤ c) (hn1 : l.length ≤ 1000) (hb : (Lib.join (l.map fun x => x.data.toList) [47]).length ≤ 100000) :
    Calls Tryz.prog 100 #[.slice A n c] w fun e w' => e = .returned (.string (joinS l)) ∧ Upd (fun _ => False) w w' := by
  subst hn
  exact join_calls w A c l hl hc hn1 hb

def parentS (p : ByteArray) : Int × ByteArray × ByteArray :=
  if (splitS p).1 ≠ 0 then ((splitS p).1, ⟨#[]⟩, ⟨#[]⟩) else if (splitS p).2 = [] then (2, ⟨#[]⟩, ⟨#[]⟩) else (0, joinS ((splitS p).2.take ((splitS p).2.length - 1)), (splitS p).2.getD ((splitS p).2.length - 1) ⟨#[]⟩)

theorem splitS_len (p : ByteArray) : (splitS p).2.length ≤ 6 ∧ ∀ x ∈ (splitS p).2, x.size ≤ 12 := by
  unfold splitS
  split
  · simp
  split
  · simp
  split
  · simp
  split
  · simp
  split
  · simp
  split
  · simp
  · rename_i h1 h2
    refine ⟨by simp only; omega, fun x hx => ?_⟩
    rw [Bool.not_eq_true] at h1
    have := List.any_eq_false.1 h1 x hx
    simp only [decide_eq_true_eq] at this
    omega
theorem lens_le : ∀ l : List ByteArray, (∀ x ∈ l, x.size ≤ 12) → Lib.lens (l.map fun x => x.data.toList) ≤ 12 * l.length
  | [], _ => by simp [Lib.lens]
  | x :: l, h => by
    have h1 := h x (by simp)
    have h2 := lens_le l (fun y hy => h y (by simp [hy]))
    have h3 : x.data.toList.length = x.size := rfl
    simp only [Lib.lens, List.map_cons, List.sum_cons, List.length_cons] at h2 ⊢
    omega
theorem join_le (l : List ByteArray) (hl : l.length ≤ 6) (h : ∀ x ∈ l, x.size ≤ 12) : (Lib.join (l.map fun x => x.data.toList) [47]).length ≤ 100000 := by
  cases l with
  | nil => simp [Lib.join_nil]
  | cons x l =>
    have := lens_le (x :: l) h
    simp only [List.map_cons] at this ⊢
    rw [Lib.join_length]
    simp only [List.length_cons, List.length_nil, List.length_map] at this hl ⊢
    omega

theorem info_str : (Tryz.prog.info? 9).map (·.size) = some 1 := by kernel_rfl
theorem keepP {v v' : World} {A : Option Addr} {l : List ByteArray} {a : Addr} {x : Value} (h : StrsAt v A l ∧ v.cell? a = some x) (hu : Upd (fun _ => False) v v') : StrsAt v' A l ∧ v'.cell? a = some x :=
  ⟨h.1.upd hu, (hu.cell (World.block_lt_of_cell? v _ h.2) id).trans h.2⟩

theorem errV_zero : errV 0 = .nilIface := rfl
theorem errV_pos {c : Int} (h : c ≠ 0) : errV c = .iface 77 (.int .i64 c) := by unfold errV; rw [if_neg h]

set_option maxRecDepth 100000 in
set_option maxHeartbeats 2000000 in
theorem parent_calls (w : World) (p : ByteArray) (hp : p.size ≤ 9223372036854775807) (hg : Glob w) :
    Calls Tryz.prog 66 #[.string p] w fun e w' => e = .returned (.tuple #[.string (parentS p).2.1, .string (parentS p).2.2, errV (parentS p).1]) ∧ Upd (fun _ => False) w w' := by
  have hl6 := splitS_len p
  have HG := Lib.hid hg
  clear hg
  by_cases h1 : (splitS p).1 ≠ 0
  · have hP : parentS p = ((splitS p).1, ⟨#[]⟩, ⟨#[]⟩) := by unfold parentS; rw [if_pos h1]
    have HP := Lib.hid hP
    have E := Lib.hid (errV_pos h1)
    clear hP h1
    go_enter Tryz.func66, Tryz.ntmps66
    go_wp2_with (go_at_call 47; refine (split_calls _ _ hp HG.out).mono ?_; rintro e w' ⟨v, rfl, hv⟩; have HV := Lib.hid hv; clear hv; rw [E.out])
    go_ret3
    rw [HP.out, E.out]
    refine ⟨rfl, ?_⟩
    rcases HV.out with ⟨_, _, h⟩ | ⟨_, h, _⟩
    · exact h
    · exact absurd h (by intro q; rw [q] at E; exact absurd E.out (by rw [errV_zero]; intro h; cases h))
  · have h0 : (splitS p).1 = 0 := by simpa using h1
    by_cases h2 : (splitS p).2 = []
    · have hP : parentS p = (2, ⟨#[]⟩, ⟨#[]⟩) := by unfold parentS; rw [if_neg h1, if_pos h2]
      have HP := Lib.hid hP
      have E : Hid (errV (splitS p).1 = .nilIface) := by show errV _ = _; rw [h0]; rfl
      have H2 := Lib.hid h2
      clear hP h1 h0 h2
      go_enter Tryz.func66, Tryz.ntmps66
      go_wp2_with (go_at_call 47; refine (split_calls _ _ hp HG.out).mono ?_; rintro e w' ⟨v, rfl, hv⟩; obtain ⟨rfl, hu⟩ : v = .slice none 0 0 ∧ Upd (fun _ => False) w w' := hv.elim (fun h => h.2) (fun h => absurd H2.out h.1); clear hv; have HU := Lib.hid hu; clear hu; rw [E.out])
      go_ret3
      rw [HP.out]
      exact ⟨rfl, HU.out⟩
    · have hP : parentS p = (0, joinS ((splitS p).2.take ((splitS p).2.length - 1)), (splitS p).2.getD ((splitS p).2.length - 1) ⟨#[]⟩) := by unfold parentS; rw [if_neg h1, if_neg h2]
      have HP := Lib.hid hP
      have E : Hid (errV (splitS p).1 = .nilIface) := by show errV _ = _; rw [h0]; rfl
      have H2 := Lib.hid h2
      obtain ⟨l, hl⟩ : ∃ l, l = (splitS p).2 := ⟨_, rfl⟩
      rw [← hl] at hl6 HP
      have HL := Lib.hid hl
      have hl1 : 1 ≤ l.length := by
        rcases Nat.eq_zero_or_pos l.length with h | h
        · exact absurd (hl ▸ List.eq_nil_of_length_eq_zero h) h2
        · exact h
      have hl2 := hl6.1
      have HL6 := Lib.hid hl6
      have e1 : ((l.length : Int) == 0) = false := beq_eq_false_iff_ne.2 (by omega)
      clear hP h1 h0 h2 hl hl6
      go_enter Tryz.func66, Tryz.ntmps66
      go_wp2_with (go_at_call 47; refine (split_calls _ _ hp HG.out).mono ?_; rintro e w' ⟨v, rfl, hv⟩; obtain ⟨rfl, hw⟩ : v = .slice (some ⟨w.heap.size, 0, none⟩) l.length l.length ∧ w' = w.alloc (.cells (l.map Value.string).toArray 9) := hv.elim (fun h => absurd h.1 H2.out) (fun h => by rw [HL.out]; exact h.2.2); clear hv; have HW := Lib.hid hw; clear hw; rw [E.out])
      obtain ⟨g, hgs⟩ : ∃ g, w.heap.size = g := ⟨_, rfl⟩
      have HSA : StrsAt w' (some ⟨g, 0, none⟩) l := by rw [HW.out, ← hgs]; exact strsAt_alloc w l (by omega)
      have HUW : Hid (Upd (fun _ => False) w w') := by show Upd _ _ _; rw [HW.out]; exact (Upd.refl _ _).alloc _
      rw [hgs]
      clear hgs
      have hlast : w'.cell? ⟨g, l.length - 1, none⟩ = some (.string (l.getD (l.length - 1) ⟨#[]⟩)) := by
        obtain ⟨b, o, e, _, h⟩ := HSA.2 (by rintro rfl; simp at hl1)
        injection e with e
        injection e with e1 e2
        subst e1 e2
        have := h (l.length - 1) (by omega)
        rwa [Nat.zero_add] at this
      have s1 : IntKind.i64.wrap ((l.length : Int) - 1) = (l.length : Int) - 1 := IntWalk.i64_in _ (by omega)
      have s2 : (0 : Int) ≤ (l.length : Int) - 1 := by omega
      have s3 : ((l.length : Int) - 1).toNat = l.length - 1 := by omega
      have s4 : (l.length : Int) - 1 ≤ (l.length : Int) := by omega
      have s5 : (l.length : Int) - 1 < (l.length : Int) := by omega
      have hsl : ∀ W : World, (Instr.slice 26 (.slice (some ⟨g, 0, none⟩) l.length l.length) none (some (.int .i64 ((l.length : Int) - 1))) none).run Tryz.prog W = .ok (.slice (some ⟨g, 0, none⟩) (l.length - 1) l.length) W := fun W => by
        have he : Tryz.prog.elem 26 = 9 := by simp [Program.elem, Tryz.underlying26]
        rw [run_slice_h W 26 _ _ _ (by rw [Tryz.underlying26, he]) .i64 _ s2 s4, he, s3]
        obtain ⟨i9, hi9, hz9⟩ := Option.map_eq_some_iff.1 info_str
        simp [sizeOf, typeInfo, hi9, sliced, Addr.add]
      have hia : ∀ W : World, (Instr.indexAt 26 (.slice (some ⟨g, 0, none⟩) l.length l.length) (.int .i64 ((l.length : Int) - 1))).run Tryz.prog W = .ok (.pointer (some ⟨g, l.length - 1, none⟩)) W := fun W => by
        obtain ⟨i9, hi9, hz9⟩ := Option.map_eq_some_iff.1 info_str
        simp [Instr.indexAt, asIntOf, run_underlying (P := Tryz.prog) Tryz.underlying26, sizeOf, typeInfo, hi9, hz9, s3, Addr.add, Result.andThen]
        rw [if_pos ⟨by omega, by omega⟩]
        split
        · rename_i q; rw [q]
        · rfl
      generalize hx : l.getD (l.length - 1) ⟨#[]⟩ = x at hlast
      have HX := Lib.hid hx
      clear hx
      have hS0 : StrsAt w' (some ⟨g, 0, none⟩) l ∧ w'.cell? ⟨g, l.length - 1, none⟩ = some (.string x) := ⟨HSA, hlast⟩
      have HS0 := Lib.hid hS0
      have K1 : Hid (l.length - 1 = (l.take (l.length - 1)).length) := by show _ = _; rw [List.length_take]; omega
      have K2 : Hid ((l.take (l.length - 1)).length ≤ l.length) := List.length_take_le' _ _
      have K3 : Hid ((l.take (l.length - 1)).length ≤ 1000) := Nat.le_trans (List.length_take_le' _ _) (by omega)
      have K4 : Hid ((Lib.join ((l.take (l.length - 1)).map fun x => x.data.toList) [47]).length ≤ 100000) := join_le _ (Nat.le_trans (List.length_take_le' _ _) HL6.out.1) (fun y hy => HL6.out.2 y (List.mem_of_mem_take hy))
      clear hS0 hlast HSA
      go_region_held3 (fun v => StrsAt v (some ⟨g, 0, none⟩) l ∧ v.cell? ⟨g, l.length - 1, none⟩ = some (.string x))
        (first | assumption | exact keepP HS0.out (Upd.refl _ _).drew | exact keepP (by assumption) (by assumption))
        (first | (go_at_call 100; refine (join_calls' _ _ _ _ (l.take (l.length - 1)) K1.out ?_ K2.out K3.out K4.out).mono ?_; exact (And.left (by assumption : StrsAt _ (some ⟨g, 0, none⟩) l ∧ _)).take _; rintro e w2 ⟨rfl, hu2⟩))
      all_goals
        clear s1 s2 s3 s4 s5
        have HU2 := Lib.hid hu2
        clear hu2
        go_wp2
        go_ret3
        rw [HP.out]
        exact ⟨by rw [HX.out]; rfl, HUW.out.trans ((Upd.refl _ _).drew.trans HU2.out)⟩
#print axioms parent_calls
end Go.Proofs.YtggfepgablfbhaaGreatDoor
