/- Plain laws of paths: Split of a Join. No memory. -/
import Derived.Test.YtggfepgablfbhaaGreatDoorUnder
namespace Go.Proofs.YtggfepgablfbhaaGreatDoor
open Go.RowKit

def cutL : List UInt8 → List (List UInt8)
  | [] => [[]]
  | b :: l => if b = 47 then [] :: cutL l else match cutL l with
    | [] => [[b]]
    | x :: r => (b :: x) :: r
theorem cutL_ne (l : List UInt8) : cutL l ≠ [] := by
  cases l with
  | nil => simp [cutL]
  | cons b l =>
    unfold cutL
    split
    · simp
    · split <;> simp
theorem splitK_cons_ne {b : UInt8} (hb : b ≠ 47) (l : List UInt8) (k : Nat) (x : List UInt8) (r : List (List UInt8)) (h : Lib.splitK [47] 0 k l = x :: r) : Lib.splitK [47] 0 k (b :: l) = (b :: x) :: r := by
  cases k with
  | zero =>
    unfold Lib.splitK at h ⊢
    cases h
    rfl
  | succ k =>
    unfold Lib.splitK at h ⊢
    rw [Lib.index_one] at h ⊢
    rw [show Lib.indexByte (b :: l) 47 = if Lib.indexByte l 47 == -1 then -1 else Lib.indexByte l 47 + 1 by
      conv => lhs; unfold Lib.indexByte
      rw [if_neg (by simpa using hb)]]
    by_cases hi : Lib.indexByte l 47 = -1
    · rw [if_pos (by simp [hi])] at h
      rw [if_pos (by simp [hi])]
      cases h
      rfl
    · have hge : -1 ≤ Lib.index l [47] := Lib.index_ge l [47]
      rw [Lib.index_one] at hge
      rw [if_neg (by simpa using hi)] at h
      rw [if_neg (by simp [hi]; omega)]
      rw [if_neg (by simpa using hi)]
      have e : (Lib.indexByte l 47 + 1).toNat = (Lib.indexByte l 47).toNat + 1 := by omega
      rw [e]
      cases h
      simp
theorem splitK_cut : ∀ l : List UInt8, Lib.splitK [47] 0 (Lib.count l [47]) l = cutL l
  | [] => by
    have : Lib.count [] [47] = 0 := by rw [Lib.count_one]; rfl
    rw [this]
    rfl
  | b :: l => by
    have ih := splitK_cut l
    by_cases hb : b = 47
    · subst hb
      rw [Lib.count_cons_eq, Nat.add_comm]
      unfold Lib.splitK cutL
      rw [Lib.index_one]
      rw [show Lib.indexByte (47 :: l) 47 = 0 by unfold Lib.indexByte; simp]
      simp only [if_pos]
      rw [if_neg (by decide)]
      simpa using ih
    · rw [Lib.count_cons_ne _ _ _ hb]
      unfold cutL
      rw [if_neg hb]
      cases h : cutL l with
      | nil => exact absurd h (cutL_ne l)
      | cons x r => exact splitK_cons_ne hb l _ x r (ih.trans h)
theorem pieces_cut (s : ByteArray) : (pieces s).map (·.data.toList) = cutL s.data.toList := by
  unfold pieces
  rw [Lib.splitB_data]
  exact splitK_cut _
theorem cutL_app : ∀ (x : List UInt8) (r : List UInt8), (47 : UInt8) ∉ x → cutL (x ++ 47 :: r) = x :: cutL r
  | [], r, _ => by simp [cutL]
  | b :: x, r, h => by
    simp only [List.mem_cons, not_or] at h
    rw [List.cons_append, cutL, if_neg (Ne.symm h.1), cutL_app x r h.2]
theorem cutL_one : ∀ (x : List UInt8), (47 : UInt8) ∉ x → cutL x = [x]
  | [], _ => by simp [cutL]
  | b :: x, h => by
    simp only [List.mem_cons, not_or] at h
    unfold cutL
    rw [if_neg (Ne.symm h.1), cutL_one x h.2]
theorem cutL_join : ∀ (x : List UInt8) (r : List (List UInt8)), (∀ y ∈ x :: r, (47 : UInt8) ∉ y) → cutL (Lib.join (x :: r) [47]) = x :: r
  | x, [], h => by rw [Lib.join_one]; exact cutL_one x (h x (by simp))
  | x, y :: r, h => by
    have e : Lib.join (x :: y :: r) [47] = x ++ 47 :: Lib.join (y :: r) [47] := by
      rw [Lib.join_cons, Lib.join_cons]
      simp [Lib.joinTail]
    rw [e, cutL_app x _ (h x (by simp)), cutL_join y r (fun z hz => h z (by simp [hz]))]

theorem toList_eq (s : ByteArray) : s.toList = s.data.toList := by unfold ByteArray.toList; rw [Go.ByteArray.toList_loop_eq s s.size 0 [] (by omega) (by omega)]; rfl
theorem name_no_slash {s : ByteArray} (h : nameB s = true) : (47 : UInt8) ∉ s.data.toList := by
  intro hm
  unfold nameB at h
  rw [Bool.and_eq_true] at h
  have := List.all_eq_true.1 h.1 47 hm
  revert this
  decide
theorem splitS_names {p : ByteArray} (h : (splitS p).1 = 0) : (∀ s ∈ (splitS p).2, nameB s = true ∧ s.size ≤ 12) ∧ (splitS p).2.length ≤ 6 := by
  refine ⟨fun s hs => ⟨?_, (splitS_len p).2 s hs⟩, (splitS_len p).1⟩
  unfold splitS at h hs
  split at h
  · simp at h
  rename_i h1
  rw [if_neg h1] at hs
  split at h
  · simp at h
  rename_i h2
  rw [if_neg h2] at hs
  split at h
  · rename_i h3; rw [if_pos h3] at hs; simp at hs
  rename_i h3
  rw [if_neg h3] at hs
  split at h
  · simp at h
  rename_i h4
  rw [if_neg h4] at hs
  split at h
  · simp at h
  rename_i h5
  rw [if_neg h5] at hs
  split at h
  · simp at h
  rename_i h6
  rw [if_neg h6] at hs
  rw [Bool.not_eq_true] at h4
  have := List.any_eq_false.1 h4 s hs
  simpa using this
theorem map_inj : ∀ {a b : List ByteArray}, (a.map fun x => x.data.toList) = (b.map fun x => x.data.toList) → a = b
  | [], [], _ => rfl
  | [], y :: b, h => by simp at h
  | x :: a, [], h => by simp at h
  | x :: a, y :: b, h => by
    simp only [List.map_cons, List.cons.injEq] at h
    rw [ba_ext h.1, map_inj h.2]
theorem joinS_data (l : List ByteArray) : (joinS l).data.toList = 47 :: Lib.join (l.map fun x => x.data.toList) [47] := by
  unfold joinS
  simp
theorem splitS_join {l : List ByteArray} (h : ∀ s ∈ l, nameB s = true ∧ s.size ≤ 12) (hl : l.length ≤ 6) : splitS (joinS l) = (0, l) := by
  have hjl := join_le l hl (fun s hs => (h s hs).2)
  have hsz : (joinS l).size = 1 + (Lib.join (l.map fun x => x.data.toList) [47]).length := by
    have : (joinS l).data.toList.length = (joinS l).size := rfl
    rw [joinS_data] at this
    simp at this
    omega
  have h200 : (joinS l).size ≤ 200 := by
    rw [hsz]
    cases l with
    | nil => simp [Lib.join_nil]
    | cons x l =>
      have := lens_le (x :: l) (fun s hs => (h s hs).2)
      simp only [List.map_cons] at this ⊢
      rw [Lib.join_length]
      simp only [List.length_cons, List.length_nil, List.length_map] at this hl ⊢
      omega
  unfold splitS
  rw [if_neg (by omega), if_neg (by rw [joinS_data]; simp [Lib.hasPrefix])]
  cases l with
  | nil => rw [if_pos (by rw [toList_eq, joinS_data]; rfl)]
  | cons x r =>
    have hx : x.data.toList ≠ [] := by
      intro e
      have := (h x (by simp)).1
      unfold nameB at this
      rw [toList_eq, e] at this
      simp at this
    have hjd : (Lib.join ((x :: r).map fun x => x.data.toList) [47]) ≠ [] := by
      intro e
      rw [List.map_cons, Lib.join_cons] at e
      exact hx (List.append_eq_nil_iff.1 e).1
    rw [if_neg (by rw [toList_eq, joinS_data]; intro e; injection e with _ e; exact hjd e)]
    have hpi : pieces ((joinS (x :: r)).extract 1 (joinS (x :: r)).size) = x :: r := by
      have h1 := pieces_cut ((joinS (x :: r)).extract 1 (joinS (x :: r)).size)
      rw [Lib.extract_to_end, joinS_data, List.drop_succ_cons, List.drop_zero, List.map_cons, cutL_join _ _ (fun y hy => by
        rw [← List.map_cons (f := fun x : ByteArray => x.data.toList)] at hy
        obtain ⟨s, hs, rfl⟩ := List.mem_map.1 hy
        exact name_no_slash (h s hs).1)] at h1
      rw [← List.map_cons (f := fun x : ByteArray => x.data.toList)] at h1
      exact map_inj h1
    rw [hpi]
    rw [if_neg, if_neg, if_neg (by omega)]
    · rw [Bool.not_eq_true, List.any_eq_false]
      intro s hs
      have := (h s hs).2
      simp; omega
    · rw [Bool.not_eq_true, List.any_eq_false]
      intro s hs
      simp [(h s hs).1]
#print axioms splitS_join
end Go.Proofs.YtggfepgablfbhaaGreatDoor
