/- Plain laws of finding: a path that is found has a place. No memory. -/
import Derived.Test.YtggfepgablfbhaaGreatDoorPath
import Derived.Test.YtggfepgablfbhaaGreatDoorDrop
namespace Go.Proofs.YtggfepgablfbhaaGreatDoor
open Go.RowKit

theorem walk_err (T : Tr) : ∀ (l : List ByteArray) (k : Int), (T.walk k l).2 ≠ 0 → (T.walk k l).1 = 0
  | [], k, h => by simp [Tr.walk] at h
  | s :: l, k, h => by
    unfold Tr.walk at h ⊢
    cases hn : look k T.nodes with
    | none => rfl
    | some n =>
      rw [hn] at h
      simp only at h ⊢
      by_cases hk : n.kind = 1
      · rw [if_pos hk]
      · rw [if_neg hk] at h ⊢
        cases hj : look s n.names with
        | none => rfl
        | some j =>
          rw [hj] at h
          exact walk_err T l j h
theorem walk_file {T : Tr} {k : Int} {n : Nd} (hn : look k T.nodes = some n) (hk : n.kind = 1) (s : ByteArray) (l : List ByteArray) : T.walk k (s :: l) = (0, 8) := by
  unfold Tr.walk; rw [hn]; simp only; rw [if_pos hk]
theorem walk_lost {T : Tr} {k : Int} (hn : look k T.nodes = none) (s : ByteArray) (l : List ByteArray) : T.walk k (s :: l) = (0, 5) := by
  unfold Tr.walk; rw [hn]
theorem walk_none {T : Tr} {k : Int} {n : Nd} (hn : look k T.nodes = some n) (hk : n.kind ≠ 1) {s : ByteArray} (hj : look s n.names = none) (l : List ByteArray) : T.walk k (s :: l) = (0, 5) := by
  conv => lhs; unfold Tr.walk
  rw [hn]; simp only; rw [if_neg hk, hj]
theorem walk_some {T : Tr} {k : Int} {n : Nd} (hn : look k T.nodes = some n) (hk : n.kind ≠ 1) {s : ByteArray} {j : Int} (hj : look s n.names = some j) (l : List ByteArray) : T.walk k (s :: l) = T.walk j l := by
  conv => lhs; unfold Tr.walk
  rw [hn]; simp only; rw [if_neg hk, hj]
theorem walk_append (T : Tr) : ∀ (l m : List ByteArray) (k : Int), T.walk k (l ++ m) = if (T.walk k l).2 ≠ 0 then T.walk k l else T.walk (T.walk k l).1 m
  | [], m, k => by simp [Tr.walk]
  | s :: l, m, k => by
    rw [List.cons_append]
    cases hn : look k T.nodes with
    | none => rw [walk_lost hn, walk_lost hn]; simp
    | some n =>
      by_cases hk : n.kind = 1
      · rw [walk_file hn hk, walk_file hn hk]; simp
      · cases hj : look s n.names with
        | none => rw [walk_none hn hk hj, walk_none hn hk hj]; simp
        | some j => rw [walk_some hn hk hj, walk_some hn hk hj]; exact walk_append T l m j

/-- What a path's place is, if it has one. -/
theorem parentS_zero {p : ByteArray} (h : (parentS p).1 = 0) : ∃ l s, (splitS p) = (0, l ++ [s]) ∧ splitS (parentS p).2.1 = (0, l) ∧ (parentS p).2.2 = s ∧ nameB s = true ∧ s.size ≤ 12 := by
  unfold parentS at h ⊢
  by_cases h1 : (splitS p).1 ≠ 0
  · rw [if_pos h1] at h; exact absurd h h1
  · rw [if_neg h1] at h ⊢
    by_cases h2 : (splitS p).2 = []
    · rw [if_pos h2] at h; simp at h
    · rw [if_neg h2]
      have h0 : (splitS p).1 = 0 := by simpa using h1
      have hn := splitS_names h0
      have hl := List.dropLast_concat_getLast h2
      have htk : (splitS p).2.take ((splitS p).2.length - 1) = (splitS p).2.dropLast := by rw [List.dropLast_eq_take]
      have hgl : (splitS p).2.getD ((splitS p).2.length - 1) ⟨#[]⟩ = (splitS p).2.getLast h2 := by
        have : 0 < (splitS p).2.length := by rcases Nat.eq_zero_or_pos (splitS p).2.length with q | q; exact absurd (List.eq_nil_of_length_eq_zero q) h2; exact q
        rw [List.getLast_eq_getElem, List.getD_eq_getElem?_getD, List.getElem?_eq_getElem (by omega)]
        rfl
      refine ⟨(splitS p).2.dropLast, (splitS p).2.getLast h2, ?_, ?_, hgl, (hn.1 _ (List.getLast_mem h2)).1, (hn.1 _ (List.getLast_mem h2)).2⟩
      · rw [hl, ← h0]
      · rw [htk]
        exact splitS_join (fun s hs => hn.1 s (List.dropLast_sublist _ |>.mem hs)) (by rw [List.length_dropLast]; have := hn.2; omega)
theorem parentS_sizes (p : ByteArray) : (parentS p).2.1.size ≤ 200 := by
  by_cases h : (parentS p).1 = 0
  · obtain ⟨l, s, _, h2, _⟩ := parentS_zero h
    have h0 : (splitS (parentS p).2.1).1 = 0 := by rw [h2]
    rcases Nat.lt_or_ge 200 (parentS p).2.1.size with q | q
    · unfold splitS at h0
      rw [if_pos q] at h0
      simp at h0
    · exact q
  · unfold parentS at h ⊢
    split at h
    · rename_i h1; rw [if_pos h1]; exact Nat.zero_le _
    · rename_i h1
      rw [if_neg h1]
      split at h
      · rename_i h2; rw [if_pos h2]; exact Nat.zero_le _
      · simp at h

theorem find_parent {T : Tr} {p : ByteArray} (h : (parentS p).1 = 0) : T.find p = if (T.find (parentS p).2.1).2 ≠ 0 then (0, (T.find (parentS p).2.1).2) else T.walk (T.find (parentS p).2.1).1 [(parentS p).2.2] := by
  obtain ⟨l, s, h1, h2, h3, _⟩ := parentS_zero h
  have e1 : T.find p = T.walk 1 (l ++ [s]) := by unfold Tr.find; rw [h1]; simp
  have e2 : T.find (parentS p).2.1 = T.walk 1 l := by unfold Tr.find; rw [h2]; simp
  rw [e1, e2, h3, walk_append]
  by_cases hw : (T.walk 1 l).2 ≠ 0
  · rw [if_pos hw, if_pos hw]
    have := walk_err T l 1 hw
    exact Prod.ext this rfl
  · rw [if_neg hw, if_neg hw]

/-- A place that is there: its directory, and what its name leads to. -/
theorem at_zero {T : Tr} {p : ByteArray} (h : (T.at_ p).1 = 0) : (parentS p).1 = 0 ∧ (T.find (parentS p).2.1).2 = 0 ∧ ∃ d, look (T.at_ p).2.1 T.nodes = some d ∧ d.kind ≠ 1 ∧ (T.at_ p).2.1 = (T.find (parentS p).2.1).1 ∧ (T.at_ p).2.2 = (parentS p).2.2 := by
  unfold Tr.at_ at h ⊢
  by_cases h1 : (parentS p).1 ≠ 0
  · rw [if_pos h1] at h; exact absurd h h1
  rw [if_neg h1] at h ⊢
  by_cases h2 : (T.find (parentS p).2.1).2 ≠ 0
  · rw [if_pos h2] at h; exact absurd h h2
  rw [if_neg h2] at h ⊢
  cases hn : look (T.find (parentS p).2.1).1 T.nodes with
  | none => rw [hn] at h; simp at h
  | some d =>
    rw [hn] at h
    simp only at h ⊢
    by_cases hk : d.kind = 1
    · rw [if_pos hk] at h; simp at h
    · rw [if_neg hk]
      exact ⟨by simpa using h1, by simpa using h2, d, hn, hk, rfl, rfl⟩
theorem find_at {T : Tr} {p : ByteArray} (h : (parentS p).1 = 0) (hf : (T.find p).2 = 0) : (T.at_ p).1 = 0 ∧ ∃ d, look (T.at_ p).2.1 T.nodes = some d ∧ look (T.at_ p).2.2 d.names = some (T.find p).1 := by
  rw [find_parent h] at hf ⊢
  by_cases h2 : (T.find (parentS p).2.1).2 ≠ 0
  · rw [if_pos h2] at hf; exact absurd hf h2
  rw [if_neg h2] at hf ⊢
  unfold Tr.at_
  rw [if_neg (by simpa using h), if_neg h2]
  unfold Tr.walk at hf ⊢
  cases hn : look (T.find (parentS p).2.1).1 T.nodes with
  | none => rw [hn] at hf; simp at hf
  | some d =>
    rw [hn] at hf
    simp only at hf ⊢
    by_cases hk : d.kind = 1
    · rw [if_pos hk] at hf; simp at hf
    · rw [if_neg hk] at hf ⊢
      rw [if_neg hk]
      cases hj : look (parentS p).2.2 d.names with
      | none => rw [hj] at hf; simp at hf
      | some j => exact ⟨rfl, d, hn, hj⟩
theorem at_find {T : Tr} {p : ByteArray} {d : Nd} (h : (T.at_ p).1 = 0) (hd : look (T.at_ p).2.1 T.nodes = some d) : T.find p = match look (T.at_ p).2.2 d.names with
    | none => (0, 5)
    | some j => (j, 0) := by
  obtain ⟨h1, h2, d', hd', hk, e1, e2⟩ := at_zero h
  rw [hd] at hd'
  cases hd'
  rw [find_parent h1, if_neg (by simpa using h2)]
  unfold Tr.walk
  rw [← e1, hd]
  simp only
  rw [if_neg hk, ← e2]
  cases look (T.at_ p).2.2 d.names <;> rfl
#print axioms at_find
end Go.Proofs.YtggfepgablfbhaaGreatDoor
