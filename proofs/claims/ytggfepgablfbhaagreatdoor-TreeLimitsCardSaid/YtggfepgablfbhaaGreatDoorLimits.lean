/- So many inodes: the plain law behind TreeLimits. -/
import Derived.Test.YtggfepgablfbhaaGreatDoorDec
namespace Go.Proofs.YtggfepgablfbhaaGreatDoor
open Go.RowKit Go.Lib

def nmB (i : Nat) : ByteArray := (⟨#[110]⟩ : ByteArray) ++ decB i
def pthB (i : Nat) : ByteArray := (⟨#[47, 110]⟩ : ByteArray) ++ decB i
def newS : ByteArray := ⟨#[110, 101, 119]⟩
theorem all80 {p : Nat → Bool} (h : (List.range 80).all p = true) (i : Nat) (hi : i < 80) : p i = true := List.all_eq_true.1 h i (List.mem_range.2 hi)
theorem pth_parent (i : Nat) (hi : i < 80) : parentS (pthB i) = (0, ⟨#[47]⟩, nmB i) := by
  have h : (List.range 80).all (fun i => decide (parentS (pthB i) = (0, ⟨#[47]⟩, nmB i))) = true := by kernel_rfl
  exact of_decide_eq_true (all80 h i hi)
theorem nm_inj {i j : Nat} (hi : i < 80) (hj : j < 80) (h : nmB i = nmB j) : i = j := by
  have q : (List.range 80).all (fun i => (List.range 80).all (fun j => decide (nmB i = nmB j → i = j))) = true := by kernel_rfl
  exact of_decide_eq_true (all80 (all80 q i hi) j hj) h
theorem nm_new (i : Nat) (hi : i < 80) : nmB i ≠ newS := by
  have q : (List.range 80).all (fun i => decide (nmB i ≠ newS)) = true := by kernel_rfl
  exact of_decide_eq_true (all80 q i hi)
theorem pth_size (i : Nat) : (pthB i).size ≤ 9223372036854775807 := by
  unfold pthB decB
  have h1 : ∀ x : UInt8, (⟨#[x]⟩ : ByteArray).size = 1 := fun _ => rfl
  have h2 : ∀ x y : UInt8, (⟨#[x, y]⟩ : ByteArray).size = 2 := fun _ _ => rfl
  split
  · rw [ByteArray.size_append, h1, h2]; omega
  · rw [ByteArray.size_append, h2, h2]; omega
theorem split_pth (i : Nat) (hi : i < 80) : splitS (pthB i) = (0, [nmB i]) := by
  have h : (List.range 80).all (fun i => decide (splitS (pthB i) = (0, [nmB i]))) = true := by kernel_rfl
  exact of_decide_eq_true (all80 h i hi)

/-- i inodes were made in the root, by rising numbers; nothing else is there. -/
structure Many (T : Tr) (kind : Int) (i : Nat) : Prop where
  fit : T.Fit (i + 2) i
  next : T.next = i + 2
  len : T.nodes.length = i + 1
  root : ∃ d, look 1 T.nodes = some d ∧ d.kind = 2 ∧ (∀ j, j < i → look (nmB j) d.names = some ((j : Int) + 2)) ∧ ∀ s k, look s d.names = some k → ∃ j, j < i ∧ s = nmB j ∧ k = (j : Int) + 2
  rest : ∀ k n, look k T.nodes = some n → k ≠ 1 → n = newNd kind
  first : 0 < i → look 2 T.nodes = some (newNd kind)
theorem find_root (T : Tr) : T.find ⟨#[47]⟩ = (1, 0) := by
  unfold Tr.find
  rw [show splitS ⟨#[47]⟩ = (0, []) by kernel_rfl]
  rfl
theorem at_root {T : Tr} {p s : ByteArray} (hp : parentS p = (0, ⟨#[47]⟩, s)) {d : Nd} (hd : look 1 T.nodes = some d) (hk : d.kind = 2) : T.at_ p = (0, 1, s) := by
  unfold Tr.at_
  rw [hp]
  simp only [find_root, hd]
  rw [if_neg (by simp), if_neg (by simp), if_neg (by omega)]

theorem look_app_none {κ α : Type} [DecidableEq κ] {k : κ} : ∀ {l m : List (κ × α)}, look k l = none → look k (l ++ m) = look k m
  | [], _, _ => rfl
  | p :: l, m, h => by
    unfold look at h
    split at h
    · cases h
    · rename_i e
      rw [List.cons_append]
      conv => lhs; unfold look
      rw [if_neg e]
      exact look_app_none h
theorem Many.start (kind : Int) : Many Tr.new kind 0 :=
  ⟨Tr.new_fit, rfl, rfl, ⟨_, rfl, rfl, fun j h => by omega, fun s k h => by cases h⟩, fun k n h hk => by
    unfold Tr.new look at h
    simp only at h
    split at h
    · rename_i e; exact absurd e.symm hk
    · simp [look] at h, fun h => by omega⟩
def opM (kind : Int) (p : ByteArray) : OpV := ⟨kind, p, ⟨#[]⟩, 0, 0, [], 0⟩

theorem Many.make {T : Tr} {i : Nat} {kind : Int} (h : Many T kind i) (hi : i < 59) : ∃ T', T.createR (opM kind (pthB i)) = (0, ⟨(i : Int) + 2, 0, 0, 0, 0, [], []⟩, T') ∧ Many T' kind (i + 1) := by
  obtain ⟨d, hd, hk, h1, h2⟩ := h.root
  have ha := at_root (pth_parent i (by omega)) hd hk
  have hs : look (nmB i) d.names = none := by
    cases q : look (nmB i) d.names with
    | none => rfl
    | some k =>
      obtain ⟨j, hj, e, _⟩ := h2 _ _ q
      have := nm_inj (by omega) (by omega) e
      omega
  have hc : T.create (opM kind (pthB i)) = (0, T.next, (T.added (newNd kind)).named 1 d (nmB i) T.next) := by
    unfold Tr.create opM
    simp only [ha, hd, hs]
    rw [if_neg (by simp), if_neg (by simp), if_neg (by rw [h.len, h.next]; omega)]
  have hf := h.fit.create (opM kind (pthB i))
  rw [hc] at hf
  refine ⟨_, by unfold Tr.createR; rw [hc, h.next]; rfl, ?_⟩
  rw [← h.next] at *
  have hno : look T.next T.nodes = none := by
    cases q : look T.next T.nodes with
    | none => rfl
    | some n => have := (h.fit.pos _ _ q).2; omega
  have hl : ∀ k, look k ((T.added (newNd kind)).named 1 d (nmB i) T.next).nodes = if k = 1 then some { d with names := insN (nmB i) T.next d.names } else if k = T.next then some (newNd kind) else look k T.nodes := fun k => by
    unfold Tr.named
    simp only
    rw [look_setNode]
    by_cases e : k = 1
    · subst e
      rw [if_pos rfl, if_pos rfl]
      rw [show look 1 (T.added (newNd kind)).nodes = some d from look_snoc hd]
      simp
    · rw [if_neg e, if_neg e]
      unfold Tr.added
      simp only
      cases q : look k T.nodes with
      | some n =>
        rw [look_snoc q, if_neg (fun e2 => by subst e2; rw [hno] at q; cases q)]
      | none =>
        rw [look_app_none q]
        simp only [look]
        by_cases e2 : T.next = k
        · rw [if_pos e2, if_pos e2.symm]
        · rw [if_neg e2, if_neg (fun x => e2 x.symm)]
  have hnx := h.fit.next.1
  refine ⟨hf, ?_, ?_, ?_, ?_, ?_⟩
  · unfold Tr.named Tr.added; simp only; rw [h.next]; omega
  · unfold Tr.named Tr.added setNode; simp [h.len]
  · refine ⟨{ d with names := insN (nmB i) T.next d.names }, by rw [hl, if_pos rfl], hk, ?_, ?_⟩
    · intro j hj
      simp only
      rw [look_insN (h.fit.nd _ _ hd) hs]
      by_cases e : nmB i = nmB j
      · rw [if_pos e]; have := nm_inj (by omega) (by omega) e; rw [h.next, this]
      · rw [if_neg e]
        refine h1 j ?_
        have : j ≠ i := fun q => e (by rw [q])
        omega
    · intro s k q
      simp only at q
      rw [look_insN (h.fit.nd _ _ hd) hs] at q
      split at q
      · rename_i e; cases q; exact ⟨i, by omega, e.symm, h.next⟩
      · obtain ⟨j, hj, e1, e2⟩ := h2 _ _ q
        exact ⟨j, by omega, e1, e2⟩
  · intro k n q hk1
    rw [hl, if_neg hk1] at q
    split at q
    · cases q; rfl
    · exact h.rest _ _ q hk1
  · intro _
    rw [hl, if_neg (by omega)]
    split
    · rfl
    · rename_i e
      refine h.first ?_
      have := h.next
      omega
theorem Many.full {T : Tr} {kind : Int} (h : Many T kind 59) {i : Nat} (hi : i < 80) (hn : 59 ≤ i) : T.createR (opM kind (pthB i)) = (16, ⟨0, 0, 0, 0, 0, [], []⟩, T) := by
  obtain ⟨d, hd, hk, h1, h2⟩ := h.root
  have ha := at_root (pth_parent i hi) hd hk
  have hs : look (nmB i) d.names = none := by
    cases q : look (nmB i) d.names with
    | none => rfl
    | some k =>
      obtain ⟨j, hj, e, _⟩ := h2 _ _ q
      have := nm_inj hi (by omega) e
      omega
  have hc : T.create (opM kind (pthB i)) = (16, 0, T) := by
    unfold Tr.create opM
    simp only [ha, hd, hs]
    rw [if_neg (by simp), if_neg (by simp), if_pos (by rw [h.len]; omega)]
  unfold Tr.createR
  rw [hc]
  rfl
theorem sum_zero' {l : List (Int × Nd)} {f : Nd → Nat} (h : ∀ p ∈ l, f p.2 = 0) : (l.map fun p => f p.2).sum = 0 := by
  induction l with
  | nil => rfl
  | cons p l ih =>
    simp only [List.map_cons, List.sum_cons]
    rw [h p (by simp), ih (fun q hq => h q (List.mem_cons_of_mem _ hq))]
theorem Many.gone {T : Tr} {kind g : Int} {i : Nat} (h : Many T kind i) (hi : 0 < i) (h59 : i ≤ 59) (hk : (kind = 1 ∧ g = 3) ∨ (kind = 2 ∧ g = 4)) :
    ∃ T', T.remove (opM g ⟨#[47, 110, 48]⟩) = (0, T') ∧ T'.createR (opM kind ⟨#[47, 110, 101, 119]⟩) = (0, ⟨(i : Int) + 2, 0, 0, 0, 0, [], []⟩, (T'.createR (opM kind ⟨#[47, 110, 101, 119]⟩)).2.2) := by
  obtain ⟨d, hd, hdk, h1, h2⟩ := h.root
  have ep : (⟨#[47, 110, 48]⟩ : ByteArray) = pthB 0 := by kernel_rfl
  have hpar := pth_parent 0 (by omega)
  have ha := at_root hpar hd hdk
  have hl0 := h1 0 hi
  have hx := h.first hi
  have hnn : (newNd kind).names = [] := by unfold newNd; split <;> rfl
  have hfind : T.find (pthB 0) = (2, 0) := by
    unfold Tr.find
    rw [split_pth 0 (by omega)]
    rw [if_neg (by simp)]
    rw [walk_some hd (by omega) hl0]
    rfl
  have hrem : T.remove (opM g (pthB 0)) = (0, T.dropAt 1 d (nmB 0)) := by
    unfold Tr.remove opM
    simp only [hpar, hfind, hx, ha, hd]
    rw [if_neg (by simp), if_neg (by simp)]
    rw [if_neg (by unfold newNd; split <;> simp <;> omega), if_neg (by unfold newNd; split <;> simp <;> omega), if_neg (by rw [hnn]; simp)]
  have hat : d.at_ (nmB 0) = 2 := by unfold Nd.at_; rw [hl0]; rfl
  have hlk : Tr.links { T with nodes := setNode 1 { d with names := del (nmB 0) d.names } T.nodes } 2 = 0 := by
    unfold Tr.links
    rw [if_neg (by decide)]
    refine sum_zero' fun p hp => ?_
    unfold Nd.cnt
    rw [List.length_eq_zero_iff, List.filter_eq_nil_iff]
    intro q hq e
    have e : q.2 = 2 := by simpa using e
    have hlp := mem_look (by rw [setNode_keys]; exact h.fit.keys) (show (p.1, p.2) ∈ setNode 1 { d with names := del (nmB 0) d.names } T.nodes from hp)
    rw [look_setNode] at hlp
    by_cases e1 : p.1 = 1
    · rw [if_pos e1, e1, hd] at hlp
      have hp2 := Option.some.inj hlp
      rw [← hp2] at hq
      have hq2 := mem_look (del_nodup (h.fit.nd _ _ hd)) (show (q.1, q.2) ∈ del (nmB 0) d.names from hq)
      obtain ⟨n1, n2⟩ := look_del_some hq2
      obtain ⟨j, _, n3, n4⟩ := h2 _ _ n2
      have : j = 0 := by omega
      subst this
      exact n1 n3
    · rw [if_neg e1] at hlp
      have := h.rest _ _ hlp e1
      rw [this, hnn] at hq
      cases hq
  have hdrop : T.dropAt 1 d (nmB 0) = { nodes := del 2 (setNode 1 { d with names := del (nmB 0) d.names } T.nodes), next := T.next } := by
    unfold Tr.dropAt
    simp only [hat]
    rw [if_pos hlk]
  refine ⟨_, by rw [ep]; exact hrem, ?_⟩
  have hd' : look 1 (T.dropAt 1 d (nmB 0)).nodes = some { d with names := del (nmB 0) d.names } := by
    rw [hdrop]
    simp only
    rw [look_del_ne (by decide), look_setNode, if_pos rfl, hd]
    rfl
  have hpn : parentS ⟨#[47, 110, 101, 119]⟩ = (0, ⟨#[47]⟩, newS) := by kernel_rfl
  have ha' := at_root hpn hd' hdk
  have hs : look newS (del (nmB 0) d.names) = none := by
    cases q : look newS (del (nmB 0) d.names) with
    | none => rfl
    | some k =>
      obtain ⟨j, hj, e, _⟩ := h2 _ _ (look_del_some q).2
      exact absurd e.symm (nm_new j (by omega))
  have hlen : (T.dropAt 1 d (nmB 0)).nodes.length < 60 := by
    rw [hdrop]
    have := (del_len 2 (setNode 1 { d with names := del (nmB 0) d.names } T.nodes))
    have hx2 : look 2 (setNode 1 { d with names := del (nmB 0) d.names } T.nodes) = some (newNd kind) := by rw [look_setNode, if_neg (by decide), hx]
    have hp := (perm_del (by rw [setNode_keys]; exact h.fit.keys) hx2).length_eq
    have hl := h.len
    unfold setNode at hp hl ⊢
    simp only [List.length_map, List.length_cons] at hp
    simp only
    omega
  have hnx : (T.dropAt 1 d (nmB 0)).next = (i : Int) + 2 := by rw [hdrop]; exact h.next
  have hc : (T.dropAt 1 d (nmB 0)).create (opM kind ⟨#[47, 110, 101, 119]⟩) = (0, (i : Int) + 2, ((T.dropAt 1 d (nmB 0)).create (opM kind ⟨#[47, 110, 101, 119]⟩)).2.2) := by
    unfold Tr.create opM
    simp only [ha', hd', hs]
    rw [if_neg (by simp), if_neg (by simp), if_neg (by rw [hnx]; omega), hnx]
  unfold Tr.createR
  rw [hc]
  rfl
end Go.Proofs.YtggfepgablfbhaaGreatDoor
