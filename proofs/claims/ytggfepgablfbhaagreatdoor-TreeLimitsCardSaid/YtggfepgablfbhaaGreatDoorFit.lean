/- What every operation keeps of a tree: bounds, and that names lead somewhere. -/
import Derived.Test.YtggfepgablfbhaaGreatDoorRename1
import Derived.Test.YtggfepgablfbhaaGreatDoorCreate2
import Derived.Test.YtggfepgablfbhaaGreatDoorData
namespace Go.Proofs.YtggfepgablfbhaaGreatDoor
open Go.RowKit Go.Lib

/-- A tree as it should be, next number at most a, names at most b. -/
structure Tr.Fit (T : Tr) (a b : Nat) : Prop where
  keys : (T.nodes.map (·.1)).Nodup
  pos : ∀ k n, look k T.nodes = some n → 1 ≤ k ∧ k < T.next
  next : 2 ≤ T.next ∧ T.next ≤ a
  tot : T.total ≤ b
  few : T.nodes.length ≤ 60
  root : ∃ n, look 1 T.nodes = some n ∧ n.kind = 2
  kind : ∀ k n, look k T.nodes = some n → n.kind = 1 ∨ n.kind = 2
  file : ∀ k n, look k T.nodes = some n → n.kind = 1 → n.names = []
  closed : ∀ k n, look k T.nodes = some n → ∀ s j, look s n.names = some j → ∃ m, look j T.nodes = some m
  nd : ∀ k n, look k T.nodes = some n → (n.names.map (·.1)).Nodup
  small : T.Small

theorem Tr.Fit.ok {T : Tr} {a b : Nat} (h : T.Fit a b) (ha : a ≤ 1099511627776) (hb : b ≤ 4000) : T.Ok :=
  ⟨h.pos, ⟨h.next.1, by have := h.next.2; omega⟩, Nat.le_trans h.tot hb, h.few, h.root, h.kind, h.file, h.closed⟩
theorem Tr.Fit.mono {T : Tr} {a b a' b' : Nat} (h : T.Fit a b) (ha : a ≤ a') (hb : b ≤ b') : T.Fit a' b' :=
  { h with next := ⟨h.next.1, by have := h.next.2; omega⟩, tot := Nat.le_trans h.tot hb }
theorem Tr.new_fit : Tr.Fit { nodes := [(1, ⟨2, [], []⟩)], next := 2 } 2 0 := by
  have hl : ∀ k n, look k [((1 : Int), (⟨2, [], []⟩ : Nd))] = some n → k = 1 ∧ n = ⟨2, [], []⟩ := fun k n h => by
    unfold look at h
    split at h
    · rename_i e; cases h; exact ⟨e.symm, rfl⟩
    · simp [look] at h
  refine ⟨by simp, ?_, by simp, by simp [Tr.total], by simp, ⟨_, rfl, rfl⟩, ?_, ?_, ?_, ?_, ?_⟩
  · intro k n h; obtain ⟨rfl, rfl⟩ := hl k n h; simp
  · intro k n h; obtain ⟨rfl, rfl⟩ := hl k n h; simp
  · intro k n h; obtain ⟨rfl, rfl⟩ := hl k n h; simp
  · intro k n h s j hj; obtain ⟨rfl, rfl⟩ := hl k n h; simp [look] at hj
  · intro k n h; obtain ⟨rfl, rfl⟩ := hl k n h; simp
  · intro k n h; obtain ⟨rfl, rfl⟩ := hl k n h; simp

theorem setNode_keys (k : Int) (m : Nd) (l : List (Int × Nd)) : (setNode k m l).map (·.1) = l.map (·.1) := by
  unfold setNode
  rw [List.map_map]
  refine List.map_congr_left fun p _ => ?_
  simp only [Function.comp]
  split <;> rfl
/-- One inode is another one: of the same kind, its names lead where they led, or to what is there. -/
theorem Tr.Fit.set {T : Tr} {a b b' : Nat} (h : T.Fit a b) {k : Int} {n m : Nd} (hn : look k T.nodes = some n) (hk : m.kind = n.kind) (hf : n.kind = 1 → m.names = []) (hnd : (m.names.map (·.1)).Nodup)
    (hc : ∀ s j, look s m.names = some j → ∃ x, look j T.nodes = some x) (hs : m.data.length ≤ 2000) (ht : T.total + m.names.length ≤ b' + n.names.length) : Tr.Fit { T with nodes := setNode k m T.nodes } a b' := by
  have hl : ∀ f x, look f (setNode k m T.nodes) = some x → (f = k ∧ x = m) ∨ look f T.nodes = some x := fun f x q => by
    rw [look_setNode] at q
    by_cases e : f = k
    · subst e; rw [if_pos rfl, hn] at q; cases q; exact .inl ⟨rfl, rfl⟩
    · rw [if_neg e] at q; exact .inr q
  have hx : ∀ j, (∃ x, look j T.nodes = some x) → ∃ x, look j (setNode k m T.nodes) = some x := fun j ⟨x, q⟩ => by
    rw [look_setNode, q]
    split <;> exact ⟨_, rfl⟩
  refine ⟨by rw [setNode_keys]; exact h.keys, ?_, h.next, ?_, by unfold setNode; rw [List.length_map]; exact h.few, ?_, ?_, ?_, ?_, ?_, ?_⟩
  · intro f x q
    rcases hl f x q with ⟨rfl, rfl⟩ | q
    · exact h.pos _ _ hn
    · exact h.pos _ _ q
  · have := sum_setNode (m := m) (fun n => n.names.length) h.keys hn
    simp only [Tr.total] at this ht ⊢
    omega
  · obtain ⟨r, hr, hr2⟩ := h.root
    by_cases e : (1 : Int) = k
    · subst e
      rw [hn] at hr; cases hr
      exact ⟨m, by rw [look_setNode, if_pos rfl, hn]; rfl, by rw [hk, hr2]⟩
    · exact ⟨r, by rw [look_setNode, if_neg e, hr], hr2⟩
  · intro f x q
    rcases hl f x q with ⟨rfl, rfl⟩ | q
    · rw [hk]; exact h.kind _ _ hn
    · exact h.kind _ _ q
  · intro f x q hq
    rcases hl f x q with ⟨rfl, rfl⟩ | q
    · exact hf (by rw [← hk, hq])
    · exact h.file _ _ q hq
  · intro f x q s j hj
    rcases hl f x q with ⟨rfl, rfl⟩ | q
    · exact hx _ (hc s j hj)
    · exact hx _ (h.closed _ _ q s j hj)
  · intro f x q
    rcases hl f x q with ⟨rfl, rfl⟩ | q
    · exact hnd
    · exact h.nd _ _ q
  · intro f x q
    rcases hl f x q with ⟨rfl, rfl⟩ | q
    · exact hs
    · exact h.small _ _ q

theorem look_insN {s t : ByteArray} {j : Int} {l : List (ByteArray × Int)} (hn : (l.map (·.1)).Nodup) (hs : look s l = none) : look t (insN s j l) = if s = t then some j else look t l :=
  look_perm (insN_perm s j l) (insN_keys hn hs)
theorem insN_len (s : ByteArray) (j : Int) (l : List (ByteArray × Int)) : (insN s j l).length = l.length + 1 := (insN_perm s j l).length_eq
theorem look_del_some {κ α : Type} [DecidableEq κ] {k j : κ} {x : α} {l : List (κ × α)} (h : look j (del k l) = some x) : j ≠ k ∧ look j l = some x := by
  have e : j ≠ k := fun e => by subst e; rw [look_del] at h; cases h
  rw [look_del_ne (fun q => e q.symm)] at h
  exact ⟨e, h⟩
theorem del_nodup {κ α : Type} [DecidableEq κ] {k : κ} {l : List (κ × α)} (h : (l.map (·.1)).Nodup) : ((del k l).map (·.1)).Nodup := del_keys h
theorem del_len {κ α : Type} [DecidableEq κ] (k : κ) (l : List (κ × α)) : (del k l).length ≤ l.length := List.length_filter_le _ _

theorem Tr.Fit.named {T : Tr} {a b : Nat} (h : T.Fit a b) {k j : Int} {d : Nd} {s : ByteArray} (hd : look k T.nodes = some d) (hk : d.kind = 2) (hs : look s d.names = none) (hj : ∃ x, look j T.nodes = some x) : (T.named k d s j).Fit a (b + 1) := by
  refine h.set hd rfl (fun q => by omega) (insN_keys (h.nd _ _ hd) hs) ?_ (h.small k d hd) ?_
  · intro t i q
    simp only at q
    rw [look_insN (h.nd _ _ hd) hs] at q
    split at q
    · cases q; exact hj
    · exact h.closed _ _ hd _ _ q
  · have := h.tot
    simp only [insN_len]
    omega
theorem Tr.Fit.strike {T : Tr} {a b : Nat} (h : T.Fit a b) {k : Int} {d : Nd} (s : ByteArray) (hd : look k T.nodes = some d) : Tr.Fit { T with nodes := setNode k { d with names := del s d.names } T.nodes } a b := by
  refine h.set hd rfl (fun q => ?_) (del_keys (h.nd _ _ hd)) ?_ (h.small k d hd) ?_
  · simp only [h.file _ _ hd q]; rfl
  · intro t i q
    exact h.closed _ _ hd _ _ (look_del_some q).2
  · have := h.tot
    have := del_len s d.names
    simp only
    omega
theorem Tr.Fit.data {T : Tr} {a b : Nat} (h : T.Fit a b) {k : Int} {n : Nd} {xs : List Int} (hn : look k T.nodes = some n) (hx : xs.length ≤ 2000) : (T.setData k n xs).Fit a b :=
  h.set hn rfl (fun q => h.file k n hn q) (h.nd k n hn) (fun s j q => h.closed k n hn s j q) hx (by have := h.tot; simp only; omega)

theorem sum_zero {l : List (Int × Nd)} {f : Nd → Nat} (h : (l.map fun p => f p.2).sum = 0) : ∀ p ∈ l, f p.2 = 0 := by
  induction l with
  | nil => simp
  | cons p l ih =>
    simp only [List.map_cons, List.sum_cons] at h
    intro q hq
    rcases List.mem_cons.1 hq with rfl | hq
    · omega
    · exact ih (by omega) q hq
/-- No name leads to an inode without links. -/
theorem links_zero {T : Tr} {j : Int} (h : T.links j = 0) : j ≠ 1 ∧ ∀ k n s, look k T.nodes = some n → look s n.names ≠ some j := by
  unfold Tr.links at h
  by_cases e : j = 1
  · rw [if_pos e] at h; cases h
  · rw [if_neg e] at h
    refine ⟨e, fun k n s hn hs => ?_⟩
    have := sum_zero h (k, n) (look_mem hn)
    simp only [Nd.cnt] at this
    have h2 := List.length_eq_zero_iff.1 this
    have h3 : (s, j) ∈ n.names.filter fun p => p.2 = j := List.mem_filter.2 ⟨look_mem hs, by simp⟩
    rw [h2] at h3
    cases h3
theorem sum_filter {l : List (Int × Nd)} {f : Nd → Nat} {q : Int × Nd → Bool} : ((l.filter q).map fun p => f p.2).sum ≤ (l.map fun p => f p.2).sum := by
  induction l with
  | nil => simp
  | cons p l ih =>
    rw [List.filter_cons]
    split
    · simp only [List.map_cons, List.sum_cons]; omega
    · simp only [List.map_cons, List.sum_cons]; omega
theorem Tr.Fit.gone {T : Tr} {a b : Nat} (h : T.Fit a b) {j : Int} (h1 : j ≠ 1) (h0 : ∀ k n s, look k T.nodes = some n → look s n.names ≠ some j) : Tr.Fit { T with nodes := del j T.nodes } a b := by
  refine ⟨del_keys h.keys, fun k n q => h.pos _ _ (look_del_some q).2, h.next, Nat.le_trans (sum_filter (f := fun n => n.names.length)) h.tot, Nat.le_trans (del_len _ _) h.few, ?_, fun k n q => h.kind _ _ (look_del_some q).2, fun k n q => h.file _ _ (look_del_some q).2, ?_, fun k n q => h.nd _ _ (look_del_some q).2, fun k n q => h.small _ _ (look_del_some q).2⟩
  · obtain ⟨r, hr⟩ := h.root
    exact ⟨r, by simp only; rw [look_del_ne h1]; exact hr.1, hr.2⟩
  · intro k n q s i hs
    obtain ⟨m, hm⟩ := h.closed _ _ (look_del_some q).2 _ _ hs
    refine ⟨m, ?_⟩
    simp only
    rw [look_del_ne (fun e => h0 _ _ s (look_del_some q).2 (by rw [e]; exact hs))]
    exact hm
theorem Tr.Fit.dropAt {T : Tr} {a b : Nat} (h : T.Fit a b) {k : Int} {d : Nd} (s : ByteArray) (hd : look k T.nodes = some d) : (T.dropAt k d s).Fit a b := by
  have h1 := h.strike s hd
  unfold Tr.dropAt
  simp only
  split
  · rename_i q
    obtain ⟨q1, q2⟩ := links_zero q
    exact h1.gone q1 q2
  · exact h1
theorem Tr.Fit.added {T : Tr} {a b : Nat} (h : T.Fit a b) (kind : Int) (hf : T.nodes.length < 60) : (T.added (newNd kind)).Fit (a + 1) b := by
  have hno : look T.next T.nodes = none := by
    cases q : look T.next T.nodes with
    | none => rfl
    | some n => have := (h.pos _ _ q).2; omega
  have hnn : (newNd kind).names = [] := by unfold newNd; split <;> rfl
  have hl : ∀ k n, look k (T.nodes ++ [(T.next, newNd kind)]) = some n → (k = T.next ∧ n = newNd kind) ∨ look k T.nodes = some n := fun k n q => by
    cases g : look k T.nodes with
    | some m => rw [look_snoc g] at q; exact .inr q
    | none =>
      have hm := look_mem q
      rcases List.mem_append.1 hm with hm | hm
      · exact absurd (List.mem_map.2 ⟨_, hm, rfl⟩) (look_none.1 g)
      · simp at hm; exact .inl hm
  refine ⟨?_, ?_, ?_, ?_, ?_, ?_, ?_, ?_, ?_, ?_, ?_⟩
  · simp only [Tr.added, List.map_append, List.map_cons, List.map_nil]
    rw [List.nodup_append]
    refine ⟨h.keys, by simp, fun x hx y hy e => ?_⟩
    simp at hy
    subst hy; subst e
    exact look_none.1 hno hx
  · intro k n q
    have hn2 := h.next
    simp only [Tr.added] at q ⊢
    rcases hl k n q with ⟨rfl, rfl⟩ | q
    · omega
    · have := h.pos _ _ q; omega
  · have := h.next; simp only [Tr.added]; omega
  · have := h.tot
    simp only [Tr.total, Tr.added, List.map_append, List.map_cons, List.map_nil, List.sum_append, hnn] at this ⊢
    simpa using this
  · simp [Tr.added]; omega
  · obtain ⟨r, hr⟩ := h.root
    exact ⟨r, look_snoc hr.1, hr.2⟩
  · intro k n q
    rcases hl k n q with ⟨rfl, rfl⟩ | q
    · unfold newNd; split <;> simp
    · exact h.kind _ _ q
  · intro k n q hk
    rcases hl k n q with ⟨rfl, rfl⟩ | q
    · exact hnn
    · exact h.file _ _ q hk
  · intro k n q s j hs
    rcases hl k n q with ⟨rfl, rfl⟩ | q
    · rw [hnn] at hs; cases hs
    · obtain ⟨m, hm⟩ := h.closed _ _ q _ _ hs
      exact ⟨m, look_snoc hm⟩
  · intro k n q
    rcases hl k n q with ⟨rfl, rfl⟩ | q
    · rw [hnn]; simp
    · exact h.nd _ _ q
  · intro k n q
    rcases hl k n q with ⟨rfl, rfl⟩ | q
    · unfold newNd; split <;> simp
    · exact h.small _ _ q

theorem Tr.Fit.create {T : Tr} {a b : Nat} (h : T.Fit a b) (o : OpV) : (T.create o).2.2.Fit (a + 1) (b + 1) := by
  unfold Tr.create
  split
  · exact h.mono (by omega) (by omega)
  · rename_i h0
    have h0 : (T.at_ o.path).1 = 0 := by simpa using h0
    obtain ⟨_, _, d, hd, hk, _⟩ := at_zero h0
    rw [hd]
    simp only
    split
    · exact h.mono (by omega) (by omega)
    · rename_i hs
      split
      · exact h.mono (by omega) (by omega)
      · rename_i hf
        refine (h.added o.kind (by omega)).named (look_snoc hd) ((h.kind _ _ hd).resolve_left hk) (by simpa using hs) ?_
        refine ⟨newNd o.kind, ?_⟩
        have hno : look T.next T.nodes = none := by
          cases q : look T.next T.nodes with
          | none => rfl
          | some n => have := (h.pos _ _ q).2; omega
        simp only [Tr.added]
        exact mem_look (h.added o.kind (by omega)).keys (by simp)
theorem Tr.Fit.remove {T : Tr} {a b : Nat} (h : T.Fit a b) (o : OpV) : (T.remove o).2.Fit a b := by
  unfold Tr.remove
  repeat' split
  all_goals first
    | exact h
    | (rename_i d hd; exact h.dropAt _ hd)
theorem Tr.Fit.link {T : Tr} {a b : Nat} (h : T.Fit a b) (o : OpV) : (T.link o).2.Fit a (b + 1) := by
  unfold Tr.link
  split
  · exact h.mono (by omega) (by omega)
  split
  · exact h.mono (by omega) (by omega)
  split
  · exact h.mono (by omega) (by omega)
  rename_i x hx
  split
  · exact h.mono (by omega) (by omega)
  split
  · exact h.mono (by omega) (by omega)
  rename_i h0
  have h0 : (T.at_ o.dest).1 = 0 := by simpa using h0
  obtain ⟨_, _, d, hd, hk, _⟩ := at_zero h0
  rw [hd]
  simp only
  split
  · exact h.mono (by omega) (by omega)
  rename_i hs
  split
  · exact h.mono (by omega) (by omega)
  exact h.named hd ((h.kind _ _ hd).resolve_left hk) (by simpa using hs) ⟨x, hx⟩
theorem splice_length_le (xs : List Int) (k : Nat) (ys : List Int) (n : Nat) (hx : xs.length = n) (hy : k + ys.length ≤ n) : (splice xs k ys).length = n := by
  rw [length_splice _ _ _ (by omega), hx]
theorem Tr.Fit.file_ {T : Tr} {a b : Nat} (h : T.Fit a b) (o : OpV) : (T.file o).2.2.Fit a b := by
  unfold Tr.file
  split
  · exact h
  split
  · exact h
  rename_i n hn
  split
  · exact h
  split
  · split <;> exact h
  split
  · split
    · exact h
    rename_i hr
    split
    · exact h
    refine h.data hn ?_
    have hs := h.small _ _ hn
    rw [splice_length_le _ _ _ (max n.data.length (o.off.toNat + o.data.length)) (sizedL_length _ _) (by omega)]
    omega
  · split
    · exact h
    rename_i hr
    refine h.data hn ?_
    rw [sizedL_length]
    omega
end Go.Proofs.YtggfepgablfbhaaGreatDoor
