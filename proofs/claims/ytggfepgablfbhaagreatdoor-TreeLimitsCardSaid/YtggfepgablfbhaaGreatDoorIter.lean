/- Going through a map. -/
import Derived.Test.YtggfepgablfbhaaGreatDoorTreeAt
import Derived.Maps.RangeWalk
namespace Go.Proofs.YtggfepgablfbhaaGreatDoor
open Go.RowKit
open Go.ChangeMaps (setBlock)

/-- Block r goes through the map at block b; of its entries l those of 'left' are still to come. -/
structure Iter {κ : Type} (w : World) (enc : κ → Value) (r b : Nat) (l left : List (κ × Value)) : Prop where
  ex : ∃ es clock since seen c0, w.heap[b]? = some (.map es clock) ∧ w.heap[r]? = some (.mapIter (some b) since seen c0) ∧ (∀ x ∈ es.toList, x.born < since) ∧ since ≤ c0 ∧ c0 = clock ∧ (es.toList.map (·.born)).Nodup ∧
    (es.toList.map fun e => (e.key, e.val)).Perm (l.map fun p => (enc p.1, p.2)) ∧ ((leftOf es seen).toList.map fun e => (e.key, e.val)).Perm (left.map fun p => (enc p.1, p.2)) ∧ r ≠ b

theorem Iter.kept {κ : Type} {w w' : World} {enc : κ → Value} {r b : Nat} {l left : List (κ × Value)} (h : Iter w enc r b l left) (hb : w'.heap[b]? = w.heap[b]?) (hr : w'.heap[r]? = w.heap[r]?) : Iter w' enc r b l left := by
  obtain ⟨es, c, s, seen, c0, h1, h2, h3⟩ := h.ex
  exact ⟨es, c, s, seen, c0, hb.trans h1, hr.trans h2, h3⟩
theorem Iter.mapIs {κ : Type} {w : World} {enc : κ → Value} {r b : Nat} {l left : List (κ × Value)} (h : Iter w enc r b l left) (_ : True) : ∃ es c, w.heap[b]? = some (.map es c) := by
  obtain ⟨es, c, s, seen, c0, h1, _⟩ := h.ex
  exact ⟨es, c, h1⟩
theorem Iter.rlt {κ : Type} {w : World} {enc : κ → Value} {r b : Nat} {l left : List (κ × Value)} (h : Iter w enc r b l left) : r < w.heap.size := by
  obtain ⟨es, c, s, seen, c0, h1, h2, _⟩ := h.ex
  exact (Array.getElem?_eq_some_iff.1 h2).1

theorem leftOf_empty (es : Array MapEntry) : leftOf es #[] = es := by
  unfold leftOf
  exact Array.filter_eq_self.2 (fun x _ => by simp)

theorem perm_map_split {α β : Type} {f : α → β} : ∀ {l : List α} {x : β} {r : List β}, (l.map f).Perm (x :: r) → ∃ p l', l.Perm (p :: l') ∧ f p = x ∧ (l'.map f).Perm r := by
  intro l x r h
  have hx : x ∈ l.map f := h.mem_iff.2 (by simp)
  obtain ⟨p, hp, rfl⟩ := List.mem_map.1 hx
  obtain ⟨A, B, rfl⟩ := List.append_of_mem hp
  refine ⟨p, A ++ B, List.perm_middle, rfl, ?_⟩
  have := (List.perm_middle.map f).symm.trans h
  simpa using this

theorem leftOf_push (es : Array MapEntry) (seen : Array Nat) (e : MapEntry) : (leftOf es (seen.push e.born)).toList = (leftOf es seen).toList.filter fun x => x.born != e.born := by
  unfold leftOf
  simp only [Array.toList_filter, List.filter_filter]
  refine List.filter_congr fun x _ => ?_
  simp only [Array.contains_push]
  cases h1 : seen.contains x.born <;> cases h2 : (x.born == e.born) <;> simp [h2, bne]

theorem filter_born {L : List MapEntry} (hn : (L.map (·.born)).Nodup) {e : MapEntry} (he : e ∈ L) : L.Perm (e :: L.filter fun x => x.born != e.born) := by
  obtain ⟨A, B, rfl⟩ := List.append_of_mem he
  have hn2 : ((e :: (A ++ B)).map (·.born)).Nodup := ((List.perm_middle (l₁ := A) (l₂ := B) (a := e)).map (·.born)).nodup_iff.1 hn
  simp only [List.map_cons, List.nodup_cons] at hn2
  have hf : ∀ C : List MapEntry, (∀ x ∈ C, x.born ∈ (A ++ B).map (·.born)) → C.filter (fun x => x.born != e.born) = C := fun C hC => List.filter_eq_self.2 fun x hx => by
    have := hC x hx
    simp only [bne_iff_ne, ne_eq]
    exact fun q => hn2.1 (q ▸ this)
  rw [List.filter_append, List.filter_cons]
  simp only [bne_self_eq_false, Bool.false_eq_true, if_false]
  rw [hf A (fun x hx => List.mem_map.2 ⟨x, by simp [hx], rfl⟩), hf B (fun x hx => List.mem_map.2 ⟨x, by simp [hx], rfl⟩)]
  exact List.perm_middle

section
variable {κ : Type} {P : Program} {enc : κ → Value} {b r : Nat} {l left : List (κ × Value)} {w : World}

theorem Iter.start (h : MapIs w enc b l) {t kt et : TypeId} (ht : P.underlying t = some (.map kt et)) :
    ∃ w', (Instr.range t (.map (some b))).run P w = .ok (.pointer (some ⟨w.heap.size, 0, none⟩)) w' ∧ Iter w' enc w.heap.size b l l ∧ Upd (fun _ => False) w w' ∧ w'.heap.size = w.heap.size + 1 := by
  obtain ⟨es, c, h1, h2, h3, h4⟩ := h
  have hlt : b < w.heap.size := (Array.getElem?_eq_some_iff.1 h1).1
  refine ⟨_, run_range_map w t kt et b es c ht h1, ⟨es, c, c, #[], c, ?_, ?_, h4, Nat.le_refl _, rfl, h3, h2, by rw [leftOf_empty]; exact h2, by omega⟩, (Upd.refl _ _).alloc _, by simp⟩
  · rw [(MapKept.heap_alloc w _).2 b hlt]; exact h1
  · exact (MapKept.heap_alloc w _).1

theorem Iter.step (h : Iter w enc r b l left) (ty : TypeId) :
    (left = [] ∧ (Instr.next (.pointer (some ⟨r, 0, none⟩)) false ty).run P w = .ok (.tuple #[.bool false]) w) ∨
    ∃ p left' w', left.Perm (p :: left') ∧ (Instr.next (.pointer (some ⟨r, 0, none⟩)) false ty).run P w = .ok (.tuple #[.bool true, enc p.1, p.2]) w' ∧ Iter w' enc r b l left' ∧ Upd (· = r) w w' ∧ w'.heap.size = w.heap.size ∧
      (∀ w2 : World, w2.heap[r]? = w'.heap[r]? → w2.heap[b]? = w'.heap[b]? → (Instr.entry (.pointer (some ⟨r, 0, none⟩))).run P w2 = .ok (.tuple #[enc p.1, p.2]) w2) := by
  obtain ⟨es, c, s, seen, c0, h1, h2, h3, h4, h4', h5, h6, h7, h8⟩ := h.ex
  rcases run_next_at (P := P) w ty r b s c0 seen es c h2 h1 h3 h4 with ⟨g1, g2⟩ | ⟨e, he, w1, hw1, g2⟩
  · refine .inl ⟨?_, g2⟩
    have := h7.length_eq
    simp only [List.length_map, Array.length_toList, g1] at this
    exact List.eq_nil_of_length_eq_zero this.symm
  · right
    have hn : ((leftOf es seen).toList.map (·.born)).Nodup := by
      unfold leftOf
      rw [Array.toList_filter]
      exact (List.filter_sublist.map _).nodup h5
    have hp := filter_born hn he
    have hpm := (hp.map fun e => (e.key, e.val)).symm.trans h7
    obtain ⟨p, left', q1, q2, q3⟩ := perm_map_split (hpm.symm.trans (by rw [List.map_cons]))
    have q2a : enc p.1 = e.key := congrArg Prod.fst q2
    have q2b : p.2 = e.val := congrArg Prod.snd q2
    have hrl : r < w.heap.size := (Array.getElem?_eq_some_iff.1 h2).1
    have hu : Upd (· = r) w w1 := by rcases hw1 with rfl | rfl; exact Upd.refl _ _; exact (Upd.refl _ _).drew
    have hh : w1.heap = w.heap := by rcases hw1 with rfl | rfl <;> rfl
    refine ⟨p, left', setBlock w1 r (.mapIter (some b) s (seen.push e.born) c), q1, by rw [q2a, q2b]; exact g2, ?_, ?_, by simp [setBlock, hh], ?_⟩
    · refine ⟨es, c, s, seen.push e.born, c, ?_, ?_, h3, by omega, rfl, h5, h6, ?_, h8⟩
      · simp [setBlock, hh, h8, h1]
      · simp [setBlock, hh, hrl]
      · rw [leftOf_push]; exact q3.symm
    · exact hu.trans ⟨rfl, rfl, rfl, by simp [setBlock], fun k _ hk => by simp [setBlock, Ne.symm hk]⟩
    · intro w2 e1 e2
      rw [q2a, q2b]
      refine run_entry_at w2 r b s seen es c e (e1.trans ?_) (e2.trans ?_) ?_ h5
      · simp [setBlock, hh, hrl]
      · simp [setBlock, hh, h8, h1]
      · have : e ∈ (leftOf es seen).toList := he
        unfold leftOf at this
        rw [Array.toList_filter] at this
        exact (List.mem_filter.1 this).1
end

section
variable {κ : Type} {P : Program} {enc : κ → Value} {b r : Nat} {l left : List (κ × Value)} {ops : Array Oper} {rest : List Oper} {o : Oper} {a : Act} {Q : Exit → Act → World → Prop}

theorem wpl_range (w : World) (h : MapIs w enc b l) (hg : o.guard = none) (m : Operand) (t : TypeId) (hop : o.op = Op.range t m) {kt et : TypeId} (ht : P.underlying t = some (.map kt et)) (hm : a.eval m = .map (some b))
    (hK : ∀ w', Iter w' enc w.heap.size b l l → Upd (fun _ => False) w w' → w'.heap.size = w.heap.size + 1 → wpList P ops Q rest (a.put o.dst (.pointer (some ⟨w.heap.size, 0, none⟩))) w') : wpList P ops Q (o :: rest) a w := by
  refine wpList_plain hg fun K' hK' => ?_
  obtain ⟨w', hrun, h1, h2, h3⟩ := Iter.start (P := P) h ht
  unfold Oper.wp
  simp [execOp, hop, hm, hrun, Result.andThen]
  exact hK' _ _ (hK w' h1 h2 h3)
theorem wpl_next (w : World) (h : Iter w enc r b l left) (hg : o.guard = none) (it : Operand) (hop : o.op = Op.next it false) (hm : a.eval it = .pointer (some ⟨r, 0, none⟩))
    (h0 : left = [] → wpList P ops Q rest (a.put o.dst (.tuple #[.bool false])) w)
    (hK : ∀ p left' w', left.Perm (p :: left') → Iter w' enc r b l left' → Upd (· = r) w w' → w'.heap.size = w.heap.size → (∀ w2 : World, w2.heap[r]? = w'.heap[r]? → w2.heap[b]? = w'.heap[b]? → (Instr.entry (.pointer (some ⟨r, 0, none⟩))).run P w2 = .ok (.tuple #[enc p.1, p.2]) w2) →
      wpList P ops Q rest (a.put o.dst (.tuple #[.bool true, enc p.1, p.2])) w') : wpList P ops Q (o :: rest) a w := by
  refine wpList_plain hg fun K' hK' => ?_
  unfold Oper.wp
  rcases Iter.step (P := P) h o.type with ⟨h1, h2⟩ | ⟨p, left', w', h1, h2, h3, h4, h5, h6⟩
  · simp [execOp, hop, hm, h2, Result.andThen]
    exact hK' _ _ (h0 h1)
  · simp [execOp, hop, hm, h2, Result.andThen]
    exact hK' _ _ (hK p left' w' h1 h3 h4 h5 h6)
end

theorem Upd.then_new {F : Nat → Prop} {w w1 w2 : World} (h : Upd (fun _ => False) w w1) (k : Upd F w1 w2) (hF : ∀ i, F i → w.heap.size ≤ i) : Upd (fun _ => False) w w2 :=
  ⟨k.os.trans h.os, k.tape.trans h.tape, k.output.trans h.output, Nat.le_trans h.size k.size, fun i hi _ => (k.block i (Nat.lt_of_lt_of_le hi h.size) (fun q => by have := hF i q; omega)).trans (h.block i hi id)⟩

theorem Iter.perm {κ : Type} {w : World} {enc : κ → Value} {r b : Nat} {l left left2 : List (κ × Value)} (h : Iter w enc r b l left) (hp : left.Perm left2) : Iter w enc r b l left2 := by
  obtain ⟨es, c, s, seen, c0, h1, h2, h3, h4, h4', h5, h6, h7, h8⟩ := h.ex
  exact ⟨es, c, s, seen, c0, h1, h2, h3, h4, h4', h5, h6, h7.trans (hp.map _), h8⟩

/-- A map that may be nil. -/
def MapO {κ : Type} (w : World) (enc : κ → Value) (mb : Option Nat) (l : List (κ × Value)) : Prop :=
  match mb with
  | none => l = []
  | some b => MapIs w enc b l
/-- Going through a map that may be nil. -/
def IterO {κ : Type} (w : World) (enc : κ → Value) (r : Nat) (mb : Option Nat) (l left : List (κ × Value)) : Prop :=
  match mb with
  | none => w.heap[r]? = some (.mapIter none 0 #[] 0) ∧ left = []
  | some b => Iter w enc r b l left
theorem IterO.perm {κ : Type} {w : World} {enc : κ → Value} {r : Nat} {mb : Option Nat} {l left left2 : List (κ × Value)} (h : IterO w enc r mb l left) (hp : left.Perm left2) : IterO w enc r mb l left2 := by
  cases mb with
  | none => exact ⟨h.1, by rw [h.2] at hp; exact hp.symm.eq_nil⟩
  | some b => exact Iter.perm h hp
theorem IterO.kept {κ : Type} {w w' : World} {enc : κ → Value} {r : Nat} {mb : Option Nat} {l left : List (κ × Value)} (h : IterO w enc r mb l left) (hb : ∀ b, mb = some b → w'.heap[b]? = w.heap[b]?) (hr : w'.heap[r]? = w.heap[r]?) : IterO w' enc r mb l left := by
  cases mb with
  | none => exact ⟨hr.trans h.1, h.2⟩
  | some b => exact Iter.kept h (hb b rfl) hr
theorem IterO.rlt {κ : Type} {w : World} {enc : κ → Value} {r : Nat} {mb : Option Nat} {l left : List (κ × Value)} (h : IterO w enc r mb l left) : r < w.heap.size := by
  cases mb with
  | none => exact lt_of_heap h.1
  | some b => exact Iter.rlt h

section
variable {κ : Type} {P : Program} {enc : κ → Value} {mb : Option Nat} {r : Nat} {l left : List (κ × Value)} {ops : Array Oper} {rest : List Oper} {o : Oper} {a : Act} {Q : Exit → Act → World → Prop}

theorem wpl_rangeO (w : World) (h : MapO w enc mb l) (hg : o.guard = none) (m : Operand) (t : TypeId) (hop : o.op = Op.range t m) {kt et : TypeId} (ht : P.underlying t = some (.map kt et)) (hm : a.eval m = .map mb)
    (hK : ∀ w', IterO w' enc w.heap.size mb l l → Upd (fun _ => False) w w' → w'.heap.size = w.heap.size + 1 → wpList P ops Q rest (a.put o.dst (.pointer (some ⟨w.heap.size, 0, none⟩))) w') : wpList P ops Q (o :: rest) a w := by
  cases mb with
  | some b => exact wpl_range w h hg m t hop ht hm hK
  | none =>
    refine wpList_plain hg fun K' hK' => ?_
    have hl : l = [] := h
    unfold Oper.wp
    simp [execOp, hop, hm, run_range_nilMap (P := P) w t kt et ht, Result.andThen]
    exact hK' _ _ (hK _ ⟨(MapKept.heap_alloc w _).1, hl⟩ ((Upd.refl _ _).alloc _) (by simp))
theorem wpl_nextO (w : World) (h : IterO w enc r mb l left) (hg : o.guard = none) (it : Operand) (hop : o.op = Op.next it false) (hm : a.eval it = .pointer (some ⟨r, 0, none⟩))
    (h0 : left = [] → wpList P ops Q rest (a.put o.dst (.tuple #[.bool false])) w)
    (hK : ∀ p left' w', left.Perm (p :: left') → IterO w' enc r mb l left' → Upd (· = r) w w' → w'.heap.size = w.heap.size → (∀ w2 : World, w2.heap[r]? = w'.heap[r]? → (∀ b, mb = some b → w2.heap[b]? = w'.heap[b]?) → (Instr.entry (.pointer (some ⟨r, 0, none⟩))).run P w2 = .ok (.tuple #[enc p.1, p.2]) w2) →
      wpList P ops Q rest (a.put o.dst (.tuple #[.bool true, enc p.1, p.2])) w') : wpList P ops Q (o :: rest) a w := by
  cases mb with
  | some b => exact wpl_next w h hg it hop hm h0 (fun p left' w' h1 h2 h3 h4 h5 => hK p left' w' h1 h2 h3 h4 (fun w2 e1 e2 => h5 w2 e1 (e2 b rfl)))
  | none =>
    refine wpList_plain hg fun K' hK' => ?_
    have hrun : (Instr.next (.pointer (some ⟨r, 0, none⟩)) false o.type).run P w = .ok (.tuple #[.bool false]) w := by
      simp only [Instr.next, getObj, Sem.run_bind, Sem.run, h.1, Result.andThen]
      rfl
    unfold Oper.wp
    simp [execOp, hop, hm, hrun, Result.andThen]
    exact hK' _ _ (h0 h.2)
end
section
variable {κ : Type} {P : Program} {enc : κ → Value} {mb : Option Nat} {l : List (κ × Value)} {ops : Array Oper} {rest : List Oper} {o : Oper} {a : Act} {Q : Exit → Act → World → Prop}
theorem MapO.run_len {w : World} (h : MapO w enc mb l) {t kt et ty : TypeId} (ht : P.underlying t = some (.map kt et)) : (Builtin.len_ #[t] ty #[.map mb]).run P w = .ok (.int .i64 l.length) w := by
  cases mb with
  | some b => exact MapIs.run_len (h : MapIs w enc b l) ht
  | none =>
    have hl : l = [] := h
    subst hl
    unfold Builtin.len_
    simp [run_underlying ht, goInt, Result.andThen]
theorem wpl_lenO (w : World) (h : MapO w enc mb l) (hg : o.guard = none) (m : Operand) (t : TypeId) (hop : o.op = Op.call { callee := Callee.builtin Builtin.len, args := #[m], argTypes := #[t] }) {kt et : TypeId} (ht : P.underlying t = some (.map kt et))
    (hm : a.eval m = .map mb) (n : Nat) (hn : l.length = n) (hK : wpList P ops Q rest (a.put o.dst (.int .i64 n)) w) : wpList P ops Q (o :: rest) a w := by
  subst hn
  refine wpList_plain hg fun K' hK' => ?_
  unfold Oper.wp
  simp [execOp, hop, resolve, invoke, builtin, hm, h.run_len (P := P) ht (ty := o.type), Result.andThen]
  exact hK' _ _ hK
end
#print axioms wpl_next
end Go.Proofs.YtggfepgablfbhaaGreatDoor
