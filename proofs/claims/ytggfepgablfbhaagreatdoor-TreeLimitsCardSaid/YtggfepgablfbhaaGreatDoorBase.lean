/- Words of the proof: a frame ('Upd'), a map in memory ('MapIs') and its operations. No program is named. -/
import Derived.WalkKit
import Derived.Maps.RangeRun
import Derived.Maps.OwnOps
import Derived.Maps.OwnSet
import Derived.Lib.Hide
import Derived.Deep.QuietTactic
import Derived.BigQuiet
import Derived.StillTailTactics
import Derived.Deep.RegionHeld3
namespace Go.Proofs.YtggfepgablfbhaaGreatDoor
open Go.RowKit

/-- How many package-level variables the program has: they lie in the first blocks. -/
abbrev nG : Nat := 4
/-- A goal that the walk leaves alone. -/
structure Hold (p : Prop) : Prop where
  out : p

/-- Blocks outside F that were there are as they were. -/
structure Upd (F : Nat → Prop) (w w' : World) : Prop where
  os : w'.os = w.os
  tape : w'.tape = w.tape
  output : w'.output = w.output
  size : w.heap.size ≤ w'.heap.size
  block : ∀ k, k < w.heap.size → ¬ F k → w'.heap[k]? = w.heap[k]?

theorem Upd.refl (F : Nat → Prop) (w : World) : Upd F w w := ⟨rfl, rfl, rfl, Nat.le_refl _, fun _ _ _ => rfl⟩
theorem Upd.trans {F : Nat → Prop} {a b c : World} (h : Upd F a b) (k : Upd F b c) : Upd F a c :=
  ⟨k.os.trans h.os, k.tape.trans h.tape, k.output.trans h.output, Nat.le_trans h.size k.size, fun i hi hf => (k.block i (Nat.lt_of_lt_of_le hi h.size) hf).trans (h.block i hi hf)⟩
theorem Upd.mono {F G : Nat → Prop} {a b : World} (h : Upd F a b) (hFG : ∀ k, k < a.heap.size → F k → G k) : Upd G a b :=
  ⟨h.os, h.tape, h.output, h.size, fun i hi hf => h.block i hi (fun q => hf (hFG i hi q))⟩
theorem Upd.drew {F : Nat → Prop} {a w : World} (h : Upd F a w) : Upd F a w.drew := ⟨h.os, h.tape, h.output, h.size, h.block⟩
theorem Upd.drewN {F : Nat → Prop} {a w : World} (h : Upd F a w) (n : Nat) : Upd F a (w.drewN n) := ⟨h.os, h.tape, h.output, h.size, h.block⟩
theorem Upd.alloc {F : Nat → Prop} {a w : World} (h : Upd F a w) (o : Obj) : Upd F a (w.alloc o) :=
  h.trans ⟨rfl, rfl, rfl, by simp, fun k hk _ => Below.heap_alloc _ _ _ hk⟩
theorem Upd.setCell {F : Nat → Prop} {a w : World} (h : Upd F a w) {p : Addr} (hp : a.heap.size ≤ p.block ∨ F p.block) (u : Value) : Upd F a (w.setCell p u) :=
  ⟨h.os, h.tape, h.output, Nat.le_trans h.size (by simp [World.setCell]), fun k hk hf => (Below.heap_setCell _ _ _ _ (by rintro rfl; rcases hp with hp | hp; omega; exact hf hp)).trans (h.block k hk hf)⟩
theorem Upd.of_below {F : Nat → Prop} {w w' : World} (h : Below w.heap.size w w') : Upd F w w' := ⟨h.os, h.tape, h.output, h.size, fun k hk _ => h.block k hk⟩
theorem Upd.below {w w' : World} (h : Upd (fun _ => False) w w') : Below w.heap.size w w' := ⟨h.os, h.tape, h.output, h.size, fun k hk => h.block k hk id⟩
theorem Upd.cell {F : Nat → Prop} {w w' : World} (h : Upd F w w') {p : Addr} (hp : p.block < w.heap.size) (hf : ¬ F p.block) : w'.cell? p = w.cell? p := World.cell?_of_block (w := w) (h.block p.block hp hf)

/-! ### A map in memory -/
/-- Block b is a map with the entries l, in whatever order. -/
def MapIs {κ : Type} (w : World) (enc : κ → Value) (b : Nat) (l : List (κ × Value)) : Prop :=
  ∃ es clock, w.heap[b]? = some (.map es clock) ∧ (es.toList.map fun e => (e.key, e.val)).Perm (l.map fun p => (enc p.1, p.2)) ∧ (es.toList.map (·.born)).Nodup ∧ ∀ e ∈ es.toList, e.born < clock

theorem MapIs.kept {κ : Type} {w w' : World} {enc : κ → Value} {b : Nat} {l : List (κ × Value)} (h : MapIs w enc b l) (hk : w'.heap[b]? = w.heap[b]?) : MapIs w' enc b l := by
  obtain ⟨es, c, h1, h2⟩ := h
  exact ⟨es, c, hk.trans h1, h2⟩
theorem MapIs.lt {κ : Type} {w : World} {enc : κ → Value} {b : Nat} {l : List (κ × Value)} (h : MapIs w enc b l) : b < w.heap.size := by
  obtain ⟨es, c, h1, _⟩ := h
  exact (Array.getElem?_eq_some_iff.1 h1).1

/-- What a list of pairs holds at a key. -/
def look {κ α : Type} [DecidableEq κ] (k : κ) : List (κ × α) → Option α
  | [] => none
  | p :: l => if p.1 = k then some p.2 else look k l
/-- A key's entry made, or written over. -/
def upd {κ α : Type} [DecidableEq κ] (k : κ) (v : α) : List (κ × α) → List (κ × α)
  | [] => [(k, v)]
  | p :: l => if p.1 = k then (k, v) :: l else p :: upd k v l
/-- A key's entry struck. -/
def del {κ α : Type} [DecidableEq κ] (k : κ) (l : List (κ × α)) : List (κ × α) := l.filter fun p => p.1 ≠ k

theorem look_mem {κ α : Type} [DecidableEq κ] {k : κ} {v : α} : ∀ {l : List (κ × α)}, look k l = some v → (k, v) ∈ l
  | [], h => by simp [look] at h
  | p :: l, h => by
    unfold look at h
    split at h
    · rename_i e; cases h; subst e; simp
    · exact List.mem_cons_of_mem _ (look_mem h)
theorem look_none {κ α : Type} [DecidableEq κ] {k : κ} : ∀ {l : List (κ × α)}, look k l = none ↔ k ∉ l.map (·.1)
  | [] => by simp [look]
  | p :: l => by
    unfold look
    split
    · rename_i e; simp [e]
    · rename_i e
      rw [look_none]
      simp only [List.map_cons, List.mem_cons, not_or]
      exact ⟨fun h => ⟨fun q => e q.symm, h⟩, fun h => h.2⟩
theorem mem_look {κ α : Type} [DecidableEq κ] {k : κ} {v : α} : ∀ {l : List (κ × α)}, (l.map (·.1)).Nodup → (k, v) ∈ l → look k l = some v
  | [], _, h => by simp at h
  | p :: l, hn, h => by
    simp only [List.map_cons, List.nodup_cons] at hn
    unfold look
    rcases List.mem_cons.1 h with rfl | h
    · simp
    · have : p.1 ≠ k := fun e => hn.1 (e ▸ List.mem_map.2 ⟨_, h, rfl⟩)
      rw [if_neg this]
      exact mem_look hn.2 h
theorem look_perm {κ α : Type} [DecidableEq κ] {k : κ} {l l' : List (κ × α)} (hp : l.Perm l') (hn : (l.map (·.1)).Nodup) : look k l = look k l' := by
  have hn' : (l'.map (·.1)).Nodup := (hp.map _).nodup_iff.1 hn
  cases h : look k l with
  | none =>
    rw [look_none] at h
    exact (look_none.2 (fun q => h ((hp.map (·.1)).mem_iff.2 q))).symm
  | some v => exact (mem_look hn' (hp.mem_iff.1 (look_mem h))).symm

section
variable {κ : Type} {P : Program} {w : World} {enc : κ → Value} {d : TypeDesc} {b : Nat}

/-- What the keys of a map are asked: they are of the key's kind, and told apart. -/
structure KeyOk (enc : κ → Value) (d : TypeDesc) : Prop where
  key : ∀ k, MapKept.IsKey d (enc k)
  inj : ∀ {j k}, enc j = enc k → j = k
  bits : ∀ k, Instr.sameBits 10000 (enc k) (enc k) = true

theorem KeyOk.int : KeyOk (fun n : Int => Value.int .i64 n) (.int .i64) := ⟨fun k => by simp [MapKept.IsKey], fun h => by injection h, fun k => by simp [Instr.sameBits]⟩
theorem KeyOk.string : KeyOk (fun s : ByteArray => Value.string s) .string := ⟨fun k => by simp [MapKept.IsKey], fun h => by injection h, fun k => (MapKept.bytes_beq k k).2 rfl⟩

theorem MapIs.keys {l : List (κ × Value)} (h : MapIs w enc b l) (K : KeyOk enc d) : ∃ es clock, w.heap[b]? = some (.map es clock) ∧ (∀ x ∈ es.toList, MapKept.IsKey d x.key) ∧ (es.toList.map fun e => (e.key, e.val)).Perm (l.map fun p => (enc p.1, p.2)) ∧ (es.toList.map (·.born)).Nodup ∧ ∀ e ∈ es.toList, e.born < clock := by
  obtain ⟨es, c, h1, h2, h3, h4⟩ := h
  refine ⟨es, c, h1, fun x hx => ?_, h2, h3, h4⟩
  have : (x.key, x.val) ∈ l.map fun p => (enc p.1, p.2) := h2.mem_iff.1 (List.mem_map.2 ⟨x, hx, rfl⟩)
  obtain ⟨p, _, e⟩ := List.mem_map.1 this
  have := congrArg Prod.fst e
  simp only at this
  rw [← this]
  exact K.key _
theorem MapIs.new (w : World) (enc : κ → Value) : MapIs (w.alloc (.map #[] 0)) enc w.heap.size [] :=
  ⟨#[], 0, (MapKept.heap_alloc w _).1, by simp, by simp, by simp⟩
theorem MapIs.size {l : List (κ × Value)} (h : MapIs w enc b l) : ∃ es clock, w.heap[b]? = some (.map es clock) ∧ es.size = l.length := by
  obtain ⟨es, c, h1, h2, _⟩ := h
  exact ⟨es, c, h1, by have := h2.length_eq; simpa using this⟩
theorem MapIs.perm {l l' : List (κ × Value)} (h : MapIs w enc b l) (hp : l.Perm l') : MapIs w enc b l' := by
  obtain ⟨es, c, h1, h2, h3⟩ := h
  exact ⟨es, c, h1, h2.trans (hp.map _), h3⟩
end

theorem upd_look_none {κ α : Type} [DecidableEq κ] {k : κ} {v : α} : ∀ {l : List (κ × α)}, look k l = none → upd k v l = l ++ [(k, v)]
  | [], _ => rfl
  | p :: l, h => by
    unfold look at h
    split at h
    · cases h
    · rename_i e
      unfold upd
      rw [if_neg e, upd_look_none h]
      rfl
theorem del_look_none {κ α : Type} [DecidableEq κ] {k : κ} {l : List (κ × α)} (h : look k l = none) : del k l = l := by
  unfold del
  refine List.filter_eq_self.2 fun p hp => ?_
  have := look_none.1 h
  simp only [ne_eq, decide_not, Bool.not_eq_eq_eq_not, Bool.not_true, decide_eq_false_iff_not]
  exact fun e => this (e ▸ List.mem_map.2 ⟨p, hp, rfl⟩)
theorem perm_del {κ α : Type} [DecidableEq κ] {k : κ} {v : α} : ∀ {l : List (κ × α)}, (l.map (·.1)).Nodup → look k l = some v → l.Perm ((k, v) :: del k l)
  | [], _, h => by simp [look] at h
  | p :: l, hn, h => by
    simp only [List.map_cons, List.nodup_cons] at hn
    unfold look at h
    by_cases e : p.1 = k
    · rw [if_pos e] at h
      cases h
      subst e
      have : look p.1 l = none := look_none.2 hn.1
      unfold del
      rw [List.filter_cons_of_neg (by simp)]
      have e2 := del_look_none this
      unfold del at e2
      rw [e2]
    · rw [if_neg e] at h
      have ih := perm_del hn.2 h
      unfold del at ih ⊢
      rw [List.filter_cons_of_pos (by simpa using e)]
      exact (ih.cons p).trans (List.Perm.swap _ _ _)
theorem upd_perm {κ α : Type} [DecidableEq κ] {k : κ} {v : α} : ∀ {l : List (κ × α)}, (l.map (·.1)).Nodup → (upd k v l).Perm ((k, v) :: del k l)
  | [], _ => by simp [upd, del]
  | p :: l, hn => by
    simp only [List.map_cons, List.nodup_cons] at hn
    unfold upd
    by_cases e : p.1 = k
    · rw [if_pos e]
      subst e
      have : look p.1 l = none := look_none.2 hn.1
      unfold del
      rw [List.filter_cons_of_neg (by simp)]
      have e2 := del_look_none this
      unfold del at e2
      rw [e2]
    · rw [if_neg e]
      have ih := upd_perm (v := v) (k := k) hn.2
      unfold del at ih ⊢
      rw [List.filter_cons_of_pos (by simpa using e)]
      exact (ih.cons p).trans (List.Perm.swap _ _ _)
theorem upd_keys {κ α : Type} [DecidableEq κ] {k : κ} {v : α} : ∀ {l : List (κ × α)}, (l.map (·.1)).Nodup → ((upd k v l).map (·.1)).Nodup := fun {l} hn => by
  have hp := (upd_perm (k := k) (v := v) hn).map (·.1)
  rw [hp.nodup_iff]
  simp only [List.map_cons, List.nodup_cons]
  refine ⟨fun h => ?_, ?_⟩
  · obtain ⟨p, hp, e⟩ := List.mem_map.1 h
    unfold del at hp
    have := (List.mem_filter.1 hp).2
    simp [e] at this
  · unfold del
    exact (List.filter_sublist.map _).nodup hn
theorem del_keys {κ α : Type} [DecidableEq κ] {k : κ} {l : List (κ × α)} (hn : (l.map (·.1)).Nodup) : ((del k l).map (·.1)).Nodup := by
  unfold del
  exact (List.filter_sublist.map _).nodup hn

section
variable {κ : Type} [DecidableEq κ] {P : Program} {w : World} {enc : κ → Value} {d : TypeDesc} {b : Nat} {l : List (κ × Value)}

theorem MapIs.find (h : MapIs w enc b l) (K : KeyOk enc d) (hn : (l.map (·.1)).Nodup) (k : κ) : ∃ es clock, w.heap[b]? = some (.map es clock) ∧ (es.toList.map fun e => (e.key, e.val)).Perm (l.map fun p => (enc p.1, p.2)) ∧ (es.toList.map (·.born)).Nodup ∧ (∀ e ∈ es.toList, e.born < clock) ∧
    ((Instr.findNow d (enc k) es.toList 0 = some none ∧ look k l = none) ∨ ∃ j e, Instr.findNow d (enc k) es.toList 0 = some (some (j, e.val)) ∧ es.toList[j]? = some e ∧ e.key = enc k ∧ look k l = some e.val) := by
  obtain ⟨es, c, h1, hk, h2, h3, h4⟩ := h.keys K
  refine ⟨es, c, h1, h2, h3, h4, ?_⟩
  rcases MapKept.findNow_spec (K.key k) es.toList 0 hk with ⟨g1, g2⟩ | ⟨j, e, g1, g2, g3⟩
  · refine .inl ⟨g1, look_none.2 fun q => ?_⟩
    obtain ⟨p, hp, rfl⟩ := List.mem_map.1 q
    have : (enc p.1, p.2) ∈ es.toList.map fun e => (e.key, e.val) := h2.mem_iff.2 (List.mem_map.2 ⟨p, hp, rfl⟩)
    obtain ⟨x, hx, e⟩ := List.mem_map.1 this
    exact g2 x hx (congrArg Prod.fst e)
  · refine .inr ⟨j, e, by simpa using g1, g2, g3, ?_⟩
    have hm : (e.key, e.val) ∈ l.map fun p => (enc p.1, p.2) := h2.mem_iff.1 (List.mem_map.2 ⟨e, List.mem_of_getElem? g2, rfl⟩)
    obtain ⟨p, hp, e'⟩ := List.mem_map.1 hm
    have e1 := congrArg Prod.fst e'
    have e2 := congrArg Prod.snd e'
    simp only at e1 e2
    rw [g3] at e1
    have := K.inj e1
    exact mem_look hn (by rw [← this, ← e2]; exact hp)

theorem MapIs.run_lookup (h : MapIs w enc b l) (K : KeyOk enc d) (hn : (l.map (·.1)).Nodup) {t kt et : TypeId} (ht : P.underlying t = some (.map kt et)) (hk : P.underlying kt = some d) {z : Value} (hz : (zeroValue et).run P w = .ok z w) (k : κ) (ok : Bool) :
    (Instr.lookup t (.map (some b)) (enc k) ok).run P w = .ok (if ok then .tuple #[(look k l).getD z, .bool (look k l).isSome] else (look k l).getD z) w := by
  obtain ⟨es, c, h1, _, _, _, h2⟩ := h.find K hn k
  unfold Instr.lookup
  simp only [Sem.run_bind, run_underlying ht, Result.andThen, MapKept.run_getObj_map h1, Sem.run_pure]
  simp only [MapKept.run_checkKey hk (K.key k)]
  rcases h2 with ⟨g, e⟩ | ⟨j, x, g, _, _, e⟩
  · simp only [MapKept.run_findKey hk g, e, Option.getD, Option.isSome, Sem.run_bind, hz, Result.andThen, Sem.run_pure]
  · simp only [MapKept.run_findKey hk g, e, Option.getD, Option.isSome, Sem.run_bind, Result.andThen, Sem.run_pure]

omit [DecidableEq κ] in
theorem run_lookup_nil {t kt et : TypeId} (ht : P.underlying t = some (.map kt et)) (hk : P.underlying kt = some d) {z : Value} (hz : (zeroValue et).run P w = .ok z w) (K : KeyOk enc d) (k : κ) (ok : Bool) :
    (Instr.lookup t (.map none) (enc k) ok).run P w = .ok (if ok then .tuple #[z, .bool false] else z) w := by
  unfold Instr.lookup
  simp only [Sem.run_bind, run_underlying ht, Result.andThen, Sem.run_pure]
  simp only [MapKept.run_checkKey hk (K.key k)]
  rw [MapKept.run_findKey hk (by rfl : Instr.findNow d (enc k) (#[] : Array MapEntry).toList 0 = some none)]
  simp only [Sem.run_bind, hz, Result.andThen, Sem.run_pure]

theorem modify_mid {α : Type} (A B : List α) (x : α) (f : α → α) : (A ++ x :: B).modify A.length f = A ++ f x :: B := by
  induction A with
  | nil => rfl
  | cons a A ih => simpa using ih
theorem getElem_split {α : Type} {l : List α} {j : Nat} {x : α} (h : l[j]? = some x) : ∃ A B, l = A ++ x :: B ∧ A.length = j := by
  obtain ⟨hlt, rfl⟩ := List.getElem?_eq_some_iff.1 h
  exact ⟨l.take j, l.drop (j + 1), by simp, by simp; omega⟩

theorem MapIs.run_update (h : MapIs w enc b l) (K : KeyOk enc d) (hn : (l.map (·.1)).Nodup) {t kt et : TypeId} (ht : P.underlying t = some (.map kt et)) (hk : P.underlying kt = some d) (k : κ) (v : Value) :
    ∃ w', (Instr.mapUpdate t (.map (some b)) (enc k) v).run P w = .ok () w' ∧ MapIs w' enc b (upd k v l) ∧ Upd (· = b) w w' ∧ w'.heap.size = w.heap.size := by
  obtain ⟨es, c, h1, hp, hb, hc, h2⟩ := h.find K hn k
  have hlt : b < w.heap.size := (Array.getElem?_eq_some_iff.1 h1).1
  unfold Instr.mapUpdate
  simp only [Sem.run_bind, run_underlying ht, Result.andThen, MapKept.run_getObj_map h1]
  simp only [MapKept.run_checkKey hk (K.key k)]
  have hs : ∀ o : Obj, ({ w with heap := w.heap.setIfInBounds b o } : World).heap[b]? = some o := fun o => by simp [hlt]
  have hu : ∀ o, Upd (· = b) w { w with heap := w.heap.setIfInBounds b o } := fun o => ⟨rfl, rfl, rfl, by simp, fun i _ hi => by simp [Ne.symm hi]⟩
  rcases h2 with ⟨g, e⟩ | ⟨j, x, g, gj, gk, e⟩
  · simp only [MapKept.run_findKey hk g, MapKept.run_setObj_map _ h1]
    refine ⟨_, rfl, ⟨_, _, hs _, ?_, ?_, ?_⟩, hu _, by simp⟩
    · rw [upd_look_none e]
      simpa using hp.append_right [(enc k, v)]
    · simp only [Array.toList_push, List.map_append, List.map_cons, List.map_nil]
      rw [List.nodup_append]
      refine ⟨hb, by simp, fun a ha a' ha' => ?_⟩
      obtain ⟨y, hy, rfl⟩ := List.mem_map.1 ha
      have := hc y hy
      simp at ha'
      omega
    · intro y hy
      simp only [Array.toList_push, List.mem_append, List.mem_singleton] at hy
      rcases hy with hy | rfl
      · have := hc y hy
        omega
      · simp
  · obtain ⟨A, B, hAB, hA⟩ := getElem_split gj
    have hm : (es.modify j fun e => { e with key := enc k, val := v }).toList = A ++ { x with key := enc k, val := v } :: B := by
      rw [Array.toList_modify, hAB, ← hA]
      exact modify_mid _ _ _ _
    have hg2 : es[j]? = some x := by simpa using gj
    simp only [MapKept.run_findKey hk g, hg2, Option.map_some, Option.getD_some, Instr.keyThatStays, gk, K.bits, if_true, Sem.run_pure, MapKept.run_setObj_map _ h1, Sem.run_bind, Result.andThen]
    refine ⟨_, rfl, ⟨_, _, hs _, ?_, ?_, ?_⟩, hu _, by simp⟩
    · rw [hm]
      have hp2 : (A.map fun e => (e.key, e.val)) ++ (B.map fun e => (e.key, e.val)) |>.Perm ((del k l).map fun p => (enc p.1, p.2)) := by
        have h1 : ((enc k, x.val) :: ((A.map fun e => (e.key, e.val)) ++ (B.map fun e => (e.key, e.val)))).Perm ((enc k, x.val) :: ((del k l).map fun p => (enc p.1, p.2))) := by
          refine (List.perm_middle.symm.trans ?_).trans ((perm_del hn e).map (fun p => (enc p.1, p.2)))
          have := hp
          rw [hAB] at this
          simpa [gk] using this
        exact h1.cons_inv
      simp only [List.map_append, List.map_cons]
      refine List.perm_middle.trans ?_
      refine ((hp2.cons _)).trans ?_
      exact ((upd_perm hn).map (fun p => (enc p.1, p.2))).symm
    · rw [hm]
      rw [hAB] at hb
      simpa using hb
    · rw [hm]
      rw [hAB] at hc
      intro y hy
      simp only [List.mem_append, List.mem_cons] at hy
      rcases hy with hy | rfl | hy
      · exact hc y (by simp [hy])
      · exact hc x (by simp)
      · exact hc y (by simp [hy])

theorem MapIs.run_delete (h : MapIs w enc b l) (K : KeyOk enc d) (hn : (l.map (·.1)).Nodup) {t kt et ty : TypeId} (ht : P.underlying t = some (.map kt et)) (hk : P.underlying kt = some d) (k : κ) :
    ∃ w', (Builtin.delete_ #[t, kt] ty #[.map (some b), enc k]).run P w = .ok (.tuple #[]) w' ∧ MapIs w' enc b (del k l) ∧ Upd (· = b) w w' ∧ w'.heap.size = w.heap.size := by
  obtain ⟨es, c, h1, hp, hb, hc, h2⟩ := h.find K hn k
  have hlt : b < w.heap.size := (Array.getElem?_eq_some_iff.1 h1).1
  unfold Builtin.delete_
  simp only [List.getElem?_toArray, List.getElem?_cons_zero, List.getElem?_cons_succ, Sem.run_bind, run_underlying ht, Result.andThen, MapKept.run_getObj_map h1]
  simp only [MapKept.run_checkKey hk (K.key k)]
  have hs : ∀ o : Obj, ({ w with heap := w.heap.setIfInBounds b o } : World).heap[b]? = some o := fun o => by simp [hlt]
  have hu : ∀ o, Upd (· = b) w { w with heap := w.heap.setIfInBounds b o } := fun o => ⟨rfl, rfl, rfl, by simp, fun i _ hi => by simp [Ne.symm hi]⟩
  rcases h2 with ⟨g, e⟩ | ⟨j, x, g, gj, gk, e⟩
  · simp only [MapKept.run_findKey hk g, Sem.run_bind, Result.andThen, MapKept.run_setObj_map _ h1, Sem.run_pure]
    exact ⟨_, rfl, ⟨_, _, hs _, by rw [del_look_none e]; exact hp, hb, hc⟩, hu _, by simp⟩
  · obtain ⟨A, B, hAB, hA⟩ := getElem_split gj
    have hm : (es.eraseIdxIfInBounds j).toList = A ++ B := by
      have hj : j < es.size := by
        have := (List.getElem?_eq_some_iff.1 gj).1
        simpa using this
      unfold Array.eraseIdxIfInBounds
      rw [dif_pos hj, Array.toList_eraseIdx, hAB, ← hA]
      simp [List.eraseIdx_append_of_length_le]
    simp only [MapKept.run_findKey hk g, Sem.run_bind, Result.andThen, MapKept.run_setObj_map _ h1, Sem.run_pure]
    refine ⟨_, rfl, ⟨_, _, hs _, ?_, ?_, ?_⟩, hu _, by simp⟩
    · rw [hm]
      have h1 : ((enc k, x.val) :: ((A.map fun e => (e.key, e.val)) ++ (B.map fun e => (e.key, e.val)))).Perm ((enc k, x.val) :: ((del k l).map fun p => (enc p.1, p.2))) := by
        refine (List.perm_middle.symm.trans ?_).trans ((perm_del hn e).map (fun p => (enc p.1, p.2)))
        have := hp
        rw [hAB] at this
        simpa [gk] using this
      simpa using h1.cons_inv
    · rw [hm]
      rw [hAB] at hb
      simp only [List.map_append, List.map_cons] at hb ⊢
      exact (List.nodup_cons.1 (List.perm_middle.nodup_iff.1 hb)).2
    · rw [hm]
      rw [hAB] at hc
      intro y hy
      exact hc y (by simp only [List.mem_append, List.mem_cons] at hy ⊢; rcases hy with h | h; exact .inl h; exact .inr (.inr h))

omit [DecidableEq κ] in
theorem MapIs.run_len (h : MapIs w enc b l) {t kt et ty : TypeId} (ht : P.underlying t = some (.map kt et)) :
    (Builtin.len_ #[t] ty #[.map (some b)]).run P w = .ok (.int .i64 l.length) w := by
  obtain ⟨es, c, h1, h2⟩ := h.size
  unfold Builtin.len_
  simp [run_underlying ht, MapKept.run_getObj_map h1, Result.andThen, h2, goInt]
end

/-! ### The operations, for the walk -/
section
variable {κ : Type} [DecidableEq κ] {P : Program} {enc : κ → Value} {d : TypeDesc} {b : Nat} {l : List (κ × Value)} {ops : Array Oper} {rest : List Oper} {o : Oper} {a : Act} {Q : Exit → Act → World → Prop}

theorem wpl_lookup (w : World) (h : MapIs w enc b l) (K : KeyOk enc d) (hn : (l.map (·.1)).Nodup) (hg : o.guard = none) (m x : Operand) (t : TypeId) (hop : o.op = Op.lookup t m x false) {kt et : TypeId} (ht : P.underlying t = some (.map kt et)) (hk : P.underlying kt = some d) (z : Value) (hz : (zeroValue et).run P w = .ok z w)
    (hm : a.eval m = .map (some b)) (k : κ) (hx : a.eval x = enc k) (v : Value) (hv : (look k l).getD z = v) (hK : wpList P ops Q rest (a.put o.dst v) w) : wpList P ops Q (o :: rest) a w := by
  refine wpList_plain hg fun K' hK' => ?_
  have hrun := h.run_lookup K hn ht hk hz k false
  unfold Oper.wp
  simp [execOp, hop, hm, hx, hrun, Result.andThen, hv]
  exact hK' _ _ hK
theorem wpl_lookup_ok (w : World) (h : MapIs w enc b l) (K : KeyOk enc d) (hn : (l.map (·.1)).Nodup) (hg : o.guard = none) (m x : Operand) (t : TypeId) (hop : o.op = Op.lookup t m x true) {kt et : TypeId} (ht : P.underlying t = some (.map kt et)) (hk : P.underlying kt = some d) (z : Value) (hz : (zeroValue et).run P w = .ok z w)
    (hm : a.eval m = .map (some b)) (k : κ) (hx : a.eval x = enc k) (v : Value) (f : Bool) (hv : (look k l).getD z = v) (hf : (look k l).isSome = f) (hK : wpList P ops Q rest (a.put o.dst (.tuple #[v, .bool f])) w) : wpList P ops Q (o :: rest) a w := by
  refine wpList_plain hg fun K' hK' => ?_
  have hrun := h.run_lookup K hn ht hk hz k true
  unfold Oper.wp
  simp [execOp, hop, hm, hx, hrun, Result.andThen, hv, hf]
  exact hK' _ _ hK
theorem wpl_update (w : World) (h : MapIs w enc b l) (K : KeyOk enc d) (hn : (l.map (·.1)).Nodup) (hg : o.guard = none) (m x y : Operand) (t : TypeId) (hop : o.op = Op.mapUpdate t m x y) {kt et : TypeId} (ht : P.underlying t = some (.map kt et)) (hk : P.underlying kt = some d)
    (hm : a.eval m = .map (some b)) (k : κ) (hx : a.eval x = enc k) (v : Value) (hv : a.eval y = v)
    (hK : ∀ w', MapIs w' enc b (upd k v l) → Upd (· = b) w w' → w'.heap.size = w.heap.size → wpList P ops Q rest (a.put o.dst undef) w') : wpList P ops Q (o :: rest) a w := by
  refine wpList_plain hg fun K' hK' => ?_
  obtain ⟨w', hrun, h1, h2, h3⟩ := h.run_update (P := P) K hn ht hk k v
  unfold Oper.wp
  simp [execOp, hop, hm, hx, hv, hrun, Result.andThen]
  exact hK' _ _ (hK w' h1 h2 h3)
theorem wpl_delete (w : World) (h : MapIs w enc b l) (K : KeyOk enc d) (hn : (l.map (·.1)).Nodup) (hg : o.guard = none) (m x : Operand) (t kt : TypeId) (hop : o.op = Op.call { callee := Callee.builtin Builtin.delete, args := #[m, x], argTypes := #[t, kt] }) {et : TypeId} (ht : P.underlying t = some (.map kt et)) (hk : P.underlying kt = some d)
    (hm : a.eval m = .map (some b)) (k : κ) (hx : a.eval x = enc k)
    (hK : ∀ w', MapIs w' enc b (del k l) → Upd (· = b) w w' → w'.heap.size = w.heap.size → wpList P ops Q rest (a.put o.dst (.tuple #[])) w') : wpList P ops Q (o :: rest) a w := by
  refine wpList_plain hg fun K' hK' => ?_
  obtain ⟨w', hrun, h1, h2, h3⟩ := h.run_delete (P := P) K hn ht hk (ty := o.type) k
  unfold Oper.wp
  simp [execOp, hop, resolve, invoke, builtin, hm, hx, hrun, Result.andThen]
  exact hK' _ _ (hK w' h1 h2 h3)
omit [DecidableEq κ] in
theorem wpl_len (w : World) (h : MapIs w enc b l) (hg : o.guard = none) (m : Operand) (t : TypeId) (hop : o.op = Op.call { callee := Callee.builtin Builtin.len, args := #[m], argTypes := #[t] }) {kt et : TypeId} (ht : P.underlying t = some (.map kt et))
    (hm : a.eval m = .map (some b)) (hK : wpList P ops Q rest (a.put o.dst (.int .i64 l.length)) w) : wpList P ops Q (o :: rest) a w := by
  refine wpList_plain hg fun K' hK' => ?_
  unfold Oper.wp
  simp [execOp, hop, resolve, invoke, builtin, hm, h.run_len (P := P) ht (ty := o.type), Result.andThen]
  exact hK' _ _ hK
end

#print axioms MapIs.run_lookup
#print axioms MapIs.run_update
#print axioms wpl_update
end Go.Proofs.YtggfepgablfbhaaGreatDoor
