/- A drawn region whose first operations only read, then a forced tail; number 0 looks at no world and may come up late. -/
import Derived.OrdersHeld
import Derived.StillTail
import Derived.Test.YtggfepgablfbhaaGreatDoorFile3
namespace Go.Proofs.YtggfepgablfbhaaGreatDoor
open Go

section
variable {P : Program} {ops : Array Oper} {md : Region.Mode} {Q : Exit → Act → World → Prop}

/-- Behind every operation below n the world is W. -/
def wpAnyT (P : Program) (md : Region.Mode) (ops : Array Oper) (Q : Exit → Act → World → Prop) (W : World) (n : Nat) : Nat → Array Bool → Act → World → Prop
  | 0, listed, a, w => Region.ready md ops listed = [] ∧ Q .normal a w
  | f + 1, listed, a, w =>
    (Region.ready md ops listed = [] → Q .normal a w) ∧
    ∀ i ∈ Region.ready md ops listed, wpOp P ops Q i (fun a' w' => (i < n → w' = W) ∧ wpAnyT P md ops Q W n f (listed.setIfInBounds i true) a' w') a w

theorem wpAny_of_T {W : World} {n : Nat} : ∀ (f : Nat) (listed : Array Bool) (a : Act) (w : World), wpAnyT P md ops Q W n f listed a w → wpAny P md ops Q f listed a w
  | 0, _, _, _, h => h
  | f + 1, _, _, _, h => ⟨h.1, fun i hi => wpOp_mono (fun a' w' h' => wpAny_of_T f _ a' w' h'.2) (h.2 i hi)⟩

/-- From where nothing below n may come up. -/
theorem wpAnyT_tail {W : World} {n : Nat} : ∀ (f : Nat) (listed : Array Bool) (a : Act) (w : World), (∀ i, i < n → listed.getD i true = true) → wpAny P md ops Q f listed a w → wpAnyT P md ops Q W n f listed a w
  | 0, _, _, _, _, h => h
  | f + 1, listed, _, _, hn, h => ⟨h.1, fun i hi => wpOp_mono (fun a' w' h' => ⟨fun q => (by
      have h1 := (mem_ready.1 hi).1
      rw [hn i q] at h1
      cases h1), wpAnyT_tail f _ a' w' (fun j hj => by
      by_cases hij : i = j
      · have h1 := (mem_ready.1 hi).1
        rw [hn i (by omega)] at h1
        cases h1
      · rw [getD_set_ne true hij]; exact hn j hj) h'⟩) (h.2 i hi)⟩

/-- While number i is not listed nobody from n on may come up. -/
def Blocked (md : Region.Mode) (ops : Array Oper) (n i : Nat) : Prop := ∀ listed, HeadInv md ops n listed → listed.getD i true = false → ∀ j ∈ Region.ready md ops listed, j < n

theorem wpAnyT_first {W : World} {n i : Nat} (hblk : Blocked md ops n i) {oi : Oper} {v : Value} (hi : ops[i]? = some oi) (hsel : ∀ (j : Nat) (o : Oper) cs b, ops[j]? = some o → o.op ≠ .select cs b)
    (hQ : ∀ c a w, Q (.panic c) (a.put oi.dst v) w → Q (.panic c) a w) :
    ∀ (f : Nat) (listed : Array Bool) (a : Act) (w : World), HeadInv md ops n listed →
      (∀ j oj, ops[j]? = some oj → j ≠ i → listed.getD j true = false → (∀ e ∈ oj.after, Region.binds md e = true → e.on ≠ i) → oi.apart ops oj = true) →
      i ∈ Region.ready md ops listed → YieldsIf P ops (· = W) oi v a → w = W →
      wpAnyT P md ops Q W n f (listed.setIfInBounds i true) (a.put oi.dst v) w → wpAnyT P md ops Q W n (f + 1) listed a w := by
  intro f
  induction f with
  | zero =>
    intro listed a w _ _ hr hy hS H
    refine ⟨fun h => (by rw [h] at hr; cases hr), fun j hj => ?_⟩
    by_cases hji : j = i
    · subst hji; exact hy.wpOp hi hS ⟨fun _ => hS, H⟩
    · have := ready_mono hj hji
      rw [H.1] at this
      cases this
  | succ f ih =>
    intro listed a w inv hfree hr hy hS H
    have hun := (mem_ready.1 hr).1
    refine ⟨fun h => (by rw [h] at hr; cases hr), fun j hj => ?_⟩
    by_cases hji : j = i
    · subst hji; exact hy.wpOp hi hS ⟨fun _ => hS, H⟩
    · have hjn := hblk listed inv hun j hj
      have h1 := H.2 j (ready_mono hj hji)
      obtain ⟨hjun, oj, hoj, hall⟩ := mem_ready.1 hj
      have hnot : ∀ e ∈ oj.after, Region.binds md e = true → e.on ≠ i := fun e he hb heq => by
        have h2 := hall e he hb
        rw [heq, getD_both hun] at h2
        cases h2
      have h2 := wpOp_putIf hoj (hfree j oj hoj hji hjun hnot) (fun cs b => hsel i oi cs b hi) (fun cs b => hsel j oj cs b hoj) hQ hy h1
      have hfree' : ∀ k ok, ops[k]? = some ok → k ≠ i → (listed.setIfInBounds j true).getD k true = false →
          (∀ e ∈ ok.after, Region.binds md e = true → e.on ≠ i) → oi.apart ops ok = true := fun k ok hk hki hunk hno => by
        refine hfree k ok hk hki ?_ hno
        by_cases hjk : j = k
        · subst hjk; exact hjun
        · rw [getD_set_ne true hjk] at hunk; exact hunk
      have hcomm : (listed.setIfInBounds j true).setIfInBounds i true = (listed.setIfInBounds i true).setIfInBounds j true := Array.setIfInBounds_comm _ _ hji
      exact wpOp_mono (fun a' w' h3 => ⟨h3.2.1, ih (listed.setIfInBounds j true) a' w' (inv.set hj hjn) hfree' (ready_mono hr (Ne.symm hji)) h3.1 (h3.2.1 hjn) (by rw [hcomm]; exact h3.2.2)⟩) h2

/-- Every number from 1 to n - 1 is waited for by a later one up to n. -/
def sink1B (md : Region.Mode) (ops : Array Oper) (n : Nat) : Bool :=
  (List.range n).all fun i => i == 0 || (List.range (n + 1)).any fun j => decide (i < j) && Region.waitsFor md ops j i

theorem blocked_of {n : Nat} (hs : sink1B md ops n = true) (hc : Region.chainB md ops n = true) (hn : n < ops.size) : ∀ (d i : Nat), n - i = d → 0 < i → i < n → Blocked md ops n i := by
  intro d
  induction d using Nat.strongRecOn with
  | _ d ih =>
    intro i hd h0 hi listed inv hun t hr
    rcases Nat.lt_or_ge t n with q | ht
    · exact q
    exfalso
    obtain ⟨_, ot, hot, hall⟩ := mem_ready.1 hr
    have htlt : t < ops.size := (Array.getElem?_eq_some_iff.1 hot).1
    rcases Nat.lt_or_ge n t with htn | htn
    · have h1 := List.all_eq_true.1 hc t (List.mem_range.2 htlt)
      simp only [Bool.or_eq_true, decide_eq_true_eq] at h1
      obtain ⟨o', ho', e, he, hb, hon⟩ := Region.waitsFor_spec (h1.resolve_left (by omega))
      obtain rfl : o' = ot := Option.some.inj (ho'.symm.trans hot)
      have h2 := hall e he hb
      rw [hon, getD_both (inv.tail (t - 1) (by omega) (by omega))] at h2
      cases h2
    · obtain rfl : t = n := by omega
      have h1 := List.all_eq_true.1 hs i (List.mem_range.2 hi)
      have hi0 : (i == 0) = false := by simp; omega
      rw [hi0, Bool.false_or] at h1
      obtain ⟨j, hj, hj2⟩ := List.any_eq_true.1 h1
      simp only [Bool.and_eq_true, decide_eq_true_eq] at hj2
      obtain ⟨oj, hoj, e, he, hb, hon⟩ := Region.waitsFor_spec hj2.2
      have hjle : j ≤ t := by have := List.mem_range.1 hj; omega
      rcases Nat.lt_or_ge j t with hjt | hjt
      · cases hl : listed.getD j false with
        | true =>
          have h2 := inv.closed j oj hoj hl e he hb
          rw [hon, getD_both hun] at h2
          cases h2
        | false =>
          have := ih (t - j) (by omega) j rfl (by omega) hjt listed inv (getD_in (by rw [inv.size]; omega) hl) t hr
          omega
      · obtain rfl : j = t := by omega
        obtain rfl : oj = ot := Option.some.inj (hoj.symm.trans hot)
        have h2 := hall e he hb
        rw [hon, getD_both hun] at h2
        cases h2

/-- The reads, one behind the other, each by its value. -/
def wpVal (P : Program) (ops : Array Oper) (W : World) (K : Act → Prop) : List Oper → Act → Prop
  | [], a => K a
  | o :: l, a => ∃ v, YieldsIf P ops (· = W) o v a ∧ wpVal P ops W K l (a.put o.dst v)
theorem wpVal_nil {W : World} {K : Act → Prop} {a : Act} (h : K a) : wpVal P ops W K [] a := h
theorem wpVal_cons {W : World} {K : Act → Prop} {a : Act} {o : Oper} {l : List Oper} {v : Value} (h1 : Region.wanted o (yielded ops a.tmps) = true) (h2 : (execOp a.eval o).run P W = .ok (.value v) W) (h : wpVal P ops W K l (a.put o.dst v)) : wpVal P ops W K (o :: l) a :=
  ⟨v, .inl ⟨h1, fun w hw => by subst hw; exact h2⟩, h⟩

theorem wpAnyT_lex {W : World} {n g : Nat} {K : Act → Prop} (hsel : Region.noSelect ops = true) (hs : sink1B md ops n = true) (hc : Region.chainB md ops n = true) (hn : n < ops.size)
    (hQ : ∀ d v c a w, Q (.panic c) (a.put d v) w → Q (.panic c) a w) (hK : ∀ listed a, Region.seqB md ops g n listed = true → K a → wpAny P md ops Q g listed a W) :
    ∀ (l : List Oper) (k : Nat) (listed : Array Bool) (a : Act), 0 < k → (∀ j, j < l.length → l[j]? = ops[k + j]?) → k + l.length = n → HeadInv md ops n listed → (∀ i, i < k → listed.getD i true = true) →
    Region.lexHead md ops g l.length k listed = true → wpVal P ops W K l a → wpAnyT P md ops Q W n (l.length + g) listed a W
  | [], k, listed, a, _, _, hk, _, hall, hB, h => by
    obtain rfl : k = n := by simpa using hk
    rw [List.length_nil, Nat.zero_add]
    exact wpAnyT_tail g listed a W hall (hK listed a (by simpa [Region.lexHead] using hB) h)
  | o :: l, k, listed, a, h0k, hl, hk, inv, hall, hB, h => by
    have h0 : ops[k]? = some o := by simpa using (hl 0 (by simp)).symm
    simp only [List.length_cons, Region.lexHead, Bool.and_eq_true] at hB
    obtain ⟨⟨hr, hf⟩, hB'⟩ := hB
    have hkn : k < n := by simp only [List.length_cons] at hk; omega
    have hr' : k ∈ Region.ready md ops listed := by simpa using hr
    obtain ⟨v, hy, hrest⟩ := h
    rw [show (o :: l).length + g = (l.length + g) + 1 by simp only [List.length_cons]; omega]
    refine wpAnyT_first (blocked_of hs hc hn (n - k) k rfl h0k hkn) h0 (Region.noSelect_spec hsel) (hQ o.dst v) _ listed a W inv (Region.free_spec h0 hf) hr' hy rfl ?_
    exact wpAnyT_lex hsel hs hc hn hQ hK l (k + 1) _ _ (by omega) (fun j hj => by have := hl (j + 1) (by simp; omega); simpa [Nat.add_assoc, Nat.add_comm 1 j] using this) (by simp only [List.length_cons] at hk; omega) (inv.set hr' hkn)
      (fun i hi => by
        by_cases hik : k = i
        · subst hik
          have : k < listed.size := by rw [inv.size]; omega
          simp [this]
        · rw [getD_set_ne true hik]; exact hall i (by omega)) hB' hrest

theorem wpAnyH_true : ∀ (f : Nat) (listed : Array Bool) (a : Act) (w : World), wpAny P md ops Q f listed a w → wpAnyH P md ops Q (fun _ => True) f listed a w
  | 0, _, _, _, h => h
  | f + 1, _, _, _, h => ⟨h.1, fun i hi => wpOp_mono (fun a' w' h' => ⟨trivial, wpAnyH_true f _ a' w' h'⟩) (h.2 i hi)⟩

def freeB (md : Region.Mode) (ops : Array Oper) (n : Nat) : Bool :=
  Region.noSelect ops && decide (n < ops.size) && decide (0 < n) && sink1B md ops n && Region.chainB md ops n && (Region.ready md ops (Array.replicate ops.size false)).contains 0 && Region.free md ops (Array.replicate ops.size false) 0 &&
    Region.lexHead md ops (ops.size - n) (n - 1) 1 ((Array.replicate ops.size false).setIfInBounds 0 true)

theorem wp_region_free {id : Nat} {a : Act} {w : World} {o0 : Oper} {l : List Oper} (n : Nat) (hm : P.follows .mixedOrders = true) (hB : freeB .any (o0 :: l).toArray n = true) (hQ0 : ∀ tm c a w, Q (.panic c) { a with tmps := tm } w → Q (.panic c) a w)
    {v0 : Value} (hw0 : Region.wanted o0 (yielded (o0 :: l).toArray a.tmps) = true) (hy0 : ∀ W, (execOp a.eval o0).run P W = .ok (.value v0) W)
    (h : wpVal P (o0 :: l).toArray w.drew (fun a' => wpList P (o0 :: l).toArray Q ((o0 :: l).drop n) a' w.drew) (l.take (n - 1)) (a.put o0.dst v0)) : (Code.region id (o0 :: l).toArray true).wp P Q a w := by
  simp only [freeB, Bool.and_eq_true, decide_eq_true_eq] at hB
  obtain ⟨⟨⟨⟨⟨⟨⟨hsel, hn⟩, h0n⟩, hs⟩, hc⟩, hr⟩, hf⟩, hlex⟩ := hB
  have hQ : ∀ d v c a w, Q (.panic c) (a.put d v) w → Q (.panic c) a w := fun d v c a w q => by
    cases d with
    | none => exact q
    | some i => exact hQ0 _ c a w q
  have hn' : n < l.length + 1 := by simpa using hn
  have hsz : (o0 :: l).toArray.size = ((n - 1) + ((o0 :: l).toArray.size - n)) + 1 := by simp; omega
  have htl : (l.take (n - 1)).length = n - 1 := by rw [List.length_take]; omega
  have hdl : ((o0 :: l).drop n).length = (o0 :: l).toArray.size - n := by simp
  refine wp_region_any hm (wpAny_of_held (S := fun _ => True) _ _ _ _ ?_)
  rw [hsz]
  have h00 : (o0 :: l).toArray[0]? = some o0 := by simp
  have inv0 : HeadInv .any (o0 :: l).toArray n (Array.replicate (o0 :: l).toArray.size false) :=
    ⟨by simp, fun j oj _ hl => (by rw [getD_replicate_false] at hl; cases hl), fun t _ ht => getD_in (by simpa using ht) (getD_replicate_false _ _)⟩
  rw [← hsz]
  conv => arg 6; rw [hsz]
  have hr' : (0 : Nat) ∈ Region.ready .any (o0 :: l).toArray (Array.replicate (o0 :: l).toArray.size false) := by simpa using hr
  refine wpAnyH_take (i := 0) h00 hsel hf hr (hQ _ _) (.inl ⟨hw0, fun W _ => hy0 W⟩) trivial (wpAnyH_true _ _ _ _ (wpAny_of_T (W := w.drew) (n := n) _ _ _ _ ?_))
  have H := wpAnyT_lex (g := (o0 :: l).toArray.size - n) hsel hs hc hn hQ (fun listed a' hB hK => by
    have := wpAny_of_seq ((o0 :: l).drop n) n listed a' w.drew (fun j => by simp) (by rw [hdl]; exact hB) hK
    rwa [hdl] at this) (l.take (n - 1)) 1 _ _ (by omega) (fun j hj => by
      have hj' : j < n - 1 := by rw [htl] at hj; exact hj
      simp [hj', Nat.add_comm 1 j]) (by rw [htl]; omega) (inv0.set hr' h0n) (fun i hi => by
      obtain rfl : i = 0 := by omega
      simp) (by rw [htl]; exact hlex) h
  rw [htl] at H
  exact H
end
end Go.Proofs.YtggfepgablfbhaaGreatDoor
