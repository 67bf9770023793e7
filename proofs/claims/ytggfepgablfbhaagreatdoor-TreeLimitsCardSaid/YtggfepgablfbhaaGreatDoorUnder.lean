/- Walk of names.Under. -/
import Derived.Test.YtggfepgablfbhaaGreatDoorParent
namespace Go.Proofs.YtggfepgablfbhaaGreatDoor
open Go.RowKit

def underS (p d : ByteArray) : Bool := decide ((splitS p).1 = 0) && decide ((splitS d).1 = 0) && (decide ((splitS d).2.length ≤ (splitS p).2.length) && decide ((splitS p).2.take (splitS d).2.length = (splitS d).2))

/-- A list of strings as Split tells it. -/
structure ListAt (w : World) (v : Value) (l : List ByteArray) : Prop where
  ex : ∃ A c, v = .slice A l.length c ∧ l.length ≤ c ∧ StrsAt w A l
theorem SplitsTo.list {w w' : World} {r : Int × List ByteArray} {v : Value} (h : SplitsTo w r v w') (hl : r.2.length ≤ 1000) : ListAt w' v r.2 ∧ Upd (fun _ => False) w w' := by
  rcases h with ⟨h1, rfl, h3⟩ | ⟨h1, h2, rfl, rfl⟩
  · exact ⟨⟨none, 0, by rw [h1]; rfl, by rw [h1]; simp, by rw [h1]; exact ⟨by simp, fun q => absurd rfl q⟩⟩, h3⟩
  · exact ⟨⟨_, _, rfl, Nat.le_refl _, strsAt_alloc w _ (by omega)⟩, (Upd.refl _ _).alloc _⟩
theorem ListAt.upd {w w' : World} {v : Value} {l : List ByteArray} (h : ListAt w v l) (hu : Upd (fun _ => False) w w') : ListAt w' v l := by
  obtain ⟨A, c, h1, h2, h3⟩ := h.ex
  exact ⟨A, c, h1, h2, h3.upd hu⟩
/-- Split, as callers want it. -/
theorem split_calls' (w : World) (p : ByteArray) (hp : p.size ≤ 9223372036854775807) (hg : Glob w) :
    Calls Tryz.prog 47 #[.string p] w fun e w' => ∃ A c, e = .returned (.tuple #[.slice A (splitS p).2.length c, errV (splitS p).1]) ∧ (splitS p).2.length ≤ c ∧ StrsAt w' A (splitS p).2 ∧ Upd (fun _ => False) w w' :=
  (split_calls w p hp hg).mono fun e w' ⟨v, h, hs⟩ => by
    obtain ⟨⟨A, c, h1, h2, h3⟩, hu⟩ := hs.list (Nat.le_trans (splitS_len p).1 (by decide))
    exact ⟨A, c, by rw [h, h1], h2, h3, hu⟩

theorem equal_calls (w : World) (A B : Option Addr) (n c m d : Nat) (xs ys : List ByteArray) (hx : StrsAt w A xs) (hy : StrsAt w B ys) (hn : n = xs.length) (hm : m = ys.length) (hnm : n = m) :
    Calls Tryz.prog 101 #[.slice A n c, .slice B m d] w fun e w' => e = .returned (.bool (decide (xs = ys))) ∧ Upd (fun _ => False) w w' := by
  subst hn
  subst hm
  by_cases h0 : xs.length = 0
  · have e1 : xs = [] := List.eq_nil_of_length_eq_zero h0
    have e2 : ys = [] := List.eq_nil_of_length_eq_zero (by omega)
    subst e1
    subst e2
    refine (Tryz.slices_Equal_string_empty A B c 0 d w (by decide)).mono ?_
    rintro e w' ⟨rfl, rfl⟩
    exact ⟨rfl, Upd.refl _ _⟩
  · obtain ⟨b1, o1, rfl, _, h1⟩ := hx.2 (by rintro rfl; simp at h0)
    obtain ⟨b2, o2, rfl, _, h2⟩ := hy.2 (by rintro rfl; simp at hnm; exact h0 (by simp [hnm]))
    refine (Tryz.slices_Equal_string b1 o1 xs.length c b2 o2 ys.length d xs ys w (Nat.le_refl _) (Nat.le_refl _) hx.1 hy.1 h1 h2).mono ?_
    rintro e w' ⟨rfl, q, rfl⟩
    rw [List.take_length, List.take_length]
    exact ⟨rfl, (Upd.refl _ _).drewN q⟩

set_option maxRecDepth 100000 in
set_option maxHeartbeats 2000000 in
theorem under_calls (w : World) (p q : ByteArray) (hp : p.size ≤ 9223372036854775807) (hq : q.size ≤ 9223372036854775807) (hg : Glob w) :
    Calls Tryz.prog 69 #[.string p, .string q] w fun e w' => e = .returned (.bool (underS p q)) ∧ Upd (fun _ => False) w w' := by
  have HG := Lib.hid hg
  have hl1 := (splitS_len p).1
  have hl2 := (splitS_len q).1
  clear hg
  unfold underS
  have HPA : Hid ((splitS p).1 = 0 → errV (splitS p).1 = .nilIface) := fun h => by rw [h]; rfl
  have HPB : Hid ((splitS p).1 ≠ 0 → errV (splitS p).1 = .iface 77 (.int .i64 (splitS p).1)) := errV_pos
  have HQA : Hid ((splitS q).1 = 0 → errV (splitS q).1 = .nilIface) := fun h => by rw [h]; rfl
  have HQB : Hid ((splitS q).1 ≠ 0 → errV (splitS q).1 = .iface 77 (.int .i64 (splitS q).1)) := errV_pos
  have C1 := fun W (hG : Glob W) => split_calls' W p hp hG
  have C2 := fun W (hG : Glob W) => split_calls' W q hq hG
  generalize splitS p = a at *
  generalize splitS q = b at *
  obtain ⟨ca, la⟩ := a
  obtain ⟨cb, lb⟩ := b
  simp only at hl1 hl2 C1 C2 ⊢
  have HC1 := Lib.hid C1
  have HC2 := Lib.hid C2
  clear C1 C2
  by_cases h1 : ca = 0 <;> by_cases h2 : cb = 0 <;> by_cases h3 : lb.length ≤ la.length
  all_goals
    have d1 : decide (ca = 0) = decide (ca = 0) := rfl
    have d3 : decide (lb.length ≤ la.length) = decide (lb.length ≤ la.length) := rfl
    have tok : True := trivial
    first | (have E1 : Hid (errV ca = .nilIface) := HPA.out h1; have D1 : Hid (decide (ca = 0) = true) := decide_eq_true h1) | (have E1 : Hid (errV ca = .iface 77 (.int .i64 ca)) := HPB.out h1; have D1 : Hid (decide (ca = 0) = false) := decide_eq_false h1)
    first | (have E2 : Hid (errV cb = .nilIface) := HQA.out h2; have D2 : Hid (decide (cb = 0) = true) := decide_eq_true h2) | (have E2 : Hid (errV cb = .iface 77 (.int .i64 cb)) := HQB.out h2; have D2 : Hid (decide (cb = 0) = false) := decide_eq_false h2)
    first | (have D3 : Hid (decide (lb.length ≤ la.length) = true) := decide_eq_true h3; have h3' : decide (lb.length ≤ la.length) = true := decide_eq_true h3) | (have D3 : Hid (decide (lb.length ≤ la.length) = false) := decide_eq_false h3; have h3' : decide (lb.length ≤ la.length) = false := decide_eq_false h3)
    rw [D1.out, D2.out, D3.out]
    clear h1 h2 d1 d3
    go_enter Tryz.func69, Tryz.ntmps69
    go_wp2_with (first
      | (go_at_call 47; have _t := tok; refine (HC1.out _ HG.out).mono ?_; rintro e w1 ⟨A1, c1, rfl, hc1, hs1, hu1⟩; have HS1 := Lib.hid hs1; have HU1 := Lib.hid hu1; clear hs1 hu1 tok; simp only []; rw [E1.out])
      | (go_at_call 47; refine (HC2.out _ (HG.out.upd HU1.out (fun _ _ => id))).mono ?_; rintro e w2 ⟨A2, c2, rfl, hc2, hs2, hu2⟩; have HS2 := Lib.hid hs2; have HU2 := Lib.hid hu2; clear hs2 hu2; simp only []; rw [E2.out])
      | (go_at_call 101; refine (equal_calls _ _ _ _ _ _ _ (la.take lb.length) lb ((HS1.out.upd HU2.out).take _) HS2.out (by rw [List.length_take]; omega) rfl rfl).mono ?_; rintro e w3 ⟨rfl, hu3⟩; have HU3 := Lib.hid hu3; clear hu3))
    go_ret
    first | exact ⟨rfl, HU1.out.trans HU2.out⟩ | exact ⟨rfl, HU1.out.trans (HU2.out.trans HU3.out)⟩
end Go.Proofs.YtggfepgablfbhaaGreatDoor
