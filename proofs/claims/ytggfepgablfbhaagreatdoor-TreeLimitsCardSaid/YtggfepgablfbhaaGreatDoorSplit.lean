/- Walks of names.Split and what it calls. -/
import Derived.Test.YtggfepgablfbhaaGreatDoorNames1
import Derived.Test.YtggfepgablfbhaaGreatDoorShelf
namespace Go.Proofs.YtggfepgablfbhaaGreatDoor
open Go.RowKit

/-- What the library's own variables hold. -/
structure Glob (w : World) : Prop where
  maxLen : ∃ m, w.cell? ⟨1, 0, none⟩ = some (.int .i64 m)
  err : w.cell? ⟨0, 0, none⟩ = some (.iface 152 (.agg #[.pointer (some ⟨nG, 31, none⟩)]))
  size : nG ≤ w.heap.size

set_option maxRecDepth 100000 in
set_option maxHeartbeats 1000000 in
theorem indexFunc_calls (w : World) (F : Nat) (p : ByteArray → Bool) (A : Option Addr) (c : Nat) (l : List ByteArray) (hl : StrsAt w A l)
    (hcf : ∀ (W : World) (v : ByteArray), (callFunc F #[Value.string v]).run Tryz.prog W = .ok (.enter F #[Value.string v]) W) (hF : ∀ W s, s ∈ l → Calls Tryz.prog F #[.string s] W fun e w' => e = .returned (.bool (p s)) ∧ W = w') :
    Calls Tryz.prog 104 #[.slice A l.length c, .func (.func F) #[] #[]] w fun e w' => (∃ r : Int, e = .returned (.int .i64 r) ∧ decide (r ≥ 0) = l.any p) ∧ w = w' := by
  have hlen : l.length ≤ 9223372036854775807 := hl.1
  have HL := Lib.hid hl
  have HF := Lib.hid hF
  clear hl hF
  go_enter Tryz.func104, Tryz.ntmps104
  go_wp2
  go_loop [8] (fun i => ∃ (k : Nat), k ≤ l.length ∧ i = .int .i64 k ∧ Hid ((l.take k).any p = false)) (fun i => l.length - (intOf i).toNat)
  case atStart => exact ⟨0, by omega, rfl, rfl⟩
  case round =>
    obtain ⟨k, hk, rfl, HK⟩ := hrel
    by_cases hlt : k < l.length
    · obtain ⟨b, o, rfl, hb, hcs⟩ := HL.out.2 (by rintro rfl; simp at hlt)
      have hcell := hcs k hlt
      clear hcs
      have hmem : l.getD k ⟨#[]⟩ ∈ l := by
        rw [List.getD_eq_getElem?_getD, List.getElem?_eq_getElem hlt]; simp
      have htk : l.take (k + 1) = l.take k ++ [l.getD k ⟨#[]⟩] := by
        rw [List.take_succ_eq_append_getElem hlt, List.getD_eq_getElem?_getD, List.getElem?_eq_getElem hlt]; rfl
      generalize l.getD k ⟨#[]⟩ = s at hcell hmem htk
      cases hp : p s with
      | true =>
        have HP : Hid (l.any p = true) := List.any_eq_true.2 ⟨s, hmem, hp⟩
        have HS : Hid (p s = true) := hp
        have HM := Lib.hid hmem
        clear hp hmem htk
        go_wp2_with ((with_reducible refine (HF.out _ s HM.out).mono ?_); rintro e w' ⟨rfl, rfl⟩; rw [HS.out])
        go_ret
        exact ⟨⟨k, rfl, by rw [HP.out]; simp⟩, rfl⟩
      | false =>
        have HP : Hid ((l.take (k + 1)).any p = false) := by
          show List.any _ _ = false
          rw [htk, List.any_append, HK.out]; simp [hp]
        have HS : Hid (p s = false) := hp
        have HM := Lib.hid hmem
        clear hp hmem htk
        go_wp2_with ((with_reducible refine (HF.out _ s HM.out).mono ?_); rintro e w' ⟨rfl, rfl⟩; rw [HS.out])
        go_round
        case rel => exact ⟨k + 1, by omega, by go_num, HP⟩
        case measure => simp [intOf]; omega
    · have hke : k = l.length := by omega
      subst hke
      go_wp2
      go_ret
      refine ⟨⟨-1, rfl, ?_⟩, rfl⟩
      have := HK.out
      rw [List.take_length] at this
      rw [this]
      decide

theorem containsFunc_calls (w : World) (F : Nat) (p : ByteArray → Bool) (A : Option Addr) (c : Nat) (l : List ByteArray) (hl : StrsAt w A l)
    (hcf : ∀ (W : World) (v : ByteArray), (callFunc F #[Value.string v]).run Tryz.prog W = .ok (.enter F #[Value.string v]) W) (hF : ∀ W s, s ∈ l → Calls Tryz.prog F #[.string s] W fun e w' => e = .returned (.bool (p s)) ∧ W = w') :
    Calls Tryz.prog 74 #[.slice A l.length c, .func (.func F) #[] #[]] w fun e w' => e = .returned (.bool (l.any p)) ∧ w = w' := by
  have HL := Lib.hid hl
  have HF := Lib.hid hF
  have HCF := Lib.hid hcf
  clear hl hF hcf
  go_enter Tryz.func74, Tryz.ntmps74
  go_wp2_with (go_at_call 104; refine (indexFunc_calls _ _ _ _ _ _ HL.out HCF.out HF.out).mono ?_; rintro e w' ⟨⟨r, rfl, hr⟩, rfl⟩; have HR := Lib.hid hr; clear hr)
  go_ret
  exact ⟨by rw [← HR.out]; rfl, rfl⟩

theorem split1_calls (w : World) (s : ByteArray) (hs : s.size ≤ 9223372036854775807) :
    Calls Tryz.prog 73 #[.string s] w fun e w' => e = .returned (.bool (decide (s.size > 12))) ∧ w = w' := by
  cases h : decide (s.size > 12)
  all_goals
    have h1 : decide ((s.size : Int) > 12) = decide (s.size > 12) := by rw [decide_eq_decide]; omega
    have H := Lib.hid h
    rw [h] at h1
    clear h
    go_enter Tryz.func73, Tryz.ntmps73
    go_wp2
    go_ret
    exact ⟨by first | rfl | (rw [← h1]; rfl), rfl⟩

theorem split2_calls (w : World) (s : ByteArray) (hs : s.size ≤ 9223372036854775807) :
    Calls Tryz.prog 75 #[.string s] w fun e w' => e = .returned (.bool (!nameB s)) ∧ w = w' := by
  go_enter Tryz.func75, Tryz.ntmps75
  go_wp2_with (go_at_call 76; refine (name_calls _ _ hs).mono ?_; rintro e w' ⟨rfl, rfl⟩)
  go_ret
  exact ⟨rfl, rfl⟩

def slash : ByteArray := ⟨#[47]⟩
def pieces (s : ByteArray) : List ByteArray := Lib.splitB slash 0 (Lib.countB s slash) s
/-- The names of a path, or why it is none. -/
def splitS (p : ByteArray) : Int × List ByteArray :=
  if p.size > 200 then (2, []) else if Lib.hasPrefix p.data.toList [47] = false then (2, []) else if p.toList = [47] then (0, [])
  else if (pieces (p.extract 1 p.size)).any (fun s => !nameB s) then (2, [])
  else if (pieces (p.extract 1 p.size)).any (fun s => decide (s.size > 12)) then (3, [])
  else if (pieces (p.extract 1 p.size)).length > 6 then (4, []) else (0, pieces (p.extract 1 p.size))

theorem cf1 (W : World) (v : ByteArray) : (callFunc 73 #[Value.string v]).run Tryz.prog W = .ok (.enter 73 #[Value.string v]) W := by kernel_rfl
theorem cf2 (W : World) (v : ByteArray) : (callFunc 75 #[Value.string v]).run Tryz.prog W = .ok (.enter 75 #[Value.string v]) W := by kernel_rfl

theorem pieces_len (s : ByteArray) : (pieces s).length = Lib.countB s slash + 1 := Lib.splitB_all slash (by decide) 0 _ s rfl
theorem splitB_sizes (sep : ByteArray) (save : Nat) : ∀ (k : Nat) (s : ByteArray), ∀ x ∈ Lib.splitB sep save k s, x.size ≤ s.size
  | 0, s, x, hx => by simp [Lib.splitB] at hx; subst hx; omega
  | k + 1, s, x, hx => by
    unfold Lib.splitB at hx
    split at hx
    · simp at hx; subst hx; omega
    · rcases List.mem_cons.1 hx with rfl | hx
      · rw [ByteArray.size_extract]; omega
      · have := splitB_sizes sep save k _ x hx
        rw [ByteArray.size_extract] at this
        omega
theorem pieces_sizes (s : ByteArray) : ∀ x ∈ pieces s, x.size ≤ s.size := splitB_sizes _ _ _ s
theorem countB_slash_le (s : ByteArray) : Lib.countB s slash ≤ s.size := Lib.countB_le slash (by decide) s.size s (Nat.le_refl _)

theorem strsAt_alloc (w : World) (l : List ByteArray) (hl : l.length ≤ 9223372036854775807) : StrsAt (w.alloc (.cells (l.map Value.string).toArray 9)) (some ⟨w.heap.size, 0, none⟩) l := by
  refine ⟨hl, fun _ => ⟨w.heap.size, 0, rfl, by simp, fun i hi => ?_⟩⟩
  rw [World.cell?_alloc_new]
  simp [hi, List.getD_eq_getElem?_getD]

/-- What a list of strings is as a value: nothing, or a new block. -/
def SplitsTo (w : World) (r : Int × List ByteArray) (v : Value) (w' : World) : Prop :=
  (r.2 = [] ∧ v = .slice none 0 0 ∧ Upd (fun _ => False) w w') ∨ (r.2 ≠ [] ∧ r.1 = 0 ∧ v = .slice (some ⟨w.heap.size, 0, none⟩) r.2.length r.2.length ∧ w' = w.alloc (.cells (r.2.map Value.string).toArray 9))

set_option maxRecDepth 100000 in
set_option maxHeartbeats 2000000 in
theorem split_calls (w : World) (p : ByteArray) (hp : p.size ≤ 9223372036854775807) (hg : Glob w) :
    Calls Tryz.prog 47 #[.string p] w fun e w' => ∃ v, e = .returned (.tuple #[v, errV (splitS p).1]) ∧ SplitsTo w (splitS p) v w' := by
  obtain ⟨m, hm⟩ := hg.maxLen
  have HM := Lib.hid hm
  clear hm hg
  by_cases h1 : p.size > 200
  · have hS : splitS p = (2, []) := by unfold splitS; rw [if_pos h1]
    have HS := Lib.hid hS
    have e1 : decide ((p.size : Int) > 200) = true := by simp; omega
    clear hS h1
    go_enter Tryz.func47, Tryz.ntmps47
    go_wp2_with fail
    go_ret2
    rw [HS.out]
    exact ⟨_, rfl, .inl ⟨rfl, rfl, Upd.refl _ _⟩⟩
  · have e1 : decide ((p.size : Int) > 200) = false := by simp; omega
    cases h2 : Lib.hasPrefix p.data.toList [47] with
    | false =>
      have hS : splitS p = (2, []) := by unfold splitS; rw [if_neg h1, if_pos h2]
      have HS := Lib.hid hS
      have H2 := Lib.hid h2
      clear hS h1 h2
      go_enter Tryz.func47, Tryz.ntmps47
      go_wp2_with (go_at_call 71; refine (Tryz.strings_HasPrefix _ _ _).mono ?_; rintro e w' ⟨rfl, rfl⟩; rw [show Lib.hasPrefix p.data.toList (ByteArray.mk #[47]).data.toList = false from H2.out])
      go_ret2
      rw [HS.out]
      exact ⟨_, rfl, .inl ⟨rfl, rfl, Upd.refl _ _⟩⟩
    | true =>
      have H2 := Lib.hid h2
      by_cases h3 : p.toList = [47]
      · have hS : splitS p = (0, []) := by unfold splitS; rw [if_neg h1, if_neg (by simp [h2]), if_pos h3]
        have HS := Lib.hid hS
        have e3 : (p.toList == [47]) = true := by simp [h3]
        clear hS h1 h2 h3
        go_enter Tryz.func47, Tryz.ntmps47
        go_wp2_with (go_at_call 71; refine (Tryz.strings_HasPrefix _ _ _).mono ?_; rintro e w' ⟨rfl, rfl⟩; rw [show Lib.hasPrefix p.data.toList (ByteArray.mk #[47]).data.toList = true from H2.out])
        go_ret2
        rw [HS.out]
        exact ⟨_, rfl, .inl ⟨rfl, rfl, Upd.refl _ _⟩⟩
      · have e3 : (p.toList == [47]) = false := by simp [h3]
        have hp1 : 1 ≤ p.size := by
          rcases Nat.eq_zero_or_pos p.size with h | h
          · have : p.data.toList = [] := List.eq_nil_of_length_eq_zero h
            rw [this] at h2
            exact absurd h2 (by decide)
          · exact h
        have hp200 : p.size ≤ 200 := by omega
        have hqs : (p.extract 1 p.size).size < 4294967281 := by rw [ByteArray.size_extract]; omega
        have hpl := pieces_len (p.extract 1 p.size)
        have hpc := countB_slash_le (p.extract 1 p.size)
        have hps := pieces_sizes (p.extract 1 p.size)
        have hqs2 : (p.extract 1 p.size).size ≤ 200 := by rw [ByteArray.size_extract]; omega
        have hll : (pieces (p.extract 1 p.size)).length ≤ 201 := by omega
        have hSS : splitS p = if (pieces (p.extract 1 p.size)).any (fun s => !nameB s) then (2, []) else if (pieces (p.extract 1 p.size)).any (fun s => decide (s.size > 12)) then (3, []) else if (pieces (p.extract 1 p.size)).length > 6 then (4, []) else (0, pieces (p.extract 1 p.size)) := by
          unfold splitS; rw [if_neg h1, if_neg (by simp [h2]), if_neg h3]
        have hne : pieces (p.extract 1 p.size) ≠ [] := by intro h; rw [h] at hpl; simp at hpl
        have HSS := Lib.hid hSS
        have HNE := Lib.hid hne
        have HPL := Lib.hid hpl
        have HSA := fun w => strsAt_alloc w (pieces (p.extract 1 p.size)) (by omega)
        have HHSA := Lib.hid HSA
        have HSZ : Hid (∀ x ∈ pieces (p.extract 1 p.size), x.size ≤ 9223372036854775807) := fun x hx => by have := hps x hx; omega
        clear hSS h1 h2 h3 hne hpl hpc hps HSA
        cases b1 : (pieces (p.extract 1 p.size)).any (fun s => !nameB s) with
        | true =>
          have B1 := Lib.hid b1
          clear b1
          go_enter Tryz.func47, Tryz.ntmps47
          go_wp2_with (first
            | (go_at_call 71; refine (Tryz.strings_HasPrefix _ _ _).mono ?_; rintro e w' ⟨rfl, rfl⟩; rw [show Lib.hasPrefix p.data.toList (ByteArray.mk #[47]).data.toList = true from H2.out])
            | (go_at_call 72; refine (Tryz.strings_Split _ _ m _ hqs HM.out (by decide)).mono ?_; rintro e w' ⟨rfl, rfl⟩; rw [show Lib.countB (p.extract 1 p.size) (ByteArray.mk #[47]) + 1 = (pieces (p.extract 1 p.size)).length from HPL.out.symm, show Lib.splitB (ByteArray.mk #[47]) 0 (Lib.countB (p.extract 1 p.size) (ByteArray.mk #[47])) (p.extract 1 p.size) = pieces (p.extract 1 p.size) from rfl])
            | (go_at_call 74; refine (containsFunc_calls _ 75 (fun s => !nameB s) _ _ _ (HHSA.out _) cf2 (fun W s hs => split2_calls W s (HSZ.out s hs))).mono ?_; rintro e w' ⟨rfl, rfl⟩; rw [B1.out]))
          go_ret2
          rw [HSS.out, if_pos B1.out]
          exact ⟨_, rfl, .inl ⟨rfl, rfl, (Upd.refl _ _).alloc _⟩⟩
        | false =>
          cases b2 : (pieces (p.extract 1 p.size)).any (fun s => decide (s.size > 12)) with
          | true =>
            have B1 := Lib.hid b1
            have B2 := Lib.hid b2
            have tok1 : True := trivial
            clear b1 b2
            go_enter Tryz.func47, Tryz.ntmps47
            go_wp2_with (first
              | (go_at_call 71; refine (Tryz.strings_HasPrefix _ _ _).mono ?_; rintro e w' ⟨rfl, rfl⟩; rw [show Lib.hasPrefix p.data.toList (ByteArray.mk #[47]).data.toList = true from H2.out])
              | (go_at_call 72; refine (Tryz.strings_Split _ _ m _ hqs HM.out (by decide)).mono ?_; rintro e w' ⟨rfl, rfl⟩; rw [show Lib.countB (p.extract 1 p.size) (ByteArray.mk #[47]) + 1 = (pieces (p.extract 1 p.size)).length from HPL.out.symm, show Lib.splitB (ByteArray.mk #[47]) 0 (Lib.countB (p.extract 1 p.size) (ByteArray.mk #[47])) (p.extract 1 p.size) = pieces (p.extract 1 p.size) from rfl])
              | (go_at_call 74; have _t := tok1; refine (containsFunc_calls _ 75 (fun s => !nameB s) _ _ _ (HHSA.out _) cf2 (fun W s hs => split2_calls W s (HSZ.out s hs))).mono ?_; rintro e w' ⟨rfl, rfl⟩; rw [B1.out]; clear tok1)
              | (go_at_call 74; refine (containsFunc_calls _ 73 (fun s => decide (s.size > 12)) _ _ _ (HHSA.out _) cf1 (fun W s hs => split1_calls W s (HSZ.out s hs))).mono ?_; rintro e w' ⟨rfl, rfl⟩; rw [B2.out]))
            go_ret2
            rw [HSS.out, if_neg (by rw [B1.out]; decide), if_pos B2.out]
            exact ⟨_, rfl, .inl ⟨rfl, rfl, (Upd.refl _ _).alloc _⟩⟩
          | false =>
            by_cases b3 : (pieces (p.extract 1 p.size)).length > 6
            all_goals
              have B1 := Lib.hid b1
              have B2 := Lib.hid b2
              have B3 := Lib.hid b3
              have tok1 : True := trivial
              first
                | (have e4 : decide (((pieces (p.extract 1 p.size)).length : Int) > 6) = true := by simp; omega)
                | (have e4 : decide (((pieces (p.extract 1 p.size)).length : Int) > 6) = false := by simp; omega)
              clear b1 b2 b3
              go_enter Tryz.func47, Tryz.ntmps47
              go_wp2_with (first
                | (go_at_call 71; refine (Tryz.strings_HasPrefix _ _ _).mono ?_; rintro e w' ⟨rfl, rfl⟩; rw [show Lib.hasPrefix p.data.toList (ByteArray.mk #[47]).data.toList = true from H2.out])
                | (go_at_call 72; refine (Tryz.strings_Split _ _ m _ hqs HM.out (by decide)).mono ?_; rintro e w' ⟨rfl, rfl⟩; rw [show Lib.countB (p.extract 1 p.size) (ByteArray.mk #[47]) + 1 = (pieces (p.extract 1 p.size)).length from HPL.out.symm, show Lib.splitB (ByteArray.mk #[47]) 0 (Lib.countB (p.extract 1 p.size) (ByteArray.mk #[47])) (p.extract 1 p.size) = pieces (p.extract 1 p.size) from rfl])
                | (go_at_call 74; have _t := tok1; refine (containsFunc_calls _ 75 (fun s => !nameB s) _ _ _ (HHSA.out _) cf2 (fun W s hs => split2_calls W s (HSZ.out s hs))).mono ?_; rintro e w' ⟨rfl, rfl⟩; rw [B1.out]; clear tok1)
                | (go_at_call 74; refine (containsFunc_calls _ 73 (fun s => decide (s.size > 12)) _ _ _ (HHSA.out _) cf1 (fun W s hs => split1_calls W s (HSZ.out s hs))).mono ?_; rintro e w' ⟨rfl, rfl⟩; rw [B2.out]))
              go_ret2
              rw [HSS.out, if_neg (by rw [B1.out]; decide), if_neg (by rw [B2.out]; decide)]
              first
                | (rw [if_pos B3.out]; exact ⟨_, rfl, .inl ⟨rfl, rfl, (Upd.refl _ _).alloc _⟩⟩)
                | (rw [if_neg B3.out]; exact ⟨_, rfl, .inr ⟨HNE.out, rfl, rfl, rfl⟩⟩)
end Go.Proofs.YtggfepgablfbhaaGreatDoor
