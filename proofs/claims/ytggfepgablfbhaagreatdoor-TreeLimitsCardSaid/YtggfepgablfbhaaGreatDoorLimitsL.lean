/- Walk of dolmenlaw5.TreeLimits. -/
import Derived.Test.YtggfepgablfbhaaGreatDoorLimits
namespace Go.Proofs.YtggfepgablfbhaaGreatDoor
open Go.RowKit Go.Lib

theorem decB_size (n : Nat) : (decB n).size ≤ 2 := by
  unfold decB
  have h1 : ∀ x : UInt8, (⟨#[x]⟩ : ByteArray).size = 1 := fun _ => rfl
  have h2 : ∀ x y : UInt8, (⟨#[x, y]⟩ : ByteArray).size = 2 := fun _ _ => rfl
  split
  · rw [h1]; omega
  · rw [h2]; omega
theorem St.loose {B : Nat} {w : World} {t bm : Nat} {L : Lay} {T : Tr} {a b a' b' : Nat} (h : St B w t bm L T a b) (ha : a ≤ a') (hb : b ≤ b') : St B w t bm L T a' b' := { h with fit := h.fit.mono ha hb }
theorem St.fits {B : Nat} {w : World} {t bm : Nat} {L : Lay} {T : Tr} {a b a' b' : Nat} (h : St B w t bm L T a b) (hf : T.Fit a' b') : St B w t bm L T a' b' := { h with fit := hf }

set_option maxRecDepth 100000 in
set_option maxHeartbeats 8000000 in
theorem limits_files (w : World) (hg : Glob w) (n : Nat) (hn : n ≤ 80) :
    Calls Tryz.prog 5 #[.int .i64 (n : Int), .bool false] w fun e w' => e = .returned (.bool true) ∧ Upd (fun _ => False) w w' := by
  have HG := Lib.hid hg
  have b1 : decide ((n : Int) < 0) = false := decide_eq_false (by omega)
  have b2 : decide ((n : Int) > 80) = false := decide_eq_false (by omega)
  have tok7 : Hid True := Lib.hid trivial
  have tok8 : Hid True := Lib.hid trivial
  clear hg
  go_enter Tryz.func5, Tryz.ntmps5
  go_wp2_with (go_at_call 14; refine (new_calls w).mono ?_; rintro e w1 ⟨t, bm, L1, rfl, hT1, hu1, hfp1⟩; have HS1 : Hid (St w.heap.size w1 t bm L1 Tr.new 2 0) := St.start HG.out hT1 hu1 hfp1; have HU1 := Lib.hid hu1; have hlt1 : t < w1.heap.size := hT1.lt; clear hT1 hu1 hfp1)
  clear b1 b2
  go_loopg [8] n (fun gk x wr => ∃ (i : Nat) (L : Lay) (T : Tr), x = .int .i64 i ∧ Hid (i ≤ n ∧ gk = n - i ∧ Many T 1 (min i 59) ∧ St w.heap.size wr t bm L T 2000 2000 ∧ Upd (fun _ => False) w wr))
  case atStart => exact ⟨0, L1, Tr.new, rfl, Nat.zero_le _, rfl, Many.start _, HS1.out.loose (by omega) (by omega), HU1.out⟩
  case round =>
    obtain ⟨i, L, T, rfl, HR⟩ := hrel
    obtain ⟨hin, hgk, HM, HS, HU⟩ := HR.out
    have HMA := Lib.hid HM
    have HSA := Lib.hid HS
    have HUA := Lib.hid HU
    clear HR HM HS HU
    by_cases hi : i < n
    · have tok3 : Hid True := Lib.hid trivial
      have hltr : t < wr.heap.size := HSA.out.tree.lt
      have hsz : ¬ (9223372036854775807 < 2 + (decB i).size) := by have := decB_size i; omega
      by_cases h59 : i < 59
      · obtain ⟨T', hcr, hm'⟩ := (show Many T 1 i by have := HMA.out; rwa [Nat.min_eq_left (by omega)] at this).make h59
        have HCR := Lib.hid hcr
        have HM' := Lib.hid hm'
        have e1 : decide ((i : Int) < 59) = true := decide_eq_true (by omega)
        have ew : IntKind.i64.wrap ((i : Int) + 2) = (i : Int) + 2 := by rw [IntKind.wrap_i64]; omega
        clear hcr hm'
        go_wp2_with (first
          | (go_at_call 19; refine (dec_calls _ i (by omega)).mono ?_; rintro e w2 ⟨rfl, hu2⟩; have HU2 := Lib.hid hu2; clear hu2)
          | (go_at_call 15; have tk := tok3; clear tk tok3; refine (do_create (HSA.out.upd HU2.out) (by decide) (by decide) (opM 1 (pthB i)) none 0 (pth_size i) (.inl rfl)).mono ?_; rintro e w3 ⟨rv, ev, rfl, hf3, L3, hr3, hm3, hs3⟩; rw [HCR.out] at hf3 hr3 hm3 hs3; try dsimp only at hf3 hr3 hm3 hs3; obtain rfl := faultAt_nil hf3 rfl; obtain ⟨dv, nv, rfl, ho3, hp3, hox3, hpx3⟩ := hr3; obtain ⟨dA3, dc3, rfl⟩ := own_slice2 ho3; obtain ⟨nA3, nc3, rfl⟩ := own_slice2 hp3; unfold replyV; have HO3 := Lib.hid ho3; have HOX3 := Lib.hid hox3; have HS3 := Lib.hid hs3; have HM3 := Lib.hid hm3; have hlt3 : t < w3.heap.size := hs3.tree.lt; clear hf3 ho3 hp3 hox3 hpx3 hm3 hs3))
        go_roundg (n - (i + 1))
        case measure => omega
        case rel =>
          refine ⟨i + 1, L3, T', by go_num, by omega, rfl, ?_, (HS3.out.upd ((Upd.refl _ _).alloc _)).fits (HM'.out.fit.mono (by omega) (by omega)), ((HSA.out.upd HU2.out).frame HM3.out (HUA.out.trans HU2.out)).alloc _⟩
          rw [Nat.min_eq_left (by omega)]
          exact HM'.out
      · have hcr := (show Many T 1 59 by have := HMA.out; rwa [Nat.min_eq_right (by omega)] at this).full (i := i) (by omega) (by omega)
        have HCR := Lib.hid hcr
        have e1 : decide ((i : Int) < 59) = false := decide_eq_false (by omega)
        clear hcr
        go_wp2_with (first
          | (go_at_call 19; refine (dec_calls _ i (by omega)).mono ?_; rintro e w2 ⟨rfl, hu2⟩; have HU2 := Lib.hid hu2; clear hu2)
          | (go_at_call 15; have tk := tok3; clear tk tok3; refine (do_create (HSA.out.upd HU2.out) (by decide) (by decide) (opM 1 (pthB i)) none 0 (pth_size i) (.inl rfl)).mono ?_; rintro e w3 ⟨rv, ev, rfl, hf3, L3, hr3, hm3, hs3⟩; rw [HCR.out] at hf3 hr3 hm3 hs3; try dsimp only at hf3 hr3 hm3 hs3; obtain ⟨b3, rfl, _⟩ := faultAt_ne hf3 (by decide); have HF3 := Lib.hid hf3; obtain ⟨dv, nv, rfl, ho3, hp3, hox3, hpx3⟩ := hr3; obtain ⟨dA3, dc3, rfl⟩ := own_slice2 ho3; obtain ⟨nA3, nc3, rfl⟩ := own_slice2 hp3; unfold replyV; have HO3 := Lib.hid ho3; have HOX3 := Lib.hid hox3; have HS3 := Lib.hid hs3; have HM3 := Lib.hid hm3; have hlt3 : t < w3.heap.size := hs3.tree.lt; clear hf3 ho3 hp3 hox3 hpx3 hm3 hs3)
          | (go_at_call 18; refine (code_fault _ _ treeS (pthB i) 16 (by decide) (by decide) (HF3.out.upd ((Upd.refl _ _).alloc _))).mono ?_; rintro e w4 ⟨rfl, rfl⟩))
        go_roundg (n - (i + 1))
        case measure => omega
        case rel =>
          refine ⟨i + 1, L3, T, by go_num, by omega, rfl, ?_, (HS3.out.upd ((Upd.refl _ _).alloc _)).fits HSA.out.fit, ((HSA.out.upd HU2.out).frame HM3.out (HUA.out.trans HU2.out)).alloc _⟩
          have := HMA.out
          rw [Nat.min_eq_right (by omega)] at this ⊢
          exact this
    · have hie : i = n := by omega
      subst hie
      by_cases h1 : i < 1
      · have e1 : decide ((i : Int) < 1) = true := decide_eq_true (by omega)
        go_wp2_with (go_at_call 13; refine (awake_calls _ HSA.out.glob).mono ?_; rintro e w8 ⟨rfl, hu8⟩; have HU8 := Lib.hid hu8; clear hu8)
        go_ret
        exact ⟨rfl, HUA.out.trans HU8.out⟩
      · have e1 : decide ((i : Int) < 1) = false := decide_eq_false (by omega)
        obtain ⟨m, hm⟩ : ∃ m, m = min i 59 := ⟨_, rfl⟩
        have HMM : Many T 1 m := by rw [hm]; exact HMA.out
        obtain ⟨T1, hrem, hnew⟩ := HMM.gone (g := 3) (by omega) (by omega) (by decide)
        have HREM := Lib.hid hrem
        have HNEW := Lib.hid hnew
        have hmin : min (i : Int) 59 = (m : Int) := by omega
        have ew : IntKind.i64.wrap ((m : Int) + 2) = (m : Int) + 2 := by rw [IntKind.wrap_i64]; omega
        have hltr : t < wr.heap.size := HSA.out.tree.lt
        clear hm hrem hnew HMM
        go_wp2_with (first
          | (go_at_call 15; have tk := tok7; clear tk tok7; refine (do_remove (HSA.out) (by decide) (by decide) (opM 3 ⟨#[47, 110, 48]⟩) none 0 (by decide) (.inl rfl)).mono ?_; rintro e w7 ⟨rv, ev, rfl, hf7, L7, hr7, hm7, hs7⟩; rw [HREM.out] at hf7 hr7 hm7 hs7; try dsimp only at hf7 hr7 hm7 hs7; obtain rfl := faultAt_nil hf7 rfl; obtain ⟨dv, nv, rfl, ho7, hp7, hox7, hpx7⟩ := hr7; obtain ⟨dA7, dc7, rfl⟩ := own_slice2 ho7; obtain ⟨nA7, nc7, rfl⟩ := own_slice2 hp7; unfold replyV; have HO7 := Lib.hid ho7; have HOX7 := Lib.hid hox7; have HS7 := Lib.hid hs7; have HM7 := Lib.hid hm7; have hlt7 : t < w7.heap.size := hs7.tree.lt; clear hf7 ho7 hp7 hox7 hpx7 hm7 hs7)
          | (go_at_call 15; have tk := tok8; clear tk tok8; refine (do_create (HS7.out.upd ((Upd.refl _ _).alloc _)) (by decide) (by decide) (opM 1 ⟨#[47, 110, 101, 119]⟩) none 0 (by decide) (.inl rfl)).mono ?_; rintro e w8 ⟨rv, ev, rfl, hf8, L8, hr8, hm8, hs8⟩; rw [HNEW.out] at hf8 hr8 hm8 hs8; try dsimp only at hf8 hr8 hm8 hs8; obtain rfl := faultAt_nil hf8 rfl; obtain ⟨dv, nv, rfl, ho8, hp8, hox8, hpx8⟩ := hr8; obtain ⟨dA8, dc8, rfl⟩ := own_slice2 ho8; obtain ⟨nA8, nc8, rfl⟩ := own_slice2 hp8; unfold replyV; have HO8 := Lib.hid ho8; have HOX8 := Lib.hid hox8; have HS8 := Lib.hid hs8; have HM8 := Lib.hid hm8; have hlt8 : t < w8.heap.size := hs8.tree.lt; clear hf8 ho8 hp8 hox8 hpx8 hm8 hs8)
          | (go_at_call 13; refine (awake_calls _ (HS8.out.upd ((Upd.refl _ _).alloc _)).glob).mono ?_; rintro e w9 ⟨rfl, hu9⟩; have HU9 := Lib.hid hu9; clear hu9))
        go_ret
        have g7 := HSA.out.frame HM7.out HUA.out
        have g8 := (HS7.out.upd ((Upd.refl _ _).alloc _)).frame HM8.out (g7.alloc _)
        exact ⟨rfl, (g8.alloc _).trans HU9.out⟩

set_option maxRecDepth 100000 in
set_option maxHeartbeats 8000000 in
theorem limits_dirs (w : World) (hg : Glob w) (n : Nat) (hn : n ≤ 80) :
    Calls Tryz.prog 5 #[.int .i64 (n : Int), .bool true] w fun e w' => e = .returned (.bool true) ∧ Upd (fun _ => False) w w' := by
  have HG := Lib.hid hg
  have b1 : decide ((n : Int) < 0) = false := decide_eq_false (by omega)
  have b2 : decide ((n : Int) > 80) = false := decide_eq_false (by omega)
  have tok7 : Hid True := Lib.hid trivial
  have tok8 : Hid True := Lib.hid trivial
  clear hg
  go_enter Tryz.func5, Tryz.ntmps5
  go_wp2_with (go_at_call 14; refine (new_calls w).mono ?_; rintro e w1 ⟨t, bm, L1, rfl, hT1, hu1, hfp1⟩; have HS1 : Hid (St w.heap.size w1 t bm L1 Tr.new 2 0) := St.start HG.out hT1 hu1 hfp1; have HU1 := Lib.hid hu1; have hlt1 : t < w1.heap.size := hT1.lt; clear hT1 hu1 hfp1)
  clear b1 b2
  go_loopg [8] n (fun gk x wr => ∃ (i : Nat) (L : Lay) (T : Tr), x = .int .i64 i ∧ Hid (i ≤ n ∧ gk = n - i ∧ Many T 2 (min i 59) ∧ St w.heap.size wr t bm L T 2000 2000 ∧ Upd (fun _ => False) w wr))
  case atStart => exact ⟨0, L1, Tr.new, rfl, Nat.zero_le _, rfl, Many.start _, HS1.out.loose (by omega) (by omega), HU1.out⟩
  case round =>
    obtain ⟨i, L, T, rfl, HR⟩ := hrel
    obtain ⟨hin, hgk, HM, HS, HU⟩ := HR.out
    have HMA := Lib.hid HM
    have HSA := Lib.hid HS
    have HUA := Lib.hid HU
    clear HR HM HS HU
    by_cases hi : i < n
    · have tok3 : Hid True := Lib.hid trivial
      have hltr : t < wr.heap.size := HSA.out.tree.lt
      have hsz : ¬ (9223372036854775807 < 2 + (decB i).size) := by have := decB_size i; omega
      by_cases h59 : i < 59
      · obtain ⟨T', hcr, hm'⟩ := (show Many T 2 i by have := HMA.out; rwa [Nat.min_eq_left (by omega)] at this).make h59
        have HCR := Lib.hid hcr
        have HM' := Lib.hid hm'
        have e1 : decide ((i : Int) < 59) = true := decide_eq_true (by omega)
        have ew : IntKind.i64.wrap ((i : Int) + 2) = (i : Int) + 2 := by rw [IntKind.wrap_i64]; omega
        clear hcr hm'
        go_wp2_with (first
          | (go_at_call 19; refine (dec_calls _ i (by omega)).mono ?_; rintro e w2 ⟨rfl, hu2⟩; have HU2 := Lib.hid hu2; clear hu2)
          | (go_at_call 15; have tk := tok3; clear tk tok3; refine (do_create (HSA.out.upd HU2.out) (by decide) (by decide) (opM 2 (pthB i)) none 0 (pth_size i) (.inr rfl)).mono ?_; rintro e w3 ⟨rv, ev, rfl, hf3, L3, hr3, hm3, hs3⟩; rw [HCR.out] at hf3 hr3 hm3 hs3; try dsimp only at hf3 hr3 hm3 hs3; obtain rfl := faultAt_nil hf3 rfl; obtain ⟨dv, nv, rfl, ho3, hp3, hox3, hpx3⟩ := hr3; obtain ⟨dA3, dc3, rfl⟩ := own_slice2 ho3; obtain ⟨nA3, nc3, rfl⟩ := own_slice2 hp3; unfold replyV; have HO3 := Lib.hid ho3; have HOX3 := Lib.hid hox3; have HS3 := Lib.hid hs3; have HM3 := Lib.hid hm3; have hlt3 : t < w3.heap.size := hs3.tree.lt; clear hf3 ho3 hp3 hox3 hpx3 hm3 hs3))
        go_roundg (n - (i + 1))
        case measure => omega
        case rel =>
          refine ⟨i + 1, L3, T', by go_num, by omega, rfl, ?_, (HS3.out.upd ((Upd.refl _ _).alloc _)).fits (HM'.out.fit.mono (by omega) (by omega)), ((HSA.out.upd HU2.out).frame HM3.out (HUA.out.trans HU2.out)).alloc _⟩
          rw [Nat.min_eq_left (by omega)]
          exact HM'.out
      · have hcr := (show Many T 2 59 by have := HMA.out; rwa [Nat.min_eq_right (by omega)] at this).full (i := i) (by omega) (by omega)
        have HCR := Lib.hid hcr
        have e1 : decide ((i : Int) < 59) = false := decide_eq_false (by omega)
        clear hcr
        go_wp2_with (first
          | (go_at_call 19; refine (dec_calls _ i (by omega)).mono ?_; rintro e w2 ⟨rfl, hu2⟩; have HU2 := Lib.hid hu2; clear hu2)
          | (go_at_call 15; have tk := tok3; clear tk tok3; refine (do_create (HSA.out.upd HU2.out) (by decide) (by decide) (opM 2 (pthB i)) none 0 (pth_size i) (.inr rfl)).mono ?_; rintro e w3 ⟨rv, ev, rfl, hf3, L3, hr3, hm3, hs3⟩; rw [HCR.out] at hf3 hr3 hm3 hs3; try dsimp only at hf3 hr3 hm3 hs3; obtain ⟨b3, rfl, _⟩ := faultAt_ne hf3 (by decide); have HF3 := Lib.hid hf3; obtain ⟨dv, nv, rfl, ho3, hp3, hox3, hpx3⟩ := hr3; obtain ⟨dA3, dc3, rfl⟩ := own_slice2 ho3; obtain ⟨nA3, nc3, rfl⟩ := own_slice2 hp3; unfold replyV; have HO3 := Lib.hid ho3; have HOX3 := Lib.hid hox3; have HS3 := Lib.hid hs3; have HM3 := Lib.hid hm3; have hlt3 : t < w3.heap.size := hs3.tree.lt; clear hf3 ho3 hp3 hox3 hpx3 hm3 hs3)
          | (go_at_call 18; refine (code_fault _ _ treeS (pthB i) 16 (by decide) (by decide) (HF3.out.upd ((Upd.refl _ _).alloc _))).mono ?_; rintro e w4 ⟨rfl, rfl⟩))
        go_roundg (n - (i + 1))
        case measure => omega
        case rel =>
          refine ⟨i + 1, L3, T, by go_num, by omega, rfl, ?_, (HS3.out.upd ((Upd.refl _ _).alloc _)).fits HSA.out.fit, ((HSA.out.upd HU2.out).frame HM3.out (HUA.out.trans HU2.out)).alloc _⟩
          have := HMA.out
          rw [Nat.min_eq_right (by omega)] at this ⊢
          exact this
    · have hie : i = n := by omega
      subst hie
      by_cases h1 : i < 1
      · have e1 : decide ((i : Int) < 1) = true := decide_eq_true (by omega)
        go_wp2_with (go_at_call 13; refine (awake_calls _ HSA.out.glob).mono ?_; rintro e w8 ⟨rfl, hu8⟩; have HU8 := Lib.hid hu8; clear hu8)
        go_ret
        exact ⟨rfl, HUA.out.trans HU8.out⟩
      · have e1 : decide ((i : Int) < 1) = false := decide_eq_false (by omega)
        obtain ⟨m, hm⟩ : ∃ m, m = min i 59 := ⟨_, rfl⟩
        have HMM : Many T 2 m := by rw [hm]; exact HMA.out
        obtain ⟨T1, hrem, hnew⟩ := HMM.gone (g := 4) (by omega) (by omega) (by decide)
        have HREM := Lib.hid hrem
        have HNEW := Lib.hid hnew
        have hmin : min (i : Int) 59 = (m : Int) := by omega
        have ew : IntKind.i64.wrap ((m : Int) + 2) = (m : Int) + 2 := by rw [IntKind.wrap_i64]; omega
        have hltr : t < wr.heap.size := HSA.out.tree.lt
        clear hm hrem hnew HMM
        go_wp2_with (first
          | (go_at_call 15; have tk := tok7; clear tk tok7; refine (do_remove (HSA.out) (by decide) (by decide) (opM 4 ⟨#[47, 110, 48]⟩) none 0 (by decide) (.inr rfl)).mono ?_; rintro e w7 ⟨rv, ev, rfl, hf7, L7, hr7, hm7, hs7⟩; rw [HREM.out] at hf7 hr7 hm7 hs7; try dsimp only at hf7 hr7 hm7 hs7; obtain rfl := faultAt_nil hf7 rfl; obtain ⟨dv, nv, rfl, ho7, hp7, hox7, hpx7⟩ := hr7; obtain ⟨dA7, dc7, rfl⟩ := own_slice2 ho7; obtain ⟨nA7, nc7, rfl⟩ := own_slice2 hp7; unfold replyV; have HO7 := Lib.hid ho7; have HOX7 := Lib.hid hox7; have HS7 := Lib.hid hs7; have HM7 := Lib.hid hm7; have hlt7 : t < w7.heap.size := hs7.tree.lt; clear hf7 ho7 hp7 hox7 hpx7 hm7 hs7)
          | (go_at_call 15; have tk := tok8; clear tk tok8; refine (do_create (HS7.out.upd ((Upd.refl _ _).alloc _)) (by decide) (by decide) (opM 2 ⟨#[47, 110, 101, 119]⟩) none 0 (by decide) (.inr rfl)).mono ?_; rintro e w8 ⟨rv, ev, rfl, hf8, L8, hr8, hm8, hs8⟩; rw [HNEW.out] at hf8 hr8 hm8 hs8; try dsimp only at hf8 hr8 hm8 hs8; obtain rfl := faultAt_nil hf8 rfl; obtain ⟨dv, nv, rfl, ho8, hp8, hox8, hpx8⟩ := hr8; obtain ⟨dA8, dc8, rfl⟩ := own_slice2 ho8; obtain ⟨nA8, nc8, rfl⟩ := own_slice2 hp8; unfold replyV; have HO8 := Lib.hid ho8; have HOX8 := Lib.hid hox8; have HS8 := Lib.hid hs8; have HM8 := Lib.hid hm8; have hlt8 : t < w8.heap.size := hs8.tree.lt; clear hf8 ho8 hp8 hox8 hpx8 hm8 hs8)
          | (go_at_call 13; refine (awake_calls _ (HS8.out.upd ((Upd.refl _ _).alloc _)).glob).mono ?_; rintro e w9 ⟨rfl, hu9⟩; have HU9 := Lib.hid hu9; clear hu9))
        go_ret
        have g7 := HSA.out.frame HM7.out HUA.out
        have g8 := (HS7.out.upd ((Upd.refl _ _).alloc _)).frame HM8.out (g7.alloc _)
        exact ⟨rfl, (g8.alloc _).trans HU9.out⟩
set_option maxRecDepth 100000 in
set_option maxHeartbeats 4000000 in
theorem limits_out0 (w : World) (hg : Glob w) (n : Int) (b : Bool) (h0 : (n < 0)) :
    Calls Tryz.prog 5 #[.int .i64 n, .bool b] w fun e w' => e = .returned (.bool true) ∧ Upd (fun _ => False) w w' := by
  have HG := Lib.hid hg
  have b0 : decide (n < 0) = true := decide_eq_true h0
  clear hg h0
  go_enter Tryz.func5, Tryz.ntmps5
  go_wp2_with (go_at_call 13; refine (awake_calls _ HG.out).mono ?_; rintro e w8 ⟨rfl, hu8⟩; have HU8 := Lib.hid hu8; clear hu8)
  go_ret
  exact ⟨rfl, HU8.out⟩
set_option maxRecDepth 100000 in
set_option maxHeartbeats 4000000 in
theorem limits_out1 (w : World) (hg : Glob w) (n : Int) (b : Bool) (h0 : ¬ (n < 0)) (h1 : (n > 80)) :
    Calls Tryz.prog 5 #[.int .i64 n, .bool b] w fun e w' => e = .returned (.bool true) ∧ Upd (fun _ => False) w w' := by
  have HG := Lib.hid hg
  have b0 : decide (n < 0) = false := decide_eq_false h0
  have b1 : decide (n > 80) = true := decide_eq_true h1
  clear hg h0 h1
  go_enter Tryz.func5, Tryz.ntmps5
  go_wp2_with (go_at_call 13; refine (awake_calls _ HG.out).mono ?_; rintro e w8 ⟨rfl, hu8⟩; have HU8 := Lib.hid hu8; clear hu8)
  go_ret
  exact ⟨rfl, HU8.out⟩

/-- The law's walk, at every input. -/
theorem limits_law (w : World) (hg : Glob w) (n : Int) (b : Bool) :
    Calls Tryz.prog 5 #[.int .i64 n, .bool b] w fun e w' => e = .returned (.bool true) ∧ Upd (fun _ => False) w w' := by
  by_cases h0 : n < 0
  · exact limits_out0 w hg n b h0
  by_cases h1 : n > 80
  · exact limits_out1 w hg n b h0 h1
  obtain ⟨n, rfl⟩ := Int.eq_ofNat_of_zero_le (show 0 ≤ n by omega)
  cases b
  · exact limits_files w hg n (by omega)
  · exact limits_dirs w hg n (by omega)
end Go.Proofs.YtggfepgablfbhaaGreatDoor
