/- Walk of dolmenlaw5.TreeBytes. -/
import Derived.Test.YtggfepgablfbhaaGreatDoorAwake
import Derived.Laws.BytesArg
namespace Go.Proofs.YtggfepgablfbhaaGreatDoor
open Go.RowKit Go.Lib

def fT (xs : List Int) : Tr := { nodes := [(1, ⟨2, [], [(⟨#[102]⟩, 2)]⟩), (2, ⟨1, xs, []⟩)], next := 3 }
def opF : OpV := ⟨1, ⟨#[47, 102]⟩, ⟨#[]⟩, 0, 0, [], 0⟩
def opW (off : Int) (d : List Int) : OpV := ⟨8, ⟨#[47, 102]⟩, ⟨#[]⟩, off, 0, d, 0⟩
def opR (off : Int) : OpV := ⟨7, ⟨#[47, 102]⟩, ⟨#[]⟩, off, 4000, [], 0⟩
def opT (n : Int) : OpV := ⟨9, ⟨#[47, 102]⟩, ⟨#[]⟩, 0, n, [], 0⟩
theorem f_size : (⟨#[47, 102]⟩ : ByteArray).size ≤ 9223372036854775807 := by decide
theorem f_create : Tr.new.createR opF = (0, { zeroRep with ino := 2 }, fT []) := by kernel_rfl
theorem f_find (xs : List Int) : (fT xs).find ⟨#[47, 102]⟩ = (2, 0) := by kernel_rfl
theorem f_look (xs : List Int) : look 2 (fT xs).nodes = some ⟨1, xs, []⟩ := rfl
theorem f_set (xs ys : List Int) : (fT xs).setData 2 ⟨1, xs, []⟩ ys = fT ys := rfl
theorem splice_new (k : Nat) (ys : List Int) : splice (List.replicate (k + ys.length) 0) k ys = List.replicate k 0 ++ ys := by
  simp [splice]
theorem f_write (off : Int) (d : List Int) (h0 : 0 ≤ off) (h1 : off ≤ 600) (hd : d.length ≤ 600) (hne : d ≠ []) : (fT []).file (opW off d) = (0, { zeroRep with n := d.length }, fT (List.replicate off.toNat 0 ++ d)) := by
  unfold Tr.file opW
  simp only [f_find, f_look]
  rw [if_neg (by simp), if_neg (by simp), if_neg (by simp), if_pos (by simp), if_neg (by omega), if_neg hne, f_set]
  have : sizedL [] (max ([] : List Int).length (off.toNat + d.length)) = List.replicate (off.toNat + d.length) 0 := by simp [sizedL]
  rw [this, splice_new]
theorem f_write0 (off : Int) (h0 : 0 ≤ off) (h1 : off ≤ 600) : (fT []).file (opW off []) = (0, zeroRep, fT []) := by
  unfold Tr.file opW
  simp only [f_find, f_look]
  rw [if_neg (by simp), if_neg (by simp), if_neg (by simp), if_pos (by simp), if_neg (by simp; omega), if_pos trivial]
theorem f_read (off : Int) (xs : List Int) (h0 : 0 ≤ off) (hx : xs.length ≤ 4000) : (fT xs).file (opR off) = (0, { zeroRep with data := xs.drop off.toNat }, fT xs) := by
  unfold Tr.file opR
  simp only [f_find, f_look]
  rw [if_neg (by simp), if_neg (by simp), if_pos (by simp), if_neg (by omega), List.take_of_length_le (by simp; omega)]
theorem f_trunc (n : Int) (xs : List Int) (h0 : 0 ≤ n) (h1 : n ≤ 2000) : (fT xs).file (opT n) = (0, zeroRep, fT (sizedL xs n.toNat)) := by
  unfold Tr.file opT
  simp only [f_find, f_look]
  rw [if_neg (by simp), if_neg (by simp), if_neg (by simp), if_neg (by simp), if_neg (by omega), f_set]
theorem f_read0 (xs : List Int) (hx : xs.length ≤ 4000) : (fT xs).file (opR 0) = (0, { zeroRep with data := xs }, fT xs) := by
  have := f_read 0 xs (by omega) hx
  simpa using this

theorem own_slice2 {w : World} {B : Nat} {e : TypeId} {z : Nat} {v : Value} {n : Nat} {xs : List Value} (h : w.ownsRow B e z v n xs) : ∃ A c, v = .slice A n c := by
  rcases h.2 with ⟨rfl, rfl⟩ | ⟨g, cap, _, rfl, _⟩
  · exact ⟨_, _, rfl⟩
  · exact ⟨_, _, rfl⟩
theorem own_alloc {w : World} {B : Nat} {e : TypeId} {z : Nat} {v : Value} {n : Nat} {xs : List Value} (h : w.ownsRow B e z v n xs) (X : Obj) : (w.alloc X).ownsRow B e z v n xs :=
  own_upd h ((Upd.refl (fun _ => False) w).alloc X) (fun _ _ => id) (Nat.le_refl _)
theorem Upd.of_grown {w w' : World} {row : Option Nat} (h : w.grownBy w' row) : Upd (fun k => some k = row) w w' := ⟨h.os, h.tape, h.output, h.size, fun k hk hf => h.block k hk hf⟩
theorem own_cell {w : World} {B : Nat} {xs : List Int} {A : Option Addr} {c : Nat} (h : w.ownsRow B 5 1 (.slice A xs.length c) xs.length (nums8 xs)) {i : Nat} (hi : i < xs.length) : ∃ g, A = some ⟨g, 0, none⟩ ∧ w.cell? ⟨g, i, none⟩ = some (.int .u8 (xs.getD i 0)) := by
  rcases h.2 with ⟨_, hn⟩ | ⟨g, cap, cur, e, hbg, hg, hnc, hcm, hcs, htake⟩
  · omega
  · cases e
    refine ⟨g, rfl, ?_⟩
    have := h.cells (g := g) rfl i (.int .u8 (xs.getD i 0)) (by unfold nums8; rw [List.getElem?_map, List.getD_eq_getElem?_getD, List.getElem?_eq_getElem hi]; rfl)
    simpa [Addr.add_lit] using this
theorem sized_get (want : List Int) (nn k i : Nat) (h : k + i < nn) : ((sizedL want nn).drop k).getD i 0 = want.getD (k + i) 0 := by
  unfold sizedL
  simp only [List.getD_eq_getElem?_getD, List.getElem?_drop]
  by_cases hw : k + i < want.length
  · rw [List.getElem?_append_left (by simp; omega), List.getElem?_take, if_pos h]
  · rw [List.getElem?_append_right (by simp; omega), List.getElem?_eq_none (show want.length ≤ k + i by omega)]
    simp only [List.getElem?_replicate]
    split <;> rfl
theorem own_moves {w w' : World} {t bm : Nat} {L L' : Lay} {T' : Tr} (m : Moves w w' t bm L L' T') {B : Nat} {e : TypeId} {z : Nat} {v : Value} {n : Nat} {xs : List Value} (h : w.ownsRow B e z v n xs) (hx : ∀ g, v.ownBlock = some g → g ∉ fpOf t bm L) :
    w'.ownsRow B e z v n xs ∧ ∀ g, v.ownBlock = some g → g ∉ fpOf t bm L' :=
  ⟨own_upd h m.upd hx (Nat.le_refl _), fun g hg => (m.out (h.lt g hg).2 (hx g hg)).2.1⟩
theorem byteR_empty (w : World) (A : Option Addr) (c : Nat) : ByteR w (.slice A ([] : List Int).length c) [] := ⟨A, c, rfl, Nat.zero_le _, fun _ => rfl, fun _ _ j x q => by simp at q⟩
theorem own_made (w : World) (m g : Nat) (hm : m ≤ 100000) (hg : g = w.heap.size) : (w.alloc (.cells (madeCells #[.int .u8 0] m) 5)).ownsRow g 5 1 (.slice (some ⟨g, 0, none⟩) m m) m (nums8 (List.replicate m 0)) := by
  subst hg
  have h := World.ownsRow_lit (base := w.heap.size) (e := 5) (size := 1) w (madeCells #[.int .u8 0] m) m (Nat.le_refl _) (by unfold maxLen; omega) (by rw [size_madeCells]; omega)
  have e : (madeCells #[Value.int .u8 0] m).toList = nums8 (List.replicate m 0) := by
    unfold madeCells nums8
    simp [Nat.mod_one]
    apply List.ext_getElem
    · simp
    · intro i q1 q2
      simp
  rw [e] at h
  exact h
theorem conv_own {w : World} {B : Nat} {v : Value} {xs : List Int} (h : w.ownsRow B 5 1 v xs.length (nums8 xs)) : (convert 22 9 v).run Tryz.prog w = .ok (.string (strOfNums xs)) w := by
  rcases h.2 with ⟨rfl, hn⟩ | ⟨g, cap, cur, rfl, hbg, hg, hnc, hcm, hcs, htake⟩
  · obtain rfl := List.eq_nil_of_length_eq_zero hn
    exact run_convert_bytes_nil w _ _ Tryz.underlying22 Tryz.underlying5 0 0 _ Tryz.underlying9
  · refine run_convert_bytes_arg w _ _ Tryz.underlying22 Tryz.underlying5 g 0 _ cap xs rfl (fun i hi => ?_) _ Tryz.underlying9
    have := h.cells (g := g) rfl i (.int .u8 (xs.getD i 0)) (by unfold nums8; rw [List.getElem?_map, List.getD_eq_getElem?_getD, List.getElem?_eq_getElem hi]; rfl)
    simpa [Addr.add_lit] using this

set_option maxRecDepth 100000 in
set_option maxHeartbeats 8000000 in
theorem bytes_some (w : World) (hg : Glob w) (m : Nat) (d : List Int) (A : Option Addr) (c : Nat) (n k : Nat) (h2 : m ≤ 600) (h3 : d.length ≤ 600) (h5 : n ≤ 1500) (h7 : k ≤ 2000) (hD : ByteR w (.slice A d.length c) d) (hne : d ≠ []) :
    Calls Tryz.prog 3 #[.int .i64 m, .slice A d.length c, .int .i64 (n : Int), .int .i64 (k : Int)] w fun e w' => e = .returned (.bool true) ∧ Upd (fun _ => False) w w' := by
  have HG := Lib.hid hg
  have tok2 : Hid True := Lib.hid trivial
  have tok3 : Hid True := Lib.hid trivial
  have tok5 : Hid True := Lib.hid trivial
  have tok6 : Hid True := Lib.hid trivial
  have tok7 : Hid True := Lib.hid trivial
  have b1 : decide ((m : Int) < 0) = false := decide_eq_false (by omega)
  have b2 : decide ((m : Int) > 600) = false := decide_eq_false (by omega)
  have b3 : decide ((d.length : Int) > 600) = false := decide_eq_false (by omega)
  have b4 : decide ((n : Int) < 0) = false := decide_eq_false (by omega)
  have b5 : decide ((n : Int) > 1500) = false := decide_eq_false (by omega)
  have b6 : decide ((k : Int) < 0) = false := decide_eq_false (by omega)
  have b7 : decide ((k : Int) > 2000) = false := decide_eq_false (by omega)
  have hpos : 0 < d.length := List.length_pos_iff.2 hne
  have b8 : decide ((d.length : Int) > 0) = true := decide_eq_true (by omega)
  have EW := Lib.hid (show (fT []).file (opW m d) = (0, ⟨0, 0, 0, 0, d.length, [], []⟩, fT (List.replicate (m : Int).toNat 0 ++ d)) from f_write m d (by omega) (by omega) h3 hne)
  obtain ⟨i0, hi, hz0, hz1, hz2⟩ := info_parts info_u8
  have hmk : ∀ W : World, (Instr.makeSlice 22 (.int .i64 m) (.int .i64 m)).run Tryz.prog W = .ok (.slice (some ⟨W.heap.size, 0, none⟩) m m) (W.alloc (.cells (madeCells #[.int .u8 0] m) 5)) := fun W => by
    have q := run_makeSlice (P := Tryz.prog) W 22 5 i0 (.int .u8 0) Tryz.underlying22 hi hz0 .i64 .i64 m m (by omega) (by omega) (by rw [hz1]; omega) (by rw [hz2]; omega) (by omega)
    rw [hz1] at q
    rw [show (#[Value.int .u8 0] : Array Value) = (Value.int .u8 0).cells from rfl]
    simpa using q
  obtain ⟨ad, rfl⟩ : ∃ ad, A = some ad := by
    obtain ⟨ao, cc, e1, _, e3, _⟩ := hD
    cases A with
    | none => cases e1; exact absurd (e3 rfl) hne
    | some ad => exact ⟨ad, rfl⟩
  have hcells : Hid (∀ j x, d[j]? = some x → w.cell? (ad.add j) = some (.int .u8 x)) := by
    obtain ⟨ao, cc, e1, _, _, e4⟩ := hD
    cases e1
    exact fun j x hx => e4 ad rfl j x hx
  have H3 := Lib.hid (show d.length ≤ 1000000 by omega)
  have HD := Lib.hid hD
  have HH2 := Lib.hid h2
  have HH3 := Lib.hid h3
  clear hg hD h3 hne
  go_enter Tryz.func3, Tryz.ntmps3
  go_wp2_with (first
    | (go_at_call 14; refine (new_calls w).mono ?_; rintro e w1 ⟨t, bm, L1, rfl, hT1, hu1, hfp1⟩; have HS1 : Hid (St w.heap.size w1 t bm L1 Tr.new 2 0) := St.start HG.out hT1 hu1 hfp1; have HU1 := Lib.hid hu1; have hlt1 : t < w1.heap.size := hT1.lt; clear hT1 hu1 hfp1)
    | (go_at_call 15; have tk := tok2; clear tk tok2; refine (do_create (HS1.out) (by decide) (by decide) (opF) none 0 f_size (.inl rfl)).mono ?_; rintro e w2 ⟨rv, ev, rfl, hf2, L2, hr2, hm2, hs2⟩; rw [f_create] at hf2 hr2 hm2 hs2; obtain rfl := faultAt_nil hf2 rfl; obtain ⟨dv, nv, rfl, ho2, hp2, hox2, hpx2⟩ := hr2; obtain ⟨dA2, dc2, rfl⟩ := own_slice2 ho2; obtain ⟨nA2, nc2, rfl⟩ := own_slice2 hp2; unfold replyV; have HO2 := Lib.hid ho2; have HOX2 := Lib.hid hox2; have HS2 := Lib.hid hs2; have HM2 := Lib.hid hm2; have hlt2 : t < w2.heap.size := hs2.tree.lt; have HU2 : Hid (Upd (fun _ => False) w w2) := HS1.out.frame hm2 HU1.out; clear hf2 ho2 hp2 hox2 hpx2 hm2 hs2)
    | (go_at_call 15; have tk := tok3; clear tk tok3; refine (do_file (HS2.out) (by decide) (by decide) (opW m d) (some ad) c f_size (.inr (.inl rfl)) H3.out (HD.out.upd HU2.out)).mono ?_; rintro e w3 ⟨rv, ev, rfl, hf3, L3, hr3, hm3, hs3⟩; rw [EW.out] at hf3 hr3 hm3 hs3; obtain rfl := faultAt_nil hf3 rfl; obtain ⟨dv, nv, rfl, ho3, hp3, hox3, hpx3⟩ := hr3; obtain ⟨dA3, dc3, rfl⟩ := own_slice2 ho3; obtain ⟨nA3, nc3, rfl⟩ := own_slice2 hp3; unfold replyV; have HO3 := Lib.hid ho3; have HOX3 := Lib.hid hox3; have HS3 := Lib.hid hs3; have HM3 := Lib.hid hm3; have hlt3 : t < w3.heap.size := hs3.tree.lt; have HU3 : Hid (Upd (fun _ => False) w w3) := HS2.out.frame hm3 HU2.out; clear hf3 ho3 hp3 hox3 hpx3 hm3 hs3)
    | (at_builtin; refine wpList_append_own _ rfl _ _ 22 rfl (w3.heap.size + 1) 5 i0 (.int .u8 0) 1 1 Tryz.underlying22 hi hz0 hz1 hz2 rfl (by decide) _ _ _ rfl (own_made _ m _ (by have := HH2.out; omega) (by simp)) ad d.length c (nums8 d) rfl ?qc1 ?qc2 ?qc3 ?qc4 ?qc5 ?qc6 ?_))
  case qc1 => simp [nums8]
  case qc2 =>
    intro j u hj
    obtain ⟨x, hx, rfl⟩ := nums8_get hj
    exact Lib.cell?_alloc_some _ (Lib.cell?_alloc_some _ (HU3.out.cellS (hcells.out j x hx) id))
  case qc3 => intro u hu; obtain ⟨x, _, rfl⟩ := List.mem_map.1 hu; rfl
  case qc4 => have := HH2.out; have := HH3.out; unfold maxLen; omega
  case qc5 => have := HH2.out; have := HH3.out; omega
  case qc6 => simp
  intro v4 w4 hown hgrow hnil
  obtain ⟨want, hwant⟩ : ∃ x, x = List.replicate m 0 ++ d := ⟨_, rfl⟩
  have hwl : want.length = m + d.length := by rw [hwant]; simp
  have hwn : nums8 (List.replicate m 0) ++ nums8 d = nums8 want := by rw [hwant]; unfold nums8; rw [List.map_append]
  rw [hwn, ← hwl] at hown
  obtain ⟨wA, wc, rfl⟩ := own_slice2 hown
  have hHS3 := HS3.out
  rw [show (List.replicate (m : Int).toNat 0 ++ d) = want by rw [hwant]; simp] at hHS3
  have hug := Upd.of_grown hgrow
  have HG4 : Hid (Upd (· = w3.heap.size + 1) w3 w4) := ((((Upd.refl (· = w3.heap.size + 1) w3).alloc _).alloc _).trans (hug.mono (fun g _ q => by simp [Value.ownBlock] at q; omega)))
  have HS4 : Hid (St w.heap.size w4 t bm L3 (fT want) 3 1) := hHS3.upd2 HG4.out (fun g q => ⟨fun r => by have := hHS3.tree.fplt g r; omega, by have := hHS3.old; omega⟩)
  have HU4 : Hid (Upd (fun _ => False) w w4) := HU3.out.then_new HG4.out (fun g q => by have := hHS3.old; omega)
  have HOW := Lib.hid hown
  have HOWX : Hid (∀ g, (Value.slice wA want.length wc).ownBlock = some g → g ∉ fpOf t bm L3) := fun g hg q => by have := (hown.lt g hg).1; have := hHS3.tree.fplt g q; omega
  have HR3 : Hid (w4.heap[w3.heap.size]? = some (.cells #[.int .i64 0, .int .i64 0, .int .i64 0, .int .i64 0, .int .i64 d.length, .slice dA3 0 dc3, .slice nA3 0 nc3, .slice none 0 0] 29 (0, 0))) := ((hug.block _ (by simp; omega) (by simp [Value.ownBlock])).trans (heap_al (MapKept.heap_alloc w3 _).1))
  have hz4 : w3.heap.size + 1 < w4.heap.size := by have := hug.size; simp at this; omega
  have HWL := Lib.hid hwl
  have HWM : Hid (want.length ≤ 1200) := by show _ ≤ _; have := HH2.out; have := HH3.out; omega
  have hlt4 : t < w4.heap.size := by omega
  have EWANT := Lib.hid hwant
  clear hown hgrow hnil hwn hwl hHS3 hug hwant
  have ER5 := Lib.hid (show (fT want).file (opR 0) = (0, ⟨0, 0, 0, 0, 0, want, []⟩, fT want) from f_read0 want (by have := HWM.out; omega))
  obtain ⟨cut, hcut⟩ : ∃ x, x = sizedL want n := ⟨_, rfl⟩
  have ER6 : Hid ((fT want).file (opT n) = (0, ⟨0, 0, 0, 0, 0, [], []⟩, fT cut)) := by show _ = _; rw [f_trunc n want (by omega) (by omega), hcut]; rfl
  have hcl : cut.length = n := by rw [hcut]; exact sizedL_length _ _
  obtain ⟨bd, hbd⟩ : ∃ x, x = cut.drop k := ⟨_, rfl⟩
  have ER7 : Hid ((fT cut).file (opR k) = (0, ⟨0, 0, 0, 0, 0, bd, []⟩, fT cut)) := by show _ = _; rw [f_read k cut (by omega) (by omega), hbd]; rfl
  have hbl : bd.length = n - k := by rw [hbd, List.length_drop, hcl]
  have HBD : Hid (∀ i, k + i < n → bd.getD i 0 = want.getD (k + i) 0) := fun i hi => by rw [hbd, hcut]; exact sized_get want n k i hi
  have HBL := Lib.hid hbl
  have hwsub : IntKind.i64.wrap ((n : Int) - (k : Int)) = (n : Int) - (k : Int) := by rw [IntKind.wrap_i64]; omega
  have hmax : max ((n : Int) - (k : Int)) 0 = (bd.length : Int) := by omega
  clear hcut hcl hbd
  go_wp2_with (first
    | (go_at_call 15; have tk := tok5; clear tk tok5; refine (do_file (HS4.out) (by decide) (by decide) (opR 0) none 0 f_size (.inl rfl) (Nat.zero_le _) (ByteR.nil _)).mono ?_; rintro e w5 ⟨rv, ev, rfl, hf5, L5, hr5, hm5, hs5⟩; rw [ER5.out] at hf5 hr5 hm5 hs5; obtain rfl := faultAt_nil hf5 rfl; obtain ⟨dv, nv, rfl, ho5, hp5, hox5, hpx5⟩ := hr5; obtain ⟨dA5, dc5, rfl⟩ := own_slice2 ho5; obtain ⟨nA5, nc5, rfl⟩ := own_slice2 hp5; unfold replyV; have HO5 := Lib.hid ho5; have HOX5 := Lib.hid hox5; have HS5 := Lib.hid hs5; have HM5 := Lib.hid hm5; have hlt5 : t < w5.heap.size := hs5.tree.lt; have HU5 : Hid (Upd (fun _ => False) w w5) := HS4.out.frame hm5 HU4.out; obtain ⟨hz5, q2, q3⟩ := hm5.out (g := w3.heap.size) (by omega) (fun q => by have := HS3.out.tree.fplt _ q; omega); have HN5 := Lib.hid q2; have HR5 := Lib.hid (q3.trans HR3.out); have HOW5 := Lib.hid (own_moves hm5 HOW.out HOWX.out); clear q2 q3; clear hf5 ho5 hp5 hox5 hpx5 hm5 hs5)
    | (go_at_call 15; have tk := tok6; clear tk tok6; refine (do_file (HS5.out.upd ((Upd.refl _ _).alloc _)) (by decide) (by decide) (opT n) none 0 f_size (.inr (.inr rfl)) (Nat.zero_le _) (ByteR.nil _)).mono ?_; rintro e w6 ⟨rv, ev, rfl, hf6, L6, hr6, hm6, hs6⟩; rw [ER6.out] at hf6 hr6 hm6 hs6; obtain rfl := faultAt_nil hf6 rfl; obtain ⟨dv, nv, rfl, ho6, hp6, hox6, hpx6⟩ := hr6; obtain ⟨dA6, dc6, rfl⟩ := own_slice2 ho6; obtain ⟨nA6, nc6, rfl⟩ := own_slice2 hp6; unfold replyV; have HO6 := Lib.hid ho6; have HOX6 := Lib.hid hox6; have HS6 := Lib.hid hs6; have HM6 := Lib.hid hm6; have hlt6 : t < w6.heap.size := hs6.tree.lt; have HU6 : Hid (Upd (fun _ => False) w w6) := (HS5.out.upd ((Upd.refl _ _).alloc _)).frame hm6 (HU5.out.alloc _); obtain ⟨hz6, q2, q3⟩ := hm6.out (g := w3.heap.size) (by simp; omega) HN5.out; have HN6 := Lib.hid q2; have HR6 := Lib.hid (q3.trans (heap_al HR5.out)); have HOW6 := Lib.hid (own_moves hm6 (own_alloc HOW5.out.1 _) HOW5.out.2); have HOA6 := Lib.hid (own_moves hm6 (own_alloc HO5.out _) HOX5.out); obtain ⟨hy6, q4, q5⟩ := hm6.out (g := w5.heap.size) (by simp) (fun q => by have := HS5.out.tree.fplt _ q; omega); have HM5N := Lib.hid q4; have HRA6 := Lib.hid (q5.trans (MapKept.heap_alloc w5 _).1); clear q2 q3 q4 q5; clear hf6 ho6 hp6 hox6 hpx6 hm6 hs6)
    | (go_at_call 15; have tk := tok7; clear tk tok7; refine (do_file (HS6.out.upd ((Upd.refl _ _).alloc _)) (by decide) (by decide) (opR k) none 0 f_size (.inl rfl) (Nat.zero_le _) (ByteR.nil _)).mono ?_; rintro e w7 ⟨rv, ev, rfl, hf7, L7, hr7, hm7, hs7⟩; rw [ER7.out] at hf7 hr7 hm7 hs7; obtain rfl := faultAt_nil hf7 rfl; obtain ⟨dv, nv, rfl, ho7, hp7, hox7, hpx7⟩ := hr7; obtain ⟨dA7, dc7, rfl⟩ := own_slice2 ho7; obtain ⟨nA7, nc7, rfl⟩ := own_slice2 hp7; unfold replyV; have HO7 := Lib.hid ho7; have HOX7 := Lib.hid hox7; have HS7 := Lib.hid hs7; have HM7 := Lib.hid hm7; have hlt7 : t < w7.heap.size := hs7.tree.lt; have HU7 : Hid (Upd (fun _ => False) w w7) := (HS6.out.upd ((Upd.refl _ _).alloc _)).frame hm7 (HU6.out.alloc _); obtain ⟨hz7, q2, q3⟩ := hm7.out (g := w3.heap.size) (by simp; omega) HN6.out; have r3 : w7.cell? ⟨w3.heap.size, 4, none⟩ = some (.int .i64 d.length) := (cell_of_heap (q3.trans (heap_al HR6.out)) 4).trans rfl; have HOW7 := Lib.hid (own_moves hm7 (own_alloc HOW6.out.1 _) HOW6.out.2); have HOA7 := Lib.hid (own_moves hm7 (own_alloc HOA6.out.1 _) HOA6.out.2); obtain ⟨hy7, q4, q5⟩ := hm7.out (g := w5.heap.size) (by simp; omega) HM5N.out; have r5 : w7.cell? ⟨w5.heap.size, 5, none⟩ = some (.slice dA5 want.length dc5) := (cell_of_heap (q5.trans (heap_al HRA6.out)) 5).trans rfl; have hcv4 : ∀ X, (convert 22 9 (.slice wA want.length wc)).run Tryz.prog (w7.alloc X) = .ok (.string (strOfNums want)) (w7.alloc X) := fun X => conv_own (own_alloc HOW7.out.1 X); have hcv5 : ∀ X, (convert 22 9 (.slice dA5 want.length dc5)).run Tryz.prog (w7.alloc X) = .ok (.string (strOfNums want)) (w7.alloc X) := fun X => conv_own (own_alloc HOA7.out.1 X); clear q2 q3 q4 q5; clear hf7 ho7 hp7 hox7 hpx7 hm7 hs7)
    )
  have HGL : ∀ X, Hid (Glob (w7.alloc X)) := fun X => (HS7.out.upd ((Upd.refl _ _).alloc _)).glob
  have HGH := Lib.hid HGL
  have HUX : ∀ X, Hid (Upd (fun _ => False) w (w7.alloc X)) := fun X => HU7.out.alloc X
  have HUH := Lib.hid HUX
  have hwl2 : want.length ≤ 1200 := HWM.out
  clear HGL HUX hbl hmk hcv4 hcv5 r3 r5 b1 b2 b3 b4 b5 b6 b7 b8
  go_loop [19] (fun x => ∃ i : Nat, i ≤ bd.length ∧ x = .int .i64 i) (fun x => bd.length - (intOf x).toNat)
  case atStart => exact ⟨0, by omega, rfl⟩
  case round =>
    obtain ⟨i, hi, rfl⟩ := hrel
    by_cases hil : i < bd.length
    · have hbl := HBL.out
      have hki : k + i < n := by omega
      have hget := HBD.out i hki
      obtain ⟨g7, rfl, hc7⟩ := own_cell HO7.out hil
      have hb7 : g7 < w7.heap.size := World.block_lt_of_cell? w7 _ hc7
      rw [hget] at hc7
      clear hget
      have hadd : IntKind.i64.wrap ((k : Int) + (i : Int)) = ((k + i : Nat) : Int) := by rw [IntKind.wrap_i64]; omega
      by_cases hin : k + i < want.length
      · obtain ⟨g4, rfl, hc4⟩ := own_cell HOW7.out.1 hin
        have hb4 : g4 < w7.heap.size := World.block_lt_of_cell? w7 _ hc4
        go_wp2
        go_round
        case rel => exact ⟨i + 1, by omega, by go_num⟩
        case measure => simp [intOf]; omega
      · have hz : want.getD (k + i) 0 = 0 := by rw [List.getD_eq_getElem?_getD, List.getElem?_eq_none (by omega)]; rfl
        rw [hz] at hc7
        clear hz
        go_wp2
        go_round
        case rel => exact ⟨i + 1, by omega, by go_num⟩
        case measure => simp [intOf]; omega
    · have hie : i = bd.length := by omega
      subst hie
      go_wp2_with (go_at_call 13; refine (awake_calls _ (HGH.out _).out).mono ?_; rintro e w8 ⟨rfl, hu8⟩; have HU8 := Lib.hid hu8; clear hu8)
      go_ret
      exact ⟨rfl, (HUH.out _).out.trans HU8.out⟩

set_option maxRecDepth 100000 in
set_option maxHeartbeats 8000000 in
theorem bytes_none (w : World) (hg : Glob w) (m : Nat) (A : Option Addr) (c : Nat) (n k : Nat) (h2 : m ≤ 600) (h5 : n ≤ 1500) (h7 : k ≤ 2000) :
    Calls Tryz.prog 3 #[.int .i64 m, .slice A 0 c, .int .i64 (n : Int), .int .i64 (k : Int)] w fun e w' => e = .returned (.bool true) ∧ Upd (fun _ => False) w w' := by
  have HG := Lib.hid hg
  have tok2 : Hid True := Lib.hid trivial
  have tok3 : Hid True := Lib.hid trivial
  have tok5 : Hid True := Lib.hid trivial
  have tok6 : Hid True := Lib.hid trivial
  have tok7 : Hid True := Lib.hid trivial
  have b1 : decide ((m : Int) < 0) = false := decide_eq_false (by omega)
  have b2 : decide ((m : Int) > 600) = false := decide_eq_false (by omega)
  have b4 : decide ((n : Int) < 0) = false := decide_eq_false (by omega)
  have b5 : decide ((n : Int) > 1500) = false := decide_eq_false (by omega)
  have b6 : decide ((k : Int) < 0) = false := decide_eq_false (by omega)
  have b7 : decide ((k : Int) > 2000) = false := decide_eq_false (by omega)
  have EW : Hid ((fT []).file (opW m []) = (0, ⟨0, 0, 0, 0, 0, [], []⟩, fT [])) := f_write0 m (by omega) (by omega)
  have HH2 := Lib.hid h2
  clear hg
  have ER5 := Lib.hid (show (fT ([] : List Int)).file (opR 0) = (0, ⟨0, 0, 0, 0, 0, ([] : List Int), []⟩, fT ([] : List Int)) from f_read0 ([] : List Int) (Nat.zero_le _))
  obtain ⟨cut, hcut⟩ : ∃ x, x = sizedL ([] : List Int) n := ⟨_, rfl⟩
  have ER6 : Hid ((fT ([] : List Int)).file (opT n) = (0, ⟨0, 0, 0, 0, 0, [], []⟩, fT cut)) := by show _ = _; rw [f_trunc n ([] : List Int) (by omega) (by omega), hcut]; rfl
  have hcl : cut.length = n := by rw [hcut]; exact sizedL_length _ _
  obtain ⟨bd, hbd⟩ : ∃ x, x = cut.drop k := ⟨_, rfl⟩
  have ER7 : Hid ((fT cut).file (opR k) = (0, ⟨0, 0, 0, 0, 0, bd, []⟩, fT cut)) := by show _ = _; rw [f_read k cut (by omega) (by omega), hbd]; rfl
  have hbl : bd.length = n - k := by rw [hbd, List.length_drop, hcl]
  have HBD : Hid (∀ i, k + i < n → bd.getD i 0 = ([] : List Int).getD (k + i) 0) := fun i hi => by rw [hbd, hcut]; exact sized_get ([] : List Int) n k i hi
  have HBL := Lib.hid hbl
  have hwsub : IntKind.i64.wrap ((n : Int) - (k : Int)) = (n : Int) - (k : Int) := by rw [IntKind.wrap_i64]; omega
  have hmax : max ((n : Int) - (k : Int)) 0 = (bd.length : Int) := by omega
  clear hcut hcl hbd
  go_enter Tryz.func3, Tryz.ntmps3
  go_wp2_with (first
    | (go_at_call 14; refine (new_calls w).mono ?_; rintro e w1 ⟨t, bm, L1, rfl, hT1, hu1, hfp1⟩; have HS1 : Hid (St w.heap.size w1 t bm L1 Tr.new 2 0) := St.start HG.out hT1 hu1 hfp1; have HU1 := Lib.hid hu1; have hlt1 : t < w1.heap.size := hT1.lt; clear hT1 hu1 hfp1)
    | (go_at_call 15; have tk := tok2; clear tk tok2; refine (do_create (HS1.out) (by decide) (by decide) (opF) none 0 f_size (.inl rfl)).mono ?_; rintro e w2 ⟨rv, ev, rfl, hf2, L2, hr2, hm2, hs2⟩; rw [f_create] at hf2 hr2 hm2 hs2; obtain rfl := faultAt_nil hf2 rfl; obtain ⟨dv, nv, rfl, ho2, hp2, hox2, hpx2⟩ := hr2; obtain ⟨dA2, dc2, rfl⟩ := own_slice2 ho2; obtain ⟨nA2, nc2, rfl⟩ := own_slice2 hp2; unfold replyV; have HO2 := Lib.hid ho2; have HOX2 := Lib.hid hox2; have HS2 := Lib.hid hs2; have HM2 := Lib.hid hm2; have hlt2 : t < w2.heap.size := hs2.tree.lt; have HU2 : Hid (Upd (fun _ => False) w w2) := HS1.out.frame hm2 HU1.out; clear hf2 ho2 hp2 hox2 hpx2 hm2 hs2)
    | (go_at_call 15; have tk := tok3; clear tk tok3; refine (do_file (HS2.out) (by decide) (by decide) (opW m []) A c f_size (.inr (.inl rfl)) (Nat.zero_le _) (byteR_empty _ A c)).mono ?_; rintro e w3 ⟨rv, ev, rfl, hf3, L3, hr3, hm3, hs3⟩; rw [EW.out] at hf3 hr3 hm3 hs3; obtain rfl := faultAt_nil hf3 rfl; obtain ⟨dv, nv, rfl, ho3, hp3, hox3, hpx3⟩ := hr3; obtain ⟨dA3, dc3, rfl⟩ := own_slice2 ho3; obtain ⟨nA3, nc3, rfl⟩ := own_slice2 hp3; unfold replyV; have HO3 := Lib.hid ho3; have HOX3 := Lib.hid hox3; have HS3 := Lib.hid hs3; have HM3 := Lib.hid hm3; have hlt3 : t < w3.heap.size := hs3.tree.lt; have HU3 : Hid (Upd (fun _ => False) w w3) := HS2.out.frame hm3 HU2.out; clear hf3 ho3 hp3 hox3 hpx3 hm3 hs3)
    | (go_at_call 15; have tk := tok5; clear tk tok5; refine (do_file ((HS3.out.upd ((Upd.refl _ _).alloc _))) (by decide) (by decide) (opR 0) none 0 f_size (.inl rfl) (Nat.zero_le _) (ByteR.nil _)).mono ?_; rintro e w5 ⟨rv, ev, rfl, hf5, L5, hr5, hm5, hs5⟩; rw [ER5.out] at hf5 hr5 hm5 hs5; obtain rfl := faultAt_nil hf5 rfl; obtain ⟨dv, nv, rfl, ho5, hp5, hox5, hpx5⟩ := hr5; obtain ⟨dA5, dc5, rfl⟩ := own_slice2 ho5; obtain ⟨nA5, nc5, rfl⟩ := own_slice2 hp5; unfold replyV; have HO5 := Lib.hid ho5; have HOX5 := Lib.hid hox5; have HS5 := Lib.hid hs5; have HM5 := Lib.hid hm5; have hlt5 : t < w5.heap.size := hs5.tree.lt; have HU5 : Hid (Upd (fun _ => False) w w5) := (HS3.out.upd ((Upd.refl _ _).alloc _)).frame hm5 (HU3.out.alloc _); obtain ⟨hz5, q2, q3⟩ := hm5.out (g := w3.heap.size) (by simp) (fun q => by have := HS3.out.tree.fplt _ q; omega); have HN5 := Lib.hid q2; have HR5 := Lib.hid (q3.trans (MapKept.heap_alloc w3 _).1); clear q2 q3; clear hf5 ho5 hp5 hox5 hpx5 hm5 hs5)
    | (go_at_call 15; have tk := tok6; clear tk tok6; refine (do_file (HS5.out.upd ((Upd.refl _ _).alloc _)) (by decide) (by decide) (opT n) none 0 f_size (.inr (.inr rfl)) (Nat.zero_le _) (ByteR.nil _)).mono ?_; rintro e w6 ⟨rv, ev, rfl, hf6, L6, hr6, hm6, hs6⟩; rw [ER6.out] at hf6 hr6 hm6 hs6; obtain rfl := faultAt_nil hf6 rfl; obtain ⟨dv, nv, rfl, ho6, hp6, hox6, hpx6⟩ := hr6; obtain ⟨dA6, dc6, rfl⟩ := own_slice2 ho6; obtain ⟨nA6, nc6, rfl⟩ := own_slice2 hp6; unfold replyV; have HO6 := Lib.hid ho6; have HOX6 := Lib.hid hox6; have HS6 := Lib.hid hs6; have HM6 := Lib.hid hm6; have hlt6 : t < w6.heap.size := hs6.tree.lt; have HU6 : Hid (Upd (fun _ => False) w w6) := (HS5.out.upd ((Upd.refl _ _).alloc _)).frame hm6 (HU5.out.alloc _); obtain ⟨hz6, q2, q3⟩ := hm6.out (g := w3.heap.size) (by simp; omega) HN5.out; have HN6 := Lib.hid q2; have HR6 := Lib.hid (q3.trans (heap_al HR5.out)); have HOA6 := Lib.hid (own_moves hm6 (own_alloc HO5.out _) HOX5.out); obtain ⟨hy6, q4, q5⟩ := hm6.out (g := w5.heap.size) (by simp) (fun q => by have := HS5.out.tree.fplt _ q; omega); have HM5N := Lib.hid q4; have HRA6 := Lib.hid (q5.trans (MapKept.heap_alloc w5 _).1); clear q2 q3 q4 q5; clear hf6 ho6 hp6 hox6 hpx6 hm6 hs6)
    | (go_at_call 15; have tk := tok7; clear tk tok7; refine (do_file (HS6.out.upd ((Upd.refl _ _).alloc _)) (by decide) (by decide) (opR k) none 0 f_size (.inl rfl) (Nat.zero_le _) (ByteR.nil _)).mono ?_; rintro e w7 ⟨rv, ev, rfl, hf7, L7, hr7, hm7, hs7⟩; rw [ER7.out] at hf7 hr7 hm7 hs7; obtain rfl := faultAt_nil hf7 rfl; obtain ⟨dv, nv, rfl, ho7, hp7, hox7, hpx7⟩ := hr7; obtain ⟨dA7, dc7, rfl⟩ := own_slice2 ho7; obtain ⟨nA7, nc7, rfl⟩ := own_slice2 hp7; unfold replyV; have HO7 := Lib.hid ho7; have HOX7 := Lib.hid hox7; have HS7 := Lib.hid hs7; have HM7 := Lib.hid hm7; have hlt7 : t < w7.heap.size := hs7.tree.lt; have HU7 : Hid (Upd (fun _ => False) w w7) := (HS6.out.upd ((Upd.refl _ _).alloc _)).frame hm7 (HU6.out.alloc _); obtain ⟨hz7, q2, q3⟩ := hm7.out (g := w3.heap.size) (by simp; omega) HN6.out; have r3 : w7.cell? ⟨w3.heap.size, 4, none⟩ = some (.int .i64 0) := (cell_of_heap (q3.trans (heap_al HR6.out)) 4).trans rfl; have HOA7 := Lib.hid (own_moves hm7 (own_alloc HOA6.out.1 _) HOA6.out.2); obtain ⟨hy7, q4, q5⟩ := hm7.out (g := w5.heap.size) (by simp; omega) HM5N.out; have r5 : w7.cell? ⟨w5.heap.size, 5, none⟩ = some (.slice dA5 0 dc5) := (cell_of_heap (q5.trans (heap_al HRA6.out)) 5).trans rfl; have hcv4 : ∀ X, (convert 22 9 (.slice none 0 0)).run Tryz.prog (w7.alloc X) = .ok (.string (strOfNums [])) (w7.alloc X) := fun X => conv_own (own_alloc (xs := nums8 []) (World.ownsRow_nil w7 0 _ _) X); have hcv5 : ∀ X, (convert 22 9 (.slice dA5 0 dc5)).run Tryz.prog (w7.alloc X) = .ok (.string (strOfNums [])) (w7.alloc X) := fun X => conv_own (xs := []) (own_alloc HOA7.out.1 X); clear q2 q3 q4 q5; clear hf7 ho7 hp7 hox7 hpx7 hm7 hs7)
    )
  have HGL : ∀ X, Hid (Glob (w7.alloc X)) := fun X => (HS7.out.upd ((Upd.refl _ _).alloc _)).glob
  have HGH := Lib.hid HGL
  have HUX : ∀ X, Hid (Upd (fun _ => False) w (w7.alloc X)) := fun X => HU7.out.alloc X
  have HUH := Lib.hid HUX
  clear HGL HUX hbl hcv4 hcv5 r3 r5 b1 b2 b4 b5 b6 b7
  go_loop [19] (fun x => ∃ i : Nat, i ≤ bd.length ∧ x = .int .i64 i) (fun x => bd.length - (intOf x).toNat)
  case atStart => exact ⟨0, by omega, rfl⟩
  case round =>
    obtain ⟨i, hi, rfl⟩ := hrel
    by_cases hil : i < bd.length
    · have hbl := HBL.out
      have hki : k + i < n := by omega
      have hget := HBD.out i hki
      obtain ⟨g7, rfl, hc7⟩ := own_cell HO7.out hil
      have hb7 : g7 < w7.heap.size := World.block_lt_of_cell? w7 _ hc7
      rw [hget] at hc7
      clear hget
      have hadd : IntKind.i64.wrap ((k : Int) + (i : Int)) = ((k + i : Nat) : Int) := by rw [IntKind.wrap_i64]; omega
      have hz : ([] : List Int).getD (k + i) 0 = 0 := rfl
      rw [hz] at hc7
      clear hz
      go_wp2
      go_round
      case rel => exact ⟨i + 1, by omega, by go_num⟩
      case measure => simp [intOf]; omega
    · have hie : i = bd.length := by omega
      subst hie
      go_wp2_with (go_at_call 13; refine (awake_calls _ (HGH.out _).out).mono ?_; rintro e w8 ⟨rfl, hu8⟩; have HU8 := Lib.hid hu8; clear hu8)
      go_ret
      exact ⟨rfl, (HUH.out _).out.trans HU8.out⟩
set_option maxRecDepth 100000 in
set_option maxHeartbeats 4000000 in
theorem bytes_out0 (w : World) (hg : Glob w) (off : Int) (A : Option Addr) (l c : Nat) (n k : Int) (h0 : (off < 0)) :
    Calls Tryz.prog 3 #[.int .i64 off, .slice A l c, .int .i64 n, .int .i64 k] w fun e w' => e = .returned (.bool true) ∧ Upd (fun _ => False) w w' := by
  have HG := Lib.hid hg
  have b0 : decide (off < 0) = true := decide_eq_true h0
  clear hg h0
  go_enter Tryz.func3, Tryz.ntmps3
  go_wp2_with (go_at_call 13; refine (awake_calls _ HG.out).mono ?_; rintro e w8 ⟨rfl, hu8⟩; have HU8 := Lib.hid hu8; clear hu8)
  go_ret
  exact ⟨rfl, HU8.out⟩
set_option maxRecDepth 100000 in
set_option maxHeartbeats 4000000 in
theorem bytes_out1 (w : World) (hg : Glob w) (off : Int) (A : Option Addr) (l c : Nat) (n k : Int) (h0 : ¬ (off < 0)) (h1 : (off > 600)) :
    Calls Tryz.prog 3 #[.int .i64 off, .slice A l c, .int .i64 n, .int .i64 k] w fun e w' => e = .returned (.bool true) ∧ Upd (fun _ => False) w w' := by
  have HG := Lib.hid hg
  have b0 : decide (off < 0) = false := decide_eq_false h0
  have b1 : decide (off > 600) = true := decide_eq_true h1
  clear hg h0 h1
  go_enter Tryz.func3, Tryz.ntmps3
  go_wp2_with (go_at_call 13; refine (awake_calls _ HG.out).mono ?_; rintro e w8 ⟨rfl, hu8⟩; have HU8 := Lib.hid hu8; clear hu8)
  go_ret
  exact ⟨rfl, HU8.out⟩
set_option maxRecDepth 100000 in
set_option maxHeartbeats 4000000 in
theorem bytes_out2 (w : World) (hg : Glob w) (off : Int) (A : Option Addr) (l c : Nat) (n k : Int) (h0 : ¬ (off < 0)) (h1 : ¬ (off > 600)) (h2 : ((l : Int) > 600)) :
    Calls Tryz.prog 3 #[.int .i64 off, .slice A l c, .int .i64 n, .int .i64 k] w fun e w' => e = .returned (.bool true) ∧ Upd (fun _ => False) w w' := by
  have HG := Lib.hid hg
  have b0 : decide (off < 0) = false := decide_eq_false h0
  have b1 : decide (off > 600) = false := decide_eq_false h1
  have b2 : decide ((l : Int) > 600) = true := decide_eq_true h2
  clear hg h0 h1 h2
  go_enter Tryz.func3, Tryz.ntmps3
  go_wp2_with (go_at_call 13; refine (awake_calls _ HG.out).mono ?_; rintro e w8 ⟨rfl, hu8⟩; have HU8 := Lib.hid hu8; clear hu8)
  go_ret
  exact ⟨rfl, HU8.out⟩
set_option maxRecDepth 100000 in
set_option maxHeartbeats 4000000 in
theorem bytes_out3 (w : World) (hg : Glob w) (off : Int) (A : Option Addr) (l c : Nat) (n k : Int) (h0 : ¬ (off < 0)) (h1 : ¬ (off > 600)) (h2 : ¬ ((l : Int) > 600)) (h3 : (n < 0)) :
    Calls Tryz.prog 3 #[.int .i64 off, .slice A l c, .int .i64 n, .int .i64 k] w fun e w' => e = .returned (.bool true) ∧ Upd (fun _ => False) w w' := by
  have HG := Lib.hid hg
  have b0 : decide (off < 0) = false := decide_eq_false h0
  have b1 : decide (off > 600) = false := decide_eq_false h1
  have b2 : decide ((l : Int) > 600) = false := decide_eq_false h2
  have b3 : decide (n < 0) = true := decide_eq_true h3
  clear hg h0 h1 h2 h3
  go_enter Tryz.func3, Tryz.ntmps3
  go_wp2_with (go_at_call 13; refine (awake_calls _ HG.out).mono ?_; rintro e w8 ⟨rfl, hu8⟩; have HU8 := Lib.hid hu8; clear hu8)
  go_ret
  exact ⟨rfl, HU8.out⟩
set_option maxRecDepth 100000 in
set_option maxHeartbeats 4000000 in
theorem bytes_out4 (w : World) (hg : Glob w) (off : Int) (A : Option Addr) (l c : Nat) (n k : Int) (h0 : ¬ (off < 0)) (h1 : ¬ (off > 600)) (h2 : ¬ ((l : Int) > 600)) (h3 : ¬ (n < 0)) (h4 : (n > 1500)) :
    Calls Tryz.prog 3 #[.int .i64 off, .slice A l c, .int .i64 n, .int .i64 k] w fun e w' => e = .returned (.bool true) ∧ Upd (fun _ => False) w w' := by
  have HG := Lib.hid hg
  have b0 : decide (off < 0) = false := decide_eq_false h0
  have b1 : decide (off > 600) = false := decide_eq_false h1
  have b2 : decide ((l : Int) > 600) = false := decide_eq_false h2
  have b3 : decide (n < 0) = false := decide_eq_false h3
  have b4 : decide (n > 1500) = true := decide_eq_true h4
  clear hg h0 h1 h2 h3 h4
  go_enter Tryz.func3, Tryz.ntmps3
  go_wp2_with (go_at_call 13; refine (awake_calls _ HG.out).mono ?_; rintro e w8 ⟨rfl, hu8⟩; have HU8 := Lib.hid hu8; clear hu8)
  go_ret
  exact ⟨rfl, HU8.out⟩
set_option maxRecDepth 100000 in
set_option maxHeartbeats 4000000 in
theorem bytes_out5 (w : World) (hg : Glob w) (off : Int) (A : Option Addr) (l c : Nat) (n k : Int) (h0 : ¬ (off < 0)) (h1 : ¬ (off > 600)) (h2 : ¬ ((l : Int) > 600)) (h3 : ¬ (n < 0)) (h4 : ¬ (n > 1500)) (h5 : (k < 0)) :
    Calls Tryz.prog 3 #[.int .i64 off, .slice A l c, .int .i64 n, .int .i64 k] w fun e w' => e = .returned (.bool true) ∧ Upd (fun _ => False) w w' := by
  have HG := Lib.hid hg
  have b0 : decide (off < 0) = false := decide_eq_false h0
  have b1 : decide (off > 600) = false := decide_eq_false h1
  have b2 : decide ((l : Int) > 600) = false := decide_eq_false h2
  have b3 : decide (n < 0) = false := decide_eq_false h3
  have b4 : decide (n > 1500) = false := decide_eq_false h4
  have b5 : decide (k < 0) = true := decide_eq_true h5
  clear hg h0 h1 h2 h3 h4 h5
  go_enter Tryz.func3, Tryz.ntmps3
  go_wp2_with (go_at_call 13; refine (awake_calls _ HG.out).mono ?_; rintro e w8 ⟨rfl, hu8⟩; have HU8 := Lib.hid hu8; clear hu8)
  go_ret
  exact ⟨rfl, HU8.out⟩
set_option maxRecDepth 100000 in
set_option maxHeartbeats 4000000 in
theorem bytes_out6 (w : World) (hg : Glob w) (off : Int) (A : Option Addr) (l c : Nat) (n k : Int) (h0 : ¬ (off < 0)) (h1 : ¬ (off > 600)) (h2 : ¬ ((l : Int) > 600)) (h3 : ¬ (n < 0)) (h4 : ¬ (n > 1500)) (h5 : ¬ (k < 0)) (h6 : (k > 2000)) :
    Calls Tryz.prog 3 #[.int .i64 off, .slice A l c, .int .i64 n, .int .i64 k] w fun e w' => e = .returned (.bool true) ∧ Upd (fun _ => False) w w' := by
  have HG := Lib.hid hg
  have b0 : decide (off < 0) = false := decide_eq_false h0
  have b1 : decide (off > 600) = false := decide_eq_false h1
  have b2 : decide ((l : Int) > 600) = false := decide_eq_false h2
  have b3 : decide (n < 0) = false := decide_eq_false h3
  have b4 : decide (n > 1500) = false := decide_eq_false h4
  have b5 : decide (k < 0) = false := decide_eq_false h5
  have b6 : decide (k > 2000) = true := decide_eq_true h6
  clear hg h0 h1 h2 h3 h4 h5 h6
  go_enter Tryz.func3, Tryz.ntmps3
  go_wp2_with (go_at_call 13; refine (awake_calls _ HG.out).mono ?_; rintro e w8 ⟨rfl, hu8⟩; have HU8 := Lib.hid hu8; clear hu8)
  go_ret
  exact ⟨rfl, HU8.out⟩

/-- The law's walk, at every input. -/
theorem bytes_law (w : World) (hg : Glob w) (off : Int) (d : List Int) (A : Option Addr) (c : Nat) (n k : Int) (hD : ByteR w (.slice A d.length c) d) :
    Calls Tryz.prog 3 #[.int .i64 off, .slice A d.length c, .int .i64 n, .int .i64 k] w fun e w' => e = .returned (.bool true) ∧ Upd (fun _ => False) w w' := by
  by_cases h0 : off < 0
  · exact bytes_out0 w hg off A d.length c n k h0
  by_cases h1 : off > 600
  · exact bytes_out1 w hg off A d.length c n k h0 h1
  by_cases h2 : (d.length : Int) > 600
  · exact bytes_out2 w hg off A d.length c n k h0 h1 h2
  by_cases h3 : n < 0
  · exact bytes_out3 w hg off A d.length c n k h0 h1 h2 h3
  by_cases h4 : n > 1500
  · exact bytes_out4 w hg off A d.length c n k h0 h1 h2 h3 h4
  by_cases h5 : k < 0
  · exact bytes_out5 w hg off A d.length c n k h0 h1 h2 h3 h4 h5
  by_cases h6 : k > 2000
  · exact bytes_out6 w hg off A d.length c n k h0 h1 h2 h3 h4 h5 h6
  obtain ⟨m, rfl⟩ := Int.eq_ofNat_of_zero_le (show 0 ≤ off by omega)
  obtain ⟨n, rfl⟩ := Int.eq_ofNat_of_zero_le (show 0 ≤ n by omega)
  obtain ⟨k, rfl⟩ := Int.eq_ofNat_of_zero_le (show 0 ≤ k by omega)
  cases d with
  | nil => exact bytes_none w hg m A c n k (by omega) (by omega) (by omega)
  | cons x d => exact bytes_some w hg m (x :: d) A c n k (by omega) (by omega) (by omega) (by omega) hD (by simp)
end Go.Proofs.YtggfepgablfbhaaGreatDoor
