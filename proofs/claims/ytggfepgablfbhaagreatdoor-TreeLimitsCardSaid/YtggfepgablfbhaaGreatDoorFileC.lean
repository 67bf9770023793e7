/- tree.file, in one contract. -/
import Derived.Test.YtggfepgablfbhaaGreatDoorFile5
namespace Go.Proofs.YtggfepgablfbhaaGreatDoor
open Go.RowKit Go.Lib

theorem file_zero {T : Tr} {o : OpV} (h : (T.file o).1 ≠ 0) : (T.file o).2 = (zeroRep, T) := by
  unfold Tr.file at h ⊢
  split
  · rfl
  · rename_i h1
    rw [if_neg h1] at h
    split
    · rfl
    · rename_i x hx
      rw [hx] at h
      simp only at h
      repeat' split
      all_goals first
        | rfl
        | (exfalso; simp_all)

theorem file_calls (w : World) (t bm : Nat) (L : Lay) (T : Tr) (hT : TreeAt w t bm L T) (ok : T.Ok) (o : OpV) (A : Option Addr) (c : Nat) (hp : o.path.size ≤ 9223372036854775807) (hg : Glob w) (hsm : T.Small) (hk : o.kind = 7 ∨ o.kind = 8 ∨ o.kind = 9) (hlen : o.data.length ≤ 1000000) (hD : ByteR w (.slice A o.data.length c) o.data) :
    Calls Tryz.prog 44 #[.pointer (some ⟨t, 0, none⟩), .agg (opCells o A c)] w fun e w' => ∃ rv, e = .returned (.tuple #[rv, errV (T.file o).1]) ∧ ∃ L', ReplyAt w' w.heap.size rv (T.file o).2.1 (· ∈ fpOf t bm L') ∧ Moves w w' t bm L L' (T.file o).2.2 := by
  by_cases hce : (T.file o).1 ≠ 0
  · refine (file_err w t bm L T hT ok o A c hp hg hk hlen hce).mono ?_
    rintro e w' ⟨rfl, hu⟩
    rw [file_zero hce]
    exact ⟨_, rfl, L, .zero _ _ _, Moves.refl hT hu⟩
  · have h0 : (T.file o).1 = 0 := by simpa using hce
    have ha0 : (T.find o.path).2 = 0 := by
      rcases Decidable.em ((T.find o.path).2 = 0) with q | q
      · exact q
      · unfold Tr.file at h0; rw [if_pos q] at h0; exact absurd h0 q
    obtain ⟨n, hn⟩ := find_ok ok ha0
    have hP : T.file o = if n.kind = 2 then (7, zeroRep, T) else
      if o.kind = 7 then (if o.off < 0 ∨ o.n < 0 then (12, zeroRep, T) else (0, { zeroRep with data := (n.data.drop o.off.toNat).take o.n.toNat }, T))
      else if o.kind = 8 then (if o.off < 0 ∨ o.off > 2000 ∨ (o.data.length : Int) > 2000 - o.off then (12, zeroRep, T) else if o.data = [] then (0, zeroRep, T) else (0, { zeroRep with n := o.data.length }, T.setData (T.find o.path).1 n (splice (sizedL n.data (max n.data.length (o.off.toNat + o.data.length))) o.off.toNat o.data)))
      else (if o.n < 0 ∨ o.n > 2000 then (12, zeroRep, T) else (0, zeroRep, T.setData (T.find o.path).1 n (sizedL n.data o.n.toNat))) := by unfold Tr.file; rw [if_neg (by simpa using ha0), hn]
    have hk2 : n.kind ≠ 2 := fun q => by rw [hP, if_pos q] at h0; simp at h0
    rw [if_neg hk2] at hP
    rcases hk with hk | hk | hk
    · rw [if_pos hk] at hP
      have hb : ¬ (o.off < 0 ∨ o.n < 0) := fun q => by rw [hP, if_pos q] at h0; simp at h0
      rw [if_neg hb] at hP
      refine (file_read w t bm L T hT ok o A c hp hg hsm hk h0 ha0 (by omega) (by omega) n hn hk2).mono ?_
      rintro e w' ⟨rv, rfl, hr, hu⟩
      rw [hP]
      exact ⟨rv, rfl, L, hr, Moves.refl hT hu⟩
    · rw [if_neg (by omega), if_pos hk] at hP
      have hb : ¬ (o.off < 0 ∨ o.off > 2000 ∨ (o.data.length : Int) > 2000 - o.off) := fun q => by rw [hP, if_pos q] at h0; simp at h0
      rw [if_neg hb] at hP
      by_cases hd : o.data = []
      · rw [if_pos hd] at hP
        refine (file_nought w t bm L T hT ok o A c hp hg hsm hk ha0 (by omega) (by omega) n hn hk2 hd).mono ?_
        rintro e w' ⟨rfl, hu⟩
        rw [hP]
        exact ⟨_, rfl, L, .zero _ _ _, Moves.refl hT hu⟩
      · rw [if_neg hd] at hP
        refine (file_write w t bm L T hT ok o A c hp hg hsm hk ha0 (by omega) (by omega) n hn hk2 hd hD).mono ?_
        rintro e w' ⟨rfl, L', hm⟩
        rw [hP]
        exact ⟨_, rfl, L', ⟨nilS, nilS, rfl, World.ownsRow_nil _ _ _ _, World.ownsRow_nil _ _ _ _, fun g q => (by cases q), fun g q => (by cases q)⟩, hm⟩
    · rw [if_neg (by omega), if_neg (by omega)] at hP
      have hb : ¬ (o.n < 0 ∨ o.n > 2000) := fun q => by rw [hP, if_pos q] at h0; simp at h0
      rw [if_neg hb] at hP
      refine (file_trunc w t bm L T hT ok o A c hp hg hsm hk ha0 (by omega) (by omega) n hn hk2).mono ?_
      rintro e w' ⟨rfl, L', hm⟩
      rw [hP]
      exact ⟨_, rfl, L', .zero _ _ _, hm⟩
#print axioms file_calls
end Go.Proofs.YtggfepgablfbhaaGreatDoor
