/- tree.Do over a tree that fits, kind by kind. -/
import Derived.Test.YtggfepgablfbhaaGreatDoorDo
import Derived.Test.YtggfepgablfbhaaGreatDoorFit
import Derived.Test.YtggfepgablfbhaaGreatDoorNew
namespace Go.Proofs.YtggfepgablfbhaaGreatDoor
open Go.RowKit Go.Lib

/-- A tree in memory that fits, the library's variables beside it. -/
structure St (B : Nat) (w : World) (t bm : Nat) (L : Lay) (T : Tr) (a b : Nat) : Prop where
  tree : TreeAt w t bm L T
  fit : T.Fit a b
  glob : Glob w
  low : nG ≤ B
  base : ∀ g ∈ fpOf t bm L, B ≤ g
  old : B ≤ w.heap.size
theorem St.hlow {B : Nat} {w : World} {t bm : Nat} {L : Lay} {T : Tr} {a b : Nat} (h : St B w t bm L T a b) : ∀ k, k < nG → k ∉ fpOf t bm L := fun k hk q => by
  have := h.base k q; have := h.low; omega
theorem St.moves {B : Nat} {w w' : World} {t bm : Nat} {L L' : Lay} {T T' : Tr} {a b a' b' : Nat} (h : St B w t bm L T a b) (m : Moves w w' t bm L L' T') (f : T'.Fit a' b') : St B w' t bm L' T' a' b' :=
  ⟨m.tree, f, h.glob.upd m.upd h.hlow, h.low, fun g q => by
    rcases m.fp g q with q | q
    · exact h.base g q
    · have := h.old; omega, Nat.le_trans h.old m.upd.size⟩
theorem St.upd {B : Nat} {w w' : World} {t bm : Nat} {L : Lay} {T : Tr} {a b : Nat} (h : St B w t bm L T a b) (hu : Upd (fun _ => False) w w') : St B w' t bm L T a b :=
  ⟨h.tree.upd hu (fun _ _ => id), h.fit, h.glob.upd hu (fun _ _ => id), h.low, h.base, Nat.le_trans h.old hu.size⟩
theorem St.upd2 {B : Nat} {F : Nat → Prop} {w w' : World} {t bm : Nat} {L : Lay} {T : Tr} {a b : Nat} (h : St B w t bm L T a b) (hu : Upd F w w') (hF : ∀ g, F g → g ∉ fpOf t bm L ∧ B ≤ g) : St B w' t bm L T a b :=
  ⟨h.tree.upd hu (fun g q e => (hF g e).1 q), h.fit, h.glob.upd hu (fun k hk q => by have := (hF k q).2; have := h.low; omega), h.low, h.base, Nat.le_trans h.old hu.size⟩
theorem St.frame {W0 w w' : World} {t bm : Nat} {L L' : Lay} {T T' : Tr} {a b : Nat} (h : St W0.heap.size w t bm L T a b) (m : Moves w w' t bm L L' T') (hu : Upd (fun _ => False) W0 w) : Upd (fun _ => False) W0 w' :=
  hu.then_new m.upd h.base
/-- A block that is not the tree's stays so, and as it is. -/
theorem Moves.out {w w' : World} {t bm : Nat} {L L' : Lay} {T' : Tr} (m : Moves w w' t bm L L' T') {g : Nat} (hg : g < w.heap.size) (hf : g ∉ fpOf t bm L) : g < w'.heap.size ∧ g ∉ fpOf t bm L' ∧ w'.heap[g]? = w.heap[g]? :=
  ⟨Nat.lt_of_lt_of_le hg m.upd.size, fun q => by
    rcases m.fp g q with q | q
    · exact hf q
    · omega, m.upd.block g hg hf⟩

/-- What Do hands back, and the tree behind it. -/
def DoS (B : Nat) (w : World) (t bm : Nat) (L : Lay) (a b : Nat) (path : ByteArray) (r : Int × RepV × Tr) (e : Ending) (w' : World) : Prop :=
  ∃ rv ev, e = .returned (.tuple #[rv, ev]) ∧ FaultAt w' ev treeS path r.1 ∧ ∃ L', ReplyAt w' w.heap.size rv r.2.1 (· ∈ fpOf t bm L') ∧ Moves w w' t bm L L' r.2.2 ∧ St B w' t bm L' r.2.2 a b
theorem DoR.st {B : Nat} {w : World} {t bm : Nat} {L : Lay} {T : Tr} {a b a' b' : Nat} (h : St B w t bm L T a b) {path : ByteArray} {r : Int × RepV × Tr} {e : Ending} {w' : World} (d : DoR w t bm L path r e w') (f : r.2.2.Fit a' b') : DoS B w t bm L a' b' path r e w' := by
  obtain ⟨rv, ev, h1, h2, L', h3, h4⟩ := d
  exact ⟨rv, ev, h1, h2, L', h3, h4, h.moves h4 f⟩

def Tr.createR (T : Tr) (o : OpV) : Int × RepV × Tr := ((T.create o).1, { zeroRep with ino := (T.create o).2.1 }, (T.create o).2.2)
theorem create_zero {T : Tr} {o : OpV} (h : (T.create o).1 ≠ 0) : (T.create o).2 = (0, T) := by
  unfold Tr.create at h ⊢
  repeat' split
  all_goals first
    | rfl
    | (exfalso; simp_all)
theorem create_rep {B : Nat} {w : World} {t bm : Nat} {L : Lay} {T : Tr} {a b : Nat} (h : St B w t bm L T a b) (ha : a ≤ 1099511627776) (hb : b ≤ 4000) (o : OpV) (A : Option Addr) (c : Nat) (hp : o.path.size ≤ 9223372036854775807) (W : World) (hu : Upd (fun _ => False) w W) :
    Calls Tryz.prog 40 #[.pointer (some ⟨t, 0, none⟩), .agg (opCells o A c)] W (RepR W t bm L (T.createR o)) := by
  have hW := h.upd hu
  by_cases hce : (T.create o).1 = 0
  · refine (create_ok W t bm L T hW.tree (hW.fit.ok ha hb) o A c hp hW.glob hce).mono ?_
    rintro e w' ⟨rfl, L', hm⟩
    refine ⟨_, by rw [show (T.createR o).1 = 0 from hce]; rfl, L', ⟨nilS, nilS, rfl, World.ownsRow_nil _ _ _ _, World.ownsRow_nil _ _ _ _, fun g q => (by cases q), fun g q => (by cases q)⟩, hm⟩
  · refine (create_err W t bm L T hW.tree (hW.fit.ok ha hb) o A c hp hW.glob hce).mono ?_
    rintro e w' ⟨rfl, hu2⟩
    have hz := create_zero hce
    refine ⟨_, rfl, L, ?_, ?_⟩
    · rw [show (T.createR o).2.1 = zeroRep by unfold Tr.createR; rw [hz]; rfl]
      exact ReplyAt.zero _ _ _
    · rw [show (T.createR o).2.2 = T by unfold Tr.createR; rw [hz]]
      exact Moves.refl hW.tree hu2
theorem do_create {B : Nat} {w : World} {t bm : Nat} {L : Lay} {T : Tr} {a b : Nat} (h : St B w t bm L T a b) (ha : a ≤ 1099511627776) (hb : b ≤ 4000) (o : OpV) (A : Option Addr) (c : Nat) (hp : o.path.size ≤ 9223372036854775807) (hk : o.kind = 1 ∨ o.kind = 2) :
    Calls Tryz.prog 15 #[.pointer (some ⟨t, 0, none⟩), .agg (opCells o A c)] w (DoS B w t bm L (a + 1) (b + 1) o.path (T.createR o)) := by
  have hz : (T.createR o).1 ≠ 0 → (T.createR o).2.1 = zeroRep := fun q => by unfold Tr.createR; rw [create_zero q]; rfl
  rcases hk with hk | hk
  · exact (do_create1 w t bm L T h.tree o A c hk _ hz (create_rep h ha hb o A c hp)).mono fun e w' d => d.st h (h.fit.create o)
  · exact (do_create2 w t bm L T h.tree o A c hk _ hz (create_rep h ha hb o A c hp)).mono fun e w' d => d.st h (h.fit.create o)

theorem file_rep {B : Nat} {w : World} {t bm : Nat} {L : Lay} {T : Tr} {a b : Nat} (h : St B w t bm L T a b) (ha : a ≤ 1099511627776) (hb : b ≤ 4000) (o : OpV) (A : Option Addr) (c : Nat) (hp : o.path.size ≤ 9223372036854775807) (hk : o.kind = 7 ∨ o.kind = 8 ∨ o.kind = 9) (hlen : o.data.length ≤ 1000000) (hD : ByteR w (.slice A o.data.length c) o.data) (W : World) (hu : Upd (fun _ => False) w W) :
    Calls Tryz.prog 44 #[.pointer (some ⟨t, 0, none⟩), .agg (opCells o A c)] W (RepR W t bm L (T.file o)) := by
  have hW := h.upd hu
  exact file_calls W t bm L T hW.tree (hW.fit.ok ha hb) o A c hp hW.glob hW.fit.small hk hlen (hD.upd hu)
theorem do_file {B : Nat} {w : World} {t bm : Nat} {L : Lay} {T : Tr} {a b : Nat} (h : St B w t bm L T a b) (ha : a ≤ 1099511627776) (hb : b ≤ 4000) (o : OpV) (A : Option Addr) (c : Nat) (hp : o.path.size ≤ 9223372036854775807) (hk : o.kind = 7 ∨ o.kind = 8 ∨ o.kind = 9) (hlen : o.data.length ≤ 1000000) (hD : ByteR w (.slice A o.data.length c) o.data) :
    Calls Tryz.prog 15 #[.pointer (some ⟨t, 0, none⟩), .agg (opCells o A c)] w (DoS B w t bm L a b o.path (T.file o)) := by
  have hz : (T.file o).1 ≠ 0 → (T.file o).2.1 = zeroRep := fun q => by rw [file_zero q]
  have hc := file_rep h ha hb o A c hp hk hlen hD
  rcases hk with hk | hk | hk
  · exact (do_file7 w t bm L T h.tree o A c hk _ hz hc).mono fun e w' d => d.st h (h.fit.file_ o)
  · exact (do_file8 w t bm L T h.tree o A c hk _ hz hc).mono fun e w' d => d.st h (h.fit.file_ o)
  · exact (do_file9 w t bm L T h.tree o A c hk _ hz hc).mono fun e w' d => d.st h (h.fit.file_ o)

theorem remove_rep {B : Nat} {w : World} {t bm : Nat} {L : Lay} {T : Tr} {a b : Nat} (h : St B w t bm L T a b) (ha : a ≤ 1099511627776) (hb : b ≤ 4000) (o : OpV) (A : Option Addr) (c : Nat) (hp : o.path.size ≤ 9223372036854775807) (hk : o.kind = 3 ∨ o.kind = 4) (W : World) (hu : Upd (fun _ => False) w W) :
    Calls Tryz.prog 41 #[.pointer (some ⟨t, 0, none⟩), .agg (opCells o A c)] W (ErrR W t bm L ((T.remove o).1, zeroRep, (T.remove o).2)) := by
  have hW := h.upd hu
  exact remove_calls W t bm L T hW.tree (hW.fit.ok ha hb) o A c hk hp hW.glob
theorem do_remove {B : Nat} {w : World} {t bm : Nat} {L : Lay} {T : Tr} {a b : Nat} (h : St B w t bm L T a b) (ha : a ≤ 1099511627776) (hb : b ≤ 4000) (o : OpV) (A : Option Addr) (c : Nat) (hp : o.path.size ≤ 9223372036854775807) (hk : o.kind = 3 ∨ o.kind = 4) :
    Calls Tryz.prog 15 #[.pointer (some ⟨t, 0, none⟩), .agg (opCells o A c)] w (DoS B w t bm L a b o.path ((T.remove o).1, zeroRep, (T.remove o).2)) := by
  have hc := remove_rep h ha hb o A c hp hk
  rcases hk with hk | hk
  · exact (do_remove3 w t bm L T h.tree o A c hk _ (fun _ => rfl) rfl hc).mono fun e w' d => d.st h (h.fit.remove o)
  · exact (do_remove4 w t bm L T h.tree o A c hk _ (fun _ => rfl) rfl hc).mono fun e w' d => d.st h (h.fit.remove o)
theorem do_link {B : Nat} {w : World} {t bm : Nat} {L : Lay} {T : Tr} {a b : Nat} (h : St B w t bm L T a b) (ha : a ≤ 1099511627776) (hb : b ≤ 4000) (o : OpV) (A : Option Addr) (c : Nat) (hp : o.path.size ≤ 9223372036854775807) (hq : o.dest.size ≤ 9223372036854775807) (hk : o.kind = 6) :
    Calls Tryz.prog 15 #[.pointer (some ⟨t, 0, none⟩), .agg (opCells o A c)] w (DoS B w t bm L a (b + 1) o.path ((T.link o).1, zeroRep, (T.link o).2)) := by
  refine (do_link6 w t bm L T h.tree o A c hk ((T.link o).1, zeroRep, (T.link o).2) (fun _ => rfl) rfl ?_).mono fun e w' d => d.st h (h.fit.link o)
  intro W hu
  have hW := h.upd hu
  exact link_calls W t bm L T hW.tree (hW.fit.ok ha hb) o A c hp hq hW.glob
end Go.Proofs.YtggfepgablfbhaaGreatDoor
