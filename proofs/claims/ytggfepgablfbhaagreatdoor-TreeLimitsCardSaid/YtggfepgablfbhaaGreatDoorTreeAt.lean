/- What a tree is, and how it lies in memory. -/
import Derived.Test.YtggfepgablfbhaaGreatDoorProg
import Derived.Test.YtggfepgablfbhaaGreatDoorBase
import Derived.Deep.RegionHeld3
import Derived.Deep.LoopGhost
import Derived.WalkSpells
import Derived.StillTailTactics
import Derived.BigQuiet
namespace Go.Proofs.YtggfepgablfbhaaGreatDoor
open Go.RowKit

/-- An inode: 1 a file with bytes, 2 a directory with names. -/
structure Nd where
  kind : Int
  data : List Int
  names : List (ByteArray × Int)

/-- A tree. -/
structure Tr where
  nodes : List (Int × Nd)
  next : Int

/-- Where an inode lies: its block, its bytes (and their block), its names' block. -/
structure NL where
  blk : Nat
  dv : Value
  db : Option Nat
  mb : Option Nat

def NL.fp (x : NL) : List Nat := x.blk :: (x.db.toList ++ x.mb.toList)
def nums8 (xs : List Int) : List Value := xs.map fun x => .int .u8 x
abbrev encI : Int → Value := fun n => .int .i64 n
abbrev encS : ByteArray → Value := fun s => .string s

def BytesAt (w : World) (v : Value) (db : Option Nat) (bs : List Int) : Prop :=
  (bs = [] ∧ db = none ∧ ∃ A c, v = .slice A 0 c) ∨ (∃ g c, db = some g ∧ bs ≠ [] ∧ v = .slice (some ⟨g, 0, none⟩) bs.length c ∧ w.ownsRow 0 5 1 v bs.length (nums8 bs))

def NamesAt (w : World) (mb : Option Nat) (l : List (ByteArray × Int)) : Prop :=
  match mb with
  | none => l = []
  | some b => MapIs w encS b (l.map fun p => (p.1, Value.int .i64 p.2)) ∧ (l.map (·.1)).Nodup

structure NodeAt (w : World) (x : NL) (n : Nd) : Prop where
  cells : w.heap[x.blk]? = some (.cells #[.int .i64 n.kind, x.dv, .map x.mb] 75 (0, 0))
  bytes : BytesAt w x.dv x.db n.data
  names : NamesAt w x.mb n.names
  dir : n.kind = 2 → x.mb ≠ none

/-- What stands in the tree: numbers, places, inodes. -/
abbrev Lay := List (Int × (NL × Nd))
def ptrs (L : Lay) : List (Int × Value) := L.map fun p => (p.1, .pointer (some ⟨p.2.1.blk, 0, none⟩))
def Lay.nodes (L : Lay) : List (Int × Nd) := L.map fun p => (p.1, p.2.2)
def fpOf (t bm : Nat) (L : Lay) : List Nat := t :: bm :: L.flatMap (·.2.1.fp)

structure TreeAt (w : World) (t : Nat) (bm : Nat) (L : Lay) (T : Tr) : Prop where
  cells : w.heap[t]? = some (.cells #[.map (some bm), .int .i64 T.next] 65 (0, 0))
  map : MapIs w encI bm (ptrs L)
  keys : (L.map (·.1)).Nodup
  at_ : ∀ p ∈ L, NodeAt w p.2.1 p.2.2
  nodes : T.nodes = L.nodes
  apart : (fpOf t bm L).Nodup

theorem cell_of_heap {w : World} {b : Nat} {cs : Array Value} {e : TypeId} {fz : Nat × Nat} (h : w.heap[b]? = some (.cells cs e fz)) (i : Nat) : w.cell? ⟨b, i, none⟩ = cs[i]? := by simp [World.cell?, h]
theorem frozen_of_heap {w : World} {b : Nat} {cs : Array Value} {e : TypeId} (h : w.heap[b]? = some (.cells cs e (0, 0))) (i : Nat) : w.frozen? ⟨b, i, none⟩ = false := by simp [World.frozen?, h]
theorem lt_of_heap {w : World} {b : Nat} {o : Obj} (h : w.heap[b]? = some o) : b < w.heap.size := (Array.getElem?_eq_some_iff.1 h).1

theorem look_map {κ α β : Type} [DecidableEq κ] (f : α → β) (k : κ) : ∀ l : List (κ × α), look k (l.map fun p => (p.1, f p.2)) = (look k l).map f
  | [] => rfl
  | p :: l => by
    simp only [List.map_cons, look]
    split
    · rfl
    · exact look_map f k l
theorem keys_map {κ α β : Type} (f : α → β) (l : List (κ × α)) : (l.map fun p => (p.1, f p.2)).map (·.1) = l.map (·.1) := by simp [List.map_map, Function.comp_def]

theorem TreeAt.lt {w : World} {t bm : Nat} {L : Lay} {T : Tr} (h : TreeAt w t bm L T) : t < w.heap.size := lt_of_heap h.cells
theorem TreeAt.node {w : World} {t bm : Nat} {L : Lay} {T : Tr} (h : TreeAt w t bm L T) {k : Int} {n : Nd} (hk : look k T.nodes = some n) : ∃ x, look k L = some (x, n) ∧ NodeAt w x n ∧ look k (ptrs L) = some (.pointer (some ⟨x.blk, 0, none⟩)) := by
  rw [h.nodes, Lay.nodes, look_map (fun x : NL × Nd => x.2)] at hk
  cases g : look k L with
  | none => rw [g] at hk; cases hk
  | some x =>
    rw [g] at hk
    cases hk
    refine ⟨x.1, rfl, h.at_ _ (look_mem g), ?_⟩
    unfold ptrs
    rw [look_map (fun x : NL × Nd => Value.pointer (some ⟨x.1.blk, 0, none⟩)), g]
    rfl
theorem TreeAt.pkeys {w : World} {t bm : Nat} {L : Lay} {T : Tr} (h : TreeAt w t bm L T) : ((ptrs L).map (·.1)).Nodup := by
  unfold ptrs
  rw [keys_map (fun x : NL × Nd => Value.pointer (some ⟨x.1.blk, 0, none⟩))]
  exact h.keys
end Go.Proofs.YtggfepgablfbhaaGreatDoor
