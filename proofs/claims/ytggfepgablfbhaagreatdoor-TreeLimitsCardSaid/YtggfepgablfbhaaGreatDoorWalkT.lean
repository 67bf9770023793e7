/- The walk of tree.walk. -/
import Derived.Test.YtggfepgablfbhaaGreatDoorTreeAt
namespace Go.Proofs.YtggfepgablfbhaaGreatDoor
open Go.RowKit

/-- An error of these packages: none, or a number. -/
def errV (c : Int) : Value := if c = 0 then .nilIface else .iface 77 (.int .i64 c)

/-- A slice of strings that reads as l. -/
def StrsAt (w : World) (A : Option Addr) (l : List ByteArray) : Prop :=
  l.length ≤ 9223372036854775807 ∧ (l ≠ [] → ∃ b o, A = some ⟨b, o, none⟩ ∧ b < w.heap.size ∧ ∀ i, i < l.length → w.cell? ⟨b, o + i, none⟩ = some (.string (l.getD i ⟨#[]⟩)))

def Tr.total (T : Tr) : Nat := (T.nodes.map fun p => p.2.names.length).sum
structure Tr.Ok (T : Tr) : Prop where
  pos : ∀ k n, look k T.nodes = some n → 1 ≤ k ∧ k < T.next
  next : 2 ≤ T.next ∧ T.next ≤ 1099511627776
  tot : T.total ≤ 4000
  few : T.nodes.length ≤ 60
  root : ∃ n, look 1 T.nodes = some n ∧ n.kind = 2
  kind : ∀ k n, look k T.nodes = some n → n.kind = 1 ∨ n.kind = 2
  file : ∀ k n, look k T.nodes = some n → n.kind = 1 → n.names = []
  closed : ∀ k n, look k T.nodes = some n → ∀ s j, look s n.names = some j → ∃ m, look j T.nodes = some m

def Tr.walk (T : Tr) : Int → List ByteArray → Int × Int
  | k, [] => (k, 0)
  | k, s :: l => match look k T.nodes with
    | none => (0, 5)
    | some n => if n.kind = 1 then (0, 8) else match look s n.names with
      | none => (0, 5)
      | some j => T.walk j l

theorem zero72 (w : World) : (zeroValue 72).run Tryz.prog w = .ok (.pointer none) w := by kernel_rfl
theorem zero3 (w : World) : (zeroValue 3).run Tryz.prog w = .ok (.int .i64 0) w := by kernel_rfl

set_option maxHeartbeats 1000000 in
theorem walk_calls (w : World) (t bm : Nat) (L : Lay) (T : Tr) (hT : TreeAt w t bm L T) (ok : T.Ok) (A : Option Addr) (c : Nat) (l : List ByteArray) (hl : StrsAt w A l) :
    Calls Tryz.prog 48 #[.pointer (some ⟨t, 0, none⟩), .slice A l.length c] w fun e w' => e = .returned (.tuple #[.int .i64 (T.walk 1 l).1, errV (T.walk 1 l).2]) ∧ w = w' := by
  have hlt := hT.lt
  have c0 : w.cell? ⟨t, 0, none⟩ = some (.map (some bm)) := (cell_of_heap hT.cells 0).trans rfl
  have hlen : l.length ≤ 9223372036854775807 := hl.1
  have HT := Lib.hid hT
  have HO := Lib.hid ok
  have HL := Lib.hid hl
  clear hT ok hl
  go_enter Tryz.func48, Tryz.ntmps48
  go_wp2
  go_loop [6, 13] (fun x i => ∃ (k : Nat) (ino : Int), k ≤ l.length ∧ i = .int .i64 k ∧ x = .int .i64 ino ∧ Hid (T.walk 1 l = T.walk ino (l.drop k) ∧ ∃ n, look ino T.nodes = some n)) (fun _ i => l.length - (intOf i).toNat)
  case atStart =>
    obtain ⟨n, hn, _⟩ := HO.out.root
    exact ⟨0, 1, by omega, rfl, rfl, rfl, n, hn⟩
  case round =>
    obtain ⟨k, ino, hk, rfl, rfl, HW⟩ := hrel
    by_cases hlt2 : k < l.length
    · obtain ⟨hw, n, hn⟩ := HW.out
      obtain ⟨x, hx, hna, hp⟩ := HT.out.node hn
      have hdrop : l.drop k = l.getD k ⟨#[]⟩ :: l.drop (k + 1) := by
        rw [List.drop_eq_getElem_cons hlt2, List.getD_eq_getElem?_getD, List.getElem?_eq_getElem hlt2]; rfl
      rw [hdrop] at hw
      obtain ⟨b, o, rfl, hb, hcs⟩ := HL.out.2 (by rintro rfl; simp at hlt2)
      have hcell := hcs k hlt2
      clear hcs
      generalize hs : l.getD k ⟨#[]⟩ = s at hw hcell
      have hxb : x.blk < w.heap.size := lt_of_heap hna.cells
      have n0 : w.cell? ⟨x.blk, 0, none⟩ = some (.int .i64 n.kind) := (cell_of_heap hna.cells 0).trans rfl
      have n2 : w.cell? ⟨x.blk, 2, none⟩ = some (.map x.mb) := (cell_of_heap hna.cells 2).trans rfl
      simp only [Tr.walk, hn] at hw
      have HN := Lib.hid hna
      have HP := Lib.hid hp
      have HN2 := Lib.hid hn
      clear hna hp hdrop hx hs hn
      by_cases hkd : n.kind = 1
      · have e1 : (n.kind == 1) = true := beq_iff_eq.2 hkd
        rw [if_pos hkd] at hw
        have HW2 := Lib.hid hw
        clear hw hkd
        go_wp2_with (first
          | (at_lookup; refine wpl_lookup w HT.out.map KeyOk.int HT.out.pkeys rfl _ _ 63 rfl Tryz.underlying63 Tryz.underlying3 (.pointer none) (zero72 w) rfl ino rfl (.pointer (some ⟨x.blk, 0, none⟩)) (by rw [HP.out]; rfl) ?_))
        go_ret2
        rw [HW2.out]
        exact ⟨rfl, rfl⟩
      · have e1 : (n.kind == 1) = false := beq_eq_false_iff_ne.2 hkd
        rw [if_neg hkd] at hw
        have hk2 : n.kind = 2 := (HO.out.kind _ _ HN2.out).resolve_left hkd
        obtain ⟨mb, hmb⟩ := Option.ne_none_iff_exists'.1 (HN.out.dir hk2)
        have hnm := HN.out.names
        rw [hmb] at n2 hnm
        have HM := Lib.hid hnm
        clear hkd hk2 hmb hnm
        cases hj : look s n.names with
        | none =>
          rw [hj] at hw
          have HW2 := Lib.hid hw
          have HJ := Lib.hid hj
          clear hw hj
          go_wp2_with (first
            | (at_lookup; refine wpl_lookup w HT.out.map KeyOk.int HT.out.pkeys rfl _ _ 63 rfl Tryz.underlying63 Tryz.underlying3 (.pointer none) (zero72 w) rfl ino rfl (.pointer (some ⟨x.blk, 0, none⟩)) (by rw [HP.out]; rfl) ?_)
            | (at_lookup; refine wpl_lookup_ok w HM.out.1 KeyOk.string (by rw [keys_map]; exact HM.out.2) rfl _ _ 73 rfl Tryz.underlying73 Tryz.underlying9 (.int .i64 0) (zero3 w) rfl s rfl (.int .i64 0) false (by rw [look_map, HJ.out]; rfl) (by rw [look_map, HJ.out]; rfl) ?_))
          go_ret2
          rw [HW2.out]
          exact ⟨rfl, rfl⟩
        | some j =>
          rw [hj] at hw
          have hm := HO.out.closed _ _ HN2.out _ _ hj
          have HW2 := Lib.hid hw
          have HJ := Lib.hid hj
          have HMM := Lib.hid hm
          clear hw hj hm
          go_wp2_with (first
            | (at_lookup; refine wpl_lookup w HT.out.map KeyOk.int HT.out.pkeys rfl _ _ 63 rfl Tryz.underlying63 Tryz.underlying3 (.pointer none) (zero72 w) rfl ino rfl (.pointer (some ⟨x.blk, 0, none⟩)) (by rw [HP.out]; rfl) ?_)
            | (at_lookup; refine wpl_lookup_ok w HM.out.1 KeyOk.string (by rw [keys_map]; exact HM.out.2) rfl _ _ 73 rfl Tryz.underlying73 Tryz.underlying9 (.int .i64 0) (zero3 w) rfl s rfl (.int .i64 j) true (by rw [look_map, HJ.out]; rfl) (by rw [look_map, HJ.out]; rfl) ?_))
          go_round
          case rel => exact ⟨k + 1, j, by omega, by go_num, rfl, HW2.out, HMM.out⟩
          case measure => simp [intOf]; omega
    · go_wp2
      go_ret2
      have : k = l.length := by omega
      subst this
      have h := HW.out.1
      rw [List.drop_length] at h
      rw [h]
      exact ⟨rfl, rfl⟩
end Go.Proofs.YtggfepgablfbhaaGreatDoor
