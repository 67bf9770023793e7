/- Walks of place.ino, tree.drop, tree.parents. -/
import Derived.Test.YtggfepgablfbhaaGreatDoorMut
namespace Go.Proofs.YtggfepgablfbhaaGreatDoor
open Go.RowKit

def Nd.at_ (n : Nd) (s : ByteArray) : Int := (look s n.names).getD 0

theorem TreeAt.mb {w : World} {t bm : Nat} {L : Lay} {T : Tr} (h : TreeAt w t bm L T) {k : Int} {x : NL} {n : Nd} (hx : look k L = some (x, n)) (hk : n.kind = 2) : ∃ b, x.mb = some b ∧ MapIs w encS b (n.names.map fun p => (p.1, Value.int .i64 p.2)) ∧ (n.names.map (·.1)).Nodup := by
  have hna := h.at_ _ (look_mem hx)
  obtain ⟨b, hb⟩ := Option.ne_none_iff_exists'.1 (hna.dir hk)
  have h2 := hna.names
  rw [hb] at h2
  exact ⟨b, hb, h2⟩

set_option maxRecDepth 100000 in
set_option maxHeartbeats 1000000 in
theorem ino_calls (w : World) (t bm : Nat) (L : Lay) (T : Tr) (hT : TreeAt w t bm L T) (k : Int) (x : NL) (n : Nd) (hx : look k L = some (x, n)) (hk : n.kind = 2) (s : ByteArray) :
    Calls Tryz.prog 65 #[.agg #[.pointer (some ⟨x.blk, 0, none⟩), .string s]] w fun e w' => e = .returned (.int .i64 (n.at_ s)) ∧ Upd (fun _ => False) w w' := by
  obtain ⟨b, hb, hm, hnd⟩ := hT.mb hx hk
  have n2 := hT.n2 hx
  rw [hb] at n2
  have hxb : x.blk < w.heap.size := lt_of_heap (hT.at_ _ (look_mem hx)).cells
  have hlk : ∀ X q, (Instr.lookup 73 (.map (some b)) (.string s) false).run Tryz.prog ((w.alloc X).drewN q) = .ok (.int .i64 (n.at_ s)) ((w.alloc X).drewN q) := fun X q => by
    have := (hm.kept (((Upd.refl (fun _ => False) w).alloc X).drewN q |>.block b hm.lt id)).run_lookup (P := Tryz.prog) KeyOk.string (by rw [keys_map]; exact hnd) Tryz.underlying73 Tryz.underlying9 (z := .int .i64 0) (zero3 _) s false
    rw [this, look_map]
    unfold Nd.at_
    cases look s n.names <;> rfl
  have HX := Lib.hid hx
  clear hT hx hk hm hnd hb
  go_enter Tryz.func65, Tryz.ntmps65
  go_wp2_with fail
  go_quiet (fail)
  go_wp2
  go_ret
  exact ⟨rfl, ((Upd.refl _ _).alloc _).drewN _⟩

def Tr.dropAt (T : Tr) (k : Int) (n : Nd) (s : ByteArray) : Tr :=
  let T1 : Tr := { T with nodes := setNode k { n with names := del s n.names } T.nodes }
  if T1.links (n.at_ s) = 0 then { T1 with nodes := del (n.at_ s) T1.nodes } else T1

def Tr.dropLay (T : Tr) (L : Lay) (k : Int) (x : NL) (n : Nd) (s : ByteArray) : Lay :=
  if Tr.links { T with nodes := setNode k { n with names := del s n.names } T.nodes } (n.at_ s) = 0 then del (n.at_ s) (L.set k x { n with names := del s n.names }) else L.set k x { n with names := del s n.names }

set_option maxRecDepth 100000 in
set_option maxHeartbeats 4000000 in
theorem drop_calls (w : World) (t bm : Nat) (L : Lay) (T : Tr) (hT : TreeAt w t bm L T) (k : Int) (x : NL) (n : Nd) (hx : look k L = some (x, n)) (hk : n.kind = 2) (s : ByteArray)
    (htot : Tr.total { T with nodes := setNode k { n with names := del s n.names } T.nodes } ≤ 100000) :
    Calls Tryz.prog 67 #[.pointer (some ⟨t, 0, none⟩), .agg #[.pointer (some ⟨x.blk, 0, none⟩), .string s]] w fun e w' => e = .returned (.tuple #[]) ∧ Moves w w' t bm L (T.dropLay L k x n s) (T.dropAt k n s) := by
  obtain ⟨b, hb, hm, hnd⟩ := hT.mb hx hk
  have hxb : x.blk < w.heap.size := lt_of_heap (hT.at_ _ (look_mem hx)).cells
  have hlt := hT.lt
  have HT := Lib.hid hT
  have HX := Lib.hid hx
  have HK := Lib.hid hk
  have HB := Lib.hid hb
  have HM := Lib.hid hm
  have HND := Lib.hid hnd
  have HTOT := Lib.hid htot
  have n2 : w.cell? ⟨x.blk, 2, none⟩ = some (.map (some b)) := by rw [← hb]; exact hT.n2 hx
  have c0 := hT.c0
  clear hT hx hk hb hm hnd htot
  go_enter Tryz.func67, Tryz.ntmps67
  go_wp2_with (go_at_call 65; refine (ino_calls _ t bm L T (HT.out.upd ((Upd.refl (fun _ => False) _).alloc _) (fun _ _ => id)) k x n HX.out HK.out s).mono ?_; rintro e w1 ⟨rfl, hu1⟩; obtain ⟨hc1, hf1⟩ := bcellU hu1 (fun _ => id); have hz1 : w.heap.size < w1.heap.size := (by have := hu1.size; simp at this; omega); have HU1 : Hid (Upd (fun _ => False) w w1) := ((Upd.refl _ _).alloc _).trans hu1; clear hu1)
  refine wp_region_still_tail 7 (by kernel_rfl) (by kernel_rfl) ?_
  simp only [List.take_succ_cons, List.take_zero, List.drop_succ_cons, List.drop_zero]
  change wpStill _ _ w1.drew _ _ _
  repeat still_step
  refine wpStill_nil ?_
  have HU1d : Hid (Upd (fun _ => False) w w1.drew) := HU1.out.drew
  go_wp2_with (at_delete; refine wpl_delete _ (HM.out.kept (HU1d.out.block b HM.out.lt id)) KeyOk.string (by rw [keys_map]; exact HND.out) rfl _ _ 73 9 rfl Tryz.underlying73 Tryz.underlying9 rfl s rfl (fun w2 hm2 hu2 hs2 => Hold.out ?_))
  refine ⟨?_⟩
  have hmv := (HT.out.upd HU1d.out (fun _ _ => id)).setNames HX.out HB.out (del s n.names) hu2 (by
    have e : del s (n.names.map fun p => (p.1, Value.int .i64 p.2)) = (del s n.names).map fun p => (p.1, Value.int .i64 p.2) := by unfold del; rw [List.filter_map]; rfl
    rw [← e]; exact hm2) (del_keys HND.out)
  have HMV := Lib.hid (hmv.pre HU1d.out)
  have ht2 : w2.cell? ⟨t, 0, none⟩ = some (.map (some bm)) := HMV.out.tree.c0
  have hlt2 : t < w2.heap.size := HMV.out.tree.lt
  clear hc1 hf1 hz1 hu2 hm2 hs2 hmv n2 c0
  by_cases hl : (Tr.links { T with nodes := setNode k { n with names := del s n.names } T.nodes } (n.at_ s)) = 0
  · have HL := Lib.hid hl
    have e0 : (((Tr.links { T with nodes := setNode k { n with names := del s n.names } T.nodes } (n.at_ s) : Nat) : Int) == 0) = true := by rw [hl]; rfl
    clear hl
    go_wp2_with (first
      | (go_at_call 25; refine (links_calls _ t bm _ _ HMV.out.tree HTOT.out _).mono ?_; rintro e w3 ⟨rfl, hu3⟩; have HU3 := Lib.hid hu3; have ht3 : w3.cell? ⟨t, 0, none⟩ = some (.map (some bm)) := (HMV.out.tree.upd hu3 (fun _ _ => id)).c0; have hlt3 : t < w3.heap.size := (HMV.out.tree.upd hu3 (fun _ _ => id)).lt; clear hu3)
      | (at_delete; refine wpl_delete _ (HMV.out.tree.upd HU3.out (fun _ _ => id)).map KeyOk.int (HMV.out.tree.upd HU3.out (fun _ _ => id)).pkeys rfl _ _ 63 3 rfl Tryz.underlying63 Tryz.underlying3 rfl (n.at_ s) rfl (fun w4 hm4 hu4 hs4 => Hold.out ?_)))
    refine ⟨?_⟩
    have hmv2 := HMV.out.trans (((HMV.out.tree.upd HU3.out (fun _ _ => id)).drop (n.at_ s) hu4 hm4).pre HU3.out)
    have HMV2 := Lib.hid hmv2
    clear hmv2 hm4 hu4 hs4
    go_wp2
    go_end0
    have e : T.dropAt k n s = { { T with nodes := setNode k { n with names := del s n.names } T.nodes } with nodes := del (n.at_ s) (setNode k { n with names := del s n.names } T.nodes) } := by
      unfold Tr.dropAt
      exact if_pos HL.out
    have e2 : T.dropLay L k x n s = del (n.at_ s) (L.set k x { n with names := del s n.names }) := by unfold Tr.dropLay; exact if_pos HL.out
    exact ⟨rfl, by rw [e, e2]; exact HMV2.out⟩
  · have HL := Lib.hid hl
    have e0 : (((Tr.links { T with nodes := setNode k { n with names := del s n.names } T.nodes } (n.at_ s) : Nat) : Int) == 0) = false := beq_eq_false_iff_ne.2 (by omega)
    clear hl
    go_wp2_with (go_at_call 25; refine (links_calls _ t bm _ _ HMV.out.tree HTOT.out _).mono ?_; rintro e w3 ⟨rfl, hu3⟩; have HU3 := Lib.hid hu3; clear hu3)
    go_end0
    have e : T.dropAt k n s = { T with nodes := setNode k { n with names := del s n.names } T.nodes } := by
      unfold Tr.dropAt
      exact if_neg HL.out
    have e2 : T.dropLay L k x n s = L.set k x { n with names := del s n.names } := by unfold Tr.dropLay; exact if_neg HL.out
    exact ⟨rfl, by rw [e, e2]; exact HMV.out.post HU3.out⟩

/-- Why the first of some paths that has none has no Parent. -/
def parentsS : List ByteArray → Int
  | [] => 0
  | p :: l => if (parentS p).1 ≠ 0 then (parentS p).1 else parentsS l

set_option maxRecDepth 100000 in
set_option maxHeartbeats 2000000 in
theorem parents_calls (w : World) (A : Option Addr) (c : Nat) (l : List ByteArray) (hl : StrsAt w A l) (hs : ∀ s ∈ l, s.size ≤ 9223372036854775807) (hg : Glob w) :
    Calls Tryz.prog 68 #[.slice A l.length c] w fun e w' => e = .returned (errV (parentsS l)) ∧ Upd (fun _ => False) w w' := by
  have hlen : l.length ≤ 9223372036854775807 := hl.1
  have HL := Lib.hid hl
  have HS := Lib.hid hs
  have HG := Lib.hid hg
  clear hl hs hg
  go_enter Tryz.func68, Tryz.ntmps68
  go_wp2
  go_loopw [10] (fun i wr => ∃ (k : Nat), k ≤ l.length ∧ i = .int .i64 k ∧ Hid (parentsS (l.drop k) = parentsS l ∧ Upd (fun _ => False) w wr)) (fun i _ => l.length - (intOf i).toNat)
  case atStart => exact ⟨0, by omega, rfl, rfl, Upd.refl _ _⟩
  case round =>
    obtain ⟨k, hk, rfl, HR⟩ := hrel
    by_cases hlt : k < l.length
    · obtain ⟨b, o, rfl, hb, hcs⟩ := (HL.out.upd HR.out.2).2 (by rintro rfl; simp at hlt)
      have hcell := hcs k hlt
      clear hcs
      have hmem : l.getD k ⟨#[]⟩ ∈ l := by
        rw [List.getD_eq_getElem?_getD, List.getElem?_eq_getElem hlt]; simp
      have hdr : l.drop k = l.getD k ⟨#[]⟩ :: l.drop (k + 1) := by
        rw [List.drop_eq_getElem_cons hlt, List.getD_eq_getElem?_getD, List.getElem?_eq_getElem hlt]; rfl
      generalize l.getD k ⟨#[]⟩ = s at hcell hmem hdr
      have hR := HR.out.1
      rw [hdr] at hR
      have HM := Lib.hid hmem
      have HR2 := Lib.hid hR
      clear hmem hdr hR
      by_cases h1 : (parentS s).1 ≠ 0
      · have E := Lib.hid (errV_pos h1)
        have H1 := Lib.hid h1
        clear h1
        go_wp2_with (go_at_call 66; refine (parent_calls _ _ (HS.out _ HM.out) (HG.out.upd HR.out.2 (fun _ _ => id))).mono ?_; rintro e w2 ⟨rfl, hu2⟩; have HU2 := Lib.hid hu2; clear hu2; rw [E.out])
        go_ret
        refine ⟨?_, HR.out.2.trans HU2.out⟩
        rw [← HR2.out]
        unfold parentsS
        rw [if_pos H1.out, E.out]
        rfl
      · have E : Hid (errV (parentS s).1 = .nilIface) := by show errV _ = _; rw [show (parentS s).1 = 0 by simpa using h1]; rfl
        have H1 := Lib.hid h1
        clear h1
        go_wp2_with (go_at_call 66; refine (parent_calls _ _ (HS.out _ HM.out) (HG.out.upd HR.out.2 (fun _ _ => id))).mono ?_; rintro e w2 ⟨rfl, hu2⟩; have HU2 := Lib.hid hu2; clear hu2; rw [E.out])
        go_roundw
        case rel =>
          refine ⟨k + 1, by omega, by go_num, ?_, HR.out.2.trans HU2.out⟩
          rw [← HR2.out]
          conv => rhs; unfold parentsS
          rw [if_neg H1.out]
        case measure => simp [intOf]; omega
    · have hke : k = l.length := by omega
      subst hke
      go_wp2
      go_ret
      refine ⟨?_, HR.out.2⟩
      have := HR.out.1
      rw [List.drop_length] at this
      rw [← this]
      rfl
#print axioms drop_calls
#print axioms parents_calls
end Go.Proofs.YtggfepgablfbhaaGreatDoor
