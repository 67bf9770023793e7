/- Walks of tree.ready and tree.Links; a tree under a frame. -/
import Derived.Test.YtggfepgablfbhaaGreatDoorWalkT
import Derived.Test.YtggfepgablfbhaaGreatDoorIter
import Derived.WalkSpells
namespace Go.Proofs.YtggfepgablfbhaaGreatDoor
open Go.RowKit

theorem BytesAt.kept {w w' : World} {v : Value} {db : Option Nat} {bs : List Int} (h : BytesAt w v db bs) (hk : ∀ g, db = some g → w'.heap[g]? = w.heap[g]?) : BytesAt w' v db bs := by
  rcases h with h | ⟨g, c, h1, h2, rfl, h4⟩
  · exact .inl h
  · refine .inr ⟨g, c, h1, h2, rfl, ?_⟩
    obtain ⟨a1, a2⟩ := h4
    refine ⟨a1, ?_⟩
    rcases a2 with a2 | ⟨g', cap, cur, e1, e2, e3, e4⟩
    · exact .inl a2
    · have : g = g' := by injection e1 with e1 _ _; injection e1 with e1; injection e1
      subst this
      exact .inr ⟨g, cap, cur, e1, e2, (hk g h1).trans e3, e4⟩
theorem NamesAt.kept {w w' : World} {mb : Option Nat} {l : List (ByteArray × Int)} (h : NamesAt w mb l) (hk : ∀ g, mb = some g → w'.heap[g]? = w.heap[g]?) : NamesAt w' mb l := by
  cases mb with
  | none => exact h
  | some b => exact ⟨h.1.kept (hk b rfl), h.2⟩
theorem NodeAt.kept {w w' : World} {x : NL} {n : Nd} (h : NodeAt w x n) (hk : ∀ g ∈ x.fp, w'.heap[g]? = w.heap[g]?) : NodeAt w' x n :=
  ⟨(hk _ (by simp [NL.fp])).trans h.cells, h.bytes.kept (fun g e => hk g (by simp [NL.fp, e])), h.names.kept (fun g e => hk g (by simp [NL.fp, e])), h.dir⟩
theorem NodeAt.lt {w : World} {x : NL} {n : Nd} (h : NodeAt w x n) : ∀ g ∈ x.fp, g < w.heap.size := by
  intro g hg
  simp only [NL.fp, List.mem_cons, List.mem_append, Option.mem_toList] at hg
  rcases hg with rfl | hg | hg
  · exact lt_of_heap h.cells
  · rcases h.bytes with ⟨_, e, _⟩ | ⟨g', c, e, h2, hv, h4⟩
    · rw [e] at hg; cases hg
    · rw [e] at hg; cases hg
      rw [hv] at h4
      rcases h4.2 with ⟨e, _⟩ | ⟨g'', cap, cur, e1, e2, e3, _⟩
      · cases e
      · have : g = g'' := by injection e1 with e1 _ _; injection e1 with e1; injection e1
        subst this
        exact lt_of_heap e3
  · have := h.names
    rw [hg] at this
    exact this.1.lt
theorem fp_mem {t bm : Nat} {L : Lay} {p : Int × (NL × Nd)} (hp : p ∈ L) {g : Nat} (hg : g ∈ p.2.1.fp) : g ∈ fpOf t bm L := by
  simp only [fpOf, List.mem_cons, List.mem_flatMap]
  exact .inr (.inr ⟨p, hp, hg⟩)
theorem TreeAt.kept {w w' : World} {t bm : Nat} {L : Lay} {T : Tr} (h : TreeAt w t bm L T) (hk : ∀ g ∈ fpOf t bm L, w'.heap[g]? = w.heap[g]?) : TreeAt w' t bm L T :=
  ⟨(hk _ (by simp [fpOf])).trans h.cells, h.map.kept (hk _ (by simp [fpOf])), h.keys, fun p hp => (h.at_ p hp).kept fun g hg => hk g (fp_mem hp hg), h.nodes, h.apart⟩
theorem TreeAt.fplt {w : World} {t bm : Nat} {L : Lay} {T : Tr} (h : TreeAt w t bm L T) : ∀ g ∈ fpOf t bm L, g < w.heap.size := by
  intro g hg
  simp only [fpOf, List.mem_cons, List.mem_flatMap] at hg
  rcases hg with rfl | rfl | ⟨p, hp, hg⟩
  · exact h.lt
  · exact h.map.lt
  · exact (h.at_ p hp).lt g hg
theorem TreeAt.upd {w w' : World} {t bm : Nat} {L : Lay} {T : Tr} (h : TreeAt w t bm L T) {F : Nat → Prop} (hu : Upd F w w') (hF : ∀ g ∈ fpOf t bm L, ¬ F g) : TreeAt w' t bm L T :=
  h.kept fun g hg => hu.block g (h.fplt g hg) (hF g hg)

def Nd.cnt (k : Int) (n : Nd) : Nat := (n.names.filter fun p => p.2 = k).length
def Tr.links (T : Tr) (k : Int) : Nat := if k = 1 then 1 else (T.nodes.map fun p => p.2.cnt k).sum

theorem ready_calls (w : World) (t bm : Nat) (L : Lay) (T : Tr) (hT : TreeAt w t bm L T) :
    Calls Tryz.prog 39 #[.pointer (some ⟨t, 0, none⟩)] w fun e w' => e = .returned (.pointer (some ⟨t, 0, none⟩)) ∧ w = w' := by
  have hlt := hT.lt
  have c0 : w.cell? ⟨t, 0, none⟩ = some (.map (some bm)) := (cell_of_heap hT.cells 0).trans rfl
  have hmn := Go.run_eql_map_nil (P := Tryz.prog) w 63 _ _ (some bm) Tryz.underlying63
  have HT := Lib.hid hT
  clear hT
  go_enter Tryz.func39, Tryz.ntmps39
  go_wp2
  go_ret
  exact ⟨rfl, rfl⟩

def cntL (k : Int) (L : Lay) : Nat := (L.map fun p => p.2.2.cnt k).sum
theorem cntL_perm {k : Int} {L L' : Lay} (h : L.Perm L') : cntL k L = cntL k L' := (h.map _).sum_nat
def cntN (k : Int) (l : List (ByteArray × Int)) : Nat := (l.filter fun p => p.2 = k).length
theorem cntN_perm {k : Int} {l l' : List (ByteArray × Int)} (h : l.Perm l') : cntN k l = cntN k l' := (h.filter _).length_eq
theorem cnt_le (k : Int) (n : Nd) : n.cnt k ≤ n.names.length := List.length_filter_le _ _
theorem cntL_le (k : Int) (T : Tr) : (T.nodes.map fun p => p.2.cnt k).sum ≤ T.total := by
  unfold Tr.total
  induction T.nodes with
  | nil => simp
  | cons p l ih =>
    simp only [List.map_cons, List.sum_cons]
    have := cnt_le k p.2
    omega

set_option maxRecDepth 100000 in
set_option maxHeartbeats 2000000 in
theorem links_calls (w : World) (t bm : Nat) (L : Lay) (T : Tr) (hT : TreeAt w t bm L T) (htot : T.total ≤ 100000) (k : Int) :
    Calls Tryz.prog 25 #[.pointer (some ⟨t, 0, none⟩), .int .i64 k] w fun e w' => e = .returned (.int .i64 (T.links k)) ∧ Upd (fun _ => False) w w' := by
  have hlt := hT.lt
  have c0 : w.cell? ⟨t, 0, none⟩ = some (.map (some bm)) := (cell_of_heap hT.cells 0).trans rfl
  by_cases hk1 : k = 1
  · have e1 : (k == 1) = true := beq_iff_eq.2 hk1
    have HK := Lib.hid hk1
    clear hk1
    have HT := Lib.hid hT
    clear hT
    go_enter Tryz.func25, Tryz.ntmps25
    go_wp2_with (go_at_call 39; refine (ready_calls _ _ _ _ _ HT.out).mono ?_; rintro e w' ⟨rfl, rfl⟩)
    go_ret
    exact ⟨by simp [Tr.links, HK.out], Upd.refl _ _⟩
  · have e1 : (k == 1) = false := beq_eq_false_iff_ne.2 hk1
    have HK := Lib.hid hk1
    clear hk1
    have HT := Lib.hid hT
    clear hT
    go_enter Tryz.func25, Tryz.ntmps25
    go_wp2_with (first
      | (go_at_call 39; refine (ready_calls _ _ _ _ _ HT.out).mono ?_; rintro e w' ⟨rfl, rfl⟩)
      | (at_range; refine wpl_range _ HT.out.map rfl _ 63 rfl Tryz.underlying63 rfl ?_; intro w1 hi hu hs; go_frame))
    have HTOT := Lib.hid htot
    clear htot
    generalize hr0 : w.heap.size = r0 at hi hs ⊢
    have hr0' : w.heap.size ≤ r0 := by omega
    have HR0 := Lib.hid hr0
    clear hr0 hs
    go_loopg [4, 6] L.length (fun gk c _ wr => ∃ (L' : Lay) (n : Nat), c = .int .i64 n ∧ Hid (n + cntL k L' = T.links k ∧ L'.length = gk ∧ Iter wr encI r0 bm (ptrs L) (ptrs L') ∧ (∀ q ∈ L', q ∈ L)) ∧ Hid (Upd (fun _ => False) w wr))
    case atStart =>
      refine ⟨L, 0, rfl, ⟨?_, rfl, hi, fun q hq => hq⟩, hu⟩
      unfold Tr.links cntL
      rw [if_neg HK.out, HT.out.nodes, Lay.nodes, List.map_map]
      simp [Function.comp_def]
    case round =>
      obtain ⟨L', n, rfl, HR, HU⟩ := hrel
      clear hi hu
      have hne : r0 ∉ fpOf t bm L := fun q => by have := HT.out.fplt r0 q; omega
      have HNE := Lib.hid hne
      clear hne
      have hbound : T.links k ≤ 100000 := by
        have := cntL_le k T
        have := HTOT.out
        unfold Tr.links
        rw [if_neg HK.out]
        omega
      have hnb : n ≤ 100000 := by have := HR.out.1; omega
      go_wp2_with (at_next; refine wpl_next _ HR.out.2.2.1 rfl _ rfl rfl (fun hl0 => Hold.out ?_) (fun p left' w2 hp hi2 hu2 hs2 hen => Hold.out ?_))
      all_goals refine ⟨?_⟩
      · have hn : n = T.links k := by
          have h1 := HR.out.1
          have : L' = [] := by unfold ptrs at hl0; simpa using hl0
          rw [this] at h1
          simpa [cntL] using h1
        have HN := Lib.hid hn
        clear hn hl0
        go_wp2
        go_ret
        exact ⟨by rw [HN.out]; rfl, HU.out⟩
      · obtain ⟨q, L'', hpq, rfl, hlq⟩ := perm_map_split hp
        have hqL : q ∈ L := HR.out.2.2.2 q (hpq.mem_iff.2 (by simp))
        have hcnt : n + (q.2.2.cnt k + cntL k L'') = T.links k := by
          have h1 := HR.out.1
          rw [cntL_perm hpq] at h1
          simpa [cntL] using h1
        have hlen : L''.length < gk := by
          have h1 := HR.out.2.1
          have := hpq.length_eq
          simp at this
          omega
        have hu3 : Upd (fun _ => False) w w2 := HU.out.then_new hu2 (fun i hi => by omega)
        have hi3 := Iter.perm hi2 hlq.symm
        have hT2 := HT.out.upd hu3 (fun _ _ => id)
        have hna := hT2.at_ q hqL
        have hxb : q.2.1.blk < w2.heap.size := lt_of_heap hna.cells
        have n2 : w2.cell? ⟨q.2.1.blk, 2, none⟩ = some (.map q.2.1.mb) := (cell_of_heap hna.cells 2).trans rfl
        have hen2 := hen w2 rfl rfl
        have hrl2 := hi3.rlt
        have H3 := Lib.hid hu3
        have HI3 := Lib.hid hi3
        have HNA := Lib.hid hna
        have HC := Lib.hid hcnt
        have HSUB : Hid (∀ y ∈ L'', y ∈ L) := fun y hy => HR.out.2.2.2 y (hpq.mem_iff.2 (by simp [hy]))
        clear hp hi2 hu2 hs2 hen hlq hu3 hi3 hT2 hna hcnt hpq hqL HR HU
        dsimp only at hen2 ⊢
        have hmo : MapO w2 encS q.2.1.mb (q.2.2.names.map fun p => (p.1, Value.int .i64 p.2)) := by
          have := HNA.out.names
          cases hm : q.2.1.mb with
          | none => rw [hm] at this; show List.map _ _ = []; rw [show q.2.2.names = [] from this]; rfl
          | some b => rw [hm] at this; exact this.1
        have HMO := Lib.hid hmo
        clear hmo
        go_wp2_with (at_range; refine wpl_rangeO _ HMO.out rfl _ 73 rfl Tryz.underlying73 rfl ?_; intro w3 hi4 hu4 hs4; go_frame)
        clear hen2
        generalize hr1 : w2.heap.size = r1 at hi4 hs4 hrl2 ⊢
        have HR1 := Lib.hid hr1
        clear hr1 hs4
        go_loopg [4, 8] q.2.2.names.length (fun gk2 c _ wq => ∃ (l2 : List (ByteArray × Int)) (m : Nat), c = .int .i64 m ∧ Hid (m + cntN k l2 = n + q.2.2.cnt k ∧ l2.length = gk2 ∧ IterO wq encS r1 q.2.1.mb (q.2.2.names.map fun p => (p.1, Value.int .i64 p.2)) (l2.map fun p => (p.1, Value.int .i64 p.2))) ∧ Hid (Upd (fun _ => False) w2 wq))
        case atStart =>
          exact ⟨q.2.2.names, n, rfl, ⟨rfl, rfl, hi4⟩, hu4⟩
        case round =>
          obtain ⟨l2, m, rfl, HS, HV⟩ := hrel
          clear hi4 hu4
          have hcl : q.2.2.cnt k ≤ 100000 := by
            have h1 := HC.out
            omega
          have hmb : m ≤ 200000 := by have := HS.out.1; omega
          go_wp2_with (at_next; refine wpl_nextO _ HS.out.2.2 rfl _ rfl rfl (fun hl0 => Hold.out ?_) (fun p left' w4 hp hi2 hu2 hs2 hen => Hold.out ?_))
          all_goals refine ⟨?_⟩
          · have hm : m = n + q.2.2.cnt k := by
              have h1 := HS.out.1
              have : l2 = [] := by simpa using hl0
              rw [this] at h1
              simpa [cntN] using h1
            have HM := Lib.hid hm
            clear hm hl0
            go_wp2
            go_roundg L''.length
            case measure => exact hlen
            case rel =>
              refine ⟨L'', m, rfl, ⟨by have := HM.out; have := HC.out; omega, rfl, ?_, ?_⟩, ?_⟩
              · exact Iter.kept HI3.out (HV.out.block _ (by obtain ⟨es, c, e⟩ := HI3.out.mapIs trivial; exact lt_of_heap e) id) (HV.out.block _ HI3.out.rlt id)
              · exact HSUB.out
              · exact H3.out.then_new HV.out (fun _ h => h.elim)
          · obtain ⟨p2, l3, hpq2, rfl, hlq2⟩ := perm_map_split hp
            have hcnt2 : m + ((if p2.2 = k then 1 else 0) + cntN k l3) = n + q.2.2.cnt k := by
              have h1 := HS.out.1
              rw [cntN_perm hpq2] at h1
              unfold cntN at h1 ⊢
              rw [List.filter_cons] at h1
              split at h1 <;> simp_all <;> omega
            have hlen2 : l3.length < gk := by
              have h1 := HS.out.2.1
              have := hpq2.length_eq
              simp at this
              omega
            have hu5 : Upd (fun _ => False) w2 w4 := HV.out.then_new hu2 (fun i hi => by have := HR1.out; omega)
            have hi5 := IterO.perm hi2 hlq2.symm
            have hen2 := hen w4 rfl (fun _ _ => rfl)
            have hrl4 := hi5.rlt
            have H5 := Lib.hid hu5
            have HI5 := Lib.hid hi5
            have HC2 := Lib.hid hcnt2
            clear hp hi2 hu2 hs2 hen hlq2 hu5 hi5 hcnt2 hpq2 HS HV
            dsimp only at hen2 ⊢
            by_cases hk2 : p2.2 = k
            · have e2 : (p2.2 == k) = true := beq_iff_eq.2 hk2
              have HK2 := Lib.hid hk2
              clear hk2
              go_wp2
              go_roundg l3.length
              case measure => exact hlen2
              case rel => exact ⟨l3, m + 1, by go_num, ⟨by have := HC2.out; rw [if_pos HK2.out] at this; omega, rfl, HI5.out⟩, H5.out⟩
            · have e2 : (p2.2 == k) = false := beq_eq_false_iff_ne.2 hk2
              have HK2 := Lib.hid hk2
              clear hk2
              go_wp2
              go_roundg l3.length
              case measure => exact hlen2
              case rel => exact ⟨l3, m, rfl, ⟨by have := HC2.out; rw [if_neg HK2.out] at this; omega, rfl, HI5.out⟩, H5.out⟩
#print axioms links_calls
end Go.Proofs.YtggfepgablfbhaaGreatDoor
