/- Walk of tree.remove. -/
import Derived.Test.YtggfepgablfbhaaGreatDoorAt
namespace Go.Proofs.YtggfepgablfbhaaGreatDoor
open Go.RowKit

/-- An operation. -/
structure OpV where
  kind : Int
  path : ByteArray
  dest : ByteArray
  off : Int
  n : Int
  data : List Int
  snap : Int
def opCells (o : OpV) (A : Option Addr) (c : Nat) : Array Value := #[.int .i64 o.kind, .string o.path, .string o.dest, .int .i64 o.off, .int .i64 o.n, .slice A o.data.length c, .int .i64 o.snap]

theorem NamesAt.mapO {w : World} {mb : Option Nat} {l : List (ByteArray × Int)} (h : NamesAt w mb l) : MapO w encS mb (l.map fun p => (p.1, Value.int .i64 p.2)) := by
  cases mb with
  | none => show List.map _ _ = []; rw [show l = [] from h]; rfl
  | some b => exact h.1

theorem sum_setNode {k : Int} {m : Nd} (f : Nd → Nat) : ∀ {l : List (Int × Nd)} {n : Nd}, (l.map (·.1)).Nodup → look k l = some n → ((setNode k m l).map fun p => f p.2).sum + f n = (l.map fun p => f p.2).sum + f m
  | [], n, _, h => by simp [look] at h
  | p :: l, n, hn, h => by
    simp only [List.map_cons, List.nodup_cons] at hn
    unfold look at h
    unfold setNode
    by_cases e : p.1 = k
    · rw [if_pos e] at h
      cases h
      have hid : (l.map fun p => if p.1 = k then (p.1, m) else p) = l := by
        conv => rhs; rw [← List.map_id l]
        exact List.map_congr_left fun q hq => if_neg (fun e2 => hn.1 (by rw [e, ← e2]; exact List.mem_map.2 ⟨q, hq, rfl⟩))
      simp only [List.map_cons, List.sum_cons, e, if_true]
      rw [hid]
      omega
    · rw [if_neg e] at h
      have ih := sum_setNode (m := m) f hn.2 h
      unfold setNode at ih
      simp only [List.map_cons, List.sum_cons, e, if_false]
      omega

theorem total_strike {T : Tr} (hn : (T.nodes.map (·.1)).Nodup) {k : Int} {n : Nd} (h : look k T.nodes = some n) (s : ByteArray) : Tr.total { T with nodes := setNode k { n with names := del s n.names } T.nodes } ≤ T.total := by
  unfold Tr.total
  have := sum_setNode (m := { n with names := del s n.names }) (fun n => n.names.length) hn h
  have h2 : (del s n.names).length ≤ n.names.length := List.length_filter_le _ _
  simp only at this ⊢
  omega

def Tr.remove (T : Tr) (o : OpV) : Int × Tr :=
  if (parentS o.path).1 ≠ 0 then ((parentS o.path).1, T) else if (T.find o.path).2 ≠ 0 then ((T.find o.path).2, T) else
  match look (T.find o.path).1 T.nodes with
  | none => (5, T)
  | some x => if o.kind = 3 ∧ x.kind = 2 then (7, T) else if o.kind = 4 ∧ x.kind = 1 then (8, T) else if x.names ≠ [] then (9, T) else
    match look (T.at_ o.path).2.1 T.nodes with
    | none => (5, T)
    | some d => (0, T.dropAt (T.at_ o.path).2.1 d (T.at_ o.path).2.2)

theorem TreeAt.nkeys {w : World} {t bm : Nat} {L : Lay} {T : Tr} (h : TreeAt w t bm L T) : (T.nodes.map (·.1)).Nodup := by
  rw [h.nodes, Lay.nodes]
  rw [keys_map (fun x : NL × Nd => x.2)]
  exact h.keys

theorem placeV_zero {w : World} {t bm : Nat} {L : Lay} {T : Tr} {r : Int × Int × ByteArray} {pv : Value} {d : Nd} (h : PlaceV L r pv) (h0 : r.1 = 0) (hT : TreeAt w t bm L T) (hd : look r.2.1 T.nodes = some d) :
    ∃ y, pv = .agg #[.pointer (some ⟨y.blk, 0, none⟩), .string r.2.2] ∧ look r.2.1 L = some (y, d) ∧ d.kind = 2 := by
  rcases h with ⟨q, _⟩ | ⟨_, x, n, hx, hk, rfl⟩
  · exact absurd h0 q
  · obtain ⟨y, hy, _⟩ := hT.node hd
    rw [hx] at hy
    cases hy
    exact ⟨x, rfl, hx, hk⟩

set_option maxRecDepth 100000 in
set_option maxHeartbeats 8000000 in
theorem remove_calls (w : World) (t bm : Nat) (L : Lay) (T : Tr) (hT : TreeAt w t bm L T) (ok : T.Ok) (o : OpV) (A : Option Addr) (c : Nat) (hkind : o.kind = 3 ∨ o.kind = 4) (hp : o.path.size ≤ 9223372036854775807) (hg : Glob w) :
    Calls Tryz.prog 41 #[.pointer (some ⟨t, 0, none⟩), .agg (opCells o A c)] w fun e w' => e = .returned (errV (T.remove o).1) ∧ ∃ L', Moves w w' t bm L L' (T.remove o).2 := by
  have HT := Lib.hid hT
  have HO := Lib.hid ok
  have HG := Lib.hid hg
  have hlt := hT.lt
  have c0 := hT.c0
  have HUA : ∀ X, Hid (Upd (fun _ => False) w (w.alloc X)) := fun X => (Upd.refl _ _).alloc X
  have HHUA := Lib.hid HUA
  clear hT ok hg HUA
  unfold opCells
  by_cases h1 : (parentS o.path).1 ≠ 0
  · have hP : T.remove o = ((parentS o.path).1, T) := by unfold Tr.remove; rw [if_pos h1]
    have HP := Lib.hid hP
    have E := Lib.hid (errV_pos h1)
    clear hP h1 hkind
    go_enter Tryz.func41, Tryz.ntmps41
    go_wp2_with (go_at_call 66; refine (parent_calls _ _ hp ?_).mono ?_; (exact HG.out.upd (HHUA.out _).out (fun _ _ => id)); rintro e w1 ⟨rfl, hu1⟩; have HU1 := Lib.hid hu1; clear hu1; rw [E.out])
    go_ret
    rw [HP.out, E.out]
    exact ⟨rfl, L, Moves.refl HT.out ((HHUA.out _).out.trans HU1.out)⟩
  · have h0 : (parentS o.path).1 = 0 := by simpa using h1
    have E : Hid (errV (parentS o.path).1 = .nilIface) := by show errV _ = _; rw [h0]; rfl
    by_cases h2 : (T.find o.path).2 ≠ 0
    · have hP : T.remove o = ((T.find o.path).2, T) := by unfold Tr.remove; rw [if_neg h1, if_pos h2]
      have HP := Lib.hid hP
      have E2 := Lib.hid (errV_pos h2)
      clear hP h1 h0 h2 hkind
      go_enter Tryz.func41, Tryz.ntmps41
      go_wp2_with (first
        | (go_at_call 66; refine (parent_calls _ _ hp ?_).mono ?_; (exact HG.out.upd (HHUA.out _).out (fun _ _ => id)); rintro e w1 ⟨rfl, hu1⟩; obtain ⟨hc1, hf1⟩ := bcellU hu1 (fun _ => id); have hz1 : w.heap.size < w1.heap.size := (by have := hu1.size; simp at this; omega); have HU1 := Lib.hid hu1; clear hu1; rw [E.out])
        | (go_at_call 17; refine (find_calls _ _ _ _ _ (HT.out.upd ((HHUA.out _).out.trans HU1.out) (fun _ _ => id)) HO.out _ hp (HG.out.upd ((HHUA.out _).out.trans HU1.out) (fun _ _ => id))).mono ?_; rintro e w2 ⟨rfl, hu2⟩; have HU2 := Lib.hid hu2; clear hu2; rw [E2.out]))
      go_ret
      rw [HP.out, E2.out]
      exact ⟨rfl, L, Moves.refl HT.out ((HHUA.out _).out.trans (HU1.out.trans HU2.out))⟩
    · have h2' : (T.find o.path).2 = 0 := by simpa using h2
      obtain ⟨n, hn⟩ := find_ok HO.out h2'
      obtain ⟨x, hx, hna, hpx⟩ := HT.out.node hn
      have E2 : Hid (errV (T.find o.path).2 = .nilIface) := by show errV _ = _; rw [h2']; rfl
      obtain ⟨ha0, d, hd, hds⟩ := find_at h0 h2'
      have hP : T.remove o = if o.kind = 3 ∧ n.kind = 2 then (7, T) else if o.kind = 4 ∧ n.kind = 1 then (8, T) else if n.names ≠ [] then (9, T) else (0, T.dropAt (T.at_ o.path).2.1 d (T.at_ o.path).2.2) := by
        unfold Tr.remove; rw [if_neg h1, if_neg h2, hn]; simp only; rw [hd]
      have HP := Lib.hid hP
      have HX := Lib.hid hx
      have HPX := Lib.hid hpx
      have HA0 := Lib.hid ha0
      have HD := Lib.hid hd
      have hxb : x.blk < w.heap.size := lt_of_heap hna.cells
      have n0 := HT.out.n0 hx
      have n2 := HT.out.n2 hx
      have hkn := HO.out.kind _ _ hn
      have HN := Lib.hid hn
      clear hP h1 h0 h2 h2' hn hx hna hpx ha0 hd hds
      have EA : Hid (errV (T.at_ o.path).1 = .nilIface) := by show errV _ = _; rw [HA0.out]; rfl
      rcases hkind with h3 | h4
      · rcases hkn with hk1 | hk2
        · have hnm : n.names = [] := HO.out.file _ _ HN.out hk1
          have b1 : (o.kind == 3) = true := beq_iff_eq.2 h3
          have b2 : (n.kind == 2) = false := beq_eq_false_iff_ne.2 (by omega)
          have b3 : (o.kind == 4) = false := beq_eq_false_iff_ne.2 (by omega)
          have HNM := Lib.hid hnm
          have HQ : Hid (T.remove o = (0, T.dropAt (T.at_ o.path).2.1 d (T.at_ o.path).2.2)) := by
            show _ = _
            rw [HP.out, if_neg (by omega), if_neg (by omega), if_neg (by simp [hnm])]
          clear h3 hk1 hnm
          go_enter Tryz.func41, Tryz.ntmps41
          go_wp2_with (first
        | (go_at_call 66; refine (parent_calls _ _ hp ?_).mono ?_; (exact HG.out.upd (HHUA.out _).out (fun _ _ => id)); rintro e w1 ⟨rfl, hu1⟩; obtain ⟨hc1, hf1⟩ := bcellU hu1 (fun _ => id); have hz1 : w.heap.size < w1.heap.size := (by have := hu1.size; simp at this; omega); have ht1 : t < w1.heap.size := (by omega); have hx1 : x.blk < w1.heap.size := (by omega); have HU1 := Lib.hid hu1; clear hu1; rw [E.out])
        | (go_at_call 17; refine (find_calls _ _ _ _ _ (HT.out.upd ((HHUA.out _).out.trans HU1.out) (fun _ _ => id)) HO.out _ hp (HG.out.upd ((HHUA.out _).out.trans HU1.out) (fun _ _ => id))).mono ?_; rintro e w2 ⟨rfl, hu2⟩; obtain ⟨hc2, hf2⟩ := bcellU hu2 (fun _ => id); have hz2 : w.heap.size < w2.heap.size := (by have := hu2.size; omega); have ht2 : t < w2.heap.size := (by omega); have hx2 : x.blk < w2.heap.size := (by omega); have HU2 := Lib.hid hu2; clear hu2; rw [E2.out])
        | (at_lookup; refine wpl_lookup _ (HT.out.upd ((HHUA.out _).out.trans (HU1.out.trans HU2.out)) (fun _ _ => id)).map KeyOk.int HT.out.pkeys rfl _ _ 63 rfl Tryz.underlying63 Tryz.underlying3 (.pointer none) (zero72 _) rfl (T.find o.path).1 rfl (.pointer (some ⟨x.blk, 0, none⟩)) (by rw [HPX.out]; rfl) ?_)
        | (at_len; refine wpl_lenO _ (((HT.out.upd ((HHUA.out _).out.trans (HU1.out.trans HU2.out)) (fun _ _ => id)).at_ _ (look_mem HX.out)).names.mapO) rfl _ 73 rfl Tryz.underlying73 rfl 0 (by simp [HNM.out]) ?_)
        | (go_at_call 64; refine (at_calls _ _ _ _ _ (HT.out.upd ((HHUA.out _).out.trans (HU1.out.trans HU2.out)) (fun _ _ => id)) HO.out _ hp (Nat.le_trans (parentS_sizes _) (by decide)) (HG.out.upd ((HHUA.out _).out.trans (HU1.out.trans HU2.out)) (fun _ _ => id))).mono ?_; rintro e w3 ⟨⟨pv, rfl, hpv⟩, hu3⟩; obtain ⟨y, rfl, hly, hky⟩ := placeV_zero hpv HA0.out HT.out HD.out; have HY := Lib.hid hly; have HKY := Lib.hid hky; have HU3 := Lib.hid hu3; clear hpv hu3 hly hky; rw [EA.out])
        | (go_at_call 67; refine (drop_calls _ _ _ _ _ (HT.out.upd ((((HHUA.out _).out.trans (HU1.out.trans (HU2.out.trans HU3.out))).alloc _)) (fun _ _ => id)) _ _ _ HY.out HKY.out _ (Nat.le_trans (total_strike HT.out.nkeys HD.out _) (Nat.le_trans HO.out.tot (by decide)))).mono ?_; rintro e w4 ⟨rfl, hmv⟩; have HMV := Lib.hid hmv; clear hmv)
            )
          go_ret
          rw [HQ.out]
          exact ⟨rfl, _, HMV.out.pre (((HHUA.out _).out.trans (HU1.out.trans (HU2.out.trans HU3.out))).alloc _)⟩
        · have b1 : (o.kind == 3) = true := beq_iff_eq.2 h3
          have b2 : (n.kind == 2) = true := beq_iff_eq.2 hk2
          have HQ : Hid (T.remove o = (7, T)) := by
            show _ = _
            rw [HP.out, if_pos ⟨h3, hk2⟩]
          clear h3 hk2
          go_enter Tryz.func41, Tryz.ntmps41
          go_wp2_with (first
        | (go_at_call 66; refine (parent_calls _ _ hp ?_).mono ?_; (exact HG.out.upd (HHUA.out _).out (fun _ _ => id)); rintro e w1 ⟨rfl, hu1⟩; obtain ⟨hc1, hf1⟩ := bcellU hu1 (fun _ => id); have hz1 : w.heap.size < w1.heap.size := (by have := hu1.size; simp at this; omega); have ht1 : t < w1.heap.size := (by omega); have hx1 : x.blk < w1.heap.size := (by omega); have HU1 := Lib.hid hu1; clear hu1; rw [E.out])
        | (go_at_call 17; refine (find_calls _ _ _ _ _ (HT.out.upd ((HHUA.out _).out.trans HU1.out) (fun _ _ => id)) HO.out _ hp (HG.out.upd ((HHUA.out _).out.trans HU1.out) (fun _ _ => id))).mono ?_; rintro e w2 ⟨rfl, hu2⟩; obtain ⟨hc2, hf2⟩ := bcellU hu2 (fun _ => id); have hz2 : w.heap.size < w2.heap.size := (by have := hu2.size; omega); have ht2 : t < w2.heap.size := (by omega); have hx2 : x.blk < w2.heap.size := (by omega); have HU2 := Lib.hid hu2; clear hu2; rw [E2.out])
        | (at_lookup; refine wpl_lookup _ (HT.out.upd ((HHUA.out _).out.trans (HU1.out.trans HU2.out)) (fun _ _ => id)).map KeyOk.int HT.out.pkeys rfl _ _ 63 rfl Tryz.underlying63 Tryz.underlying3 (.pointer none) (zero72 _) rfl (T.find o.path).1 rfl (.pointer (some ⟨x.blk, 0, none⟩)) (by rw [HPX.out]; rfl) ?_)
            )
          go_ret
          rw [HQ.out]
          exact ⟨rfl, L, Moves.refl HT.out ((HHUA.out _).out.trans (HU1.out.trans HU2.out))⟩
      · rcases hkn with hk1 | hk2
        · have b1 : (o.kind == 3) = false := beq_eq_false_iff_ne.2 (by omega)
          have b2 : (n.kind == 1) = true := beq_iff_eq.2 hk1
          have b3 : (o.kind == 4) = true := beq_iff_eq.2 h4
          have HQ : Hid (T.remove o = (8, T)) := by
            show _ = _
            rw [HP.out, if_neg (by omega), if_pos ⟨h4, hk1⟩]
          clear h4 hk1
          go_enter Tryz.func41, Tryz.ntmps41
          go_wp2_with (first
        | (go_at_call 66; refine (parent_calls _ _ hp ?_).mono ?_; (exact HG.out.upd (HHUA.out _).out (fun _ _ => id)); rintro e w1 ⟨rfl, hu1⟩; obtain ⟨hc1, hf1⟩ := bcellU hu1 (fun _ => id); have hz1 : w.heap.size < w1.heap.size := (by have := hu1.size; simp at this; omega); have ht1 : t < w1.heap.size := (by omega); have hx1 : x.blk < w1.heap.size := (by omega); have HU1 := Lib.hid hu1; clear hu1; rw [E.out])
        | (go_at_call 17; refine (find_calls _ _ _ _ _ (HT.out.upd ((HHUA.out _).out.trans HU1.out) (fun _ _ => id)) HO.out _ hp (HG.out.upd ((HHUA.out _).out.trans HU1.out) (fun _ _ => id))).mono ?_; rintro e w2 ⟨rfl, hu2⟩; obtain ⟨hc2, hf2⟩ := bcellU hu2 (fun _ => id); have hz2 : w.heap.size < w2.heap.size := (by have := hu2.size; omega); have ht2 : t < w2.heap.size := (by omega); have hx2 : x.blk < w2.heap.size := (by omega); have HU2 := Lib.hid hu2; clear hu2; rw [E2.out])
        | (at_lookup; refine wpl_lookup _ (HT.out.upd ((HHUA.out _).out.trans (HU1.out.trans HU2.out)) (fun _ _ => id)).map KeyOk.int HT.out.pkeys rfl _ _ 63 rfl Tryz.underlying63 Tryz.underlying3 (.pointer none) (zero72 _) rfl (T.find o.path).1 rfl (.pointer (some ⟨x.blk, 0, none⟩)) (by rw [HPX.out]; rfl) ?_)
            )
          go_ret
          rw [HQ.out]
          exact ⟨rfl, L, Moves.refl HT.out ((HHUA.out _).out.trans (HU1.out.trans HU2.out))⟩
        · have b1 : (o.kind == 3) = false := beq_eq_false_iff_ne.2 (by omega)
          have b2 : (n.kind == 1) = false := beq_eq_false_iff_ne.2 (by omega)
          have b3 : (o.kind == 4) = true := beq_iff_eq.2 h4
          by_cases hnm : n.names = []
          · have HNM := Lib.hid hnm
            have HQ : Hid (T.remove o = (0, T.dropAt (T.at_ o.path).2.1 d (T.at_ o.path).2.2)) := by
              show _ = _
              rw [HP.out, if_neg (by omega), if_neg (by omega), if_neg (by simp [hnm])]
            clear h4 hk2 hnm
            go_enter Tryz.func41, Tryz.ntmps41
            go_wp2_with (first
        | (go_at_call 66; refine (parent_calls _ _ hp ?_).mono ?_; (exact HG.out.upd (HHUA.out _).out (fun _ _ => id)); rintro e w1 ⟨rfl, hu1⟩; obtain ⟨hc1, hf1⟩ := bcellU hu1 (fun _ => id); have hz1 : w.heap.size < w1.heap.size := (by have := hu1.size; simp at this; omega); have ht1 : t < w1.heap.size := (by omega); have hx1 : x.blk < w1.heap.size := (by omega); have HU1 := Lib.hid hu1; clear hu1; rw [E.out])
        | (go_at_call 17; refine (find_calls _ _ _ _ _ (HT.out.upd ((HHUA.out _).out.trans HU1.out) (fun _ _ => id)) HO.out _ hp (HG.out.upd ((HHUA.out _).out.trans HU1.out) (fun _ _ => id))).mono ?_; rintro e w2 ⟨rfl, hu2⟩; obtain ⟨hc2, hf2⟩ := bcellU hu2 (fun _ => id); have hz2 : w.heap.size < w2.heap.size := (by have := hu2.size; omega); have ht2 : t < w2.heap.size := (by omega); have hx2 : x.blk < w2.heap.size := (by omega); have HU2 := Lib.hid hu2; clear hu2; rw [E2.out])
        | (at_lookup; refine wpl_lookup _ (HT.out.upd ((HHUA.out _).out.trans (HU1.out.trans HU2.out)) (fun _ _ => id)).map KeyOk.int HT.out.pkeys rfl _ _ 63 rfl Tryz.underlying63 Tryz.underlying3 (.pointer none) (zero72 _) rfl (T.find o.path).1 rfl (.pointer (some ⟨x.blk, 0, none⟩)) (by rw [HPX.out]; rfl) ?_)
        | (at_len; refine wpl_lenO _ (((HT.out.upd ((HHUA.out _).out.trans (HU1.out.trans HU2.out)) (fun _ _ => id)).at_ _ (look_mem HX.out)).names.mapO) rfl _ 73 rfl Tryz.underlying73 rfl 0 (by simp [HNM.out]) ?_)
        | (go_at_call 64; refine (at_calls _ _ _ _ _ (HT.out.upd ((HHUA.out _).out.trans (HU1.out.trans HU2.out)) (fun _ _ => id)) HO.out _ hp (Nat.le_trans (parentS_sizes _) (by decide)) (HG.out.upd ((HHUA.out _).out.trans (HU1.out.trans HU2.out)) (fun _ _ => id))).mono ?_; rintro e w3 ⟨⟨pv, rfl, hpv⟩, hu3⟩; obtain ⟨y, rfl, hly, hky⟩ := placeV_zero hpv HA0.out HT.out HD.out; have HY := Lib.hid hly; have HKY := Lib.hid hky; have HU3 := Lib.hid hu3; clear hpv hu3 hly hky; rw [EA.out])
        | (go_at_call 67; refine (drop_calls _ _ _ _ _ (HT.out.upd ((((HHUA.out _).out.trans (HU1.out.trans (HU2.out.trans HU3.out))).alloc _)) (fun _ _ => id)) _ _ _ HY.out HKY.out _ (Nat.le_trans (total_strike HT.out.nkeys HD.out _) (Nat.le_trans HO.out.tot (by decide)))).mono ?_; rintro e w4 ⟨rfl, hmv⟩; have HMV := Lib.hid hmv; clear hmv)
            )
            go_ret
            rw [HQ.out]
            exact ⟨rfl, _, HMV.out.pre (((HHUA.out _).out.trans (HU1.out.trans (HU2.out.trans HU3.out))).alloc _)⟩
          · have hpos : 0 < n.names.length := by rcases Nat.eq_zero_or_pos n.names.length with q | q; exact absurd (List.eq_nil_of_length_eq_zero q) hnm; exact q
            have HQ : Hid (T.remove o = (9, T)) := by
              show _ = _
              rw [HP.out, if_neg (by omega), if_neg (by omega), if_pos hnm]
            clear h4 hk2 hnm
            go_enter Tryz.func41, Tryz.ntmps41
            go_wp2_with (first
        | (go_at_call 66; refine (parent_calls _ _ hp ?_).mono ?_; (exact HG.out.upd (HHUA.out _).out (fun _ _ => id)); rintro e w1 ⟨rfl, hu1⟩; obtain ⟨hc1, hf1⟩ := bcellU hu1 (fun _ => id); have hz1 : w.heap.size < w1.heap.size := (by have := hu1.size; simp at this; omega); have ht1 : t < w1.heap.size := (by omega); have hx1 : x.blk < w1.heap.size := (by omega); have HU1 := Lib.hid hu1; clear hu1; rw [E.out])
        | (go_at_call 17; refine (find_calls _ _ _ _ _ (HT.out.upd ((HHUA.out _).out.trans HU1.out) (fun _ _ => id)) HO.out _ hp (HG.out.upd ((HHUA.out _).out.trans HU1.out) (fun _ _ => id))).mono ?_; rintro e w2 ⟨rfl, hu2⟩; obtain ⟨hc2, hf2⟩ := bcellU hu2 (fun _ => id); have hz2 : w.heap.size < w2.heap.size := (by have := hu2.size; omega); have ht2 : t < w2.heap.size := (by omega); have hx2 : x.blk < w2.heap.size := (by omega); have HU2 := Lib.hid hu2; clear hu2; rw [E2.out])
        | (at_lookup; refine wpl_lookup _ (HT.out.upd ((HHUA.out _).out.trans (HU1.out.trans HU2.out)) (fun _ _ => id)).map KeyOk.int HT.out.pkeys rfl _ _ 63 rfl Tryz.underlying63 Tryz.underlying3 (.pointer none) (zero72 _) rfl (T.find o.path).1 rfl (.pointer (some ⟨x.blk, 0, none⟩)) (by rw [HPX.out]; rfl) ?_)
        | (at_len; refine wpl_lenO _ (((HT.out.upd ((HHUA.out _).out.trans (HU1.out.trans HU2.out)) (fun _ _ => id)).at_ _ (look_mem HX.out)).names.mapO) rfl _ 73 rfl Tryz.underlying73 rfl n.names.length (by simp) ?_)
            )
            go_ret
            rw [HQ.out]
            exact ⟨rfl, L, Moves.refl HT.out ((HHUA.out _).out.trans (HU1.out.trans HU2.out))⟩
#print axioms remove_calls
end Go.Proofs.YtggfepgablfbhaaGreatDoor
