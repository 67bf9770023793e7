/- Walk of tree.link. -/
import Derived.Test.YtggfepgablfbhaaGreatDoorRemove
namespace Go.Proofs.YtggfepgablfbhaaGreatDoor
open Go.RowKit

theorem placeV_err {L : Lay} {r : Int × Int × ByteArray} {pv : Value} (h : PlaceV L r pv) (h0 : r.1 ≠ 0) : pv = .agg #[.pointer none, .string ⟨#[]⟩] := by
  rcases h with ⟨_, h⟩ | ⟨q, _⟩
  · exact h
  · exact absurd q h0
theorem strsAt_new (w : World) (l : List ByteArray) {g : Nat} (hg : g = w.heap.size) (hl : l.length ≤ 9223372036854775807) : StrsAt (w.alloc (.cells (l.map Value.string).toArray 9)) (some ⟨g, 0, none⟩) l := by
  subst hg; exact strsAt_alloc w l hl

/-- One more name, in order. -/
def ltS (a b : ByteArray) : Bool := Op.bytesLess a.toList b.toList
def insN (s : ByteArray) (j : Int) : List (ByteArray × Int) → List (ByteArray × Int)
  | [] => [(s, j)]
  | p :: l => if ltS s p.1 then (s, j) :: p :: l else p :: insN s j l
theorem insN_perm (s : ByteArray) (j : Int) : ∀ l, (insN s j l).Perm ((s, j) :: l)
  | [] => List.Perm.refl _
  | p :: l => by
    unfold insN
    split
    · exact List.Perm.refl _
    · exact ((insN_perm s j l).cons p).trans (List.Perm.swap _ _ _)
theorem insN_keys {s : ByteArray} {j : Int} {l : List (ByteArray × Int)} (hn : (l.map (·.1)).Nodup) (hs : look s l = none) : ((insN s j l).map (·.1)).Nodup := by
  rw [((insN_perm s j l).map (·.1)).nodup_iff]
  simp only [List.map_cons, List.nodup_cons]
  exact ⟨look_none.1 hs, hn⟩
theorem upd_ins {s : ByteArray} {j : Int} {l : List (ByteArray × Int)} (hs : look s l = none) : (upd s (Value.int .i64 j) (l.map fun p => (p.1, Value.int .i64 p.2))).Perm ((insN s j l).map fun p => (p.1, Value.int .i64 p.2)) := by
  rw [upd_look_none (by rw [look_map, hs]; rfl)]
  refine List.Perm.trans ?_ ((insN_perm s j l).map _).symm
  simp

/-- A name given. -/
def Tr.named (T : Tr) (k : Int) (d : Nd) (s : ByteArray) (j : Int) : Tr := { T with nodes := setNode k { d with names := insN s j d.names } T.nodes }

def Tr.link (T : Tr) (o : OpV) : Int × Tr :=
  if (parentS o.dest).1 ≠ 0 then ((parentS o.dest).1, T) else if (T.find o.path).2 ≠ 0 then ((T.find o.path).2, T) else
  match look (T.find o.path).1 T.nodes with
  | none => (5, T)
  | some x => if x.kind = 2 then (7, T) else if (T.at_ o.dest).1 ≠ 0 then ((T.at_ o.dest).1, T) else
    match look (T.at_ o.dest).2.1 T.nodes with
    | none => (5, T)
    | some d => if look (T.at_ o.dest).2.2 d.names ≠ none then (6, T) else if T.links (T.find o.path).1 ≥ 20 then (16, T) else (0, T.named (T.at_ o.dest).2.1 d (T.at_ o.dest).2.2 (T.find o.path).1)

theorem at_ne {T : Tr} (ok : T.Ok) {k : Int} {d : Nd} (hd : look k T.nodes = some d) (s : ByteArray) : (d.at_ s = 0 ↔ look s d.names = none) := by
  unfold Nd.at_
  cases h : look s d.names with
  | none => simp
  | some j =>
    obtain ⟨m, hm⟩ := ok.closed _ _ hd _ _ h
    have := (ok.pos _ _ hm).1
    simp; omega

set_option maxRecDepth 100000 in
set_option maxHeartbeats 8000000 in
theorem link_calls (w : World) (t bm : Nat) (L : Lay) (T : Tr) (hT : TreeAt w t bm L T) (ok : T.Ok) (o : OpV) (A : Option Addr) (c : Nat) (hp : o.path.size ≤ 9223372036854775807) (hq : o.dest.size ≤ 9223372036854775807) (hg : Glob w) :
    Calls Tryz.prog 43 #[.pointer (some ⟨t, 0, none⟩), .agg (opCells o A c)] w fun e w' => e = .returned (errV (T.link o).1) ∧ ∃ L', Moves w w' t bm L L' (T.link o).2 := by
  have HT := Lib.hid hT
  have HO := Lib.hid ok
  have HG := Lib.hid hg
  have hlt := hT.lt
  have hlt1 : t ≤ w.heap.size + 1 := by omega
  have hlt2 : t < w.heap.size + 1 + 1 := by omega
  have c0 := hT.c0
  have HUA : ∀ X, Hid (Upd (fun _ => False) w (w.alloc X)) := fun X => (Upd.refl _ _).alloc X
  have HHUA := Lib.hid HUA
  clear hT ok hg HUA
  unfold opCells
  have HSZ : Hid (∀ s ∈ [o.dest], s.size ≤ 9223372036854775807) := fun s hs => by simp at hs; subst hs; exact hq
  have hpl : parentsS [o.dest] = (parentS o.dest).1 := by
    unfold parentsS
    split
    · rfl
    · rename_i h
      have : (parentS o.dest).1 = 0 := by simpa using h
      rw [this]; rfl
  by_cases h1 : (parentS o.dest).1 ≠ 0
  · have hP : T.link o = ((parentS o.dest).1, T) := by unfold Tr.link; rw [if_pos h1]
    have HP := Lib.hid hP
    have EP : Hid (errV (parentsS [o.dest]) = _) := (by rw [hpl]; exact errV_pos h1 : errV (parentsS [o.dest]) = .iface 77 (.int .i64 (parentS o.dest).1))
    have E := Lib.hid (errV_pos h1)
    clear hP h1 hpl
    go_enter Tryz.func43, Tryz.ntmps43
    go_wp2_with (first
    | (go_at_call 68; refine (parents_calls _ _ _ [o.dest] (strsAt_new _ [o.dest] (by simp) (by simp)) HSZ.out (HG.out.upd ((HHUA.out _).out.alloc _) (fun _ _ => id))).mono ?_; rintro e w1 ⟨rfl, hu1⟩; obtain ⟨hc1, hf1⟩ := bcellU hu1 (fun _ => id); have hz1 : w.heap.size + 2 ≤ w1.heap.size := (by have := hu1.size; (try simp at this); omega); have hy1 : w.heap.size < w1.heap.size := (by omega); have ht1 : t < w1.heap.size := (by omega); have HU1 : Hid (Upd (fun _ => False) w w1) := ((HHUA.out _).out.alloc _).trans hu1; clear hu1; rw [EP.out])
    )
    go_ret
    rw [HP.out, E.out]
    exact ⟨rfl, L, Moves.refl HT.out HU1.out⟩
  · have h0 : (parentS o.dest).1 = 0 := by simpa using h1
    have EP : Hid (errV (parentsS [o.dest]) = .nilIface) := by show errV _ = _; rw [hpl, h0]; rfl
    clear hpl
    by_cases h2 : (T.find o.path).2 ≠ 0
    · have hP : T.link o = ((T.find o.path).2, T) := by unfold Tr.link; rw [if_neg h1, if_pos h2]
      have HP := Lib.hid hP
      have E2 := Lib.hid (errV_pos h2)
      clear hP h1 h0 h2
      go_enter Tryz.func43, Tryz.ntmps43
      go_wp2_with (first
    | (go_at_call 68; refine (parents_calls _ _ _ [o.dest] (strsAt_new _ [o.dest] (by simp) (by simp)) HSZ.out (HG.out.upd ((HHUA.out _).out.alloc _) (fun _ _ => id))).mono ?_; rintro e w1 ⟨rfl, hu1⟩; obtain ⟨hc1, hf1⟩ := bcellU hu1 (fun _ => id); have hz1 : w.heap.size + 2 ≤ w1.heap.size := (by have := hu1.size; (try simp at this); omega); have hy1 : w.heap.size < w1.heap.size := (by omega); have ht1 : t < w1.heap.size := (by omega); have HU1 : Hid (Upd (fun _ => False) w w1) := ((HHUA.out _).out.alloc _).trans hu1; clear hu1; rw [EP.out])
    | (go_at_call 17; refine (find_calls _ _ _ _ _ (HT.out.upd (HU1.out) (fun _ _ => id)) HO.out o.path hp (HG.out.upd (HU1.out) (fun _ _ => id))).mono ?_; rintro e w2 ⟨rfl, hu2⟩; obtain ⟨hc2, hf2⟩ := bcellU hu2 (fun _ => id); have hz2 : w.heap.size + 2 ≤ w2.heap.size := (by have := hu2.size; (try simp at this); omega); have hy2 : w.heap.size < w2.heap.size := (by omega); have ht2 : t < w2.heap.size := (by omega); have HU2 : Hid (Upd (fun _ => False) w w2) := (HU1.out).trans hu2; clear hu2; rw [E2.out])
    )
      go_ret
      rw [HP.out, E2.out]
      exact ⟨rfl, L, Moves.refl HT.out HU2.out⟩
    · have h2' : (T.find o.path).2 = 0 := by simpa using h2
      obtain ⟨n, hn⟩ := find_ok HO.out h2'
      obtain ⟨x, hx, hna, hpx⟩ := HT.out.node hn
      have E2 : Hid (errV (T.find o.path).2 = .nilIface) := by show errV _ = _; rw [h2']; rfl
      have hP : T.link o = if n.kind = 2 then (7, T) else if (T.at_ o.dest).1 ≠ 0 then ((T.at_ o.dest).1, T) else
          match look (T.at_ o.dest).2.1 T.nodes with
          | none => (5, T)
          | some d => if look (T.at_ o.dest).2.2 d.names ≠ none then (6, T) else if T.links (T.find o.path).1 ≥ 20 then (16, T) else (0, T.named (T.at_ o.dest).2.1 d (T.at_ o.dest).2.2 (T.find o.path).1) := by
        unfold Tr.link; rw [if_neg h1, if_neg h2, hn]
      have HP := Lib.hid hP
      have HX := Lib.hid hx
      have HPX := Lib.hid hpx
      have hxb : x.blk < w.heap.size := lt_of_heap hna.cells
      have hxb1 : x.blk ≤ w.heap.size + 1 := by omega
      have hxb2 : x.blk < w.heap.size + 1 + 1 := by omega
      have n0 := HT.out.n0 hx
      clear hP h1 h0 h2 h2' hn hx hna hpx
      by_cases hk : n.kind = 2
      · have b1 : (n.kind == 2) = true := beq_iff_eq.2 hk
        have HQ : Hid (T.link o = (7, T)) := by show _ = _; rw [HP.out, if_pos hk]
        clear hk
        go_enter Tryz.func43, Tryz.ntmps43
        go_wp2_with (first
    | (go_at_call 68; refine (parents_calls _ _ _ [o.dest] (strsAt_new _ [o.dest] (by simp) (by simp)) HSZ.out (HG.out.upd ((HHUA.out _).out.alloc _) (fun _ _ => id))).mono ?_; rintro e w1 ⟨rfl, hu1⟩; obtain ⟨hc1, hf1⟩ := bcellU hu1 (fun _ => id); have hz1 : w.heap.size + 2 ≤ w1.heap.size := (by have := hu1.size; (try simp at this); omega); have hy1 : w.heap.size < w1.heap.size := (by omega); have ht1 : t < w1.heap.size := (by omega); have hbx1 : x.blk < w1.heap.size := (by omega); have HU1 : Hid (Upd (fun _ => False) w w1) := ((HHUA.out _).out.alloc _).trans hu1; clear hu1; rw [EP.out])
    | (go_at_call 17; refine (find_calls _ _ _ _ _ (HT.out.upd (HU1.out) (fun _ _ => id)) HO.out o.path hp (HG.out.upd (HU1.out) (fun _ _ => id))).mono ?_; rintro e w2 ⟨rfl, hu2⟩; obtain ⟨hc2, hf2⟩ := bcellU hu2 (fun _ => id); have hz2 : w.heap.size + 2 ≤ w2.heap.size := (by have := hu2.size; (try simp at this); omega); have hy2 : w.heap.size < w2.heap.size := (by omega); have ht2 : t < w2.heap.size := (by omega); have hbx2 : x.blk < w2.heap.size := (by omega); have HU2 : Hid (Upd (fun _ => False) w w2) := (HU1.out).trans hu2; clear hu2; rw [E2.out])
    | (at_lookup; refine wpl_lookup _ (HT.out.upd (HU2.out) (fun _ _ => id)).map KeyOk.int HT.out.pkeys rfl _ _ 63 rfl Tryz.underlying63 Tryz.underlying3 (.pointer none) (zero72 _) rfl (T.find o.path).1 rfl (.pointer (some ⟨x.blk, 0, none⟩)) (by rw [HPX.out]; rfl) ?_)
    )
        go_ret
        rw [HQ.out]
        exact ⟨rfl, L, Moves.refl HT.out HU2.out⟩
      · have b1 : (n.kind == 2) = false := beq_eq_false_iff_ne.2 hk
        by_cases ha : (T.at_ o.dest).1 ≠ 0
        · have HQ : Hid (T.link o = ((T.at_ o.dest).1, T)) := by show _ = _; rw [HP.out, if_neg hk, if_pos ha]
          have HAN := Lib.hid ha
          have EA := Lib.hid (errV_pos ha)
          clear hk ha
          go_enter Tryz.func43, Tryz.ntmps43
          go_wp2_with (first
    | (go_at_call 68; refine (parents_calls _ _ _ [o.dest] (strsAt_new _ [o.dest] (by simp) (by simp)) HSZ.out (HG.out.upd ((HHUA.out _).out.alloc _) (fun _ _ => id))).mono ?_; rintro e w1 ⟨rfl, hu1⟩; obtain ⟨hc1, hf1⟩ := bcellU hu1 (fun _ => id); have hz1 : w.heap.size + 2 ≤ w1.heap.size := (by have := hu1.size; (try simp at this); omega); have hy1 : w.heap.size < w1.heap.size := (by omega); have ht1 : t < w1.heap.size := (by omega); have hbx1 : x.blk < w1.heap.size := (by omega); have HU1 : Hid (Upd (fun _ => False) w w1) := ((HHUA.out _).out.alloc _).trans hu1; clear hu1; rw [EP.out])
    | (go_at_call 17; refine (find_calls _ _ _ _ _ (HT.out.upd (HU1.out) (fun _ _ => id)) HO.out o.path hp (HG.out.upd (HU1.out) (fun _ _ => id))).mono ?_; rintro e w2 ⟨rfl, hu2⟩; obtain ⟨hc2, hf2⟩ := bcellU hu2 (fun _ => id); have hz2 : w.heap.size + 2 ≤ w2.heap.size := (by have := hu2.size; (try simp at this); omega); have hy2 : w.heap.size < w2.heap.size := (by omega); have ht2 : t < w2.heap.size := (by omega); have hbx2 : x.blk < w2.heap.size := (by omega); have HU2 : Hid (Upd (fun _ => False) w w2) := (HU1.out).trans hu2; clear hu2; rw [E2.out])
    | (at_lookup; refine wpl_lookup _ (HT.out.upd (HU2.out) (fun _ _ => id)).map KeyOk.int HT.out.pkeys rfl _ _ 63 rfl Tryz.underlying63 Tryz.underlying3 (.pointer none) (zero72 _) rfl (T.find o.path).1 rfl (.pointer (some ⟨x.blk, 0, none⟩)) (by rw [HPX.out]; rfl) ?_)
    | (go_at_call 64; refine (at_calls _ _ _ _ _ (HT.out.upd (HU2.out) (fun _ _ => id)) HO.out o.dest hq (Nat.le_trans (parentS_sizes _) (by decide)) (HG.out.upd (HU2.out) (fun _ _ => id))).mono ?_; rintro e w3 ⟨⟨pv, rfl, hpv⟩, hu3⟩; obtain rfl := placeV_err hpv HAN.out; clear hpv; obtain ⟨hc3, hf3⟩ := bcellU hu3 (fun _ => id); have hz3 : w.heap.size + 2 ≤ w3.heap.size := (by have := hu3.size; (try simp at this); omega); have hy3 : w.heap.size < w3.heap.size := (by omega); have ht3 : t < w3.heap.size := (by omega); have hbx3 : x.blk < w3.heap.size := (by omega); have HU3 : Hid (Upd (fun _ => False) w w3) := (HU2.out).trans hu3; clear hu3; rw [EA.out])
    )
          go_ret
          rw [HQ.out, EA.out]
          exact ⟨rfl, L, Moves.refl HT.out (HU3.out.alloc _)⟩
        · have ha0 : (T.at_ o.dest).1 = 0 := by simpa using ha
          obtain ⟨z1, z2, d, hd, hkd, z3, z4⟩ := at_zero ha0
          clear z1 z2 z3 z4
          obtain ⟨y, hy, hnay, _⟩ := HT.out.node hd
          have hkd2 := (HO.out.kind _ _ hd).resolve_left hkd
          obtain ⟨b, hb, hmb, hnd⟩ := HT.out.mb hy hkd2
          have EA : Hid (errV (T.at_ o.dest).1 = .nilIface) := by show errV _ = _; rw [ha0]; rfl
          have HA0 := Lib.hid ha0
          have HD := Lib.hid hd
          have HY_y := Lib.hid hy
          have HKY_y := Lib.hid hkd2
          have HB := Lib.hid hb
          have HMB := Lib.hid hmb
          have HND := Lib.hid hnd
          have hyb : y.blk < w.heap.size := lt_of_heap hnay.cells
          have hyb1 : y.blk ≤ w.heap.size + 1 := by omega
          have hyb2 : y.blk < w.heap.size + 1 + 1 := by omega
          have y2 := HT.out.n2 hy
          rw [hb] at y2
          have hane := at_ne HO.out hd (T.at_ o.dest).2.2
          by_cases hl : look (T.at_ o.dest).2.2 d.names ≠ none
          · have HQ : Hid (T.link o = (6, T)) := by show _ = _; rw [HP.out, if_neg hk, if_neg ha, hd]; simp only; rw [if_pos hl]
            have b2 : (d.at_ (T.at_ o.dest).2.2 != 0) = true := by rw [bne_iff_ne]; exact fun q => hl (hane.1 q)
            clear hk ha ha0 hd hkd hy hnay hkd2 hb hmb hnd hl hane y2
            go_enter Tryz.func43, Tryz.ntmps43
            go_wp2_with (first
    | (go_at_call 68; refine (parents_calls _ _ _ [o.dest] (strsAt_new _ [o.dest] (by simp) (by simp)) HSZ.out (HG.out.upd ((HHUA.out _).out.alloc _) (fun _ _ => id))).mono ?_; rintro e w1 ⟨rfl, hu1⟩; obtain ⟨hc1, hf1⟩ := bcellU hu1 (fun _ => id); have hz1 : w.heap.size + 2 ≤ w1.heap.size := (by have := hu1.size; (try simp at this); omega); have hy1 : w.heap.size < w1.heap.size := (by omega); have ht1 : t < w1.heap.size := (by omega); have hbx1 : x.blk < w1.heap.size := (by omega); have hby1 : y.blk < w1.heap.size := (by omega); have HU1 : Hid (Upd (fun _ => False) w w1) := ((HHUA.out _).out.alloc _).trans hu1; clear hu1; rw [EP.out])
    | (go_at_call 17; refine (find_calls _ _ _ _ _ (HT.out.upd (HU1.out) (fun _ _ => id)) HO.out o.path hp (HG.out.upd (HU1.out) (fun _ _ => id))).mono ?_; rintro e w2 ⟨rfl, hu2⟩; obtain ⟨hc2, hf2⟩ := bcellU hu2 (fun _ => id); have hz2 : w.heap.size + 2 ≤ w2.heap.size := (by have := hu2.size; (try simp at this); omega); have hy2 : w.heap.size < w2.heap.size := (by omega); have ht2 : t < w2.heap.size := (by omega); have hbx2 : x.blk < w2.heap.size := (by omega); have hby2 : y.blk < w2.heap.size := (by omega); have HU2 : Hid (Upd (fun _ => False) w w2) := (HU1.out).trans hu2; clear hu2; rw [E2.out])
    | (at_lookup; refine wpl_lookup _ (HT.out.upd (HU2.out) (fun _ _ => id)).map KeyOk.int HT.out.pkeys rfl _ _ 63 rfl Tryz.underlying63 Tryz.underlying3 (.pointer none) (zero72 _) rfl (T.find o.path).1 rfl (.pointer (some ⟨x.blk, 0, none⟩)) (by rw [HPX.out]; rfl) ?_)
    | (go_at_call 64; refine (at_calls _ _ _ _ _ (HT.out.upd (HU2.out) (fun _ _ => id)) HO.out o.dest hq (Nat.le_trans (parentS_sizes _) (by decide)) (HG.out.upd (HU2.out) (fun _ _ => id))).mono ?_; rintro e w3 ⟨⟨pv, rfl, hpv⟩, hu3⟩; obtain ⟨y', rfl, hly, hky⟩ := placeV_zero hpv HA0.out HT.out HD.out; have hyy : y' = y := (Prod.mk.inj (Option.some.inj (hly.symm.trans HY_y.out))).1; rw [hyy]; clear hpv hly hky hyy; obtain ⟨hc3, hf3⟩ := bcellU hu3 (fun _ => id); have hz3 : w.heap.size + 2 ≤ w3.heap.size := (by have := hu3.size; (try simp at this); omega); have hy3 : w.heap.size < w3.heap.size := (by omega); have ht3 : t < w3.heap.size := (by omega); have hbx3 : x.blk < w3.heap.size := (by omega); have hby3 : y.blk < w3.heap.size := (by omega); have HU3 : Hid (Upd (fun _ => False) w w3) := (HU2.out).trans hu3; clear hu3; rw [EA.out])
    | (go_at_call 65; refine (ino_calls _ t bm L T (HT.out.upd (HU3.out.alloc _) (fun _ _ => id)) _ y _ HY_y.out HKY_y.out _).mono ?_; rintro e w4 ⟨rfl, hu4⟩; obtain ⟨hc4, hf4⟩ := bcellU hu4 (fun _ => id); have hz4 : w.heap.size + 2 ≤ w4.heap.size := (by have := hu4.size; (try simp at this); omega); have hy4 : w.heap.size < w4.heap.size := (by omega); have ht4 : t < w4.heap.size := (by omega); have hpl3_4 : w3.heap.size < w4.heap.size := (by have := hu4.size; (try simp at this); omega); have hbx4 : x.blk < w4.heap.size := (by omega); have hby4 : y.blk < w4.heap.size := (by omega); have HU4 : Hid (Upd (fun _ => False) w w4) := (HU3.out.alloc _).trans hu4; clear hu4)
    )
            go_ret
            rw [HQ.out]
            exact ⟨rfl, L, Moves.refl HT.out HU4.out⟩
          · have hl0 : look (T.at_ o.dest).2.2 d.names = none := by simpa using hl
            have VA : Hid (d.at_ (T.at_ o.dest).2.2 = 0) := hane.2 hl0
            by_cases hc : T.links (T.find o.path).1 ≥ 20
            · have HQ : Hid (T.link o = (16, T)) := by show _ = _; rw [HP.out, if_neg hk, if_neg ha, hd]; simp only; rw [if_neg hl, if_pos hc]
              clear hk ha ha0 hd hkd hy hnay hkd2 hb hmb hnd hl hane y2 hl0
              go_enter Tryz.func43, Tryz.ntmps43
              go_wp2_with (first
    | (go_at_call 68; refine (parents_calls _ _ _ [o.dest] (strsAt_new _ [o.dest] (by simp) (by simp)) HSZ.out (HG.out.upd ((HHUA.out _).out.alloc _) (fun _ _ => id))).mono ?_; rintro e w1 ⟨rfl, hu1⟩; obtain ⟨hc1, hf1⟩ := bcellU hu1 (fun _ => id); have hz1 : w.heap.size + 2 ≤ w1.heap.size := (by have := hu1.size; (try simp at this); omega); have hy1 : w.heap.size < w1.heap.size := (by omega); have ht1 : t < w1.heap.size := (by omega); have hbx1 : x.blk < w1.heap.size := (by omega); have hby1 : y.blk < w1.heap.size := (by omega); have HU1 : Hid (Upd (fun _ => False) w w1) := ((HHUA.out _).out.alloc _).trans hu1; clear hu1; rw [EP.out])
    | (go_at_call 17; refine (find_calls _ _ _ _ _ (HT.out.upd (HU1.out) (fun _ _ => id)) HO.out o.path hp (HG.out.upd (HU1.out) (fun _ _ => id))).mono ?_; rintro e w2 ⟨rfl, hu2⟩; obtain ⟨hc2, hf2⟩ := bcellU hu2 (fun _ => id); have hz2 : w.heap.size + 2 ≤ w2.heap.size := (by have := hu2.size; (try simp at this); omega); have hy2 : w.heap.size < w2.heap.size := (by omega); have ht2 : t < w2.heap.size := (by omega); have hbx2 : x.blk < w2.heap.size := (by omega); have hby2 : y.blk < w2.heap.size := (by omega); have HU2 : Hid (Upd (fun _ => False) w w2) := (HU1.out).trans hu2; clear hu2; rw [E2.out])
    | (at_lookup; refine wpl_lookup _ (HT.out.upd (HU2.out) (fun _ _ => id)).map KeyOk.int HT.out.pkeys rfl _ _ 63 rfl Tryz.underlying63 Tryz.underlying3 (.pointer none) (zero72 _) rfl (T.find o.path).1 rfl (.pointer (some ⟨x.blk, 0, none⟩)) (by rw [HPX.out]; rfl) ?_)
    | (go_at_call 64; refine (at_calls _ _ _ _ _ (HT.out.upd (HU2.out) (fun _ _ => id)) HO.out o.dest hq (Nat.le_trans (parentS_sizes _) (by decide)) (HG.out.upd (HU2.out) (fun _ _ => id))).mono ?_; rintro e w3 ⟨⟨pv, rfl, hpv⟩, hu3⟩; obtain ⟨y', rfl, hly, hky⟩ := placeV_zero hpv HA0.out HT.out HD.out; have hyy : y' = y := (Prod.mk.inj (Option.some.inj (hly.symm.trans HY_y.out))).1; rw [hyy]; clear hpv hly hky hyy; obtain ⟨hc3, hf3⟩ := bcellU hu3 (fun _ => id); have hz3 : w.heap.size + 2 ≤ w3.heap.size := (by have := hu3.size; (try simp at this); omega); have hy3 : w.heap.size < w3.heap.size := (by omega); have ht3 : t < w3.heap.size := (by omega); have hbx3 : x.blk < w3.heap.size := (by omega); have hby3 : y.blk < w3.heap.size := (by omega); have HU3 : Hid (Upd (fun _ => False) w w3) := (HU2.out).trans hu3; clear hu3; rw [EA.out])
    | (go_at_call 65; refine (ino_calls _ t bm L T (HT.out.upd (HU3.out.alloc _) (fun _ _ => id)) _ y _ HY_y.out HKY_y.out _).mono ?_; rintro e w4 ⟨rfl, hu4⟩; obtain ⟨hc4, hf4⟩ := bcellU hu4 (fun _ => id); have hz4 : w.heap.size + 2 ≤ w4.heap.size := (by have := hu4.size; (try simp at this); omega); have hy4 : w.heap.size < w4.heap.size := (by omega); have ht4 : t < w4.heap.size := (by omega); have hpl3_4 : w3.heap.size < w4.heap.size := (by have := hu4.size; (try simp at this); omega); have hbx4 : x.blk < w4.heap.size := (by omega); have hby4 : y.blk < w4.heap.size := (by omega); have HU4 : Hid (Upd (fun _ => False) w w4) := (HU3.out.alloc _).trans hu4; clear hu4; rw [VA.out])
    | (go_at_call 25; refine (links_calls _ t bm _ _ (HT.out.upd (HU4.out) (fun _ _ => id)) (Nat.le_trans HO.out.tot (by decide)) _).mono ?_; rintro e w5 ⟨rfl, hu5⟩; obtain ⟨hc5, hf5⟩ := bcellU hu5 (fun _ => id); have hz5 : w.heap.size + 2 ≤ w5.heap.size := (by have := hu5.size; (try simp at this); omega); have hy5 : w.heap.size < w5.heap.size := (by omega); have ht5 : t < w5.heap.size := (by omega); have hpl3_5 : w3.heap.size < w5.heap.size := (by have := hu5.size; (try simp at this); omega); have hbx5 : x.blk < w5.heap.size := (by omega); have hby5 : y.blk < w5.heap.size := (by omega); have HU5 : Hid (Upd (fun _ => False) w w5) := (HU4.out).trans hu5; clear hu5)
    )
              go_ret
              rw [HQ.out]
              exact ⟨rfl, L, Moves.refl HT.out HU5.out⟩
            · have HQ : Hid (T.link o = (0, T.named (T.at_ o.dest).2.1 d (T.at_ o.dest).2.2 (T.find o.path).1)) := by show _ = _; rw [HP.out, if_neg hk, if_neg ha, hd]; simp only; rw [if_neg hl, if_neg hc]
              have HL0 := Lib.hid hl0
              clear hk ha ha0 hd hkd hy hnay hkd2 hb hmb hnd hl hane hl0
              go_enter Tryz.func43, Tryz.ntmps43
              go_wp2_with (first
    | (go_at_call 68; refine (parents_calls _ _ _ [o.dest] (strsAt_new _ [o.dest] (by simp) (by simp)) HSZ.out (HG.out.upd ((HHUA.out _).out.alloc _) (fun _ _ => id))).mono ?_; rintro e w1 ⟨rfl, hu1⟩; obtain ⟨hc1, hf1⟩ := bcellU hu1 (fun _ => id); have hz1 : w.heap.size + 2 ≤ w1.heap.size := (by have := hu1.size; (try simp at this); omega); have hy1 : w.heap.size < w1.heap.size := (by omega); have ht1 : t < w1.heap.size := (by omega); have hbx1 : x.blk < w1.heap.size := (by omega); have hby1 : y.blk < w1.heap.size := (by omega); have HU1 : Hid (Upd (fun _ => False) w w1) := ((HHUA.out _).out.alloc _).trans hu1; clear hu1; rw [EP.out])
    | (go_at_call 17; refine (find_calls _ _ _ _ _ (HT.out.upd (HU1.out) (fun _ _ => id)) HO.out o.path hp (HG.out.upd (HU1.out) (fun _ _ => id))).mono ?_; rintro e w2 ⟨rfl, hu2⟩; obtain ⟨hc2, hf2⟩ := bcellU hu2 (fun _ => id); have hz2 : w.heap.size + 2 ≤ w2.heap.size := (by have := hu2.size; (try simp at this); omega); have hy2 : w.heap.size < w2.heap.size := (by omega); have ht2 : t < w2.heap.size := (by omega); have hbx2 : x.blk < w2.heap.size := (by omega); have hby2 : y.blk < w2.heap.size := (by omega); have HU2 : Hid (Upd (fun _ => False) w w2) := (HU1.out).trans hu2; clear hu2; rw [E2.out])
    | (at_lookup; refine wpl_lookup _ (HT.out.upd (HU2.out) (fun _ _ => id)).map KeyOk.int HT.out.pkeys rfl _ _ 63 rfl Tryz.underlying63 Tryz.underlying3 (.pointer none) (zero72 _) rfl (T.find o.path).1 rfl (.pointer (some ⟨x.blk, 0, none⟩)) (by rw [HPX.out]; rfl) ?_)
    | (go_at_call 64; refine (at_calls _ _ _ _ _ (HT.out.upd (HU2.out) (fun _ _ => id)) HO.out o.dest hq (Nat.le_trans (parentS_sizes _) (by decide)) (HG.out.upd (HU2.out) (fun _ _ => id))).mono ?_; rintro e w3 ⟨⟨pv, rfl, hpv⟩, hu3⟩; obtain ⟨y', rfl, hly, hky⟩ := placeV_zero hpv HA0.out HT.out HD.out; have hyy : y' = y := (Prod.mk.inj (Option.some.inj (hly.symm.trans HY_y.out))).1; rw [hyy]; clear hpv hly hky hyy; obtain ⟨hc3, hf3⟩ := bcellU hu3 (fun _ => id); have hz3 : w.heap.size + 2 ≤ w3.heap.size := (by have := hu3.size; (try simp at this); omega); have hy3 : w.heap.size < w3.heap.size := (by omega); have ht3 : t < w3.heap.size := (by omega); have hbx3 : x.blk < w3.heap.size := (by omega); have hby3 : y.blk < w3.heap.size := (by omega); have HU3 : Hid (Upd (fun _ => False) w w3) := (HU2.out).trans hu3; clear hu3; rw [EA.out])
    | (go_at_call 65; refine (ino_calls _ t bm L T (HT.out.upd (HU3.out.alloc _) (fun _ _ => id)) _ y _ HY_y.out HKY_y.out _).mono ?_; rintro e w4 ⟨rfl, hu4⟩; obtain ⟨hc4, hf4⟩ := bcellU hu4 (fun _ => id); have hz4 : w.heap.size + 2 ≤ w4.heap.size := (by have := hu4.size; (try simp at this); omega); have hy4 : w.heap.size < w4.heap.size := (by omega); have ht4 : t < w4.heap.size := (by omega); have hpl3_4 : w3.heap.size < w4.heap.size := (by have := hu4.size; (try simp at this); omega); have hbx4 : x.blk < w4.heap.size := (by omega); have hby4 : y.blk < w4.heap.size := (by omega); have HU4 : Hid (Upd (fun _ => False) w w4) := (HU3.out.alloc _).trans hu4; clear hu4; rw [VA.out])
    | (go_at_call 25; refine (links_calls _ t bm _ _ (HT.out.upd (HU4.out) (fun _ _ => id)) (Nat.le_trans HO.out.tot (by decide)) _).mono ?_; rintro e w5 ⟨rfl, hu5⟩; obtain ⟨hc5, hf5⟩ := bcellU hu5 (fun _ => id); have hz5 : w.heap.size + 2 ≤ w5.heap.size := (by have := hu5.size; (try simp at this); omega); have hy5 : w.heap.size < w5.heap.size := (by omega); have ht5 : t < w5.heap.size := (by omega); have hpl3_5 : w3.heap.size < w5.heap.size := (by have := hu5.size; (try simp at this); omega); have hbx5 : x.blk < w5.heap.size := (by omega); have hby5 : y.blk < w5.heap.size := (by omega); have HU5 : Hid (Upd (fun _ => False) w w5) := (HU4.out).trans hu5; clear hu5)
    )
              refine wp_region_still_tail 8 (by kernel_rfl) (by kernel_rfl) ?_; simp only [List.take_succ_cons, List.take_zero, List.drop_succ_cons, List.drop_zero]; change wpStill _ _ w5.drew _ _ _; repeat still_step
              refine wpStill_nil ?_
              have HU5d : Hid (Upd (fun _ => False) w w5.drew) := HU5.out.drew
              go_wp2_with (at_mapUpdate; refine wpl_update _ (HMB.out.kept (HU5d.out.block b HMB.out.lt id)) KeyOk.string (by rw [keys_map]; exact HND.out) rfl _ _ _ 73 rfl Tryz.underlying73 Tryz.underlying9 rfl (T.at_ o.dest).2.2 rfl (.int .i64 (T.find o.path).1) rfl (fun w6 hm2 hu2 hs2 => Hold.out ?_))
              refine ⟨?_⟩
              have hmv := ((HT.out.upd HU5d.out (fun _ _ => id)).setNames HY_y.out HB.out (insN (T.at_ o.dest).2.2 (T.find o.path).1 d.names) hu2 (hm2.perm (upd_ins HL0.out)) (insN_keys HND.out HL0.out)).pre HU5d.out
              have HMV := Lib.hid hmv
              clear hmv hm2 hu2 hs2
              go_wp2
              go_ret
              rw [HQ.out]
              exact ⟨rfl, _, HMV.out⟩
#print axioms link_calls
end Go.Proofs.YtggfepgablfbhaaGreatDoor
