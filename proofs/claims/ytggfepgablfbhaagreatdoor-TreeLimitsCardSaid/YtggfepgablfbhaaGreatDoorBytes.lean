/- Byte slices: appended noughts, copies. -/
import Derived.Test.YtggfepgablfbhaaGreatDoorCreate2
import Derived.Lib.AppendZerosOnto
import Derived.Laws.CopyOwn
import Derived.Laws.IdiomCopy
import Derived.Lib.SliceRun
namespace Go.Proofs.YtggfepgablfbhaaGreatDoor
open Go.RowKit Go.Lib

theorem zeroCells_one (z : Value) (n : Nat) : (Builtin.zeroCells #[z] n).toList = List.replicate n z := by
  simp [Builtin.zeroCells]
  apply List.ext_getElem
  · simp
  · intro i h1 h2
    simp [Nat.mod_one]

theorem run_append_zeros {P : Program} (w : World) (base : Nat) (t tn ty e : TypeId) (i : TypeInfo) (z : Value) (kq kn : IntKind) (ht : P.underlying t = some (.slice e)) (htn : P.underlying tn = some (.int kn)) (hi : P.info? e = some i) (hz : i.zero = some z)
    (hsize : i.size = 1) (hby : i.bytes = 1) (hzc : z.cells = #[z]) (h1c : z.oneCell' = true) (v : Value) (n : Nat) (xs : List Value) (hown : w.ownsRow base e 1 v n xs) (k : Nat) (hb : n + k ≤ 100000) (hbase : base ≤ w.heap.size) :
    ∃ v' w', (Builtin.append_ #[t, tn] ty #[v, .int kq k]).run P w = .ok v' w' ∧ w'.ownsRow base e 1 v' (n + k) (xs ++ List.replicate k z) ∧ w.grownBy w' v.ownBlock := by
  have hw : IntKind.i64.wrap (k : Int) = k := by rw [IntKind.wrap_i64]; omega
  have hneg : ¬ ((k : Int) < 0) := by omega
  have h48i : ¬ (281474976710656 < (k : Int) * (i.bytes : Int)) := by rw [hby]; omega
  have hxl : xs.length = n := by have := hown.1; omega
  have grown : ∀ (old : Nat), old < n + k → ∀ (row : Option Nat) (os : Array Value), os.toList = xs →
      (w.drew.alloc (.cells (os ++ Builtin.zeroCells z.cells k ++ Builtin.zeroCells z.cells (grownCap w (n + k) old e - (n + k))) e)).ownsRow base e 1
        (.slice (some ⟨w.heap.size, 0, none⟩) (n + k) (grownCap w (n + k) old e)) (n + k) (xs ++ List.replicate k z) ∧
      w.grownBy (w.drew.alloc (.cells (os ++ Builtin.zeroCells z.cells k ++ Builtin.zeroCells z.cells (grownCap w (n + k) old e - (n + k))) e)) row := by
    intro old ho row os hos
    have hge := grownCap_ge w (n + k) old e
    have hcm : grownCap w (n + k) old e ≤ maxLen := grownCap_le_maxLen w (n + k) old e (by unfold maxLen; omega)
    have hosz : os.size = n := by rw [← hxl, ← hos]; simp
    refine ⟨⟨by simp [hxl], .inr ⟨w.heap.size, _, _, rfl, hbase, Go.heap_alloc_new w.drew _, hge, hcm, ?_, ?_⟩⟩, ⟨rfl, rfl, rfl, by simp, fun j hj _ => Go.heap_alloc_old w.drew _ hj⟩⟩
    · simp only [Array.size_append, size_zeroCells, hzc, hosz]
      simp
      omega
    · simp only [Array.toList_append, hzc, zeroCells_one, hos]
      rw [List.take_append_of_le_length (by simp [hxl])]
      exact List.take_of_length_le (by simp [hxl])
  rcases hown.2 with ⟨rfl, rfl⟩ | ⟨g, cap, cur, rfl, hbg, hg, hnc, hcm, hcs, htake⟩
  · obtain rfl : xs = [] := List.eq_nil_of_length_eq_zero hxl
    by_cases hk : k = 0
    · subst hk
      refine ⟨.slice none 0 0, w, ?_, World.ownsRow_nil w base e 1, ⟨rfl, rfl, rfl, Nat.le_refl _, fun _ _ _ => rfl⟩⟩
      simp [Builtin.append_, run_underlying ht, run_underlying htn, sizeOf, typeInfo, hi, asInt, asIntOf]
      simp [IntKind.wrap_i64]
    · have hr := run_append_nil_zeros (P := P) w t tn ty e i z kq kn ht htn hi hz k (by omega) (by omega) (by omega) (by rw [hby]; omega)
      have hgr := grown 0 (by omega) (Value.ownBlock (.slice none 0 0)) #[] rfl
      simp only [Nat.zero_add, Array.empty_append] at hgr ⊢
      exact ⟨_, _, hr, hgr.1, hgr.2⟩
  · by_cases hroom : n + k ≤ cap
    · by_cases hk : k = 0
      · subst hk
        refine ⟨.slice (some ⟨g, 0, none⟩) n cap, w, ?_, by simpa using hown, ⟨rfl, rfl, rfl, Nat.le_refl _, fun _ _ _ => rfl⟩⟩
        simp [Builtin.append_, run_underlying ht, run_underlying htn, sizeOf, typeInfo, hi, asInt, asIntOf]
        simp [IntKind.wrap_i64, hnc, storeCells]
      · have hst := run_storeCells_at P g n e (List.replicate k z) 0 cur w hg (by simp; omega) (by intro u hu; rw [List.eq_of_mem_replicate hu]; exact h1c)
        simp only [Nat.add_zero] at hst
        have hns : ¬ (k * i.size = 0) := by rw [hsize]; omega
        refine ⟨.slice (some ⟨g, 0, none⟩) (n + k) cap, w.setRow g (cur.toList.take n ++ List.replicate k z ++ cur.toList.drop (n + (List.replicate k z).length)).toArray, ?_, ⟨by simp [hxl], .inr ⟨g, cap, _, rfl, hbg, setRow_heap w g cur _ e _ hg, hroom, hcm, ?_, ?_⟩⟩, ⟨rfl, rfl, rfl, by simp, fun j _ hj => setRow_other w g j _ (fun q => hj (by simp [Value.ownBlock, q]))⟩⟩
        · have hzl := zeroCells_one z k
          rw [← hzc] at hzl
          simp [Builtin.append_, run_underlying ht, run_underlying htn, sizeOf, typeInfo, zeroValue, hi, hz, asInt, asIntOf, hw, hneg, h48i, hroom, hsize, hzl, Addr.add_lit, hst]
          intro q; exact absurd q hk
        · simp
          omega
        · simp only [Nat.mul_one] at htake ⊢
          rw [htake, List.take_append_of_le_length (by simp [hxl])]
          exact List.take_of_length_le (by simp [hxl])
    · have holds : ∀ j u, xs[j]? = some u → w.cell? ((⟨g, 0, none⟩ : Addr).add j) = some u := hown.cells (g := g) rfl
      have hr := run_append_grow_zeros (P := P) w t tn ty e i z kq kn ht htn hi hz (some ⟨g, 0, none⟩) n cap xs (run_firstCells_some (P := P) w.drew i.size n _ n cap xs (by rw [hsize]; omega) holds) k (by omega) (by omega) (by omega) (by omega) (by rw [hby]; omega) (by rw [hby]; have := nextslicecap_le (need := n + k) (old := cap) (by omega); omega)
      have hgr := grown cap (by omega) (Value.ownBlock (.slice (some ⟨g, 0, none⟩) n cap)) xs.toArray rfl
      exact ⟨_, _, hr, hgr.1, hgr.2⟩

theorem wpl_append_zeros {P : Program} (w : World) {ops : Array Oper} {rest : List Oper} {o : Oper} {a : Act} {Q : Exit → Act → World → Prop} (hgd : o.guard = none) (s x : Operand) (t tn : TypeId)
    (ho : o.op = .call { callee := .builtin .append, args := #[s, x], argTypes := #[t, tn] }) (base : Nat) (e : TypeId) (i : TypeInfo) (z : Value) (kq kn : IntKind) (ht : P.underlying t = some (.slice e)) (htn : P.underlying tn = some (.int kn)) (hi : P.info? e = some i) (hz : i.zero = some z)
    (hsize : i.size = 1) (hby : i.bytes = 1) (hzc : z.cells = #[z]) (h1c : z.oneCell' = true) (v : Value) (n : Nat) (xs : List Value) (hs : a.eval s = v) (hown : w.ownsRow base e 1 v n xs) (K : Int) (hx : a.eval x = .int kq K) (k : Nat) (hK : K = k) (hb : n + k ≤ 100000) (hbase : base ≤ w.heap.size)
    (h : ∀ v' w', Hid (w'.ownsRow base e 1 v' (n + k) (xs ++ List.replicate k z)) → Hid (w.grownBy w' v.ownBlock) → wpList P ops Q rest (a.put o.dst v') w') : wpList P ops Q (o :: rest) a w := by
  subst hK
  obtain ⟨v', w', hr, h1, h2⟩ := run_append_zeros (P := P) w base t tn o.type e i z kq kn ht htn hi hz hsize hby hzc h1c v n xs hown k hb hbase
  exact wpList_append_run w hgd s x t tn ho v _ hs hx v' w' hr (h v' w' h1 h2)

/-- A slice of bytes that can be read. -/
def ByteR (w : World) (v : Value) (bs : List Int) : Prop :=
  ∃ ao c, v = .slice ao bs.length c ∧ bs.length ≤ c ∧ (ao = none → bs = []) ∧ ∀ ad, ao = some ad → ∀ j x, bs[j]? = some x → w.cell? (ad.add j) = some (.int .u8 x)

theorem cell_lt {w : World} {p : Addr} {v : Value} (h : w.cell? p = some v) : p.block < w.heap.size := by
  rcases Nat.lt_or_ge p.block w.heap.size with h' | h'
  · exact h'
  · simp [World.cell?, Array.getElem?_eq_none h'] at h
theorem Upd.cellS {F : Nat → Prop} {w w' : World} (h : Upd F w w') {p : Addr} {v : Value} (hc : w.cell? p = some v) (hf : ¬ F p.block) : w'.cell? p = some v := (h.cell (cell_lt hc) hf).trans hc
theorem ByteR.upd {w w' : World} {v : Value} {bs : List Int} (h : ByteR w v bs) (hu : Upd (fun _ => False) w w') : ByteR w' v bs := by
  obtain ⟨ao, c, h1, h2, h3, h4⟩ := h
  exact ⟨ao, c, h1, h2, h3, fun ad ha j x hx => hu.cellS (h4 ad ha j x hx) id⟩
theorem ByteR.nil (w : World) : ByteR w (.slice none 0 0) [] := ⟨none, 0, rfl, Nat.le_refl _, fun _ => rfl, fun ad q => by cases q⟩
theorem byteR_own {w : World} {B : Nat} {v : Value} {bs : List Int} (h : w.ownsRow B 5 1 v bs.length (nums8 bs)) : ByteR w v bs := by
  rcases h.2 with ⟨rfl, hn⟩ | ⟨g, cap, cur, rfl, hbg, hg, hnc, hcm, hcs, htake⟩
  · obtain rfl := List.eq_nil_of_length_eq_zero hn
    exact .nil w
  · refine ⟨_, cap, rfl, hnc, fun q => (by cases q), fun ad q j x hx => ?_⟩
    cases q
    exact h.cells (g := g) rfl j _ (by unfold nums8; rw [List.getElem?_map, hx]; rfl)
theorem BytesAt.byteR {w : World} {v : Value} {db : Option Nat} {bs : List Int} (h : BytesAt w v db bs) : ByteR w v bs := by
  rcases h with ⟨rfl, _, A, c, rfl⟩ | ⟨g, c, _, hne, rfl, ho⟩
  · exact ⟨A, c, rfl, Nat.zero_le _, fun _ => rfl, fun ad _ j x hx => by simp at hx⟩
  · exact byteR_own ho

theorem nums8_get {bs : List Int} {j : Nat} {u : Value} (h : (nums8 bs)[j]? = some u) : ∃ x, bs[j]? = some x ∧ u = .int .u8 x := by
  unfold nums8 at h
  rw [List.getElem?_map] at h
  cases hq : bs[j]? with
  | none => rw [hq] at h; cases h
  | some x => rw [hq] at h; exact ⟨x, rfl, (Option.some.inj h).symm⟩

theorem info_u8 : (Tryz.prog.info? 5).map (fun i => (i.zero, i.size, i.bytes)) = some (some (.int .u8 0), 1, 1) := by kernel_rfl

set_option maxHeartbeats 2000000 in
set_option maxRecDepth 100000 in
theorem clone_some (w : World) (ad : Addr) (c : Nat) (bs : List Int) (hbig : bs.length ≤ 100000) (hc : ∀ j x, bs[j]? = some x → w.cell? (ad.add j) = some (.int .u8 x)) :
    Calls Tryz.prog 54 #[.slice (some ad) bs.length c] w fun e w' => ∃ v', e = .returned v' ∧ w'.ownsRow w.heap.size 5 1 v' bs.length (nums8 bs) ∧ v' ≠ .slice none 0 0 ∧ Upd (fun _ => False) w w' := by
  obtain ⟨i0, hi, hz0, hz1, hz2⟩ := info_parts info_u8
  have q22 : ∀ (w : World) (a : Option Addr) (n c n' c' : Nat), (binOp .eql 22 (.slice a n c) (.slice none n' c')).run Tryz.prog w = .ok (.bool a.isNone) w := fun w a n c n' c' => Lib.run_eql_slice_nil w _ _ a n c n' c' Tryz.underlying22
  have A : Aside (∀ j x, bs[j]? = some x → w.cell? (ad.add j) = some (.int .u8 x)) := hc
  clear hc
  go_enter Tryz.func54, Tryz.ntmps54
  go_wp2_with (at_builtin; refine wpList_append_own _ rfl _ _ 22 rfl w.heap.size 5 i0 (.int .u8 0) 1 1 Tryz.underlying22 hi hz0 hz1 hz2 rfl (by decide) _ _ _ rfl (World.ownsRow_made w #[] 0 (Nat.le_refl _) (Nat.zero_le _) rfl) ad bs.length c (nums8 bs) rfl ?qc1 ?qc2 ?qc3 ?qc4 ?qc5 ?qc6 ?_)
  case qc1 => simp [nums8]
  case qc2 =>
    intro j u hj
    obtain ⟨x, hx, rfl⟩ := nums8_get hj
    exact Lib.cell?_alloc_some _ (A.out j x hx)
  case qc3 => intro u hu; obtain ⟨x, _, rfl⟩ := List.mem_map.1 hu; rfl
  case qc4 => unfold maxLen; omega
  case qc5 => omega
  case qc6 => simp
  intro v' w1 hown hgrow hnil
  go_wp2
  go_ret
  refine ⟨v', rfl, by simpa using hown, ?_, ?_⟩
  · exact hnil
  · exact Upd.of_below (((Below.refl _ w).alloc (Nat.le_refl _) _).grown hgrow (by simp) (by intro k hk; simp [Value.ownBlock] at hk; omega))

set_option maxHeartbeats 1000000 in
theorem clone_nil (n c : Nat) (w : World) :
    Calls Tryz.prog 54 #[.slice none n c] w fun e w' => e = .returned (.slice none 0 0) ∧ w' = w := by
  have q22 : ∀ (w : World) (a : Option Addr) (n c n' c' : Nat), (binOp .eql 22 (.slice a n c) (.slice none n' c')).run Tryz.prog w = .ok (.bool a.isNone) w := fun w a n c n' c' => Lib.run_eql_slice_nil w _ _ a n c n' c' Tryz.underlying22
  go_enter Tryz.func54, Tryz.ntmps54
  go_wp2
  go_ret
  exact ⟨rfl, rfl⟩

theorem clone_calls (w : World) (v : Value) (bs : List Int) (h : ByteR w v bs) (hbig : bs.length ≤ 100000) :
    Calls Tryz.prog 54 #[v] w fun e w' => (∃ v', e = .returned v' ∧ w'.ownsRow w.heap.size 5 1 v' bs.length (nums8 bs)) ∧ Upd (fun _ => False) w w' := by
  obtain ⟨ao, c, rfl, hcap, hno, hc⟩ := h
  cases ao with
  | none =>
    obtain rfl := hno rfl
    refine (clone_nil 0 c w).mono ?_
    rintro e w' ⟨rfl, rfl⟩
    exact ⟨⟨_, rfl, World.ownsRow_nil _ _ _ _⟩, Upd.refl _ _⟩
  | some ad =>
    refine (clone_some w ad c bs hbig (hc ad rfl)).mono ?_
    rintro e w' ⟨v', rfl, h1, _, h2⟩
    exact ⟨⟨v', rfl, h1⟩, h2⟩

theorem slice_from {P : Program} {t e : TypeId} {i : TypeInfo} (ht : P.underlying t = some (.slice e)) (hi : P.info? e = some i) (hsz : i.size = 1) {w : World} {ao : Option Addr} {n c : Nat} {bs : List Int} (h : ByteR w (.slice ao n c) bs) (l : Nat) (hl : l ≤ n) :
    ∃ ao', (∀ W, (Instr.slice t (.slice ao n c) (some (.int .i64 l)) none none).run P W = .ok (.slice ao' (n - l) (c - l)) W) ∧ ByteR w (.slice ao' (n - l) (c - l)) (bs.drop l) := by
  obtain ⟨ao1, c1, h1, h2, h3, h4⟩ := h
  injection h1 with h1a h1b h1c
  subst h1a
  subst h1b
  subst h1c
  have he : P.elem t = e := by simp [Program.elem, ht]
  refine ⟨if c = l then ao else ao.map (·.add (l * 1)), fun W => ?_, _, _, by rw [List.length_drop], by rw [List.length_drop]; omega, ?_, ?_⟩
  · rw [run_slice_l W t ao bs.length c (by rw [ht, he]) .i64 l (by omega) (by omega), he]
    simp [sizeOf, typeInfo, hi, hsz, sliced]
  · intro q
    split at q
    · rw [h3 q]; simp
    · cases ao with
      | none => rw [h3 rfl]; simp
      | some a => cases q
  · intro ad q j x hx
    have hlt : l + j < bs.length := by
      rw [List.getElem?_drop] at hx
      exact (List.getElem?_eq_some_iff.1 hx).1
    rw [if_neg (by omega)] at q
    cases ao with
    | none => cases q
    | some a =>
      simp at q
      subst q
      rw [Addr.add_add]
      exact h4 a rfl _ x (by rw [← List.getElem?_drop]; exact hx)

theorem slice_to {P : Program} {t e : TypeId} {i : TypeInfo} (ht : P.underlying t = some (.slice e)) (hi : P.info? e = some i) (hsz : i.size = 1) {w : World} {ao : Option Addr} {n c : Nat} {bs : List Int} (h : ByteR w (.slice ao n c) bs) (m : Nat) (hm : m ≤ n) :
    (∀ W, (Instr.slice t (.slice ao n c) none (some (.int .i64 m)) none).run P W = .ok (.slice ao m c) W) ∧ ByteR w (.slice ao m c) (bs.take m) := by
  obtain ⟨ao1, c1, h1, h2, h3, h4⟩ := h
  injection h1 with h1a h1b h1c
  subst h1a
  subst h1b
  subst h1c
  have he : P.elem t = e := by simp [Program.elem, ht]
  refine ⟨fun W => ?_, ao, c, by rw [List.length_take, Nat.min_eq_left hm], by rw [List.length_take]; omega, fun q => by rw [h3 q]; simp, fun ad q j x hx => ?_⟩
  · rw [run_slice_h W t ao bs.length c (by rw [ht, he]) .i64 m (by omega) (by omega), he]
    cases ao with
    | none => simp [sizeOf, typeInfo, hi, hsz, sliced]
    | some a => simp [sizeOf, typeInfo, hi, hsz, sliced, Addr.add]
  · rw [List.getElem?_take] at hx
    split at hx
    · exact h4 ad q j x hx
    · cases hx

theorem bytesAt_own {w : World} {B : Nat} {v : Value} {bs : List Int} (h : w.ownsRow B 5 1 v bs.length (nums8 bs)) : ∃ db, BytesAt w v db bs ∧ ∀ g, db = some g → B ≤ g := by
  rcases h.2 with ⟨rfl, hn⟩ | ⟨g, cap, cur, rfl, hbg, hg, hnc, hcm, hcs, htake⟩
  · exact ⟨none, .inl ⟨List.eq_nil_of_length_eq_zero hn, rfl, none, 0, rfl⟩, fun g q => by cases q⟩
  · by_cases hb : bs = []
    · subst hb
      exact ⟨none, .inl ⟨rfl, rfl, _, cap, rfl⟩, fun g q => by cases q⟩
    · exact ⟨some g, .inr ⟨g, cap, rfl, hb, rfl, h.1, .inr ⟨g, cap, cur, rfl, Nat.zero_le _, hg, hnc, hcm, hcs, htake⟩⟩, fun g' q => by cases q; exact hbg⟩
end Go.Proofs.YtggfepgablfbhaaGreatDoor
