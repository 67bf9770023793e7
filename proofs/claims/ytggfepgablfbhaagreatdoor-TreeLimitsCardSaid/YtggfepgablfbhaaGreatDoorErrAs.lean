/- errors.As at these packages' faults, by contracts. -/
import Derived.Test.YtggfepgablfbhaaGreatDoorErrIs
namespace Go.Proofs.YtggfepgablfbhaaGreatDoor
open Go.RowKit Go.Extern.Stop Go.Stop Go.Extern

theorem as_nil (t : Value) (w : World) :
    Calls Tryz.prog 60 #[.nilIface, t] w fun e w' => e = .returned (.bool false) ∧ w = w' := by
  go_enter Tryz.func60, Tryz.ntmps60
  go_wp2
  go_ret
  exact ⟨rfl, rfl⟩

theorem as_valueOf (t : Addr) (w : World) : (callFunc 94 #[.iface 103 (.pointer (some t))]).run Tryz.prog w = .ok (.value (.agg #[.pointer (some ⟨4, 103, none⟩), .pointer (some ⟨w.heap.size, 0, none⟩), .int .u64 150])) (w.alloc (.cells #[.pointer (some t)] 103)) := by kernel_rfl
theorem as_valueOf2 (e : Addr) (w : World) : (callFunc 94 #[.iface 101 (.pointer (some e))]).run Tryz.prog w = .ok (.value (.agg #[.pointer (some ⟨4, 101, none⟩), .pointer (some ⟨w.heap.size, 0, none⟩), .int .u64 150])) (w.alloc (.cells #[.pointer (some e)] 101)) := by kernel_rfl
theorem as_type (a : Addr) (w : World) : (callFunc 95 #[.agg #[.pointer (some ⟨4, 103, none⟩), .pointer (some a), .int .u64 150]]).run Tryz.prog w = .ok (.value (.iface 152 (.agg #[.pointer (some ⟨4, 103, none⟩)]))) w := by kernel_rfl
theorem as_mKind (h : Value) (w : World) : (Go.method 356 152 (.agg #[h]) "Kind").run Tryz.prog w = .ok (190, h) w := by kernel_rfl
theorem as_kind1 (w : World) : (callFunc 190 #[.pointer (some ⟨4, 103, none⟩)]).run Tryz.prog w = .ok (.value (.int .u8 22)) w := by kernel_rfl
theorem as_kind2 (w : World) : (callFunc 190 #[.pointer (some ⟨4, 101, none⟩)]).run Tryz.prog w = .ok (.value (.int .u8 22)) w := by kernel_rfl
theorem as_rlm (z : Sem Value) (f : TypeId → Addr → Nat → Nat → Sem Value) (v : Value) :
    ReflectliteValue.method z f #[v] = (do match ← ReflectliteValue.parts v with | none => z | some (t, a, fl) => f t a fl (fl % 32)) := rfl
theorem as_parts (a : Addr) (w : World) : (ReflectliteValue.parts (.agg #[.pointer (some ⟨4, 103, none⟩), .pointer (some a), .int .u64 150])).run Tryz.prog w = .ok (some (103, a, 150)) w := by kernel_rfl
theorem as_isNil (a p : Addr) (W : World) (ha : W.cell? a = some (.pointer (some p))) :
    (ReflectliteValue.method (ReflectliteValue.valueError "reflectlite.Value.IsNil" 0) ReflectliteValue.isNil #[.agg #[.pointer (some ⟨4, 103, none⟩), .pointer (some a), .int .u64 150]]).run Tryz.prog W = .ok (.bool false) W := by
  rw [as_rlm]
  simp only [Sem.run_bind, as_parts, Result.andThen]
  simp [ReflectliteValue.isNil, loadVar, isAgg, underlying, Tryz.underlying103, ha, Result.andThen]
theorem as_mElem (h : Value) (w : World) : (Go.method 356 152 (.agg #[h]) "Elem").run Tryz.prog w = .ok (202, .agg #[h]) w := by kernel_rfl
theorem as_mImplements (h : Value) (w : World) : (Go.method 356 152 (.agg #[h]) "Implements").run Tryz.prog w = .ok (203, .agg #[h]) w := by kernel_rfl
theorem as_mAssignable (h : Value) (w : World) : (Go.method 356 152 (.agg #[h]) "AssignableTo").run Tryz.prog w = .ok (200, .agg #[h]) w := by kernel_rfl
theorem as_elemT (w : World) : (callFunc 202 #[.agg #[.pointer (some ⟨4, 103, none⟩)]]).run Tryz.prog w = .ok (.value (.iface 152 (.agg #[.pointer (some ⟨4, 101, none⟩)]))) w := by kernel_rfl
theorem as_implements (w : World) : (callFunc 203 #[.agg #[.pointer (some ⟨4, 101, none⟩)], .iface 152 (.agg #[.pointer (some ⟨4, 31, none⟩)])]).run Tryz.prog w = .ok (.value (.bool true)) w := by kernel_rfl
theorem as_typeOf (v : Value) (w : World) : (callFunc 77 #[.iface 101 v]).run Tryz.prog w = .ok (.value (.iface 152 (.agg #[.pointer (some ⟨4, 101, none⟩)]))) w := by kernel_rfl
theorem as_assignable (w : World) : (callFunc 200 #[.agg #[.pointer (some ⟨4, 101, none⟩)], .iface 152 (.agg #[.pointer (some ⟨4, 101, none⟩)])]).run Tryz.prog w = .ok (.value (.bool true)) w := by kernel_rfl
theorem as_elemOf (w : World) : (Rtype.elem? 103).run Tryz.prog w = .ok (some 101) w := by kernel_rfl
theorem as_mk (p : Addr) (w : World) : (ReflectliteValue.mk 101 p ReflectliteValue.flagAddr).run Tryz.prog w = .ok (.agg #[.pointer (some ⟨4, 101, none⟩), .pointer (some p), .int .u64 406]) w := by kernel_rfl
theorem as_elemV (a p : Addr) (W : World) (ha : W.cell? a = some (.pointer (some p))) :
    (ReflectliteValue.method (ReflectliteValue.valueError "reflectlite.Value.Elem" 0) ReflectliteValue.elem #[.agg #[.pointer (some ⟨4, 103, none⟩), .pointer (some a), .int .u64 150]]).run Tryz.prog W = .ok (.agg #[.pointer (some ⟨4, 101, none⟩), .pointer (some p), .int .u64 406]) W := by
  rw [as_rlm]
  simp only [Sem.run_bind, as_parts, Result.andThen]
  simp [ReflectliteValue.elem, loadVar, isAgg, underlying, Tryz.underlying103, ha, Result.andThen, as_elemOf, as_mk]
theorem as_rls (v x : Value) : ReflectliteValue.set #[v, x] = (do
    let (some (dst, a, fl), some (src, b, _)) := (← ReflectliteValue.parts v, ← ReflectliteValue.parts x)
      | unsupported (.noEntry "extern/(internal/reflectlite.Value).Set.zeroValue")
    if fl / ReflectliteValue.flagAddr % 2 == 0 then unsupported (.noEntry "extern/(internal/reflectlite.Value).Set.unaddressable")
    let val ← loadVar src b
    if ← Rtype.directlyAssignable dst src then storeVar dst a val
    else if ← Rtype.implements dst src then
      if (← Rtype.kind src) == 20 then
        match val with
        | .nilIface => unsupported (.noEntry "extern/reflectlite: a nil value of one interface type handed on as a value of another")
        | _ => storeVar dst a val
      else storeVar dst a (.iface src val)
    else panicString ("reflectlite.Set: value of type " ++ (← Rtype.spelt src) ++ " is not assignable to type " ++ (← Rtype.spelt dst))
    pure (.tuple #[])) := rfl
theorem as_xparts25a (a : Addr) (w : World) : (ReflectliteValue.parts (.agg #[.pointer (some ⟨4, 101, none⟩), .pointer (some a), .int .u64 406])).run Tryz.prog w = .ok (some (101, a, 406)) w := by kernel_rfl
theorem as_xparts25 (a : Addr) (w : World) : (ReflectliteValue.parts (.agg #[.pointer (some ⟨4, 101, none⟩), .pointer (some a), .int .u64 150])).run Tryz.prog w = .ok (some (101, a, 150)) w := by kernel_rfl
theorem as_xdirect25 (w : World) : (Rtype.directlyAssignable 101 101).run Tryz.prog w = .ok true w := by kernel_rfl
theorem as_xsize25 (w : World) : (sizeOf 101).run Tryz.prog w = .ok 1 w := by kernel_rfl
/-- (Value).Set: the *p.E variable at 'ta' gets what the Value's own variable 'b' holds. -/
theorem as_xset25 (ta b e : Addr) (old : Value) (W : World) (hb : W.cell? b = some (.pointer (some e))) (ht : W.cell? ta = some old) (hf : W.frozen? ta = false) :
    (ReflectliteValue.set #[.agg #[.pointer (some ⟨4, 101, none⟩), .pointer (some ta), .int .u64 406], .agg #[.pointer (some ⟨4, 101, none⟩), .pointer (some b), .int .u64 150]]).run Tryz.prog W
      = .ok (.tuple #[]) (W.setCell ta (.pointer (some e))) := by
  rw [as_rls]
  simp only [Sem.run_bind, as_xparts25a, as_xparts25, Result.andThen]
  simp [ReflectliteValue.flagAddr, loadVar, isAgg, underlying, Tryz.underlying101, hb, Result.andThen, as_xdirect25, storeVar, Value.cells, storeCells, Addr.add]
  rw [run_store Tryz.prog W ta _ _ (by rfl)]
  simp [ht, hf]

set_option maxHeartbeats 4000000 in
theorem as_hit (e t : Addr) (old : Value) (w : World) (hg : w.cell? ⟨0, 0, none⟩ = some (.iface 152 (.agg #[.pointer (some ⟨4, 31, none⟩)]))) (ht0 : w.cell? t = some old) (hf0 : w.frozen? t = false) :
    Calls Tryz.prog 60 #[.iface 101 (.pointer (some e)), .iface 103 (.pointer (some t))] w fun ev w' => ev = .returned (.bool true) ∧ w' = ((((w.alloc (.cells #[.pointer (some t)] 103)).alloc (.cells #[.pointer (some ⟨4, 103, none⟩), .pointer (some ⟨w.heap.size, 0, none⟩), .int .u64 150] 140)).alloc (.cells #[.pointer (some ⟨4, 103, none⟩), .pointer (some ⟨w.heap.size, 0, none⟩), .int .u64 150] 140)).alloc (.cells #[.pointer (some e)] 101)).setCell t (.pointer (some e)) := by
  have h8 := @run_callFunc_extern Tryz.prog 96 _ (ReflectliteValue.method (ReflectliteValue.valueError "reflectlite.Value.IsNil" 0) ReflectliteValue.isNil) Tryz.func96 (by kernel_rfl) (by kernel_rfl) (by kernel_rfl) (by kernel_rfl)
  have h11 := @run_callFunc_extern Tryz.prog 119 _ (ReflectliteValue.method (ReflectliteValue.valueError "reflectlite.Value.Elem" 0) ReflectliteValue.elem) Tryz.func119 (by kernel_rfl) (by kernel_rfl) (by kernel_rfl) (by kernel_rfl)
  have h12 := @run_callFunc_extern Tryz.prog 120 _ ReflectliteValue.set Tryz.func120 (by kernel_rfl) (by kernel_rfl) (by kernel_rfl) (by kernel_rfl)
  have tO := as_typeOf
  have mA := as_mAssignable
  have a25 := as_assignable
  have v25 := as_valueOf2
  have f6 := as_valueOf
  have f7 := as_type
  have mK := as_mKind
  have mE := as_mElem
  have mI := as_mImplements
  have k27 := as_kind1
  have k25 := as_kind2
  have e27 := as_elemT
  have i25 := as_implements
  have n8 := as_isNil ⟨w.heap.size, 0, none⟩ t ((w.alloc (.cells #[.pointer (some t)] 103)).alloc (.cells #[.pointer (some ⟨4, 103, none⟩), .pointer (some ⟨w.heap.size, 0, none⟩), .int .u64 150] 140)) (by simp)
  have hlt : 0 < w.heap.size := by
    rcases Nat.eq_zero_or_pos w.heap.size with h0 | h
    · simp [World.cell?, h0] at hg
    · exact h
  have hg2 : ((w.alloc (.cells #[.pointer (some t)] 103)).alloc (.cells #[.pointer (some ⟨4, 103, none⟩), .pointer (some ⟨w.heap.size, 0, none⟩), .int .u64 150] 140)).cell? ⟨0, 0, none⟩ = some (.iface 152 (.agg #[.pointer (some ⟨4, 31, none⟩)])) := by
    rw [World.cell?_alloc_lt _ _ ⟨0, 0, none⟩ (by simp), World.cell?_alloc_lt _ _ ⟨0, 0, none⟩ hlt]; exact hg
  have htl : t.block < w.heap.size := by
    rcases Nat.lt_or_ge t.block w.heap.size with h | h
    · exact h
    · simp [World.cell?, Array.getElem?_eq_none h] at ht0
  have el := as_elemV ⟨w.heap.size, 0, none⟩ t (((w.alloc (.cells #[.pointer (some t)] 103)).alloc (.cells #[.pointer (some ⟨4, 103, none⟩), .pointer (some ⟨w.heap.size, 0, none⟩), .int .u64 150] 140)).alloc (.cells #[.pointer (some ⟨4, 103, none⟩), .pointer (some ⟨w.heap.size, 0, none⟩), .int .u64 150] 140)) (by rw [World.cell?_alloc_lt _ _ ⟨w.heap.size, 0, none⟩ (by simp; omega)]; simp)
  have st := as_xset25 t ⟨w.heap.size + 1 + 1 + 1, 0, none⟩ e old ((((w.alloc (.cells #[.pointer (some t)] 103)).alloc (.cells #[.pointer (some ⟨4, 103, none⟩), .pointer (some ⟨w.heap.size, 0, none⟩), .int .u64 150] 140)).alloc (.cells #[.pointer (some ⟨4, 103, none⟩), .pointer (some ⟨w.heap.size, 0, none⟩), .int .u64 150] 140)).alloc (.cells #[.pointer (some e)] 101))
    (by rw [World.cell?_alloc_at _ _ _ _ (by simp)]; rfl)
    (by rw [World.cell?_alloc_lt _ _ t (by simp; omega), World.cell?_alloc_lt _ _ t (by simp; omega), World.cell?_alloc_lt _ _ t (by simp; omega), World.cell?_alloc_lt _ _ t htl]; exact ht0)
    (by rw [World.frozen?_alloc_old _ _ t (by simp; omega), World.frozen?_alloc_old _ _ t (by simp; omega), World.frozen?_alloc_old _ _ t (by simp; omega), World.frozen?_alloc_old _ _ t (Nat.ne_of_lt htl)]; exact hf0)
  go_enter Tryz.func60, Tryz.ntmps60
  go_wp2
  refine wp_loop_rounds 1 ?_
  rw [rounds_succ]
  go_wp2
  go_ret
  exact ⟨rfl, rfl⟩
end Go.Proofs.YtggfepgablfbhaaGreatDoor
