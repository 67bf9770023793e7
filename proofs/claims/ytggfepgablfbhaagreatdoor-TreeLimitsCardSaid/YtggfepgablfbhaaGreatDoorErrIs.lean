/- errors.Is and errors.As, at the errors of these packages, by contracts. -/
import Derived.Test.YtggfepgablfbhaaGreatDoorWalkT
import Derived.LaidEql
import Derived.Stop.Asserts
import Derived.Lib.IfaceEq
import Derived.RowKitTokens
namespace Go.Proofs.YtggfepgablfbhaaGreatDoor
open Go.RowKit Go.Extern.Stop Go.Stop Go.Extern

/- 4: the number of the program's variables: a type's handle lies behind them. 356: the number of types, and 100. -/
theorem is_typeOf (v : Value) (w : World) : (callFunc 77 #[.iface 77 v]).run Tryz.prog w = .ok (.value (.iface 152 (.agg #[.pointer (some ⟨4, 77, none⟩)]))) w := by kernel_rfl
theorem is_comparable (w : World) : (callFunc 201 #[.agg #[.pointer (some ⟨4, 77, none⟩)]]).run Tryz.prog w = .ok (.value (.bool true)) w := by kernel_rfl
theorem is_method (v : Value) (w : World) : (Go.method 356 152 v "Comparable").run Tryz.prog w = .ok (201, v) w := by kernel_rfl
theorem noIsF (v : Value) (xT : TypeId) (w : World) : (Instr.typeAssert (.iface 101 v) xT 154 true).run Tryz.prog w = .ok (.tuple #[.nilIface, .bool false]) w := run_typeAssert_lacksB Tryz.underlying154 (by kernel_rfl) (by kernel_rfl) v xT w
theorem noIsE (v : Value) (xT : TypeId) (w : World) : (Instr.typeAssert (.iface 77 v) xT 154 true).run Tryz.prog w = .ok (.tuple #[.nilIface, .bool false]) w := run_typeAssert_lacksB Tryz.underlying154 (by kernel_rfl) (by kernel_rfl) v xT w
theorem noUnwrapE (v : Value) (xT : TypeId) (w : World) : (Instr.typeAssert (.iface 77 v) xT 157 true).run Tryz.prog w = .ok (.tuple #[.nilIface, .bool false]) w := run_typeAssert_lacksB Tryz.underlying157 (by kernel_rfl) (by kernel_rfl) v xT w
theorem noUnwrapsE (v : Value) (xT : TypeId) (w : World) : (Instr.typeAssert (.iface 77 v) xT 159 true).run Tryz.prog w = .ok (.tuple #[.nilIface, .bool false]) w := run_typeAssert_lacksB Tryz.underlying159 (by kernel_rfl) (by kernel_rfl) v xT w
theorem hasUnwrapF (v : Value) (xT : TypeId) (w : World) : (Instr.typeAssert (.iface 101 v) xT 157 true).run Tryz.prog w = .ok (.tuple #[.iface 101 v, .bool true]) w := run_typeAssert_hasB Tryz.underlying157 (by kernel_rfl) v xT w
theorem methodUnwrapF (v : Value) (w : World) : (Go.method 356 101 v "Unwrap").run Tryz.prog w = .ok (195, v) w := by kernel_rfl
theorem errnoComp : (Tryz.prog.info? 77).map (·.comparable) = some true := by kernel_rfl

set_option maxHeartbeats 2000000 in
theorem unwrap_calls (b : Nat) (e : Value) (w : World) (h : w.cell? ⟨b, 2, none⟩ = some e) :
    Calls Tryz.prog 195 #[.pointer (some ⟨b, 0, none⟩)] w fun r w' => r = .returned e ∧ w = w' := by
  go_enter Tryz.func195, Tryz.ntmps195
  go_wp2
  go_ret
  exact ⟨rfl, rfl⟩

set_option maxHeartbeats 4000000 in
/-- errors.Is(a number, a number). -/
theorem is_errno (c k : Int) (w : World) :
    Calls Tryz.prog 49 #[.iface 77 (.int .i64 c), .iface 77 (.int .i64 k)] w fun r w' => r = .returned (.bool (c == k)) ∧ w = w' := by
  have tT := is_typeOf
  have cT := is_comparable
  have mR := is_method
  have nE := noIsE
  have uE := noUnwrapE
  have vE := noUnwrapsE
  have heq := Lib.run_eql_iface_int (P := Tryz.prog) w (k := .i64) c k Tryz.underlying31 errnoComp Tryz.underlying77
  cases hck : (c == k)
  · rw [hck] at heq
    go_enter Tryz.func49, Tryz.ntmps49
    go_wp2
    refine wp_loop_rounds 1 ?_
    rw [rounds_succ]
    go_wp2
    go_ret
    exact ⟨rfl, rfl⟩
  · rw [hck] at heq
    go_enter Tryz.func49, Tryz.ntmps49
    go_wp2
    refine wp_loop_rounds 1 ?_
    rw [rounds_succ]
    go_wp2
    go_ret
    exact ⟨rfl, rfl⟩

set_option maxHeartbeats 4000000 in
/-- errors.Is(a Fault that wraps a number, a number). -/
theorem is_fault (b : Nat) (c k : Int) (w : World) (h : w.cell? ⟨b, 2, none⟩ = some (.iface 77 (.int .i64 c))) :
    Calls Tryz.prog 49 #[.iface 101 (.pointer (some ⟨b, 0, none⟩)), .iface 77 (.int .i64 k)] w fun r w' => r = .returned (.bool (c == k)) ∧ w = w' := by
  have tT := is_typeOf
  have cT := is_comparable
  have mR := is_method
  have nE := noIsE
  have nF := noIsF
  have uE := noUnwrapE
  have vE := noUnwrapsE
  have uF := hasUnwrapF
  have mU := methodUnwrapF
  have heq := Lib.run_eql_iface_int (P := Tryz.prog) w (k := .i64) c k Tryz.underlying31 errnoComp Tryz.underlying77
  have hty := run_eql_iface_types (P := Tryz.prog) 101 77 (.pointer (some ⟨b, 0, none⟩)) (.int .i64 k) Tryz.underlying31 (by decide) w
  cases hck : (c == k)
  · rw [hck] at heq
    go_enter Tryz.func49, Tryz.ntmps49
    go_wp2
    refine wp_loop_rounds 2 ?_
    rw [rounds_succ]
    go_wp2_with (go_at_call 195; refine (unwrap_calls _ _ _ h).mono ?_; rintro e w1 ⟨rfl, rfl⟩)
    rw [rounds_succ]
    go_wp2
    go_ret
    exact ⟨rfl, rfl⟩
  · rw [hck] at heq
    go_enter Tryz.func49, Tryz.ntmps49
    go_wp2
    refine wp_loop_rounds 2 ?_
    rw [rounds_succ]
    go_wp2_with (go_at_call 195; refine (unwrap_calls _ _ _ h).mono ?_; rintro e w1 ⟨rfl, rfl⟩)
    rw [rounds_succ]
    go_wp2
    go_ret
    exact ⟨rfl, rfl⟩
end Go.Proofs.YtggfepgablfbhaaGreatDoor
