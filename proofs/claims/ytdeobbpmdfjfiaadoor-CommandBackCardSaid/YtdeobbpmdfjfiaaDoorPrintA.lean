/-
  CommandBack: Print.
-/
import Derived.Test.YtdeobbpmdfjfiaaDoorParse
import Derived.Laws.StructEq
import Derived.Lib.ItoaLen
import Derived.RangeFuncBox
namespace Go.Proofs.YtdeobbpmdfjfiaaDoor
open Go.RowKit
set_option linter.unusedVariables false

theorem run_neq_cmd (a b : M.Cmd) (w : World) :
    (binOp .neq 23 (.agg #[bs a.op, .int .i64 a.id, .int .i64 a.at_, .int .i64 a.n, bs a.data]) (.agg #[bs b.op, .int .i64 b.id, .int .i64 b.at_, .int .i64 b.n, bs b.data])).run Tryd.prog w = .ok (.bool (!decide (a = b))) w := by
  have h23 : Tryd.prog.underlying 23 = some (.struct (Tryd.prog.fieldsOf 23)) := by kernel_rfl
  have hp : Tryd.prog.stoodInHeld 23 = false := by kernel_rfl
  rw [run_neq_struct, run_equalIn_agg _ _ _ _ _ h23 hp]
  obtain ⟨a1, a2, a3, a4, a5⟩ := a
  obtain ⟨b1, b2, b3, b4, b5⟩ := b
  simp only [M.Cmd.mk.injEq]
  by_cases e1 : a1 = b1 <;> by_cases e2 : a2 = b2 <;> by_cases e3 : a3 = b3 <;> by_cases e4 : a4 = b4 <;> by_cases e5 : a5 = b5 <;> simp [go_sem, e1, e2, e3, e4, e5]

theorem run_eql_cmd (a b : M.Cmd) (w : World) :
    (binOp .eql 23 (.agg #[bs a.op, .int .i64 a.id, .int .i64 a.at_, .int .i64 a.n, bs a.data]) (.agg #[bs b.op, .int .i64 b.id, .int .i64 b.at_, .int .i64 b.n, bs b.data])).run Tryd.prog w = .ok (.bool (decide (a = b))) w := by
  have h23 : Tryd.prog.underlying 23 = some (.struct (Tryd.prog.fieldsOf 23)) := by kernel_rfl
  have hp : Tryd.prog.stoodInHeld 23 = false := by kernel_rfl
  rw [run_eql_struct, run_equalIn_agg _ _ _ _ _ h23 hp]
  obtain ⟨a1, a2, a3, a4, a5⟩ := a
  obtain ⟨b1, b2, b3, b4, b5⟩ := b
  simp only [M.Cmd.mk.injEq]
  by_cases e1 : a1 = b1 <;> by_cases e2 : a2 = b2 <;> by_cases e3 : a3 = b3 <;> by_cases e4 : a4 = b4 <;> by_cases e5 : a5 = b5 <;> simp [go_sem, e1, e2, e3, e4, e5]

/-- What Print returns. -/
def printV : Option (List UInt8) → Value
  | some t => .tuple #[bs t, .int .i64 0]
  | none => .tuple #[bs [], .int .i64 1]

/-- A command whose numbers are ints, and whose texts are not great. -/
structure Ok (c : M.Cmd) : Prop where
  op : c.op.length ≤ 1000
  data : c.data.length ≤ 1000
  id : -9223372036854775808 ≤ c.id ∧ c.id ≤ 9223372036854775807
  at_ : -9223372036854775808 ≤ c.at_ ∧ c.at_ ≤ 9223372036854775807
  n : -9223372036854775808 ≤ c.n ∧ c.n ≤ 9223372036854775807

set_option maxRecDepth 100000 in
set_option maxHeartbeats 800000 in
theorem print_noform (c : M.Cmd) (w : World) (he : Env w) (hf : M.formOf c.op = none) (o : Option (List UInt8)) (ho : o = none) :
    Calls Tryd.prog 5 #[.agg #[bs c.op, .int .i64 c.id, .int .i64 c.at_, .int .i64 c.n, bs c.data]] w fun e w' => e = .returned (printV o) ∧ Below w.heap.size w w' := by
  have hlk := fun W hW => lookup_forms_none W (w.heap.size + 1) hW ⟨c.op.toArray⟩ hf
  have hlk1 := hlk ((w.alloc (.cells #[bs c.op, .int .i64 c.id, .int .i64 c.at_, .int .i64 c.n, bs c.data] 23)).alloc (.map formsEntries 6)).drew (by
    have := heap_alloc_new (w.alloc (.cells #[bs c.op, .int .i64 c.id, .int .i64 c.at_, .int .i64 c.n, bs c.data] 23)) (.map formsEntries 6)
    rw [World.size_alloc] at this; exact this)
  clear hlk
  go_enter Tryd.func5, Tryd.ntmps5
  go_wp2_with fail
  go_region_with (go_at_call 7; refine (forms_any _).mono ?_; rintro e w2 ⟨rfl, rfl⟩)
  all_goals
    go_wp2_with fail
    go_ret2
    exact ⟨by rw [ho]; rfl, (((Below.refl _ _).alloc (Nat.le_refl _) _).alloc (by simp) _).drew⟩
end Go.Proofs.YtdeobbpmdfjfiaaDoor
