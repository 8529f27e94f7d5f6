/-
  CommandBack: the live question; the law.
-/
import Derived.Test.YtdeobbpmdfjfiaaDoorPrintB
namespace Go.Proofs.YtdeobbpmdfjfiaaDoor
open Go.RowKit
set_option linter.unusedVariables false
set_option linter.unusedSimpArgs false

/-- A command lies in block b. -/
def At (w : World) (b : Nat) (c : M.Cmd) : Prop := w.heap[b]? = some (.cells (cmdCells c) 23 (0, 0))

theorem At.five {w : World} {b : Nat} {c : M.Cmd} (h : At w b c) : w.cell? ⟨b, 0, none⟩ = some (bs c.op) ∧ w.cell? ⟨b, 1, none⟩ = some (.int .i64 c.id) ∧ w.cell? ⟨b, 2, none⟩ = some (.int .i64 c.at_) ∧
    w.cell? ⟨b, 3, none⟩ = some (.int .i64 c.n) ∧ w.cell? ⟨b, 4, none⟩ = some (bs c.data) := by
  unfold At at h
  refine ⟨?_, ?_, ?_, ?_, ?_⟩ <;> (rw [Lib.cell_of_heap h]; rfl)

theorem At.keep {w w' : World} {b : Nat} {c : M.Cmd} (h : At w b c) (hb : Below w.heap.size w w') : At w' b c := (hb.block b (lt_of_block h)).trans h
theorem At.new (w : World) (c : M.Cmd) : At (w.alloc (.cells (cmdCells c) 23)) w.heap.size c := heap_alloc_new w _
theorem At.alloc {w : World} {b : Nat} {c : M.Cmd} (h : At w b c) (o : Obj) : At (w.alloc o) b c := (Below.heap_alloc _ _ _ (lt_of_block h)).trans h
theorem At.lt {w : World} {b : Nat} {c : M.Cmd} (h : At w b c) : b < w.heap.size := lt_of_block h

def aliveC : M.Cmd := ⟨[119, 114, 105, 116, 101], 2, 30, 0, [97, 0]⟩
theorem alive_print : M.printM aliveC = some [119, 114, 105, 116, 101, 32, 50, 32, 51, 48, 32, 54, 49, 48, 48] := by decide +kernel
theorem alive_parse : M.parseM [119, 114, 105, 116, 101, 32, 50, 32, 51, 48, 32, 54, 49, 48, 48] = some aliveC := by decide +kernel
theorem alive_none : M.parseM [115, 116, 101, 112, 32, 49] = none := by decide +kernel

set_option maxRecDepth 100000 in
set_option maxHeartbeats 800000 in
theorem alive_true (w : World) (he : Env w) :
    Calls Tryd.prog 4 #[] w fun e w' => e = .returned (.bool true) ∧ Below w.heap.size w w' := by
  have h1 := fun W heW => print_any aliveC ⟨by decide, by decide, by decide, by decide, by decide⟩ W heW
  rw [alive_print] at h1
  have h2 := fun W heW => parse_any ⟨#[119, 114, 105, 116, 101, 32, 50, 32, 51, 48, 32, 54, 49, 48, 48]⟩ (by decide) W heW
  have h2' : M.parseM (⟨#[119, 114, 105, 116, 101, 32, 50, 32, 51, 48, 32, 54, 49, 48, 48]⟩ : ByteArray).data.toList = some aliveC := alive_parse
  rw [h2'] at h2
  have h3 := fun W heW => parse_any ⟨#[115, 116, 101, 112, 32, 49]⟩ (by decide) W heW
  have h3' : M.parseM (⟨#[115, 116, 101, 112, 32, 49]⟩ : ByteArray).data.toList = none := alive_none
  rw [h3'] at h3
  have H1 := Lib.hid h1
  have H2 := Lib.hid h2
  have H3 := Lib.hid h3
  have heq : ∀ W, (binOp .eql 23 (.agg #[bs aliveC.op, .int .i64 aliveC.id, .int .i64 aliveC.at_, .int .i64 aliveC.n, bs aliveC.data]) (.agg #[bs aliveC.op, .int .i64 aliveC.id, .int .i64 aliveC.at_, .int .i64 aliveC.n, bs aliveC.data])).run Tryd.prog W = .ok (.bool true) W := fun W => by
    rw [run_eql_cmd aliveC aliveC W]; simp
  simp only [aliveC] at heq
  clear h1 h2 h3 h2' h3'
  go_enter Tryd.func4, Tryd.ntmps4
  go_wp2_with fail
  refine (H1.out _ (he.below ((Below.refl _ _).alloc (Nat.le_refl _) _))).mono ?_
  rintro e w1 ⟨rfl, hb1⟩
  have A1 : At w1 w.heap.size aliveC := (At.new w aliveC).keep hb1
  have B1 : Below w.heap.size w w1 := ((Below.refl _ _).alloc (Nat.le_refl _) _).trans (hb1.mono (by simp))
  simp only [printV]
  clear hb1
  go_wp2_with fail
  refine (H2.out _ (he.below B1)).mono ?_
  rintro e w2 ⟨rfl, hb2⟩
  have A2 := (A1.keep hb2).alloc (.cells (cmdCells aliveC) 23)
  have C2 := At.new w2 aliveC
  have B2 := (B1.trans (hb2.mono B1.size)).alloc (Nat.le_trans B1.size hb2.size) (.cells (cmdCells aliveC) 23)
  have hl2 : w.heap.size < w2.heap.size := (A1.keep hb2).lt
  simp only [parseV, cmdCells, aliveC]
  clear hb2 A1 B1
  go_wp2_with fail
  refine (H3.out _ (he.below B2)).mono ?_
  rintro e w3 ⟨rfl, hb3⟩
  have A3 := A2.keep hb3
  have C3 := C2.keep hb3
  have B3 := B2.trans (hb3.mono B2.size)
  have hlA := A3.lt
  have hlC := C3.lt
  obtain ⟨a0, a1, a2, a3, a4⟩ := A3.five
  obtain ⟨c0, c1, c2, c3, c4⟩ := C3.five
  simp only [parseV, cmdCells, M.Cmd.none]
  simp only [aliveC] at a0 a1 a2 a3 a4 c0 c1 c2 c3 c4
  clear hb3 A2 A3 C2 C3 B2
  go_wp2_with fail
  go_ret
  exact ⟨rfl, B3.alloc B3.size _⟩
end Go.Proofs.YtdeobbpmdfjfiaaDoor
