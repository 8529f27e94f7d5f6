/-
  CommandBack: what the walks share: the facts on the library's variables, carried over new memory; the contract of forms.
-/
import Derived.Test.YtdeobbpmdfjfiaaDoorProg
import Derived.Test.YtdeobbpmdfjfiaaDoorPlain
import Derived.Test.YtdeobbpmdfjfiaaDoorByte
import Derived.WalkKit
import Derived.WideMake
import Derived.WalkSmall
import Derived.Lib.SmallJoins
namespace Go.Proofs.YtdeobbpmdfjfiaaDoor
open Go.RowKit

/-- The library's variables that the program's calls read. -/
structure Env (w : World) : Prop where
  maxLen : ∃ m, w.cell? ⟨1, 0, none⟩ = some (.int .i64 m)
  size : 10 ≤ w.heap.size
  pow : Lib.TabIs Tryd.prog w "internal/strconv.uint64pow10" .u64 Lib.pow10Tab
  syn : ∃ t p, w.var? Tryd.prog "strconv.ErrSyntax" = some #[.iface t p]
  rng : ∃ t p, w.var? Tryd.prog "strconv.ErrRange" = some #[.iface t p]

theorem Env.below {w w' : World} (h : Env w) (hb : Below w.heap.size w w') : Env w' := by
  obtain ⟨⟨m, hm⟩, hs, hp, ⟨t1, p1, h1⟩, ⟨t2, p2, h2⟩⟩ := h
  refine ⟨⟨m, ?_⟩, Nat.le_trans hs hb.size, ?_, ⟨t1, p1, ?_⟩, ⟨t2, p2, ?_⟩⟩
  · rw [hb.cell (p := ⟨1, 0, none⟩) (by show 1 < _; omega)]; exact hm
  · exact var?_below (P := Tryd.prog) (g := 0) hb (by kernel_rfl) (by omega) hp
  · exact var?_below (P := Tryd.prog) (g := 2) hb (by kernel_rfl) (by omega) h1
  · exact var?_below (P := Tryd.prog) (g := 3) hb (by kernel_rfl) (by omega) h2

/-- The value of a text. -/
abbrev bs (l : List UInt8) : Value := .string ⟨l.toArray⟩

theorem push_set {α : Type} (a : Array α) (x y : α) : (a.push x).setIfInBounds a.size y = a.push y := by
  apply Array.ext_getElem?
  intro k
  simp only [Array.getElem?_setIfInBounds, Array.getElem?_push, Array.size_push]
  by_cases hk : k = a.size
  · subst hk; simp
  · rw [if_neg (fun h => hk h.symm), if_neg hk, if_neg hk]

theorem run_mapUpdate_push {P : Program} (w : World) (mty kt et : TypeId) (es : Array MapEntry) (clock : Nat) (s : ByteArray) (val : Value)
    (hm : P.underlying mty = some (.map kt et)) (hk : P.underlying kt = some .string)
    (hf : Instr.findNow .string (.string s) es.toList 0 = some none) :
    (Instr.mapUpdate mty (.map (some w.heap.size)) (.string s) val).run P (w.alloc (.map es clock)) =
      .ok () (w.alloc (.map (es.push { key := .string s, val := val, born := clock }) (clock + 1))) := by
  have hb : (w.alloc (.map es clock)).heap[w.heap.size]? = some (.map es clock) := by unfold World.alloc; simp
  have hc : (Instr.checkKey false 10000 kt (.string s)).run P (w.alloc (.map es clock)) = .ok () (w.alloc (.map es clock)) := MapKept.run_checkKey (k := .string s) hk (by simp [MapKept.IsKey]) false 9999
  simp [Instr.mapUpdate, run_underlying hm, MapKept.run_getObj_map hb, hc, MapKept.run_findKey hk hf, MapKept.run_setObj_map _ hb, Result.andThen]
  exact congrArg (fun h => ({ w with heap := h } : World)) (push_set w.heap _ _)

/-- The map literal of 'forms'. -/
def formsEntries : Array MapEntry :=
  #[⟨.string ⟨#[114, 101, 97, 100]⟩, .string ⟨#[105, 97, 110]⟩, 0⟩, ⟨.string ⟨#[119, 114, 105, 116, 101]⟩, .string ⟨#[105, 97, 100]⟩, 1⟩,
    ⟨.string ⟨#[99, 114, 101, 97, 116, 101]⟩, .string ⟨#[110]⟩, 2⟩, ⟨.string ⟨#[100, 101, 108, 101, 116, 101]⟩, .string ⟨#[105]⟩, 3⟩,
    ⟨.string ⟨#[109, 101, 114, 103, 101]⟩, .string ⟨#[105]⟩, 4⟩, ⟨.string ⟨#[115, 116, 101, 112]⟩, .string ⟨#[]⟩, 5⟩]

theorem forms_any (w : World) : Calls Tryd.prog 7 #[] w fun e w' => e = .returned (.map (some w.heap.size)) ∧ w' = w.alloc (.map formsEntries 6) := by
  have hmm := @run_makeMap Tryd.prog
  have h1 := fun es c s v h => @run_mapUpdate_push Tryd.prog w 32 9 9 es c s v Tryd.underlying32 Tryd.underlying9 h
  have u0 := h1 #[] 0 ⟨#[114, 101, 97, 100]⟩ (.string ⟨#[105, 97, 110]⟩) (by kernel_rfl)
  have u1 := h1 #[⟨.string ⟨#[114, 101, 97, 100]⟩, .string ⟨#[105, 97, 110]⟩, 0⟩] 1 ⟨#[119, 114, 105, 116, 101]⟩ (.string ⟨#[105, 97, 100]⟩) (by kernel_rfl)
  have u2 := h1 #[⟨.string ⟨#[114, 101, 97, 100]⟩, .string ⟨#[105, 97, 110]⟩, 0⟩, ⟨.string ⟨#[119, 114, 105, 116, 101]⟩, .string ⟨#[105, 97, 100]⟩, 1⟩] 2 ⟨#[99, 114, 101, 97, 116, 101]⟩ (.string ⟨#[110]⟩) (by kernel_rfl)
  have u3 := h1 #[⟨.string ⟨#[114, 101, 97, 100]⟩, .string ⟨#[105, 97, 110]⟩, 0⟩, ⟨.string ⟨#[119, 114, 105, 116, 101]⟩, .string ⟨#[105, 97, 100]⟩, 1⟩, ⟨.string ⟨#[99, 114, 101, 97, 116, 101]⟩, .string ⟨#[110]⟩, 2⟩] 3 ⟨#[100, 101, 108, 101, 116, 101]⟩ (.string ⟨#[105]⟩) (by kernel_rfl)
  have u4 := h1 #[⟨.string ⟨#[114, 101, 97, 100]⟩, .string ⟨#[105, 97, 110]⟩, 0⟩, ⟨.string ⟨#[119, 114, 105, 116, 101]⟩, .string ⟨#[105, 97, 100]⟩, 1⟩, ⟨.string ⟨#[99, 114, 101, 97, 116, 101]⟩, .string ⟨#[110]⟩, 2⟩, ⟨.string ⟨#[100, 101, 108, 101, 116, 101]⟩, .string ⟨#[105]⟩, 3⟩] 4 ⟨#[109, 101, 114, 103, 101]⟩ (.string ⟨#[105]⟩) (by kernel_rfl)
  have u5 := h1 #[⟨.string ⟨#[114, 101, 97, 100]⟩, .string ⟨#[105, 97, 110]⟩, 0⟩, ⟨.string ⟨#[119, 114, 105, 116, 101]⟩, .string ⟨#[105, 97, 100]⟩, 1⟩, ⟨.string ⟨#[99, 114, 101, 97, 116, 101]⟩, .string ⟨#[110]⟩, 2⟩, ⟨.string ⟨#[100, 101, 108, 101, 116, 101]⟩, .string ⟨#[105]⟩, 3⟩, ⟨.string ⟨#[109, 101, 114, 103, 101]⟩, .string ⟨#[105]⟩, 4⟩] 5 ⟨#[115, 116, 101, 112]⟩ (.string ⟨#[]⟩) (by kernel_rfl)
  clear h1
  go_enter Tryd.func7, Tryd.ntmps7
  go_wp2
  go_ret
  exact ⟨rfl, rfl⟩
end Go.Proofs.YtdeobbpmdfjfiaaDoor
