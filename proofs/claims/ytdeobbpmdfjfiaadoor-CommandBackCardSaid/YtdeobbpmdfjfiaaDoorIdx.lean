/-
  CommandBack: strings.IndexRune among the figures, at a rune beyond ASCII: -1.
-/
import Derived.Test.YtdeobbpmdfjfiaaDoorBase
import Derived.Laws.Runes
import Derived.Lib.OthersKept
import Derived.Lib.IndexLaws
import Derived.Deep.QuietTactic
import Derived.BigQuiet
import Derived.WalkMore
import Derived.Scope
namespace Go.Proofs.YtdeobbpmdfjfiaaDoor
open Go.RowKit

theorem quiet_again {P : Program} {f : FuncId} {args : Array Value} {w : World} {a n : Nat} {v : Value}
    (h : Calls P f args (w.drewN (a + n)) fun e w' => e = .returned v ∧ w' = w.drewN (a + n)) :
    Calls P f args (w.drewN (a + n)) fun e w'' => e = .returned v ∧ ∃ m, w'' = w.drewN (a + m) :=
  h.mono fun _ _ ⟨he, hm⟩ => ⟨he, n, hm⟩

theorem indexByte_high (l : List UInt8) (c : UInt8) (hc : 128 ≤ c.toNat) (hl : l.all (fun b => b.toNat < 128) = true) : Lib.indexByte l c = -1 := by
  have hge := Lib.indexByte_ge l c
  by_cases h : Lib.indexByte l c = -1
  · exact h
  · obtain ⟨o, ho⟩ : ∃ o : Nat, Lib.indexByte l c = o := ⟨(Lib.indexByte l c).toNat, by omega⟩
    have hm := (Lib.indexByte_some ho).1
    have := List.all_eq_true.1 hl c (List.mem_of_getElem? hm)
    simp at this
    omega

set_option maxRecDepth 100000 in
set_option maxHeartbeats 800000 in
theorem idx_bad (r : Int) (h1 : 128 ≤ r) (h2 : r ≤ 2147483647) (e3 : (r == 65533) = false) (hv : Lib.validRune r = false) (w : World) :
    Calls Tryd.prog 28 #[.string ⟨#[48, 49, 50, 51, 52, 53, 54, 55, 56, 57, 97, 98, 99, 100, 101, 102]⟩, .int .i32 r] w fun e w' => e = .returned (.int .i64 (-1)) ∧ Below w.heap.size w w' := by
  go_enter Tryd.func28, Tryd.ntmps28
  go_wp2_with fail
  refine (Tryd.utf8_ValidRune r _).mono ?_
  rintro e w' ⟨rfl, rfl⟩
  go_wp2_with fail
  go_ret
  exact ⟨rfl, Below.refl _ _⟩

set_option maxRecDepth 100000 in
set_option maxHeartbeats 800000 in
theorem idx_valid2 (r : Int) (h1 : 128 ≤ r) (h2 : r ≤ 2147483647) (e3 : (r == 65533) = false) (hv : Lib.validRune r = true) (hsz : (Utf8.encode r).size = 2)
    (hb : ∀ h : 1 < (Utf8.encode r).size, 128 ≤ ((Utf8.encode r)[1]'h).toNat) (w : World) :
    Calls Tryd.prog 28 #[.string ⟨#[48, 49, 50, 51, 52, 53, 54, 55, 56, 57, 97, 98, 99, 100, 101, 102]⟩, .int .i32 r] w fun e w' => e = .returned (.int .i64 (-1)) ∧ Below w.heap.size w w' := by
  have hi : 1 < (Utf8.encode r).size := by omega
  have hb' : 128 ≤ (((Utf8.encode r)[1]'hi).toNat : Int) := by have := hb hi; omega
  have hb2 : ((((({ data := #[48, 49, 50, 51, 52, 53, 54, 55, 56, 57, 97, 98, 99, 100, 101, 102] } : ByteArray)[1]'(by decide)).toNat : Int)) != (((Utf8.encode r)[1]'hi).toNat : Int)) = true := by
    rw [bne_iff_ne]
    have : ((({ data := #[48, 49, 50, 51, 52, 53, 54, 55, 56, 57, 97, 98, 99, 100, 101, 102] } : ByteArray)[1]'(by decide)).toNat : Int) = 49 := rfl
    omega
  have hx : Lib.indexByte [50, 51, 52, 53, 54, 55, 56, 57, 97, 98, 99, 100, 101, 102] ((Utf8.encode r)[1]'hi) < 0 := by rw [indexByte_high _ _ (hb hi) (by decide)]; decide
  go_enter Tryd.func28, Tryd.ntmps28
  go_wp2_with fail
  refine (Tryd.utf8_ValidRune r _).mono ?_
  rintro e w' ⟨rfl, rfl⟩
  go_wp2_with fail
  go_step3
  go_wp2_with fail
  refine wp_loop_once ?_
  go_wp2_with fail
  go_step3
  go_wp2_with fail
  go_quiet (fail)
  go_wp2_with fail
  have hw2 : IntKind.i64.wrap (1 + 1) = 2 := by decide
  have hw3 : IntKind.i64.wrap 2 = 2 := by decide
  go_quiet ((go_at_call 41; exact quiet_again (Tryd.strings_IndexByte _ _ _)))
  go_wp2_with fail
  simp +zetaDelta only [Exit.inBlock, Exit.then, Exit.noGoto_ret]
  go_ret
  exact ⟨rfl, below_drewN (Below.refl _ _) _⟩

set_option maxRecDepth 100000 in
set_option maxHeartbeats 800000 in
theorem idx_valid3 (r : Int) (h1 : 128 ≤ r) (h2 : r ≤ 2147483647) (e3 : (r == 65533) = false) (hv : Lib.validRune r = true) (hsz : (Utf8.encode r).size = 3)
    (hb : ∀ h : 2 < (Utf8.encode r).size, 128 ≤ ((Utf8.encode r)[2]'h).toNat) (w : World) :
    Calls Tryd.prog 28 #[.string ⟨#[48, 49, 50, 51, 52, 53, 54, 55, 56, 57, 97, 98, 99, 100, 101, 102]⟩, .int .i32 r] w fun e w' => e = .returned (.int .i64 (-1)) ∧ Below w.heap.size w w' := by
  have hi : 2 < (Utf8.encode r).size := by omega
  have hb' : 128 ≤ (((Utf8.encode r)[2]'hi).toNat : Int) := by have := hb hi; omega
  have hb2 : ((((({ data := #[48, 49, 50, 51, 52, 53, 54, 55, 56, 57, 97, 98, 99, 100, 101, 102] } : ByteArray)[2]'(by decide)).toNat : Int)) != (((Utf8.encode r)[2]'hi).toNat : Int)) = true := by
    rw [bne_iff_ne]
    have : ((({ data := #[48, 49, 50, 51, 52, 53, 54, 55, 56, 57, 97, 98, 99, 100, 101, 102] } : ByteArray)[2]'(by decide)).toNat : Int) = 50 := rfl
    omega
  have hx : Lib.indexByte [51, 52, 53, 54, 55, 56, 57, 97, 98, 99, 100, 101, 102] ((Utf8.encode r)[2]'hi) < 0 := by rw [indexByte_high _ _ (hb hi) (by decide)]; decide
  go_enter Tryd.func28, Tryd.ntmps28
  go_wp2_with fail
  refine (Tryd.utf8_ValidRune r _).mono ?_
  rintro e w' ⟨rfl, rfl⟩
  go_wp2_with fail
  go_step3
  go_wp2_with fail
  refine wp_loop_once ?_
  go_wp2_with fail
  go_step3
  go_wp2_with fail
  go_quiet (fail)
  go_wp2_with fail
  have hw2 : IntKind.i64.wrap (2 + 1) = 3 := by decide
  have hw3 : IntKind.i64.wrap 3 = 3 := by decide
  go_quiet ((go_at_call 41; exact quiet_again (Tryd.strings_IndexByte _ _ _)))
  go_wp2_with fail
  simp +zetaDelta only [Exit.inBlock, Exit.then, Exit.noGoto_ret]
  go_ret
  exact ⟨rfl, below_drewN (Below.refl _ _) _⟩

set_option maxRecDepth 100000 in
set_option maxHeartbeats 800000 in
theorem idx_valid4 (r : Int) (h1 : 128 ≤ r) (h2 : r ≤ 2147483647) (e3 : (r == 65533) = false) (hv : Lib.validRune r = true) (hsz : (Utf8.encode r).size = 4)
    (hb : ∀ h : 3 < (Utf8.encode r).size, 128 ≤ ((Utf8.encode r)[3]'h).toNat) (w : World) :
    Calls Tryd.prog 28 #[.string ⟨#[48, 49, 50, 51, 52, 53, 54, 55, 56, 57, 97, 98, 99, 100, 101, 102]⟩, .int .i32 r] w fun e w' => e = .returned (.int .i64 (-1)) ∧ Below w.heap.size w w' := by
  have hi : 3 < (Utf8.encode r).size := by omega
  have hb' : 128 ≤ (((Utf8.encode r)[3]'hi).toNat : Int) := by have := hb hi; omega
  have hb2 : ((((({ data := #[48, 49, 50, 51, 52, 53, 54, 55, 56, 57, 97, 98, 99, 100, 101, 102] } : ByteArray)[3]'(by decide)).toNat : Int)) != (((Utf8.encode r)[3]'hi).toNat : Int)) = true := by
    rw [bne_iff_ne]
    have : ((({ data := #[48, 49, 50, 51, 52, 53, 54, 55, 56, 57, 97, 98, 99, 100, 101, 102] } : ByteArray)[3]'(by decide)).toNat : Int) = 51 := rfl
    omega
  have hx : Lib.indexByte [52, 53, 54, 55, 56, 57, 97, 98, 99, 100, 101, 102] ((Utf8.encode r)[3]'hi) < 0 := by rw [indexByte_high _ _ (hb hi) (by decide)]; decide
  go_enter Tryd.func28, Tryd.ntmps28
  go_wp2_with fail
  refine (Tryd.utf8_ValidRune r _).mono ?_
  rintro e w' ⟨rfl, rfl⟩
  go_wp2_with fail
  go_step3
  go_wp2_with fail
  refine wp_loop_once ?_
  go_wp2_with fail
  go_step3
  go_wp2_with fail
  go_quiet (fail)
  go_wp2_with fail
  have hw2 : IntKind.i64.wrap (3 + 1) = 4 := by decide
  have hw3 : IntKind.i64.wrap 4 = 4 := by decide
  go_quiet ((go_at_call 41; exact quiet_again (Tryd.strings_IndexByte _ _ _)))
  go_wp2_with fail
  simp +zetaDelta only [Exit.inBlock, Exit.then, Exit.noGoto_ret]
  go_ret
  exact ⟨rfl, below_drewN (Below.refl _ _) _⟩

theorem figs_ascii : ∀ k (h : k < 16), ((⟨#[48, 49, 50, 51, 52, 53, 54, 55, 56, 57, 97, 98, 99, 100, 101, 102]⟩ : ByteArray)[k]'h).toNat < 128 := by
  have : ∀ k : Fin 16, ((⟨#[48, 49, 50, 51, 52, 53, 54, 55, 56, 57, 97, 98, 99, 100, 101, 102]⟩ : ByteArray)[k.1]'k.2).toNat < 128 := by decide
  exact fun k h => this ⟨k, h⟩

set_option maxRecDepth 100000 in
set_option maxHeartbeats 800000 in
theorem idx_err (w : World) :
    Calls Tryd.prog 28 #[.string ⟨#[48, 49, 50, 51, 52, 53, 54, 55, 56, 57, 97, 98, 99, 100, 101, 102]⟩, .int .i32 65533] w fun e w' => e = .returned (.int .i64 (-1)) ∧ Below w.heap.size w w' := by
  go_enter Tryd.func28, Tryd.ntmps28
  go_wp2_with fail
  go_loopw [5] (fun _ wr => ∃ k : Nat, k ≤ 16 ∧ wr.heap[w.heap.size]? = some (.stringIter ⟨#[48, 49, 50, 51, 52, 53, 54, 55, 56, 57, 97, 98, 99, 100, 101, 102]⟩ k) ∧ Below w.heap.size w wr) (fun _ wr => 16 - wr.iterPos w.heap.size)
  case atStart => exact ⟨0, by omega, heap_alloc_new w _, (Below.refl _ _).alloc (Nat.le_refl _) _⟩
  case round =>
    obtain ⟨k, hk, hit, hbel⟩ := hrel
    by_cases hlt : k < 16
    · have hn := fun ty => Lib.run_next_ascii_at (P := Tryd.prog) wr w.heap.size _ k ty hit hlt (figs_ascii k hlt)
      have hne : (((((⟨#[48, 49, 50, 51, 52, 53, 54, 55, 56, 57, 97, 98, 99, 100, 101, 102]⟩ : ByteArray)[k]'hlt).toNat : Int)) == 65533) = false := by
        have := figs_ascii k hlt
        exact beq_eq_false_iff_ne.2 (by omega)
      have hit' := Lib.iterAt_heap wr w.heap.size _ k (k + 1) hit
      have hbel' := Lib.below_iterAt hbel (Nat.le_refl w.heap.size) ⟨#[48, 49, 50, 51, 52, 53, 54, 55, 56, 57, 97, 98, 99, 100, 101, 102]⟩ (k + 1)
      have p1 := iterPos_of hit
      have p2 := iterPos_of hit'
      have P1 := Lib.hid p1
      have P2 := Lib.hid p2
      clear hit hbel p1 p2
      go_wp2_with fail
      go_roundw
      case rel => exact ⟨k + 1, by omega, hit', hbel'⟩
      case measure =>
        show 16 - World.iterPos _ _ < 16 - World.iterPos _ _
        rw [P1.out, P2.out]
        omega
    · have hn := fun ty => Lib.run_next_end_at (P := Tryd.prog) wr w.heap.size _ k ty hit hlt
      go_wp2_with fail
      go_ret
      exact ⟨rfl, hbel⟩

/-- Among the figures there is no rune beyond ASCII. -/
theorem idx_high (r : Int) (h1 : 128 ≤ r) (h2 : r ≤ 2147483647) (w : World) :
    Calls Tryd.prog 28 #[.string ⟨#[48, 49, 50, 51, 52, 53, 54, 55, 56, 57, 97, 98, 99, 100, 101, 102]⟩, .int .i32 r] w fun e w' => e = .returned (.int .i64 (-1)) ∧ Below w.heap.size w w' := by
  by_cases h3 : r = 65533
  · subst h3; exact idx_err w
  · have e3 : (r == 65533) = false := beq_eq_false_iff_ne.2 h3
    cases hv : Lib.validRune r with
    | false => exact idx_bad r h1 h2 e3 hv w
    | true =>
      have hv' : Utf8.valid r = true := by
        unfold Lib.validRune at hv; unfold Utf8.valid
        simp at hv ⊢; omega
      obtain ⟨f1, f2, f3⟩ := encode_facts r hv' h1
      have : (Utf8.encode r).size = 2 ∨ (Utf8.encode r).size = 3 ∨ (Utf8.encode r).size = 4 := by omega
      rcases this with h | h | h
      · exact idx_valid2 r h1 h2 e3 hv h (fun h' => by have := f3 (by omega); simp only [h] at this; exact this) w
      · exact idx_valid3 r h1 h2 e3 hv h (fun h' => by have := f3 (by omega); simp only [h] at this; exact this) w
      · exact idx_valid4 r h1 h2 e3 hv h (fun h' => by have := f3 (by omega); simp only [h] at this; exact this) w

end Go.Proofs.YtdeobbpmdfjfiaaDoor
