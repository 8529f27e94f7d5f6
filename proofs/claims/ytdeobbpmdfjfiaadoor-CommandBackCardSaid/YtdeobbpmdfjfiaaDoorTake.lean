/-
  CommandBack: numbers' texts; take.
-/
import Derived.Test.YtdeobbpmdfjfiaaDoorBytes
import Derived.Test.YtdeobbpmdfjfiaaDoorForms
import Derived.Lib.AppendIntMem
import Derived.Lib.AtoiErrMem
import Derived.WideLaws
namespace Go.Proofs.YtdeobbpmdfjfiaaDoor
open Go.RowKit
set_option linter.unusedVariables false

theorem itoa_any (n : Int) (h0 : -9223372036854775808 ≤ n) (h1 : n ≤ 9223372036854775807) (w : World) (he : Env w) :
    Calls Tryd.prog 9 #[.int .i64 n] w fun e w' => e = .returned (bs (Lib.itoa n)) ∧ Below w.heap.size w w' :=
  (Tryd.strconv_Itoa n h0 h1 w he.pow).mono fun e w' ⟨hr, k, os, hw⟩ => ⟨hr, by rw [hw]; exact Lib.below_grow _ w (Nat.le_refl _) k os⟩

theorem atoi_ok (s : ByteArray) (hs : s.size ≤ 1000000) (v : Int) (h : Lib.atoiAll s.data.toList = .ok v) (w : World) :
    Calls Tryd.prog 21 #[.string s] w fun e w' => e = .returned (.tuple #[.int .i64 v, .nilIface]) ∧ Below w.heap.size w w' :=
  (Tryd.strconv_Atoi_ok s (by omega) v h w).mono fun e w' ⟨hr, hw⟩ => ⟨hr, by
    rcases hw with rfl | ⟨t, rfl⟩
    · exact Below.refl _ _
    · exact Lib.bytesWorld_below w 5 t⟩

/-- What Atoi returns where the text is no number. -/
def NoNum (e : Ending) : Prop := ∃ (v : Int) (p : Value), e = .returned (.tuple #[.int .i64 v, .iface 81 p])

theorem atoi_bad (s : ByteArray) (hs : s.size ≤ 1000000) (h : ∀ v, Lib.atoiAll s.data.toList ≠ .ok v) (w : World) (he : Env w) :
    Calls Tryd.prog 21 #[.string s] w fun e w' => NoNum e ∧ Below w.heap.size w w' := by
  obtain ⟨t1, p1, h1⟩ := he.syn
  obtain ⟨t2, p2, h2⟩ := he.rng
  cases hx : Lib.atoiAll s.data.toList with
  | ok v => exact absurd hx (h v)
  | range => exact (Tryd.strconv_Atoi_range_var s (by omega) hx t2 p2 w h2).mono fun e w' ⟨N, hr, _, _, hb⟩ => ⟨⟨_, _, hr⟩, hb⟩
  | _ => exact (Tryd.strconv_Atoi_syntax_var s (by omega) (hx.trans (by kernel_rfl)) t1 p1 w h1).mono fun e w' ⟨N, hr, _, _, hb⟩ => ⟨⟨_, _, hr⟩, hb⟩

/-- A command's cells. -/
def cmdCells (c : M.Cmd) : Array Value := #[bs c.op, .int .i64 c.id, .int .i64 c.at_, .int .i64 c.n, bs c.data]

def letterOff (x : UInt8) : Nat := if x = 105 then 1 else if x = 97 then 2 else 3

theorem cmdCells_setNum (c : M.Cmd) (x : UInt8) (v : Int) : (cmdCells c).setIfInBounds (letterOff x) (.int .i64 v) = cmdCells (c.setNum x v) := by
  unfold letterOff M.Cmd.setNum
  split
  · rfl
  · split <;> rfl

theorem cmdCells_getNum (c : M.Cmd) (x : UInt8) : (cmdCells c)[letterOff x]? = some (.int .i64 (c.getNum x)) := by
  unfold letterOff M.Cmd.getNum
  split
  · rfl
  · split <;> rfl

theorem number_at (b : Nat) (x : UInt8) (w : World) :
    Calls Tryd.prog 10 #[.pointer (some ⟨b, 0, none⟩), .int .i32 (x.toNat : Int)] w fun e w' => e = .returned (.pointer (some ⟨b, letterOff x, none⟩)) ∧ w' = w :=
  (number_any b x.toNat w).mono fun e w' ⟨hr, hw⟩ => ⟨by
    rw [hr]
    have e1 : ((x.toNat : Int) = 105) ↔ x = 105 := ⟨fun h => UInt8.toNat.inj (by simp; omega), fun h => by rw [h]; rfl⟩
    have e2 : ((x.toNat : Int) = 97) ↔ x = 97 := ⟨fun h => UInt8.toNat.inj (by simp; omega), fun h => by rw [h]; rfl⟩
    simp only [e1, e2, letterOff], hw⟩

theorem grownBy_of_below {w w' : World} (h : Below w.heap.size w w') (row : Option Nat) : w.grownBy w' row :=
  ⟨h.os, h.tape, h.output, h.size, fun k hk _ => h.block k hk⟩

theorem Env.other {w w' : World} {b : Nat} (h : Env w) (hb : w.grownBy w' (some b)) (h10 : 10 ≤ b) : Env w' := by
  obtain ⟨⟨m, hm⟩, hs, hp, ⟨t1, p1, h1⟩, ⟨t2, p2, h2⟩⟩ := h
  have hbk : ∀ k, k < 10 → w'.heap[k]? = w.heap[k]? := fun k hk => hb.block k (by omega) (fun e => by cases e; omega)
  have hB : Below 10 w w' := ⟨hb.os, hb.tape, hb.output, hb.size, hbk⟩
  refine ⟨⟨m, ?_⟩, Nat.le_trans hs hb.size, ?_, ⟨t1, p1, ?_⟩, ⟨t2, p2, ?_⟩⟩
  · rw [hB.cell (p := ⟨1, 0, none⟩) (by show 1 < _; omega)]; exact hm
  · exact var?_below (P := Tryd.prog) (g := 0) hB (by kernel_rfl) (by omega) hp
  · exact var?_below (P := Tryd.prog) (g := 2) hB (by kernel_rfl) (by omega) h1
  · exact var?_below (P := Tryd.prog) (g := 3) hB (by kernel_rfl) (by omega) h2

theorem grownBy_setCell {a w : World} {b : Nat} (h : a.grownBy w (some b)) (o : Nat) (u : Value) : a.grownBy (w.setCell ⟨b, o, none⟩ u) (some b) :=
  ⟨h.os, h.tape, h.output, by simpa using h.size, fun k hk hne => (Below.heap_setCell _ _ _ _ (fun e => hne (by rw [e]))).trans (h.block k hk hne)⟩

theorem grownBy_below {a w w' : World} {row : Option Nat} (h : a.grownBy w row) (hb : Below w.heap.size w w') : a.grownBy w' row :=
  ⟨hb.os.trans h.os, hb.tape.trans h.tape, hb.output.trans h.output, Nat.le_trans h.size hb.size, fun k hk hne => (hb.block k (Nat.lt_of_lt_of_le hk h.size)).trans (h.block k hk hne)⟩

set_option maxHeartbeats 400000 in
theorem take_data (b : Nat) (c : M.Cmd) (s : ByteArray) (hs : s.size ≤ 1000000) (w : World) (hb : w.heap[b]? = some (.cells (cmdCells c) 23 (0, 0))) (o : Option (List UInt8)) (ho : M.bytesM s.data.toList = o) :
    Calls Tryd.prog 13 #[.pointer (some ⟨b, 0, none⟩), .int .i32 100, .string s] w fun e w' => e = .returned (.bool o.isSome) ∧ (w.grownBy w' (some b) ∧ ∀ d, o = some d → w'.heap[b]? = some (.cells (cmdCells { c with data := d }) 23 (0, 0))) := by
  have hlt : b < w.heap.size := lt_of_block hb
  go_enter Tryd.func13, Tryd.ntmps13
  go_wp2_with fail
  refine (bytes_any s _ hs).mono ?_
  rintro e w1 ⟨rfl, hb1⟩
  have hb2 : w1.heap[b]? = some (.cells (cmdCells c) 23 (0, 0)) := (hb1.block b hlt).trans hb
  rw [ho]
  have hc4 : w1.cell? ⟨b, 4, none⟩ = some (bs c.data) := by rw [Lib.cell_of_heap hb2 4]; rfl
  have hf4 : w1.frozen? ⟨b, 4, none⟩ = false := Lib.frozen_of_heap hb2 4
  cases o with
  | none =>
    simp only [bytesV]
    have HB := Lib.hid hb2
    clear hb2 ho
    go_wp2_with fail
    go_ret
    exact ⟨rfl, grownBy_setCell (grownBy_of_below hb1 _) 4 _, fun d h => by cases h⟩
  | some d =>
    simp only [bytesV]
    have HB := Lib.hid hb2
    clear hb2 ho
    go_wp2_with fail
    go_ret
    exact ⟨rfl, grownBy_setCell (grownBy_of_below hb1 _) 4 _, fun d' h => by cases h; exact heap_setCell_same w1 b 4 _ 23 _ HB.out⟩

/-- Where the text is no number told so as it stands. -/
theorem take_num_bad (b : Nat) (c : M.Cmd) (x : UInt8) (hx : ((x.toNat : Int) == 100) = false) (s : ByteArray) (hs : s.size ≤ 1000000) (w : World) (he : Env w) (hb : w.heap[b]? = some (.cells (cmdCells c) 23 (0, 0)))
    (h : ∀ v, Lib.atoiAll s.data.toList ≠ .ok v) :
    Calls Tryd.prog 13 #[.pointer (some ⟨b, 0, none⟩), .int .i32 (x.toNat : Int), .string s] w fun e w' => e = .returned (.bool false) ∧ w.grownBy w' (some b) := by
  have hlt : b < w.heap.size := lt_of_block hb
  go_enter Tryd.func13, Tryd.ntmps13
  go_wp2_with fail
  refine (atoi_bad s hs h _ he).mono ?_
  rintro e w1 ⟨⟨v, p, rfl⟩, hb1⟩
  have hb2 : w1.heap[b]? = some (.cells (cmdCells c) 23 (0, 0)) := (hb1.block b hlt).trans hb
  go_wp2_with fail
  refine (number_at b x _).mono ?_
  rintro e w2 ⟨rfl, rfl⟩
  have hc4 : w2.cell? ⟨b, letterOff x, none⟩ = some (.int .i64 (c.getNum x)) := by rw [Lib.cell_of_heap hb2]; exact cmdCells_getNum c x
  have hf4 : w2.frozen? ⟨b, letterOff x, none⟩ = false := Lib.frozen_of_heap hb2 _
  clear hb2 hb
  go_wp2_with fail
  go_ret
  exact ⟨rfl, grownBy_setCell (grownBy_of_below hb1 _) _ _⟩

/-- Where the text is a number. -/
theorem take_num_ok (b : Nat) (c : M.Cmd) (x : UInt8) (hx : ((x.toNat : Int) == 100) = false) (s : ByteArray) (hs : s.size ≤ 1000000) (w : World) (he : Env w) (h10 : 10 ≤ b) (hb : w.heap[b]? = some (.cells (cmdCells c) 23 (0, 0)))
    (v : Int) (h : Lib.atoiAll s.data.toList = .ok v) (h0 : 0 ≤ v) (h1 : v ≤ 2147483647) (q : Bool) (hq : (Lib.itoa v == s.data.toList) = q) :
    Calls Tryd.prog 13 #[.pointer (some ⟨b, 0, none⟩), .int .i32 (x.toNat : Int), .string s] w fun e w' => e = .returned (.bool q) ∧ (w.grownBy w' (some b) ∧ w'.heap[b]? = some (.cells (cmdCells (c.setNum x v)) 23 (0, 0))) := by
  have hlt : b < w.heap.size := lt_of_block hb
  go_enter Tryd.func13, Tryd.ntmps13
  go_wp2_with fail
  refine (atoi_ok s hs v h _).mono ?_
  rintro e w1 ⟨rfl, hb1⟩
  have hb2 : w1.heap[b]? = some (.cells (cmdCells c) 23 (0, 0)) := (hb1.block b hlt).trans hb
  go_wp2_with fail
  refine (number_at b x _).mono ?_
  rintro e w2 ⟨rfl, rfl⟩
  have hc4 : w2.cell? ⟨b, letterOff x, none⟩ = some (.int .i64 (c.getNum x)) := by rw [Lib.cell_of_heap hb2]; exact cmdCells_getNum c x
  have hf4 : w2.frozen? ⟨b, letterOff x, none⟩ = false := Lib.frozen_of_heap hb2 _
  have HB := Lib.hid (heap_setCell_same w2 b (letterOff x) _ 23 (.int .i64 v) hb2)
  have hg := grownBy_setCell (grownBy_of_below hb1 (some b)) (letterOff x) (.int .i64 v)
  have he2 := he.other hg h10
  clear hb2 hb
  go_wp2_with fail
  refine (itoa_any v (by omega) (by omega) _ he2).mono ?_
  rintro e w3 ⟨rfl, hb3⟩
  have hq2 : (Lib.itoa v == s.toList) = q := by rw [Lib.toList_data]; exact hq
  have HF := Lib.hid (show w3.heap[b]? = some (.cells (cmdCells (c.setNum x v)) 23 (0, 0)) by
    rw [hb3.block b (by simpa using Nat.lt_of_lt_of_le hlt hb1.size), HB.out, cmdCells_setNum])
  have hg3 := grownBy_below hg hb3
  clear hq
  go_wp2_with fail
  go_ret
  exact ⟨rfl, hg3, HF.out⟩

theorem take_num_neg (b : Nat) (c : M.Cmd) (x : UInt8) (hx : ((x.toNat : Int) == 100) = false) (s : ByteArray) (hs : s.size ≤ 1000000) (w : World) (hb : w.heap[b]? = some (.cells (cmdCells c) 23 (0, 0)))
    (v : Int) (h : Lib.atoiAll s.data.toList = .ok v) (h0 : v < 0) :
    Calls Tryd.prog 13 #[.pointer (some ⟨b, 0, none⟩), .int .i32 (x.toNat : Int), .string s] w fun e w' => e = .returned (.bool false) ∧ w.grownBy w' (some b) := by
  have hlt : b < w.heap.size := lt_of_block hb
  go_enter Tryd.func13, Tryd.ntmps13
  go_wp2_with fail
  refine (atoi_ok s hs v h _).mono ?_
  rintro e w1 ⟨rfl, hb1⟩
  have hb2 : w1.heap[b]? = some (.cells (cmdCells c) 23 (0, 0)) := (hb1.block b hlt).trans hb
  go_wp2_with fail
  refine (number_at b x _).mono ?_
  rintro e w2 ⟨rfl, rfl⟩
  have hc4 : w2.cell? ⟨b, letterOff x, none⟩ = some (.int .i64 (c.getNum x)) := by rw [Lib.cell_of_heap hb2]; exact cmdCells_getNum c x
  have hf4 : w2.frozen? ⟨b, letterOff x, none⟩ = false := Lib.frozen_of_heap hb2 _
  clear hb2 hb
  go_wp2_with fail
  go_ret
  exact ⟨rfl, grownBy_setCell (grownBy_of_below hb1 _) _ _⟩

theorem take_num_big (b : Nat) (c : M.Cmd) (x : UInt8) (hx : ((x.toNat : Int) == 100) = false) (s : ByteArray) (hs : s.size ≤ 1000000) (w : World) (hb : w.heap[b]? = some (.cells (cmdCells c) 23 (0, 0)))
    (v : Int) (h : Lib.atoiAll s.data.toList = .ok v) (h0 : 0 ≤ v) (h1 : 2147483647 < v) :
    Calls Tryd.prog 13 #[.pointer (some ⟨b, 0, none⟩), .int .i32 (x.toNat : Int), .string s] w fun e w' => e = .returned (.bool false) ∧ w.grownBy w' (some b) := by
  have hlt : b < w.heap.size := lt_of_block hb
  go_enter Tryd.func13, Tryd.ntmps13
  go_wp2_with fail
  refine (atoi_ok s hs v h _).mono ?_
  rintro e w1 ⟨rfl, hb1⟩
  have hb2 : w1.heap[b]? = some (.cells (cmdCells c) 23 (0, 0)) := (hb1.block b hlt).trans hb
  go_wp2_with fail
  refine (number_at b x _).mono ?_
  rintro e w2 ⟨rfl, rfl⟩
  have hc4 : w2.cell? ⟨b, letterOff x, none⟩ = some (.int .i64 (c.getNum x)) := by rw [Lib.cell_of_heap hb2]; exact cmdCells_getNum c x
  have hf4 : w2.frozen? ⟨b, letterOff x, none⟩ = false := Lib.frozen_of_heap hb2 _
  clear hb2 hb
  go_wp2_with fail
  go_ret
  exact ⟨rfl, grownBy_setCell (grownBy_of_below hb1 _) _ _⟩

/-- 'take', at whatever letter and word. -/
theorem take_any (b : Nat) (c : M.Cmd) (x : UInt8) (s : ByteArray) (hs : s.size ≤ 1000000) (w : World) (he : Env w) (h10 : 10 ≤ b) (hb : w.heap[b]? = some (.cells (cmdCells c) 23 (0, 0)))
    (o : Option M.Cmd) (ho : M.takeM c x s.data.toList = o) :
    Calls Tryd.prog 13 #[.pointer (some ⟨b, 0, none⟩), .int .i32 (x.toNat : Int), .string s] w fun e w' => e = .returned (.bool o.isSome) ∧ (w.grownBy w' (some b) ∧ ∀ d, o = some d → w'.heap[b]? = some (.cells (cmdCells d) 23 (0, 0))) := by
  unfold M.takeM at ho
  by_cases hx : x = 100
  · subst hx
    rw [if_pos rfl] at ho
    subst ho
    refine (take_data b c s hs w hb _ rfl).mono ?_
    rintro e w' ⟨rfl, hg, hd⟩
    refine ⟨by simp, hg, fun d h => ?_⟩
    cases hm : M.bytesM s.data.toList with
    | none => rw [hm] at h; cases h
    | some r => rw [hm] at h; cases h; exact hd r hm
  · rw [if_neg hx] at ho
    have hx' : ((x.toNat : Int) == 100) = false := beq_eq_false_iff_ne.2 (fun h => hx (UInt8.toNat.inj (by simp; omega)))
    have no : M.numM s.data.toList = none → (Calls Tryd.prog 13 #[.pointer (some ⟨b, 0, none⟩), .int .i32 (x.toNat : Int), .string s] w fun e w' => e = .returned (.bool false) ∧ w.grownBy w' (some b)) →
        Calls Tryd.prog 13 #[.pointer (some ⟨b, 0, none⟩), .int .i32 (x.toNat : Int), .string s] w fun e w' => e = .returned (.bool o.isSome) ∧ (w.grownBy w' (some b) ∧ ∀ d, o = some d → w'.heap[b]? = some (.cells (cmdCells d) 23 (0, 0))) := by
      intro h1 h2
      rw [h1] at ho
      subst ho
      exact h2.mono fun e w' ⟨h3, h4⟩ => ⟨h3, h4, fun d h => by cases h⟩
    cases ha : Lib.atoiAll s.data.toList with
    | range => exact no (by unfold M.numM; rw [ha]) (take_num_bad b c x hx' s hs w he hb (fun v => by rw [ha]; intro h; cases h))
    | ok v =>
      by_cases h0 : 0 ≤ v
      · by_cases h1 : v ≤ 2147483647
        · by_cases hq : Lib.itoa v = s.data.toList
          · have hn : M.numM s.data.toList = some v := by unfold M.numM; rw [ha]; exact if_pos ⟨h0, h1, hq⟩
            rw [hn] at ho
            subst ho
            refine (take_num_ok b c x hx' s hs w he h10 hb v ha h0 h1 true (by simpa using hq)).mono ?_
            rintro e w' ⟨rfl, hg, hc⟩
            exact ⟨rfl, hg, fun d h => by cases h; exact hc⟩
          · exact no (by unfold M.numM; rw [ha]; exact if_neg (fun h => hq h.2.2)) ((take_num_ok b c x hx' s hs w he h10 hb v ha h0 h1 false (by simpa using hq)).mono fun e w' ⟨h3, h4, _⟩ => ⟨h3, h4⟩)
        · exact no (by unfold M.numM; rw [ha]; exact if_neg (fun h => h1 h.2.1)) (take_num_big b c x hx' s hs w hb v ha h0 (by omega))
      · exact no (by unfold M.numM; rw [ha]; exact if_neg (fun h => h0 h.1)) (take_num_neg b c x hx' s hs w hb v ha (by omega))
    | _ => exact no (by unfold M.numM; rw [ha]) (take_num_bad b c x hx' s hs w he hb (fun v => by rw [ha]; intro h; cases h))

end Go.Proofs.YtdeobbpmdfjfiaaDoor
