/-
  CommandBack: Print, where the word has a form.
-/
import Derived.Test.YtdeobbpmdfjfiaaDoorPrintA
import Derived.Maps.AppendAt
namespace Go.Proofs.YtdeobbpmdfjfiaaDoor
open Go.RowKit
set_option linter.unusedVariables false

theorem Tryd.info9' : (Tryd.prog.info? 9).map (fun i => (i.zero, i.size, i.bytes)) = some (some (.string ⟨#[]⟩), 1, 16) := by kernel_rfl

def wordsV (c : M.Cmd) (fk : List UInt8) : List Value := bs c.op :: fk.map fun x => bs (M.wordOf c x)

theorem Ok.getNum {c : M.Cmd} (h : Ok c) (x : UInt8) : -9223372036854775808 ≤ c.getNum x ∧ c.getNum x ≤ 9223372036854775807 := by
  unfold M.Cmd.getNum
  split
  · exact h.id
  · split
    · exact h.at_
    · exact h.n

theorem jn_len : ∀ (xs : List (List UInt8)) (B : Nat), (∀ x ∈ xs, x.length ≤ B) → (M.jn xs).length ≤ xs.length * (B + 1)
  | [], _, _ => by simp [M.jn]
  | [a], B, h => by have := h a (by simp); simp [M.jn]; omega
  | a :: b :: t, B, h => by
    have ih := jn_len (b :: t) B (fun x hx => h x (by simp at hx ⊢; exact Or.inr hx))
    have h1 := h a (by simp)
    simp only [M.jn, List.length_append, List.length_cons] at ih ⊢
    rw [Nat.add_mul _ 1]
    omega

theorem wordOf_len (c : M.Cmd) (hok : Ok c) (x : UInt8) : (M.wordOf c x).length ≤ 2000 := by
  unfold M.wordOf
  split
  · unfold M.hexM
    split
    · simp
    · rw [M.hexL_length]; have := hok.data; omega
  · have h := hok.getNum x
    have := Lib.itoa_length_le _ h.1 h.2
    omega

theorem text_len (c : M.Cmd) (hok : Ok c) (f : List UInt8) (hfl : f.length ≤ 3) : (M.textM c f).length ≤ 8004 := by
  unfold M.textM
  refine Nat.le_trans (jn_len _ 2000 ?_) ?_
  · intro x hx
    rcases List.mem_cons.1 hx with rfl | hx
    · have := hok.op; omega
    · obtain ⟨y, _, rfl⟩ := List.mem_map.1 hx
      exact wordOf_len c hok y
  · simp; omega

theorem join_words (c : M.Cmd) (hok : Ok c) (f : List UInt8) (hfl : f.length ≤ 3) (wr : World) (g cap base : Nat) (hown : wr.ownsRow base 9 1 (.slice (some ⟨g, 0, none⟩) (f.length + 1) cap) (f.length + 1) (wordsV c (f.take f.length))) :
    Calls Tryd.prog 11 #[.slice (some ⟨g, 0, none⟩) (f.length + 1) cap, .string ⟨#[32]⟩] wr fun e w' => e = .returned (bs (M.textM c f)) ∧ Below wr.heap.size wr w' := by
  rw [List.take_length] at hown
  have hxl : ((⟨c.op.toArray⟩ : ByteArray) :: f.map fun x => (⟨(M.wordOf c x).toArray⟩ : ByteArray)).length = f.length + 1 := by simp
  have hjn : Lib.join (((⟨c.op.toArray⟩ : ByteArray) :: f.map fun x => (⟨(M.wordOf c x).toArray⟩ : ByteArray)).map (·.data.toList)) (⟨#[32]⟩ : ByteArray).data.toList = M.textM c f := by
    show Lib.join _ [32] = _
    rw [M.jn_eq]
    unfold M.textM
    simp [Function.comp_def]
  have hwv : wordsV c f = ((⟨c.op.toArray⟩ : ByteArray) :: f.map fun x => (⟨(M.wordOf c x).toArray⟩ : ByteArray)).map Value.string := by
    unfold wordsV
    simp [Function.comp_def]
  rw [hwv] at hown
  have hcells := fun j x (hx : ((⟨c.op.toArray⟩ : ByteArray) :: f.map fun x => (⟨(M.wordOf c x).toArray⟩ : ByteArray))[j]? = some x) =>
    World.ownsRow.cells hown (g := g) rfl j (.string x) (by rw [List.getElem?_map, hx]; rfl)
  have h := Tryd.strings_Join g 0 cap ((⟨c.op.toArray⟩ : ByteArray) :: f.map fun x => (⟨(M.wordOf c x).toArray⟩ : ByteArray)) ⟨#[32]⟩ wr
    (fun j x hx => by have := hcells j x hx; rw [show (⟨g, 0, none⟩ : Addr).add j = ⟨g, 0 + j, none⟩ from by unfold Addr.add; split <;> simp_all] at this; exact this) (hown.lt g rfl).2 (by simp; omega)
    (by rcases hown.2 with ⟨h, _⟩ | ⟨_, _, _, h, _, _, hn, _⟩
        · cases h
        · cases h; simpa using hn)
    (by rw [hjn]; have := text_len c hok f hfl; omega)
  rw [hjn, hxl] at h
  exact h

theorem own_ne_iter {w : World} {base : Nat} {e : TypeId} {size : Nat} {v : Value} {n : Nat} {xs : List Value} (h : w.ownsRow base e size v n xs) {k : Nat} {s : ByteArray} {pos : Nat} (hk : w.heap[k]? = some (.stringIter s pos)) : v.ownBlock ≠ some k := by
  intro hv
  rcases h.2 with ⟨rfl, _⟩ | ⟨g, cap, cur, rfl, hb, hg, rest⟩
  · cases hv
  · simp [Value.ownBlock] at hv
    subst hv
    rw [hg] at hk
    cases hk

theorem round_end (w w5 w6 : World) (v v' : Value) (c : M.Cmd) (f : List UInt8) (k : Nat) (x : Value) (hlt : k < f.length) (hx : x = bs (M.wordOf c f[k]))
    (hown6 : w6.ownsRow w.heap.size 9 1 v' (k + 1 + 1) (wordsV c (f.take k) ++ [x])) (hgrow : (w5.alloc (.cells #[x] 9)).grownBy w6 v.ownBlock)
    (hcc5 : w5.heap[w.heap.size]? = some (.cells (cmdCells c) 23 (0, 0))) (hit5 : w5.heap[w.heap.size + 1 + 1 + 1]? = some (.stringIter ⟨f.toArray⟩ (k + 1)))
    (hb5 : Below w.heap.size w w5) (G0 : v.ownBlock ≠ some w.heap.size) (G1 : v.ownBlock ≠ some (w.heap.size + 1 + 1 + 1)) (G2 : ∀ j, v.ownBlock = some j → w.heap.size ≤ j ∧ j < w5.heap.size) :
    w6.ownsRow w.heap.size 9 1 v' (k + 1 + 1) (wordsV c (f.take (k + 1))) ∧ w6.heap[w.heap.size]? = some (.cells (cmdCells c) 23 (0, 0)) ∧
      w6.heap[w.heap.size + 1 + 1 + 1]? = some (.stringIter ⟨f.toArray⟩ (k + 1)) ∧ Below w.heap.size w w6 := by
  have e : wordsV c (f.take (k + 1)) = wordsV c (f.take k) ++ [x] := by
    unfold wordsV
    rw [List.take_succ_eq_append_getElem hlt, hx, List.map_append, List.map_cons, List.map_nil, List.cons_append]
  have l0 := lt_of_block hcc5
  have l1 := lt_of_block hit5
  refine ⟨by rw [e]; exact hown6, ?_, ?_, ?_⟩
  · exact (hgrow.block _ (by simp; omega) (fun h => G0 h.symm)).trans ((Below.heap_alloc _ _ _ l0).trans hcc5)
  · exact (hgrow.block _ (by simp; omega) (fun h => G1 h.symm)).trans ((Below.heap_alloc _ _ _ l1).trans hit5)
  · exact (hb5.alloc hb5.size _).grown hgrow (by have := hb5.size; simp; omega) (fun j h => (G2 j h).1)

theorem ownsRow_iterAt' {w : World} {base : Nat} {e : TypeId} {size : Nat} {v : Value} {n : Nat} {xs : List Value} (h : w.ownsRow base e size v n xs) {k : Nat} {s : ByteArray} {pos : Nat} (hk : w.heap[k]? = some (.stringIter s pos)) (pos' : Nat) :
    (w.iterAt k s pos').ownsRow base e size v n xs := by
  refine ⟨h.1, ?_⟩
  rcases h.2 with hn | ⟨g, cap, cur, rfl, hb, hg, rest⟩
  · exact .inl hn
  · refine .inr ⟨g, cap, cur, rfl, hb, ?_, rest⟩
    rw [Lib.iterAt_other _ _ _ _ _ (fun e => by subst e; rw [hg] at hk; cases hk)]
    exact hg

set_option maxRecDepth 100000 in
set_option maxHeartbeats 800000 in
theorem print_run (c : M.Cmd) (hok : Ok c) (w : World) (he : Env w) (f : List UInt8) (hf : M.formOf c.op = some f) (hfa : ∀ b ∈ f, b.toNat < 128) (hfl : f.length ≤ 3) (o : Option (List UInt8)) (ho : M.printM c = o) :
    Calls Tryd.prog 5 #[.agg #[bs c.op, .int .i64 c.id, .int .i64 c.at_, .int .i64 c.n, bs c.data]] w fun e w' => e = .returned (printV o) ∧ Below w.heap.size w w' := by
  obtain ⟨i0, hi, hz0, hz1, hz2⟩ := info_parts Tryd.info9'
  have hlk := lookup_forms_some ((w.alloc (.cells #[bs c.op, .int .i64 c.id, .int .i64 c.at_, .int .i64 c.n, bs c.data] 23)).alloc (.map formsEntries 6)).drew (w.heap.size + 1) (by
    have := heap_alloc_new (w.alloc (.cells #[bs c.op, .int .i64 c.id, .int .i64 c.at_, .int .i64 c.n, bs c.data] 23)) (.map formsEntries 6)
    rw [World.size_alloc] at this; exact this) ⟨c.op.toArray⟩ f hf
  go_enter Tryd.func5, Tryd.ntmps5
  go_wp2_with fail
  go_region_with (go_at_call 7; refine (forms_any _).mono ?_; rintro e w2 ⟨rfl, rfl⟩)
  all_goals
    go_wp2_with fail
    go_loopw [6] (fun v wr => ∃ k : Nat, k ≤ f.length ∧ wr.ownsRow w.heap.size 9 1 v (k + 1) (wordsV c (f.take k)) ∧ wr.heap[w.heap.size]? = some (.cells (cmdCells c) 23 (0, 0)) ∧
        wr.heap[w.heap.size + 1 + 1 + 1]? = some (.stringIter ⟨f.toArray⟩ k) ∧ Below w.heap.size w wr) (fun _ wr => f.length - wr.iterPos (w.heap.size + 1 + 1 + 1))
    case atStart =>
      refine ⟨0, Nat.zero_le _, ?_, ?_, ?_, ?_⟩
      · have h := World.ownsRow_lit (base := w.heap.size) (e := 9) (size := 1) ((w.alloc (.cells #[bs c.op, .int .i64 c.id, .int .i64 c.at_, .int .i64 c.n, bs c.data] 23)).alloc (.map formsEntries 6)) #[bs c.op] 1 (by simp; omega) (by decide) rfl
        simp only [World.size_alloc] at h
        exact World.ownsRow.alloc (w := ((((w.alloc (.cells #[bs c.op, .int .i64 c.id, .int .i64 c.at_, .int .i64 c.n, bs c.data] 23)).alloc (.map formsEntries 6)).alloc (.cells #[bs c.op] 9)).drew)) h _
      · exact (Below.heap_alloc _ _ _ (by simp; omega)).trans ((Below.heap_alloc _ _ _ (by simp; omega)).trans ((Below.heap_alloc _ _ _ (by simp)).trans (heap_alloc_new w _)))
      · have h := heap_alloc_new (((w.alloc (.cells #[bs c.op, .int .i64 c.id, .int .i64 c.at_, .int .i64 c.n, bs c.data] 23)).alloc (.map formsEntries 6)).alloc (.cells #[bs c.op] 9)) (.stringIter ⟨f.toArray⟩ 0)
        simp only [World.size_alloc] at h
        exact h
      · exact (((((Below.refl _ _).alloc (Nat.le_refl _) _).alloc (by simp) _).alloc (by simp; omega) _).drew).alloc (by simp; omega) _
    case round =>
      obtain ⟨k, hk, hown, hcc, hit, hbel⟩ := hrel
      by_cases hlt : k < f.length
      · have hlt' : k < (⟨f.toArray⟩ : ByteArray).size := hlt
        have hasc : ((⟨f.toArray⟩ : ByteArray)[k]'hlt').toNat < 128 := hfa _ (List.getElem_mem hlt)
        have hnx := fun ty => Lib.run_next_ascii_at (P := Tryd.prog) wr (w.heap.size + 1 + 1 + 1) ⟨f.toArray⟩ k ty hit hlt' hasc
        have hit' := Lib.iterAt_heap wr (w.heap.size + 1 + 1 + 1) ⟨f.toArray⟩ k (k + 1) hit
        have hbel' := Lib.below_iterAt hbel (k := w.heap.size + 1 + 1 + 1) (by omega) ⟨f.toArray⟩ (k + 1)
        have hcc' : (wr.iterAt (w.heap.size + 1 + 1 + 1) ⟨f.toArray⟩ (k + 1)).heap[w.heap.size]? = _ := (Lib.iterAt_other wr (w.heap.size + 1 + 1 + 1) (w.heap.size) ⟨f.toArray⟩ (k + 1) (by omega)).trans hcc
        have hown' := ownsRow_iterAt' hown hit (k + 1)
        have P1 := Lib.hid (iterPos_of hit)
        generalize wr.iterAt (w.heap.size + 1 + 1 + 1) ⟨f.toArray⟩ (k + 1) = W at hnx hit' hbel' hcc' hown'
        have hd4 : W.cell? ⟨w.heap.size, 4, none⟩ = some (bs c.data) := by rw [Lib.cell_of_heap hcc']; rfl
        have hd4f : W.frozen? ⟨w.heap.size, 4, none⟩ = false := Lib.frozen_of_heap hcc' 4
        clear hcc hit hbel hown
        by_cases hx : f[k] = 100
        · have hx' : (((((⟨f.toArray⟩ : ByteArray)[k]'hlt').toNat : Int)) != 100) = false := by
            rw [bne_eq_false_iff_eq]; have : ((⟨f.toArray⟩ : ByteArray)[k]'hlt') = 100 := hx; rw [this]; rfl
          go_wp2_with fail
          refine (hex_any ⟨c.data.toArray⟩ _ (by have := hok.data; show c.data.length ≤ _; omega)).mono ?_
          rintro e w5 ⟨rfl, hbh⟩
          have hb5 := hbel'.trans (hbh.mono (by have := hbel'.size; omega))
          have hown5 := hown'.kept (grownBy_of_below hbh none) (by cases u6.ownBlock <;> simp)
          have hcc5 : w5.heap[w.heap.size]? = _ := (hbh.block _ (lt_of_block hcc')).trans hcc'
          have hit5 : w5.heap[w.heap.size + 1 + 1 + 1]? = _ := (hbh.block _ (lt_of_block hit')).trans hit'
          have hword : M.hexM c.data = M.wordOf c f[k] := by unfold M.wordOf; rw [if_pos hx]
          clear hnx hit' hbel' hcc' hown' hd4 hd4f hbh
          have HWD := Lib.hid hword
          have A1 := Lib.hid (cell_one_new w5 (bs (M.hexM c.data)) 9)
          have A3 := Lib.hid (show k + 1 + 1 ≤ maxLen by unfold maxLen; omega)
          have A4 := Lib.hid (show (k + 1 + 1) * 16 ≤ 140737488355328 by omega)
          have A5 := Lib.hid (show w.heap.size ≤ (w5.alloc (.cells #[(bs (M.hexM c.data))] 9)).heap.size by have := hb5.size; simp; omega)
          have A6 := Lib.hid (show ∀ u ∈ [(bs (M.hexM c.data))], u.oneCell' = true by intro u hu; simp at hu; subst hu; rfl)
          clear hword
          go_wp2_with (at_builtin; refine wpList_append_own _ rfl _ _ 34 rfl w.heap.size 9 i0 (.string ⟨#[]⟩) 1 16 Tryd.underlying34 hi hz0 hz1 hz2 rfl (by decide) _ _ _ rfl (hown5.alloc _) ⟨w5.heap.size, 0, none⟩ 1 1 [(bs (M.hexM c.data))] rfl rfl A1.out A6.out A3.out A4.out A5.out ?_; intro v' w6 hown6 hgrow _)
          have G0 := Lib.ownBlock_ne hown5 hcc5 (by decide)
          have G1 := own_ne_iter hown5 hit5
          have R := round_end w w5 w6 _ v' c f k (bs (M.hexM c.data)) hlt (by rw [HWD.out]) hown6 hgrow hcc5 hit5 hb5 G0 G1 (hown5.lt)
          refine ⟨⟨k + 1, by omega, R.1, R.2.1, R.2.2.1, R.2.2.2⟩, ?_⟩
          rw [P1.out, iterPos_of R.2.2.1]
          omega
        · have hx' : (((((⟨f.toArray⟩ : ByteArray)[k]'hlt').toNat : Int)) != 100) = true := by
            rw [bne_iff_ne]; intro h; exact hx (UInt8.toNat.inj (by show ((⟨f.toArray⟩ : ByteArray)[k]'hlt').toNat = 100; omega))
          go_wp2_with fail
          refine (hex_any ⟨c.data.toArray⟩ _ (by have := hok.data; show c.data.length ≤ _; omega)).mono ?_
          rintro e w4 ⟨rfl, hbh⟩
          have hb4 := hbel'.trans (hbh.mono (by have := hbel'.size; omega))
          have hown4 := hown'.kept (grownBy_of_below hbh none) (by cases u6.ownBlock <;> simp)
          have hcc4 : w4.heap[w.heap.size]? = _ := (hbh.block _ (lt_of_block hcc')).trans hcc'
          have hit4 : w4.heap[w.heap.size + 1 + 1 + 1]? = _ := (hbh.block _ (lt_of_block hit')).trans hit'
          clear hnx hit' hbel' hcc' hown' hd4 hd4f hbh
          go_wp2_with fail
          refine (number_at w.heap.size ((⟨f.toArray⟩ : ByteArray)[k]'hlt') _).mono ?_
          rintro e w4' ⟨rfl, rfl⟩
          have hd4 : w4'.cell? ⟨w.heap.size, letterOff ((⟨f.toArray⟩ : ByteArray)[k]'hlt'), none⟩ = some (.int .i64 (c.getNum f[k])) := by rw [Lib.cell_of_heap hcc4]; exact cmdCells_getNum c f[k]
          go_wp2_with fail
          have hgn := hok.getNum f[k]
          refine (itoa_any (c.getNum f[k]) hgn.1 hgn.2 _ (he.below hb4)).mono ?_
          rintro e w5 ⟨rfl, hbh⟩
          have hb5 := hb4.trans (hbh.mono (by have := hb4.size; omega))
          have hown5 := hown4.kept (grownBy_of_below hbh none) (by cases u6.ownBlock <;> simp)
          have hcc5 : w5.heap[w.heap.size]? = _ := (hbh.block _ (lt_of_block hcc4)).trans hcc4
          have hit5 : w5.heap[w.heap.size + 1 + 1 + 1]? = _ := (hbh.block _ (lt_of_block hit4)).trans hit4
          have hword : Lib.itoa (c.getNum f[k]) = M.wordOf c f[k] := by unfold M.wordOf; rw [if_neg hx]
          clear hb4 hown4 hcc4 hit4 hbh hd4
          have HWD := Lib.hid hword
          have A1 := Lib.hid (cell_one_new w5 (bs (Lib.itoa (c.getNum f[k]))) 9)
          have A3 := Lib.hid (show k + 1 + 1 ≤ maxLen by unfold maxLen; omega)
          have A4 := Lib.hid (show (k + 1 + 1) * 16 ≤ 140737488355328 by omega)
          have A5 := Lib.hid (show w.heap.size ≤ (w5.alloc (.cells #[(bs (Lib.itoa (c.getNum f[k])))] 9)).heap.size by have := hb5.size; simp; omega)
          have A6 := Lib.hid (show ∀ u ∈ [(bs (Lib.itoa (c.getNum f[k])))], u.oneCell' = true by intro u hu; simp at hu; subst hu; rfl)
          clear hword
          go_wp2_with (at_builtin; refine wpList_append_own _ rfl _ _ 34 rfl w.heap.size 9 i0 (.string ⟨#[]⟩) 1 16 Tryd.underlying34 hi hz0 hz1 hz2 rfl (by decide) _ _ _ rfl (hown5.alloc _) ⟨w5.heap.size, 0, none⟩ 1 1 [(bs (Lib.itoa (c.getNum f[k])))] rfl rfl A1.out A6.out A3.out A4.out A5.out ?_; intro v' w6 hown6 hgrow _)
          have G0 := Lib.ownBlock_ne hown5 hcc5 (by decide)
          have G1 := own_ne_iter hown5 hit5
          have R := round_end w w5 w6 _ v' c f k (bs (Lib.itoa (c.getNum f[k]))) hlt (by rw [HWD.out]) hown6 hgrow hcc5 hit5 hb5 G0 G1 (hown5.lt)
          refine ⟨⟨k + 1, by omega, R.1, R.2.1, R.2.2.1, R.2.2.2⟩, ?_⟩
          rw [P1.out, iterPos_of R.2.2.1]
          omega
      · obtain rfl : k = f.length := by omega
        have hnx := fun ty => Lib.run_next_end_at (P := Tryd.prog) wr (w.heap.size + 1 + 1 + 1) ⟨f.toArray⟩ f.length ty hit (by show ¬ f.length < f.length; omega)
        obtain ⟨g, cap, rfl⟩ := ownsRow_succ hown
        have hj := join_words c hok f hfl wr g cap w.heap.size hown
        have hcc0 := hcc
        clear hown hit
        go_wp2_with fail
        refine hj.mono ?_
        rintro e w3 ⟨rfl, hb3⟩
        have hB3 := hbel.trans (hb3.mono (by have := hbel.size; omega))
        have hcc3 : w3.heap[w.heap.size]? = _ := (hb3.block _ (lt_of_block hcc0)).trans hcc0
        clear hcc hcc0 hj hnx
        go_wp2_with fail
        refine (parse_any ⟨(M.textM c f).toArray⟩ (by show (M.textM c f).length ≤ _; have := text_len c hok f hfl; omega) _ (he.below hB3)).mono ?_
        rintro e w4 ⟨rfl, hb4⟩
        have hB4 := hB3.trans (hb4.mono (by have := hB3.size; omega))
        have hcc4 : w4.heap[w.heap.size]? = _ := (hb4.block _ (lt_of_block hcc3)).trans hcc3
        have hlt4 : w.heap.size < w4.heap.size := lt_of_block hcc4
        have x0 : w4.cell? ⟨w.heap.size, 0, none⟩ = some (bs c.op) := by rw [Lib.cell_of_heap hcc4]; rfl
        have x1 : w4.cell? ⟨w.heap.size, 1, none⟩ = some (.int .i64 c.id) := by rw [Lib.cell_of_heap hcc4]; rfl
        have x2 : w4.cell? ⟨w.heap.size, 2, none⟩ = some (.int .i64 c.at_) := by rw [Lib.cell_of_heap hcc4]; rfl
        have x3 : w4.cell? ⟨w.heap.size, 3, none⟩ = some (.int .i64 c.n) := by rw [Lib.cell_of_heap hcc4]; rfl
        have x4 : w4.cell? ⟨w.heap.size, 4, none⟩ = some (bs c.data) := by rw [Lib.cell_of_heap hcc4]; rfl
        have hpm : M.printM c = if M.parseM (M.textM c f) = some c then some (M.textM c f) else none := by unfold M.printM; rw [hf]
        have HPM := Lib.hid hpm
        clear hcc3 hcc4 hpm
        show (match Ending.returned (parseV (M.parseM (M.textM c f))), w4 with | _, _ => _)
        cases hz : M.parseM (M.textM c f) with
        | none =>
          have HO := Lib.hid (show o = none by rw [← ho, HPM.out, hz]; rfl)
          clear hz
          simp only [parseV, cmdCells, M.Cmd.none]
          go_wp2_with fail
          go_ret2
          exact ⟨by rw [HO.out]; rfl, hB4.alloc (by omega) _⟩
        | some z =>
          by_cases hzc : z = c
          · subst hzc
            have HO := Lib.hid (show o = some (M.textM z f) by rw [← ho, HPM.out, hz]; exact if_pos rfl)
            have hnq : ∀ W, (binOp .neq 23 (.agg #[bs z.op, .int .i64 z.id, .int .i64 z.at_, .int .i64 z.n, bs z.data]) (.agg #[bs z.op, .int .i64 z.id, .int .i64 z.at_, .int .i64 z.n, bs z.data])).run Tryd.prog W = .ok (.bool false) W := fun W => by
              rw [run_neq_cmd z z W]; simp
            clear hz
            simp only [parseV, cmdCells]
            go_wp2_with fail
            go_ret2
            exact ⟨by rw [HO.out]; rfl, hB4.alloc (by omega) _⟩
          · have HO := Lib.hid (show o = none by rw [← ho, HPM.out, hz]; exact if_neg (fun h => hzc (by cases h; rfl)))
            have hnq : ∀ W, (binOp .neq 23 (.agg #[bs z.op, .int .i64 z.id, .int .i64 z.at_, .int .i64 z.n, bs z.data]) (.agg #[bs c.op, .int .i64 c.id, .int .i64 c.at_, .int .i64 c.n, bs c.data])).run Tryd.prog W = .ok (.bool true) W := fun W => by
              rw [run_neq_cmd z c W]; simp [hzc]
            clear hz hzc
            simp only [parseV, cmdCells]
            go_wp2_with fail
            go_ret2
            exact ⟨by rw [HO.out]; rfl, hB4.alloc (by omega) _⟩

theorem print_any (c : M.Cmd) (hok : Ok c) (w : World) (he : Env w) :
    Calls Tryd.prog 5 #[.agg #[bs c.op, .int .i64 c.id, .int .i64 c.at_, .int .i64 c.n, bs c.data]] w fun e w' => e = .returned (printV (M.printM c)) ∧ Below w.heap.size w w' := by
  cases hf : M.formOf c.op with
  | none => exact print_noform c w he hf _ (by unfold M.printM; rw [hf])
  | some f =>
    obtain ⟨hfa, hfl⟩ := formOf_facts hf
    exact print_run c hok w he f hf hfa hfl _ rfl

end Go.Proofs.YtdeobbpmdfjfiaaDoor
