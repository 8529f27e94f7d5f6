/-
  CommandBack: Parse.
-/
import Derived.Test.YtdeobbpmdfjfiaaDoorTake
import Derived.Deep.RegionWith
import Derived.Deep.RegionHeld3
import Derived.Deep.Cut
import Derived.Deep.DeepCutAuto
namespace Go.Proofs.YtdeobbpmdfjfiaaDoor
open Go.RowKit
set_option linter.unusedVariables false

/-- What Parse returns. -/
def parseV : Option M.Cmd → Value
  | some c => .tuple #[.agg (cmdCells c), .int .i64 0]
  | none => .tuple #[.agg (cmdCells M.Cmd.none), .int .i64 32]

theorem takes_step (c : M.Cmd) (f : List UInt8) (wl : List (List UInt8)) (k : Nat) (h1 : k < f.length) (h2 : k < wl.length) :
    M.takes c (f.drop k) (wl.drop k) = (M.takeM c f[k] wl[k]).bind fun c' => M.takes c' (f.drop (k + 1)) (wl.drop (k + 1)) := by
  rw [List.drop_eq_getElem_cons h1, List.drop_eq_getElem_cons h2, M.takes]

theorem two_blocks (w : World) (a b : Obj) (w1 : World) (h : w1 = (w.alloc a).alloc b) :
    w1.heap[w.heap.size]? = some a ∧ w1.heap[w.heap.size + 1]? = some b ∧ Below w.heap.size w w1 ∧ w1.heap.size = w.heap.size + 2 := by
  subst h
  refine ⟨(Below.heap_alloc _ _ _ (by simp)).trans (heap_alloc_new w _), ?_, ((Below.refl _ _).alloc (Nat.le_refl _) _).alloc (by simp) _, by simp⟩
  have := heap_alloc_new (w.alloc a) b
  rw [World.size_alloc] at this
  exact this

set_option maxRecDepth 100000 in
set_option maxHeartbeats 800000 in
theorem parse_noform (s : ByteArray) (hs : s.size ≤ 1000000) (w : World) (he : Env w) (x0 : ByteArray) (ws : List ByteArray)
    (hw : Lib.splitB ⟨#[32]⟩ 0 (Lib.countB s ⟨#[32]⟩) s = x0 :: ws) (hl : ws.length = Lib.countB s ⟨#[32]⟩)
    (hf : M.formOf x0.data.toList = none) (p : Option M.Cmd) (hp : p = none) :
    Calls Tryd.prog 6 #[.string s] w fun e w' => e = .returned (parseV p) ∧ Below w.heap.size w w' := by
  obtain ⟨m, hm⟩ := he.maxLen
  have h10 := he.size
  have hsp := Tryd.strings_Split s ⟨#[32]⟩ m (w.alloc (Obj.cells (cmdCells M.Cmd.none) 23)) (by omega) (by rw [World.cell?_alloc_lt _ _ _ (by show 1 < _; omega)]; exact hm) (by decide)
  rw [hw, ← hl] at hsp
  go_enter Tryd.func6, Tryd.ntmps6
  go_wp2_with fail
  refine hsp.mono ?_
  rintro e w1 ⟨rfl, hw1⟩
  obtain ⟨hlo, hws, hb1, hsz1⟩ := two_blocks w (.cells (cmdCells M.Cmd.none) 23) (.cells (((x0 :: ws).map Value.string).toArray) 9) w1 hw1
  have hx0 : w1.cell? ⟨w.heap.size + 1, 0, none⟩ = some (.string x0) := by rw [Lib.cell_of_heap hws 0]; rfl
  simp only [World.size_alloc]
  have hlt1 : w.heap.size + 1 < w1.heap.size := by omega
  have r0 : w1.cell? ⟨w.heap.size, 0, none⟩ = some (.string ⟨#[]⟩) := by rw [Lib.cell_of_heap hlo]; rfl
  have r1 : w1.cell? ⟨w.heap.size, 1, none⟩ = some (.int .i64 0) := by rw [Lib.cell_of_heap hlo]; rfl
  have r2 : w1.cell? ⟨w.heap.size, 2, none⟩ = some (.int .i64 0) := by rw [Lib.cell_of_heap hlo]; rfl
  have r3 : w1.cell? ⟨w.heap.size, 3, none⟩ = some (.int .i64 0) := by rw [Lib.cell_of_heap hlo]; rfl
  have r4 : w1.cell? ⟨w.heap.size, 4, none⟩ = some (.string ⟨#[]⟩) := by rw [Lib.cell_of_heap hlo]; rfl
  have rf : ∀ j, w1.frozen? ⟨w.heap.size, j, none⟩ = false := Lib.frozen_of_heap hlo
  have hlt0 : w.heap.size < w1.heap.size := by omega
  have HW := Lib.hid hws
  have HL := Lib.hid hlo
  have HS1 := Lib.hid hsz1
  clear hws hlo hsz1 hw1 hsp hw hl hm
  go_wp2_with fail
  have hlk := lookup_forms_none (w1.alloc (.map formsEntries 6)).drew w1.heap.size (heap_alloc_new w1 _) x0 hf
  go_region_with (go_at_call 7; refine (forms_any _).mono ?_; rintro e w2 ⟨rfl, rfl⟩)
  all_goals
    go_wp2_with fail
    refine bodyPost_ret (v := parseV none) (by simp [results, Tryd.results6, go_sem, parseV, cmdCells, M.Cmd.none, r0, r1, r2, r3, r4, hlt0]) rfl ⟨by rw [hp], ?_⟩
    exact ((((((hb1.setCell (Nat.le_refl _) _).setCell (Nat.le_refl _) _).setCell (Nat.le_refl _) _).setCell (Nat.le_refl _) _).setCell (Nat.le_refl _) _).alloc (by simp; omega) _).drew
set_option maxRecDepth 100000 in
set_option maxHeartbeats 800000 in
theorem parse_count (s : ByteArray) (hs : s.size ≤ 1000000) (w : World) (he : Env w) (x0 : ByteArray) (ws : List ByteArray)
    (hw : Lib.splitB ⟨#[32]⟩ 0 (Lib.countB s ⟨#[32]⟩) s = x0 :: ws) (hl : ws.length = Lib.countB s ⟨#[32]⟩)
    (f : List UInt8) (hf : M.formOf x0.data.toList = some f) (hfl : f.length ≤ 3) (hlen : ws.length ≠ f.length) (p : Option M.Cmd) (hp : p = none) :
    Calls Tryd.prog 6 #[.string s] w fun e w' => e = .returned (parseV p) ∧ Below w.heap.size w w' := by
  obtain ⟨m, hm⟩ := he.maxLen
  have h10 := he.size
  have hsp := Tryd.strings_Split s ⟨#[32]⟩ m (w.alloc (Obj.cells (cmdCells M.Cmd.none) 23)) (by omega) (by rw [World.cell?_alloc_lt _ _ _ (by show 1 < _; omega)]; exact hm) (by decide)
  rw [hw, ← hl] at hsp
  go_enter Tryd.func6, Tryd.ntmps6
  go_wp2_with fail
  refine hsp.mono ?_
  rintro e w1 ⟨rfl, hw1⟩
  obtain ⟨hlo, hws, hb1, hsz1⟩ := two_blocks w (.cells (cmdCells M.Cmd.none) 23) (.cells (((x0 :: ws).map Value.string).toArray) 9) w1 hw1
  have hx0 : w1.cell? ⟨w.heap.size + 1, 0, none⟩ = some (.string x0) := by rw [Lib.cell_of_heap hws 0]; rfl
  simp only [World.size_alloc]
  have hlt1 : w.heap.size + 1 < w1.heap.size := by omega
  have r0 : w1.cell? ⟨w.heap.size, 0, none⟩ = some (.string ⟨#[]⟩) := by rw [Lib.cell_of_heap hlo]; rfl
  have r1 : w1.cell? ⟨w.heap.size, 1, none⟩ = some (.int .i64 0) := by rw [Lib.cell_of_heap hlo]; rfl
  have r2 : w1.cell? ⟨w.heap.size, 2, none⟩ = some (.int .i64 0) := by rw [Lib.cell_of_heap hlo]; rfl
  have r3 : w1.cell? ⟨w.heap.size, 3, none⟩ = some (.int .i64 0) := by rw [Lib.cell_of_heap hlo]; rfl
  have r4 : w1.cell? ⟨w.heap.size, 4, none⟩ = some (.string ⟨#[]⟩) := by rw [Lib.cell_of_heap hlo]; rfl
  have rf : ∀ j, w1.frozen? ⟨w.heap.size, j, none⟩ = false := Lib.frozen_of_heap hlo
  have hlt0 : w.heap.size < w1.heap.size := by omega
  have HW := Lib.hid hws
  have HL := Lib.hid hlo
  have HS1 := Lib.hid hsz1
  clear hws hlo hsz1 hw1 hsp hw hl hm
  go_wp2_with fail
  have hlk := lookup_forms_some (w1.alloc (.map formsEntries 6)).drew w1.heap.size (heap_alloc_new w1 _) x0 f hf
  have hne : ((ws.length : Int) + 1 != 1 + (f.length : Int)) = true := by rw [bne_iff_ne]; omega
  clear hlen
  go_region_with (go_at_call 7; refine (forms_any _).mono ?_; rintro e w2 ⟨rfl, rfl⟩)
  all_goals
    go_wp2_with fail
    refine bodyPost_ret (v := parseV none) (by simp [results, Tryd.results6, go_sem, parseV, cmdCells, M.Cmd.none, r0, r1, r2, r3, r4, hlt0]) rfl ⟨by rw [hp], ?_⟩
    exact ((((((hb1.setCell (Nat.le_refl _) _).setCell (Nat.le_refl _) _).setCell (Nat.le_refl _) _).setCell (Nat.le_refl _) _).setCell (Nat.le_refl _) _).alloc (by simp; omega) _).drew
set_option maxRecDepth 100000 in
set_option maxHeartbeats 800000 in
theorem parse_run (s : ByteArray) (hs : s.size ≤ 1000000) (w : World) (he : Env w) (x0 : ByteArray) (ws : List ByteArray)
    (hw : Lib.splitB ⟨#[32]⟩ 0 (Lib.countB s ⟨#[32]⟩) s = x0 :: ws) (hl : ws.length = Lib.countB s ⟨#[32]⟩)
    (f : List UInt8) (hf : M.formOf x0.data.toList = some f) (hfa : ∀ b ∈ f, b.toNat < 128) (hfl : f.length ≤ 3) (hsz : ∀ x ∈ ws, x.size ≤ 1000000)
    (hlen : ws.length = f.length) (p : Option M.Cmd) (hp : M.takes { M.Cmd.none with op := x0.data.toList } f (ws.map (·.data.toList)) = p) :
    Calls Tryd.prog 6 #[.string s] w fun e w' => e = .returned (parseV p) ∧ Below w.heap.size w w' := by
  obtain ⟨m, hm⟩ := he.maxLen
  have h10 := he.size
  have hsp := Tryd.strings_Split s ⟨#[32]⟩ m (w.alloc (Obj.cells (cmdCells M.Cmd.none) 23)) (by omega) (by rw [World.cell?_alloc_lt _ _ _ (by show 1 < _; omega)]; exact hm) (by decide)
  rw [hw, ← hl] at hsp
  go_enter Tryd.func6, Tryd.ntmps6
  go_wp2_with fail
  refine hsp.mono ?_
  rintro e w1 ⟨rfl, hw1⟩
  obtain ⟨hlo, hws, hb1, hsz1⟩ := two_blocks w (.cells (cmdCells M.Cmd.none) 23) (.cells (((x0 :: ws).map Value.string).toArray) 9) w1 hw1
  have hx0 : w1.cell? ⟨w.heap.size + 1, 0, none⟩ = some (.string x0) := by rw [Lib.cell_of_heap hws 0]; rfl
  simp only [World.size_alloc]
  have hlt1 : w.heap.size + 1 < w1.heap.size := by omega
  have r0 : w1.cell? ⟨w.heap.size, 0, none⟩ = some (.string ⟨#[]⟩) := by rw [Lib.cell_of_heap hlo]; rfl
  have r1 : w1.cell? ⟨w.heap.size, 1, none⟩ = some (.int .i64 0) := by rw [Lib.cell_of_heap hlo]; rfl
  have r2 : w1.cell? ⟨w.heap.size, 2, none⟩ = some (.int .i64 0) := by rw [Lib.cell_of_heap hlo]; rfl
  have r3 : w1.cell? ⟨w.heap.size, 3, none⟩ = some (.int .i64 0) := by rw [Lib.cell_of_heap hlo]; rfl
  have r4 : w1.cell? ⟨w.heap.size, 4, none⟩ = some (.string ⟨#[]⟩) := by rw [Lib.cell_of_heap hlo]; rfl
  have rf : ∀ j, w1.frozen? ⟨w.heap.size, j, none⟩ = false := Lib.frozen_of_heap hlo
  have hlt0 : w.heap.size < w1.heap.size := by omega
  have HW := Lib.hid hws
  have HL := Lib.hid hlo
  have HS1 := Lib.hid hsz1
  clear hws hlo hsz1 hw1 hsp hw hl hm
  go_wp2_with fail
  have hlk := lookup_forms_some (w1.alloc (.map formsEntries 6)).drew w1.heap.size (heap_alloc_new w1 _) x0 f hf
  have HP := Lib.hid hp
  have HLen := Lib.hid hlen
  have hne : ((ws.length : Int) + 1 != 1 + (f.length : Int)) = false := by rw [bne_eq_false_iff_eq]; omega
  clear hp hlen
  go_region_with (go_at_call 7; refine (forms_any _).mono ?_; rintro e w2 ⟨rfl, rfl⟩)
  all_goals
    go_wp2_with fail
    go_loopw [8] (fun _ wr => ∃ (k : Nat) (c : M.Cmd), k ≤ f.length ∧ Hid (M.takes c (f.drop k) ((ws.map (·.data.toList)).drop k) = p) ∧ wr.heap[w1.heap.size + 1]? = some (.cells (cmdCells c) 23 (0, 0)) ∧
        wr.heap[w1.heap.size + 1 + 1]? = some (.stringIter ⟨f.toArray⟩ k) ∧ Below w1.heap.size w1 wr) (fun _ wr => f.length - wr.iterPos (w1.heap.size + 1 + 1))
    case atStart =>
      refine ⟨0, _, Nat.zero_le _, HP, ?_, ?_, ?_⟩
      · refine (Below.heap_alloc _ _ _ (by simp)).trans ?_
        have := heap_alloc_new (w1.alloc (.map formsEntries 6)) (.cells (cmdCells { M.Cmd.none with op := x0.data.toList }) 23)
        rw [World.size_alloc] at this
        exact this
      · have := heap_alloc_new ((w1.alloc (.map formsEntries 6)).alloc (.cells (cmdCells { M.Cmd.none with op := x0.data.toList }) 23)) (.stringIter ⟨f.toArray⟩ 0)
        rw [World.size_alloc, World.size_alloc] at this
        exact this
      · exact ((((Below.refl _ _).alloc (Nat.le_refl _) _).alloc (by simp) _).drew).alloc (by simp; omega) _
    case round =>
      obtain ⟨k, c, hk, HT, hcc, hit, hbel⟩ := hrel
      have hszf : (⟨f.toArray⟩ : ByteArray).size = f.length := rfl
      by_cases hlt : k < f.length
      · have hlt' : k < (⟨f.toArray⟩ : ByteArray).size := hlt
        have hasc : ((⟨f.toArray⟩ : ByteArray)[k]'hlt').toNat < 128 := hfa _ (List.getElem_mem hlt)
        have hnx := fun ty => Lib.run_next_ascii_at (P := Tryd.prog) wr (w1.heap.size + 1 + 1) ⟨f.toArray⟩ k ty hit hlt' hasc
        have hit' := Lib.iterAt_heap wr (w1.heap.size + 1 + 1) ⟨f.toArray⟩ k (k + 1) hit
        have hbel' := Lib.below_iterAt hbel (k := w1.heap.size + 1 + 1) (by omega) ⟨f.toArray⟩ (k + 1)
        have hcc' : (wr.iterAt (w1.heap.size + 1 + 1) ⟨f.toArray⟩ (k + 1)).heap[w1.heap.size + 1]? = _ := (Lib.iterAt_other wr (w1.heap.size + 1 + 1) (w1.heap.size + 1) ⟨f.toArray⟩ (k + 1) (by omega)).trans hcc
        have hwsk : k < ws.length := by have := HLen.out; omega
        have P1 := Lib.hid (iterPos_of hit)
        generalize wr.iterAt (w1.heap.size + 1 + 1) ⟨f.toArray⟩ (k + 1) = W at hnx hit' hbel' hcc'
        have hcl : W.cell? ⟨w.heap.size + 1, 1 + k, none⟩ = some (.string ws[k]) := by
          rw [Lib.cell_of_heap (hbel'.block (w.heap.size + 1) hlt1 |>.trans HW.out)]
          rw [Nat.add_comm 1 k]; simp [hwsk]
        clear hszf hcc hit hbel hx0
        have hwk : 0 ≤ 1 + (k : Int) ∧ 1 + (k : Int) < (ws.length : Int) + 1 := by omega
        go_wp2_with fail
        have hC10 : 10 ≤ w1.heap.size + 1 := by omega
        have heW : Env W := (he.below hb1).below (hbel'.mono (Nat.le_refl _))
        refine (take_any (w1.heap.size + 1) c ((⟨f.toArray⟩ : ByteArray)[k]'hlt') ws[k] (hsz _ (List.getElem_mem hwsk)) W heW hC10 hcc' _ rfl).mono ?_
        rintro e w3 ⟨rfl, hg3, hc3⟩
        have hR3 : w3.heap[w.heap.size]? = some (.cells (cmdCells M.Cmd.none) 23 (0, 0)) :=
          (hg3.block w.heap.size (by have := hbel'.size; omega) (fun h => by have := Option.some.inj h; omega)).trans ((hbel'.block w.heap.size hlt0).trans HL.out)
        have hI3 := (hg3.block (w1.heap.size + 1 + 1) (lt_of_block hit') (fun h => by have := Option.some.inj h; omega)).trans hit'
        have hb3 : Below w1.heap.size w1 w3 := hbel'.grown hg3 hbel'.size (fun j h => by cases h; omega)
        have hstep := takes_step c f (ws.map (·.data.toList)) k hlt (by simpa using hwsk)
        have e1 : (ws.map (·.data.toList))[k]'(by simpa using hwsk) = ws[k].data.toList := by simp
        have e2 : ((⟨f.toArray⟩ : ByteArray)[k]'hlt') = f[k] := rfl
        rw [e1] at hstep
        rw [e2] at hc3 ⊢
        cases ht : M.takeM c f[k] ws[k].data.toList with
        | none =>
          rw [ht] at hstep
          have hpn := Lib.hid (show p = none from HT.out.symm.trans (hstep.trans rfl))
          have r0 : w3.cell? ⟨w.heap.size, 0, none⟩ = some (.string ⟨#[]⟩) := by rw [Lib.cell_of_heap hR3]; rfl
          have r1 : w3.cell? ⟨w.heap.size, 1, none⟩ = some (.int .i64 0) := by rw [Lib.cell_of_heap hR3]; rfl
          have r2 : w3.cell? ⟨w.heap.size, 2, none⟩ = some (.int .i64 0) := by rw [Lib.cell_of_heap hR3]; rfl
          have r3 : w3.cell? ⟨w.heap.size, 3, none⟩ = some (.int .i64 0) := by rw [Lib.cell_of_heap hR3]; rfl
          have r4 : w3.cell? ⟨w.heap.size, 4, none⟩ = some (.string ⟨#[]⟩) := by rw [Lib.cell_of_heap hR3]; rfl
          have rf : ∀ j, w3.frozen? ⟨w.heap.size, j, none⟩ = false := Lib.frozen_of_heap hR3
          have hB := hb1.trans (hb3.mono (by omega))
          clear hstep ht hc3 hI3 hg3 hR3 e1 e2 hnx hit' hbel' hcl hcc'
          simp only [Option.isSome_none]
          go_wp2_with fail
          refine bodyPost_ret (v := parseV none) (by simp [results, Tryd.results6, go_sem, parseV, cmdCells, M.Cmd.none, r0, r1, r2, r3, r4]) rfl ⟨by rw [hpn.out], ?_⟩
          exact (((((hB.setCell (Nat.le_refl _) _).setCell (Nat.le_refl _) _).setCell (Nat.le_refl _) _).setCell (Nat.le_refl _) _).setCell (Nat.le_refl _) _)
        | some c' =>
          rw [ht] at hstep
          have HT' := Lib.hid (show M.takes c' (f.drop (k + 1)) ((ws.map (·.data.toList)).drop (k + 1)) = p from (hstep.symm.trans HT.out))
          have HC3 := Lib.hid (hc3 c' ht)
          have HI3 := Lib.hid hI3
          clear hstep ht hc3 hI3 hg3 hR3 e1 e2 hnx hit' hbel' hcl hcc'
          simp only [Option.isSome_some]
          go_wp2_with fail
          go_roundw
          case rel => exact ⟨k + 1, c', by omega, HT', HC3.out, HI3.out, hb3⟩
          case measure =>
            show f.length - World.iterPos _ _ < f.length - World.iterPos _ _
            rw [P1.out, iterPos_of HI3.out]
            omega
      · obtain rfl : k = f.length := by omega
        have hnx := fun ty => Lib.run_next_end_at (P := Tryd.prog) wr (w1.heap.size + 1 + 1) ⟨f.toArray⟩ f.length ty hit (by show ¬ f.length < f.length; omega)
        have hdone : p = some c := by
          have := HT.out
          rw [List.drop_length] at this
          exact this.symm
        have HD := Lib.hid hdone
        have hR3 : wr.heap[w.heap.size]? = some (.cells (cmdCells M.Cmd.none) 23 (0, 0)) := (hbel.block w.heap.size hlt0).trans HL.out
        have r0 : wr.cell? ⟨w.heap.size, 0, none⟩ = some (.string ⟨#[]⟩) := by rw [Lib.cell_of_heap hR3]; rfl
        have r1 : wr.cell? ⟨w.heap.size, 1, none⟩ = some (.int .i64 0) := by rw [Lib.cell_of_heap hR3]; rfl
        have r2 : wr.cell? ⟨w.heap.size, 2, none⟩ = some (.int .i64 0) := by rw [Lib.cell_of_heap hR3]; rfl
        have r3 : wr.cell? ⟨w.heap.size, 3, none⟩ = some (.int .i64 0) := by rw [Lib.cell_of_heap hR3]; rfl
        have r4 : wr.cell? ⟨w.heap.size, 4, none⟩ = some (.string ⟨#[]⟩) := by rw [Lib.cell_of_heap hR3]; rfl
        have rf : ∀ j, wr.frozen? ⟨w.heap.size, j, none⟩ = false := Lib.frozen_of_heap hR3
        have c0 : wr.cell? ⟨w1.heap.size + 1, 0, none⟩ = some (bs c.op) := by rw [Lib.cell_of_heap hcc]; rfl
        have c1 : wr.cell? ⟨w1.heap.size + 1, 1, none⟩ = some (.int .i64 c.id) := by rw [Lib.cell_of_heap hcc]; rfl
        have c2 : wr.cell? ⟨w1.heap.size + 1, 2, none⟩ = some (.int .i64 c.at_) := by rw [Lib.cell_of_heap hcc]; rfl
        have c3 : wr.cell? ⟨w1.heap.size + 1, 3, none⟩ = some (.int .i64 c.n) := by rw [Lib.cell_of_heap hcc]; rfl
        have c4 : wr.cell? ⟨w1.heap.size + 1, 4, none⟩ = some (bs c.data) := by rw [Lib.cell_of_heap hcc]; rfl
        have hB := hb1.trans (hbel.mono (by omega))
        clear hdone hR3 hcc hit hbel HT hx0
        go_wp2_with fail
        refine bodyPost_ret (v := parseV (some c)) (by simp [results, Tryd.results6, go_sem, parseV, cmdCells, r0, r1, r2, r3, r4]) rfl ⟨by rw [HD.out], ?_⟩
        exact (((((hB.setCell (Nat.le_refl _) _).setCell (Nat.le_refl _) _).setCell (Nat.le_refl _) _).setCell (Nat.le_refl _) _).setCell (Nat.le_refl _) _)

theorem mem_jn : ∀ (xs : List (List UInt8)) (x : List UInt8), x ∈ xs → x.length ≤ (M.jn xs).length
  | [a], x, h => by simp at h; subst h; simp [M.jn]
  | a :: b :: t, x, h => by
    have ih := mem_jn (b :: t) x
    rcases List.mem_cons.1 h with h | h
    · subst h; simp [M.jn]
    · have := ih h; simp [M.jn]; omega

theorem formOf_facts {op f : List UInt8} (h : M.formOf op = some f) : (∀ b ∈ f, b.toNat < 128) ∧ f.length ≤ 3 := by
  unfold M.formOf at h
  repeat' split at h
  all_goals first
    | (cases h; done)
    | (cases h; exact ⟨by decide, by decide⟩)

theorem parse_any (s : ByteArray) (hs : s.size ≤ 1000000) (w : World) (he : Env w) :
    Calls Tryd.prog 6 #[.string s] w fun e w' => e = .returned (parseV (M.parseM s.data.toList)) ∧ Below w.heap.size w w' := by
  have hmap : (Lib.splitB ⟨#[32]⟩ 0 (Lib.countB s ⟨#[32]⟩) s).map (·.data.toList) = M.spl s.data.toList := by
    rw [Lib.splitB_data, ← M.splitK_spl]
  have hlen0 := Lib.splitB_all ⟨#[32]⟩ (by decide) 0 _ s rfl
  cases hw : Lib.splitB ⟨#[32]⟩ 0 (Lib.countB s ⟨#[32]⟩) s with
  | nil => rw [hw] at hlen0; simp at hlen0
  | cons x0 ws =>
    rw [hw] at hmap hlen0
    have hl : ws.length = Lib.countB s ⟨#[32]⟩ := by simpa using hlen0
    have hsz : ∀ x ∈ ws, x.size ≤ 1000000 := fun x hx => by
      have h1 := mem_jn (M.spl s.data.toList) x.data.toList (by rw [← hmap]; exact List.mem_map_of_mem (List.mem_cons_of_mem _ hx))
      rw [M.jn_spl] at h1
      simp at h1
      exact Nat.le_trans h1 hs
    have hmap' : M.spl s.data.toList = x0.data.toList :: ws.map (·.data.toList) := hmap.symm
    cases hf : M.formOf x0.data.toList with
    | none => exact parse_noform s hs w he x0 ws hw hl hf _ (by unfold M.parseM; rw [hmap']; simp [hf])
    | some f =>
      obtain ⟨hfa, hfl⟩ := formOf_facts hf
      by_cases hlen : ws.length = f.length
      · exact parse_run s hs w he x0 ws hw hl f hf hfa hfl hsz hlen _ (by unfold M.parseM; rw [hmap']; simp [hf, hlen, Nat.add_comm])
      · exact parse_count s hs w he x0 ws hw hl f hf hfl hlen _ (by unfold M.parseM; rw [hmap']; simp [hf]; intro h; omega)

end Go.Proofs.YtdeobbpmdfjfiaaDoor
