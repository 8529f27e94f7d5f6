/-
  CommandBack: the bytes of figures.
-/
import Derived.Test.YtdeobbpmdfjfiaaDoorIdx
import Derived.Test.YtdeobbpmdfjfiaaDoorHex
import Derived.Test.YtdeobbpmdfjfiaaDoorPairs
import Derived.Laws.RangeAny
import Derived.Laws.BytesArg
namespace Go.Proofs.YtdeobbpmdfjfiaaDoor
open Go.RowKit
set_option linter.unusedVariables false

theorem Tryd.info5' : (Tryd.prog.info? 5).map (fun i => (i.zero, i.size, i.bytes)) = some (some (.int .u8 0), 1, 1) := by kernel_rfl

theorem cellsAt_get (p : List UInt8) (n j : Nat) (h : j < n) : (M.cellsAt p n)[j]? = some (.int .u8 (M.pv p j : Nat)) := by
  simp [M.cellsAt, h]

theorem or_nibbles (x v : Nat) (hx : x < 16) (hv : v < 16) : bits BinOp.or IntKind.u8 ((x : Int) * 16) (v : Int) = ((16 * x + v : Nat) : Int) := by
  have : ∀ x v : Fin 16, bits BinOp.or IntKind.u8 ((x.1 : Int) * 16) (v.1 : Int) = ((16 * x.1 + v.1 : Nat) : Int) := by decide
  exact this ⟨x, hx⟩ ⟨v, hv⟩

theorem cellsAt_step (p : List UInt8) (c : UInt8) (n : Nat) :
    (M.cellsAt p n).setIfInBounds (p.length / 2) (.int .u8 ((16 * M.pv p (p.length / 2) + M.vl c : Nat) : Int)) = M.cellsAt (p ++ [c]) n := by
  apply Array.ext_getElem?
  intro j
  rw [Array.getElem?_setIfInBounds]
  rcases Nat.lt_or_ge j n with hj | hj
  · split
    · rename_i e
      rw [if_pos (by simp [M.cellsAt]; omega), ← e, cellsAt_get _ _ _ (by omega), M.pv_same]
    · rename_i e
      rw [cellsAt_get _ _ _ hj, cellsAt_get _ _ _ hj, M.pv_other _ _ _ (fun h => e h.symm)]
  · have h1 : ∀ q, (M.cellsAt q n)[j]? = none := fun q => by simp [M.cellsAt]; omega
    rw [h1, h1]
    split
    · rw [if_neg (by simp [M.cellsAt]; omega)]
    · rfl

/-- What 'bytes' returns, of the bytes of figures or none. -/
def bytesV : Option (List UInt8) → Value
  | some r => .tuple #[bs r, .bool true]
  | none => .tuple #[bs [], .bool false]

theorem idx_ascii (b : UInt8) (h : b.toNat < 128) (z : Int) (hz : (match M.figVal b with | some v => (v : Int) | none => -1) = z) (w : World) :
    Calls Tryd.prog 28 #[.string ⟨#[48, 49, 50, 51, 52, 53, 54, 55, 56, 57, 97, 98, 99, 100, 101, 102]⟩, .int .i32 b.toNat] w fun e w' => e = .returned (.int .i64 z) ∧ w' = w :=
  (Tryd.strings_IndexRune_ascii _ _ w (by omega) (by omega)).mono fun e w' ⟨he, hw⟩ => ⟨by
    have e1 : ((b.toNat : Int)).toNat.toUInt8 = b := by simp
    have e2 := M.index_fig b
    rw [he, ← hz, e1]
    exact congrArg (fun q : Int => Ending.returned (Value.int .i64 q)) e2, hw⟩

set_option maxRecDepth 100000 in
set_option maxHeartbeats 800000 in
theorem bytes_loop (s : ByteArray) (w : World) (n : Nat) (hs : s.size = 2 * n) (hn : 1 ≤ n) (hn2 : n ≤ 1000000) (h45 : (s.toList == [45]) = false) (h0 : s.toList.isEmpty = false) :
    Calls Tryd.prog 20 #[.string s] w fun e w' => (e = .returned (bytesV (M.unhexL s.data.toList))) ∧ Below w.heap.size w w' := by
  obtain ⟨i0, hi, hz0, hz1, hz2⟩ := info_parts Tryd.info5'
  have hsz : (s.size : Int) / 2 = n := by omega
  have hmk : ∀ W : World, (Instr.makeSlice 44 (.int .i64 ((s.size : Int) / 2)) (.int .i64 ((s.size : Int) / 2))).run Tryd.prog W = .ok (.slice (some ⟨W.heap.size, 0, none⟩) n n) (W.alloc (.cells (M.cellsAt [] n) 5)) := by
    intro W
    rw [hsz]
    have h := run_make (P := Tryd.prog) W 44 5 i0 (.int .u8 0) Tryd.underlying44 hi hz0 .i64 .i64 n n (by omega) (by omega) (by rw [hz2]; omega) (by omega)
    rw [h, hz1]
    have e : Value.cells (.int .u8 0) = #[.int .u8 0] := rfl
    simp only [Int.toNat_natCast, Nat.mul_one, e, M.cellsAt_nil]
  clear hsz
  have hmod : ((s.size : Int) % 2 != 0) = false := by rw [bne_eq_false_iff_eq]; omega
  have HS := Lib.hid hs
  have hle : s.size ≤ 2000000 := by omega
  clear hs
  go_enter Tryd.func20, Tryd.ntmps20
  go_wp2_with fail
  go_loopw [5] (fun _ wr => ∃ k : Nat, k ≤ s.size ∧ (∀ b ∈ s.data.toList.take k, M.figVal b ≠ none) ∧ wr.heap[w.heap.size]? = some (.cells (M.cellsAt (s.data.toList.take k) n) 5 (0, 0)) ∧
      wr.heap[w.heap.size + 1]? = some (.stringIter s k) ∧ Below w.heap.size w wr) (fun _ wr => s.size - wr.iterPos (w.heap.size + 1))
  case atStart =>
    refine ⟨0, Nat.zero_le _, by simp, ?_, ?_, ?_⟩
    · exact (Below.heap_alloc (w.alloc _) _ _ (by simp)).trans (heap_alloc_new w _)
    · have h := heap_alloc_new (w.alloc (.cells (M.cellsAt [] n) 5)) (.stringIter s 0)
      rw [World.size_alloc] at h
      exact h
    · exact ((Below.refl _ _).alloc (Nat.le_refl _) _).alloc (by simp) _
  case round =>
    obtain ⟨k, hk, hfig, hcells, hit, hbel⟩ := hrel
    have hlen : (s.data.toList.take k).length = k := by simp; omega
    by_cases hlt : k < s.size
    · by_cases ha : (s[k]'hlt).toNat < 128
      · have hnx := fun ty => Lib.run_next_ascii_at (P := Tryd.prog) wr (w.heap.size + 1) s k ty hit hlt ha
        have hit' := Lib.iterAt_heap wr (w.heap.size + 1) s k (k + 1) hit
        have hbel' := Lib.below_iterAt hbel (Nat.le_succ w.heap.size) s (k + 1)
        have hcells' : (wr.iterAt (w.heap.size + 1) s (k + 1)).heap[w.heap.size]? = _ := (Lib.iterAt_other wr (w.heap.size + 1) w.heap.size s (k + 1) (by omega)).trans hcells
        generalize hW : wr.iterAt (w.heap.size + 1) s (k + 1) = W at hnx hit' hbel' hcells'
        have hix := M.index_fig (s[k]'hlt)
        cases hv : M.figVal (s[k]'hlt) with
        | none =>
          have hfin : M.unhexL s.data.toList = none := M.unhexL_none _ ⟨s[k]'hlt, Array.getElem_mem_toList _, hv⟩
          have HF := Lib.hid hfin
          clear hfin hfig hcells hcells' hit hit' hix
          go_wp2_with fail
          refine (idx_ascii _ ha (-1) (by rw [hv]) _).mono ?_
          rintro e w1 ⟨rfl, rfl⟩
          go_wp2_with fail
          go_ret2
          exact ⟨by rw [HF.out]; rfl, hbel'⟩
        | some v =>
          have hv16 : v < 16 := (M.fig_val hv).1
          have hvl : M.vl (s[k]'hlt) = v := by unfold M.vl; rw [hv]; rfl
          have hkn : 0 ≤ (k : Int) / 2 ∧ (k : Int) / 2 < (n : Int) := by have := HS.out; omega
          have hcell : W.cell? ⟨w.heap.size, k / 2, none⟩ = some (.int .u8 (M.pv (s.data.toList.take k) (k / 2) : Nat)) := by
            rw [Lib.cell_of_heap hcells' (k / 2)]; exact cellsAt_get _ _ _ (by omega)
          have hfree : W.frozen? ⟨w.heap.size, k / 2, none⟩ = false := Lib.frozen_of_heap hcells' (k / 2)
          have hx16 : M.pv (s.data.toList.take k) (k / 2) < 16 := by have := M.pv_here (s.data.toList.take k); rw [hlen] at this; exact this
          generalize hx : M.pv (s.data.toList.take k) (k / 2) = x at hcell hx16
          have HX := Lib.hid hx
          have HFG := Lib.hid hfig
          have P1 := Lib.hid (iterPos_of hit)
          have HC := Lib.hid hcells'
          have HI := Lib.hid hit'
          have HV := Lib.hid hv
          have HVL := Lib.hid hvl
          clear hx hcells' hit' hcells hit hv hvl hix hfig hW
          go_wp2_with fail
          refine (idx_ascii _ ha v (by rw [HV.out]) _).mono ?_
          rintro e w1 ⟨rfl, rfl⟩
          go_wp2_with fail
          go_roundw
          case rel =>
            refine ⟨k + 1, by omega, ?_, ?_, ?_, ?_⟩
            · rw [take_succ_bytes s k hlt]
              intro b hb
              rcases List.mem_append.1 hb with hb | hb
              · exact HFG.out b hb
              · simp at hb; rw [hb, HV.out]; simp
            · have h := heap_setCell_same w1 w.heap.size (k / 2) _ 5 (Value.int IntKind.u8 (bits BinOp.or IntKind.u8 (↑x * 16) ↑v)) HC.out
              rw [h, or_nibbles x v hx16 hv16, take_succ_bytes s k hlt, ← cellsAt_step, hlen, HX.out, HVL.out]
            · rw [Below.heap_setCell _ _ _ _ (by show w.heap.size + 1 ≠ w.heap.size; omega)]; exact HI.out
            · exact hbel'.setCell (Nat.le_refl _) _
          case measure =>
            show s.size - World.iterPos _ _ < s.size - World.iterPos _ _
            rw [P1.out, iterPos_of (by rw [Below.heap_setCell _ _ _ _ (by show w.heap.size + 1 ≠ w.heap.size; omega)]; exact HI.out)]
            omega
      · have hb128 : 128 ≤ (s[k]'hlt).toNat := by omega
        obtain ⟨hd1, hd2⟩ := decode_high s k hlt hb128
        have hd3 := decode_le s k
        have hvn : M.figVal (s[k]'hlt) = none := by
          unfold M.figVal
          rw [if_neg (fun h => by have := UInt8.le_iff_toNat_le.1 h.2; simp at this; omega), if_neg (fun h => by have := UInt8.le_iff_toNat_le.1 h.2; simp at this; omega)]
        have HF := Lib.hid (M.unhexL_none s.data.toList ⟨s[k]'hlt, Array.getElem_mem_toList _, hvn⟩)
        have hnx := fun ty => Lib.run_next_any_at (P := Tryd.prog) wr (w.heap.size + 1) s k ty hit hlt
        have hbel' := Lib.below_iterAt hbel (Nat.le_succ w.heap.size) s (k + (Utf8.decode s k).2)
        generalize wr.iterAt (w.heap.size + 1) s (k + (Utf8.decode s k).2) = W at hnx hbel'
        generalize (Utf8.decode s k).1 = r at hnx hd1 hd3
        clear hvn hfig hcells hit hd2 hb128
        go_wp2_with fail
        refine (idx_high _ (by omega) (by omega) _).mono ?_
        rintro e w1 ⟨rfl, hb1⟩
        go_wp2_with fail
        go_ret2
        exact ⟨by rw [HF.out]; rfl, hbel'.trans (hb1.mono (by have := hbel'.size; omega))⟩
    · obtain rfl : k = s.size := by omega
      have e1 : s.data.toList.take s.size = s.data.toList := List.take_of_length_le (by simp)
      rw [e1] at hfig hcells
      have hnx := fun ty => Lib.run_next_end_at (P := Tryd.prog) wr (w.heap.size + 1) s s.size ty hit hlt
      have hl2 : s.data.toList.length = 2 * n := by have := HS.out; simp; omega
      have HF := Lib.hid (M.unhexL_pv s.data.toList (by omega) hfig)
      have hcv := run_convert_bytes_arg (P := Tryd.prog) wr 44 5 Tryd.underlying44 Tryd.underlying5 w.heap.size 0 n n ((List.range n).map fun j => ((M.pv s.data.toList j : Nat) : Int)) (by simp)
        (fun i hi => by rw [Nat.zero_add, Lib.cell_of_heap hcells i, cellsAt_get _ _ _ hi]; simp [hi]) 9 Tryd.underlying9
      have hst : strOfNums ((List.range n).map fun j => ((M.pv s.data.toList j : Nat) : Int)) = ⟨((List.range n).map fun j => UInt8.ofNat (M.pv s.data.toList j)).toArray⟩ := by
        simp [strOfNums, Function.comp_def]
      rw [hst] at hcv
      clear hst hfig hcells e1
      generalize hr : (List.range n).map (fun j => UInt8.ofNat (M.pv s.data.toList j)) = r at hcv
      have HR := Lib.hid hr
      clear hr
      go_wp2_with fail
      go_ret2
      exact ⟨by rw [HF.out, show s.data.toList.length / 2 = n by omega, HR.out]; rfl, hbel⟩

theorem bytes_any (s : ByteArray) (w : World) (hs : s.size ≤ 1000000) :
    Calls Tryd.prog 20 #[.string s] w fun e w' => e = .returned (bytesV (M.bytesM s.data.toList)) ∧ Below w.heap.size w w' := by
  have hsz : s.data.toList.length = s.size := by simp
  cases h45 : (s.toList == [45]) with
  | true =>
    have e : s.data.toList = [45] := by rw [Lib.toList_data] at h45; simpa using h45
    have HF := Lib.hid (show M.bytesM s.data.toList = some [] by unfold M.bytesM; rw [if_pos e])
    clear e hsz
    go_enter Tryd.func20, Tryd.ntmps20
    go_wp2_with fail
    go_ret2
    exact ⟨by rw [HF.out]; rfl, Below.refl _ _⟩
  | false =>
    have e : s.data.toList ≠ [45] := by rw [Lib.toList_data] at h45; simpa using h45
    cases h0 : s.toList.isEmpty with
    | true =>
      have e0 : s.data.toList = [] := by rw [Lib.toList_data] at h0; simpa using h0
      have HF := Lib.hid (show M.bytesM s.data.toList = none by unfold M.bytesM; rw [if_neg e, if_pos (Or.inl e0)])
      clear e e0 hsz
      go_enter Tryd.func20, Tryd.ntmps20
      go_wp2_with fail
      go_ret2
      exact ⟨by rw [HF.out]; rfl, Below.refl _ _⟩
    | false =>
      have e0 : s.data.toList ≠ [] := by rw [Lib.toList_data] at h0; intro h; rw [h] at h0; cases h0
      by_cases hm : s.size % 2 = 0
      · obtain ⟨n, hn⟩ : ∃ n, s.size = 2 * n := ⟨s.size / 2, by omega⟩
        have hn1 : 1 ≤ n := by
          rcases Nat.eq_zero_or_pos n with h | h
          · exact absurd (List.length_eq_zero_iff.1 (by omega)) e0
          · exact h
        have hM : M.bytesM s.data.toList = M.unhexL s.data.toList := by unfold M.bytesM; rw [if_neg e, if_neg (fun h => h.elim e0 (fun h => h (by omega)))]
        rw [hM]
        exact bytes_loop s w n hn hn1 (by omega) h45 h0
      · have HF := Lib.hid (show M.bytesM s.data.toList = none by unfold M.bytesM; rw [if_neg e, if_pos (Or.inr (by omega))])
        have hmod : ((s.size : Int) % 2 != 0) = true := by rw [bne_iff_ne]; omega
        clear e e0 hsz hm
        go_enter Tryd.func20, Tryd.ntmps20
        go_wp2_with fail
        go_ret2
        exact ⟨by rw [HF.out]; rfl, Below.refl _ _⟩

end Go.Proofs.YtdeobbpmdfjfiaaDoor
