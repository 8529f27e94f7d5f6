/-
  CommandBack: hex.
-/
import Derived.Test.YtdeobbpmdfjfiaaDoorBase
namespace Go.Proofs.YtdeobbpmdfjfiaaDoor
open Go.RowKit

theorem take_succ_bytes (s : ByteArray) (k : Nat) (h : k < s.size) : s.data.toList.take (k + 1) = s.data.toList.take k ++ [s[k]'h] := by
  rw [List.take_succ_eq_append_getElem (by simpa using h)]; rfl

theorem hex_step (s : ByteArray) (k : Nat) (h : k < s.size) : Lib.byteCells (M.hexL (s.data.toList.take (k + 1))) =
    Lib.byteCells (M.hexL (s.data.toList.take k)) ++
      ([.int .u8 (({ data := #[48, 49, 50, 51, 52, 53, 54, 55, 56, 57, 97, 98, 99, 100, 101, 102] } : ByteArray)[(s[k]'h).toNat / 16]'(by have := (s[k]'h).toNat_lt; show _ < 16; omega)).toNat] ++
       [.int .u8 (({ data := #[48, 49, 50, 51, 52, 53, 54, 55, 56, 57, 97, 98, 99, 100, 101, 102] } : ByteArray)[(s[k]'h).toNat % 16]'(by show _ < 16; omega)).toNat]) := by
  rw [take_succ_bytes s k h, M.hexL_append]
  rw [M.figs_get _ (by have := (s[k]'h).toNat_lt; omega), M.figs_get _ (by omega)]
  simp [Lib.byteCells, M.hexL]

set_option maxRecDepth 100000 in
set_option maxHeartbeats 400000 in
theorem hex_some (s : ByteArray) (w : World) (hs : s.size ≤ 1000000) (h0 : s.toList.isEmpty = false) :
    Calls Tryd.prog 8 #[.string s] w fun e w' => e = .returned (bs (M.hexL s.data.toList)) ∧ Below w.heap.size w w' := by
  go_enter Tryd.func8, Tryd.ntmps8
  go_wp2_with fail
  go_loopw [9] (fun i wr => ∃ k : Nat, k ≤ s.size ∧ i = .int .i64 k ∧ Lib.IsBuilder 46 5 w.heap.size w.heap.size (Lib.byteCells (M.hexL (s.data.toList.take k))) wr ∧ Below w.heap.size w wr) (fun i _ => s.size - (intOf i).toNat)
  case atStart => exact ⟨0, Nat.zero_le _, rfl, Lib.fresh_isBuilder 46 5 w, (Below.refl _ _).alloc (Nat.le_refl _) _⟩
  case round =>
    obtain ⟨k, hk, rfl, hbu, hbel⟩ := hrel
    by_cases hlt : k < s.size
    · have hb : ((s[k]'hlt).toNat : Int) < 256 := by have := (s[k]'hlt).toNat_lt; omega
      have hb1 : 0 ≤ ((s[k]'hlt).toNat : Int) / 16 ∧ ((s[k]'hlt).toNat : Int) / 16 < 16 := by omega
      have hb1' : 0 ≤ ((s[k]'hlt).toNat : Int) % 16 ∧ ((s[k]'hlt).toNat : Int) % 16 < 16 := by omega
      have hl1 : (Lib.byteCells (M.hexL (s.data.toList.take k))).length ≤ 2000000 := by
        rw [Lib.byteCells_length, M.hexL_length]; have := List.length_take_le k s.data.toList; omega
      go_wp2_with fail
      refine (Tryd.Builder_WriteByte _ _ _ _ _ hbu (by omega) hbel.size).mono ?_
      rintro e w1 ⟨rfl, hb2, hbel2⟩
      go_wp2_with fail
      refine (Tryd.Builder_WriteByte _ _ _ _ _ (Or.inr hb2) (by simp; omega) (by have := hbel.size; have := hbel2.size; omega)).mono ?_
      rintro e w2 ⟨rfl, hb3, hbel3⟩
      have hstep := hex_step s k hlt
      rw [List.append_assoc, ← hstep] at hb3
      clear hstep hb2 hbu hl1
      go_wp2_with fail
      go_roundw
      case rel => exact ⟨k + 1, by omega, by go_num, Or.inr hb3, (hbel.trans hbel2).trans hbel3⟩
      case measure => simp [intOf]; omega
    · have hk' : k = s.size := by omega
      subst hk'
      have e1 : s.data.toList.take s.size = s.data.toList := List.take_of_length_le (by simp)
      rw [e1] at hbu
      go_wp2_with fail
      refine (Tryd.Builder_String_any _ _ _ _ hbu hbel.size).mono ?_
      rintro e w1 ⟨rfl, hbel2⟩
      go_wp2_with fail
      go_ret
      exact ⟨rfl, hbel.trans hbel2⟩
theorem hex_any (s : ByteArray) (w : World) (hs : s.size ≤ 1000000) :
    Calls Tryd.prog 8 #[.string s] w fun e w' => e = .returned (bs (M.hexM s.data.toList)) ∧ Below w.heap.size w w' := by
  cases h0 : s.toList.isEmpty with
  | false =>
    have : s.data.toList ≠ [] := by rw [Lib.toList_data] at h0; intro e; rw [e] at h0; cases h0
    unfold M.hexM
    rw [if_neg this]
    exact hex_some s w hs h0
  | true =>
    have : s.data.toList = [] := by rw [Lib.toList_data] at h0; simpa using h0
    unfold M.hexM
    rw [if_pos this]
    go_enter Tryd.func8, Tryd.ntmps8
    go_wp2_with fail
    go_ret
    exact ⟨rfl, Below.refl _ _⟩

end Go.Proofs.YtdeobbpmdfjfiaaDoor
