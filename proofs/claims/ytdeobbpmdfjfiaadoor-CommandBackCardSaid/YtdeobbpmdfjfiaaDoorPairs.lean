/-
  CommandBack: the bytes of pairs of figures, place by place (plain).
-/
import Derived.Test.YtdeobbpmdfjfiaaDoorPlain
import Derived.Lib.IndexLaws
import Derived.Laws.OwnMore
namespace Go.Proofs.YtdeobbpmdfjfiaaDoor.M

def vl (b : UInt8) : Nat := (figVal b).getD 0

theorem vl_lt (b : UInt8) : vl b < 16 := by
  unfold vl
  cases h : figVal b with
  | none => simp
  | some x => simpa using (fig_val h).1

/-- What stands at place j behind the figures p. -/
def pv (p : List UInt8) (j : Nat) : Nat :=
  match p[2 * j]? with
  | none => 0
  | some a => match p[2 * j + 1]? with
    | none => vl a
    | some b => 16 * vl a + vl b

theorem pv_nil (j : Nat) : pv [] j = 0 := by simp [pv]

theorem pv_lt (p : List UInt8) (j : Nat) : pv p j < 256 := by
  unfold pv
  split
  · omega
  · rename_i a _
    have := vl_lt a
    split
    · omega
    · rename_i b _
      have := vl_lt b
      omega

theorem pv_here (p : List UInt8) : pv p (p.length / 2) < 16 := by
  unfold pv
  split
  · omega
  · rename_i a _
    have := vl_lt a
    rw [List.getElem?_eq_none (by omega)]
    exact this

theorem pv_same (p : List UInt8) (c : UInt8) : pv (p ++ [c]) (p.length / 2) = 16 * pv p (p.length / 2) + vl c := by
  rcases Nat.mod_two_eq_zero_or_one p.length with h | h
  · have e : 2 * (p.length / 2) = p.length := by omega
    unfold pv
    rw [e, List.getElem?_eq_none (l := p) (i := p.length) (by omega)]
    simp
  · have e : 2 * (p.length / 2) + 1 = p.length := by omega
    have hlt : 2 * (p.length / 2) < p.length := by omega
    unfold pv
    rw [e, List.getElem?_append_left hlt, List.getElem?_eq_getElem hlt, List.getElem?_eq_none (l := p) (i := p.length) (by omega)]
    simp

theorem pv_other (p : List UInt8) (c : UInt8) (j : Nat) (h : j ≠ p.length / 2) : pv (p ++ [c]) j = pv p j := by
  unfold pv
  rcases Nat.lt_or_ge (2 * j + 1) p.length with h1 | h1
  · rw [List.getElem?_append_left (by omega), List.getElem?_append_left h1]
  · have h2 : p.length + 1 ≤ 2 * j := by omega
    rw [List.getElem?_eq_none (l := p ++ [c]) (by simp; omega), List.getElem?_eq_none (l := p) (by omega)]

theorem unhexL_pv : ∀ (l : List UInt8), l.length % 2 = 0 → (∀ b ∈ l, figVal b ≠ none) →
    unhexL l = some ((List.range (l.length / 2)).map fun j => UInt8.ofNat (pv l j))
  | [], _, _ => rfl
  | [_], h, _ => by simp at h
  | a :: b :: l, h, hf => by
    have ih := unhexL_pv l (by simp at h; omega) (fun x hx => hf x (by simp [hx]))
    have ha : figVal a = some (vl a) := by
      unfold vl; cases e : figVal a with
      | none => exact absurd e (hf a (by simp))
      | some x => rfl
    have hb : figVal b = some (vl b) := by
      unfold vl; cases e : figVal b with
      | none => exact absurd e (hf b (by simp))
      | some x => rfl
    rw [unhexL, ha, hb, ih]
    have hl : (a :: b :: l).length / 2 = l.length / 2 + 1 := by simp; omega
    rw [hl, List.range_succ_eq_map, List.map_cons, List.map_map]
    have h0 : pv (a :: b :: l) 0 = 16 * vl a + vl b := by simp [pv]
    have hs : ∀ j, pv (a :: b :: l) (j + 1) = pv l j := fun j => by
      unfold pv
      rw [show 2 * (j + 1) = 2 * j + 1 + 1 by omega]
      simp
    rw [h0]
    simp [hs, Function.comp_def]

theorem unhexL_none : ∀ (l : List UInt8), (∃ b ∈ l, figVal b = none) → unhexL l = none
  | [], h => by simp at h
  | [_], _ => rfl
  | a :: b :: l, h => by
    rw [unhexL]
    cases ha : figVal a with
    | none => simp
    | some x =>
      cases hb : figVal b with
      | none => simp
      | some y =>
        have : ∃ c ∈ l, figVal c = none := by
          obtain ⟨c, hc, e⟩ := h
          simp at hc
          rcases hc with rfl | rfl | hc
          · rw [ha] at e; cases e
          · rw [hb] at e; cases e
          · exact ⟨c, hc, e⟩
        rw [unhexL_none l this]

set_option maxRecDepth 100000 in
theorem index_fig (c : UInt8) : Lib.indexByte figs c = match figVal c with | some v => (v : Int) | none => -1 := by
  have : ∀ n : Fin 256, Lib.indexByte figs (UInt8.ofNat n.1) = match figVal (UInt8.ofNat n.1) with | some v => (v : Int) | none => -1 := by decide
  have h := this ⟨c.toNat, c.toNat_lt⟩
  simpa using h

/-- The cells behind the figures p. -/
def cellsAt (p : List UInt8) (n : Nat) : Array Value := ((List.range n).map fun j => Value.int .u8 (pv p j : Nat)).toArray

theorem cellsAt_nil (n : Nat) : madeCells #[.int .u8 0] n = cellsAt [] n := by
  apply Array.ext'
  rw [toList_madeCells_one]
  simp only [cellsAt, pv_nil]
  exact (List.map_const' (l := List.range n) (b := Value.int .u8 ((0 : Nat) : Int))).symm ▸ (by simp)
end Go.Proofs.YtdeobbpmdfjfiaaDoor.M
