/-
  Plain law of CommandBack: commands as texts, as functions over lists of bytes; there and back. No program in sight.
-/
import Derived.Lib.SplitLaws
import Derived.Lib.Join
import Derived.Lib.AtoiAll
import Derived.Lib.ItoaNum
namespace Go.Proofs.YtdeobbpmdfjfiaaDoor.M

/-- Cut at every blank. -/
def spl : List UInt8 → List (List UInt8)
  | [] => [[]]
  | b :: l => if b = 32 then [] :: spl l else match spl l with
    | h :: t => (b :: h) :: t
    | [] => [[b]]

theorem spl_ne : ∀ l, spl l ≠ []
  | [] => by simp [spl]
  | b :: l => by
    have := spl_ne l
    unfold spl
    split
    · simp
    · split <;> simp

/-- The words with one blank between. -/
def jn : List (List UInt8) → List UInt8
  | [] => []
  | [a] => a
  | a :: b :: t => a ++ 32 :: jn (b :: t)

theorem jn_eq : ∀ xs, Lib.join xs [32] = jn xs
  | [] => by simp [Lib.join, jn]
  | [a] => by simp [Lib.join, jn]
  | a :: b :: t => by
    have ih := jn_eq (b :: t)
    simp only [Lib.join] at ih ⊢
    rw [List.intercalate_cons_cons, ih]
    simp [jn]

theorem jn_spl : ∀ l, jn (spl l) = l
  | [] => rfl
  | b :: l => by
    have ih := jn_spl l
    have hn := spl_ne l
    unfold spl
    split
    · rename_i h
      cases hs : spl l with
      | nil => exact absurd hs hn
      | cons x t => rw [hs] at ih; simp [jn, ih, h]
    · cases hs : spl l with
      | nil => exact absurd hs hn
      | cons x t =>
        rw [hs] at ih
        cases t with
        | nil => simp [jn] at ih ⊢; exact ih
        | cons y u => simp [jn] at ih ⊢; exact ih

theorem spl_blank_end : ∀ l, spl (l ++ [32]) = spl l ++ [[]]
  | [] => by simp [spl]
  | b :: l => by
    have ih := spl_blank_end l
    have hn := spl_ne l
    rw [List.cons_append, spl, spl]
    split
    · rw [ih]; rfl
    · rw [ih]
      cases hs : spl l with
      | nil => exact absurd hs hn
      | cons x t => simp

theorem spl_blank_head (l : List UInt8) : spl (32 :: l) = [] :: spl l := by simp [spl]

theorem index_cons (b : UInt8) (l : List UInt8) (h : b ≠ 32) : Lib.index (b :: l) [32] = if Lib.index l [32] == -1 then -1 else Lib.index l [32] + 1 := by
  have hp : ([32] : List UInt8).isPrefixOf (b :: l) = false := by simp [List.isPrefixOf, Ne.symm h]
  rw [Lib.index, hp]; simp

theorem splitK_spl : ∀ (l : List UInt8), Lib.splitK [32] 0 (Lib.count l [32]) l = spl l
  | [] => by
    rw [Lib.count_miss (by simp [Lib.index])]
    rfl
  | b :: l => by
    have ih := splitK_spl l
    by_cases h : b = 32
    · subst h
      rw [Lib.count_cons_eq, Nat.add_comm]
      have hix : Lib.index (32 :: l) [32] = 0 := by rw [Lib.index]; simp [List.isPrefixOf]
      rw [Lib.splitK, hix]
      simp [spl, ih]
    · rw [Lib.count_cons_ne b 32 l h]
      have hix := index_cons b l h
      rw [spl, if_neg h]
      cases hk : Lib.count l [32] with
      | zero =>
        rw [hk] at ih
        simp only [Lib.splitK] at ih ⊢
        rw [← ih]
      | succ k =>
        rw [hk] at ih
        have hm : ¬ Lib.index l [32] = -1 := fun e => by
          have := Lib.count_miss e; omega
        have hge := Lib.index_ge l [32]
        obtain ⟨j, hj⟩ : ∃ j : Nat, Lib.index l [32] = j := ⟨(Lib.index l [32]).toNat, by omega⟩
        rw [Lib.splitK, if_neg (by simpa using hm), hj] at ih
        rw [Lib.splitK, hix, hj, if_neg (by simp : ¬ ((j : Int) == -1) = true), if_neg (by simp; omega)]
        rw [← ih]
        have e1 : ((j : Int) + 1).toNat = j + 1 := by omega
        have e2 : (j : Int).toNat = j := by omega
        simp [e1, e2]

/-- A command. -/
structure Cmd where
  op : List UInt8
  id : Int
  at_ : Int
  n : Int
  data : List UInt8
  deriving DecidableEq

def Cmd.none : Cmd := ⟨[], 0, 0, 0, []⟩

def figs : List UInt8 := [48, 49, 50, 51, 52, 53, 54, 55, 56, 57, 97, 98, 99, 100, 101, 102]

/-- What stands behind a word. -/
def formOf (op : List UInt8) : Option (List UInt8) :=
  if op = [114, 101, 97, 100] then some [105, 97, 110]
  else if op = [119, 114, 105, 116, 101] then some [105, 97, 100]
  else if op = [99, 114, 101, 97, 116, 101] then some [110]
  else if op = [100, 101, 108, 101, 116, 101] then some [105]
  else if op = [109, 101, 114, 103, 101] then some [105]
  else if op = [115, 116, 101, 112] then some []
  else Option.none

def fig (k : Nat) : UInt8 := figs.getD k 0

def hexL : List UInt8 → List UInt8
  | [] => []
  | b :: l => fig (b.toNat / 16) :: fig (b.toNat % 16) :: hexL l

theorem hexL_length : ∀ l : List UInt8, (hexL l).length = 2 * l.length
  | [] => rfl
  | b :: l => by simp [hexL, hexL_length l]; omega

theorem hexL_append : ∀ a b : List UInt8, hexL (a ++ b) = hexL a ++ hexL b
  | [], b => rfl
  | x :: a, b => by simp [hexL, hexL_append a b]

theorem figs_get (i : Nat) (h : i < 16) : (⟨#[48, 49, 50, 51, 52, 53, 54, 55, 56, 57, 97, 98, 99, 100, 101, 102]⟩ : ByteArray)[i]'h = fig i := by
  have : ∀ i : Fin 16, (⟨#[48, 49, 50, 51, 52, 53, 54, 55, 56, 57, 97, 98, 99, 100, 101, 102]⟩ : ByteArray)[i.1]'i.2 = fig i.1 := by decide
  exact this ⟨i, h⟩

def hexM (l : List UInt8) : List UInt8 := if l = [] then [45] else hexL l

def figVal (b : UInt8) : Option Nat := if 48 ≤ b ∧ b ≤ 57 then some (b.toNat - 48) else if 97 ≤ b ∧ b ≤ 102 then some (b.toNat - 87) else Option.none

/-- The bytes of pairs of figures. -/
def unhexL : List UInt8 → Option (List UInt8)
  | [] => some []
  | [_] => Option.none
  | a :: b :: l => match figVal a, figVal b, unhexL l with
    | some x, some y, some r => some (UInt8.ofNat (16 * x + y) :: r)
    | _, _, _ => Option.none

def bytesM (l : List UInt8) : Option (List UInt8) :=
  if l = [45] then some [] else if l = [] ∨ l.length % 2 ≠ 0 then Option.none else unhexL l

def Cmd.setNum (c : Cmd) (letter : UInt8) (v : Int) : Cmd :=
  if letter = 105 then { c with id := v } else if letter = 97 then { c with at_ := v } else { c with n := v }
def Cmd.getNum (c : Cmd) (letter : UInt8) : Int :=
  if letter = 105 then c.id else if letter = 97 then c.at_ else c.n

/-- The number of a word, told so as it stands. -/
def numM (w : List UInt8) : Option Int :=
  match Lib.atoiAll w with
  | .ok v => if 0 ≤ v ∧ v ≤ 2147483647 ∧ Lib.itoa v = w then some v else Option.none
  | _ => Option.none

def takeM (c : Cmd) (letter : UInt8) (w : List UInt8) : Option Cmd :=
  if letter = 100 then (bytesM w).map fun d => { c with data := d }
  else (numM w).map fun v => c.setNum letter v

def takes : Cmd → List UInt8 → List (List UInt8) → Option Cmd
  | c, [], _ => some c
  | c, x :: form, w :: ws => (takeM c x w).bind fun c' => takes c' form ws
  | _, _ :: _, [] => Option.none

def parseM (s : List UInt8) : Option Cmd :=
  match formOf ((spl s).headD []) with
  | Option.none => Option.none
  | some form => if (spl s).length ≠ 1 + form.length then Option.none else takes { Cmd.none with op := (spl s).headD [] } form (spl s).tail

def wordOf (c : Cmd) (letter : UInt8) : List UInt8 := if letter = 100 then hexM c.data else Lib.itoa (c.getNum letter)

def textM (c : Cmd) (form : List UInt8) : List UInt8 := jn (c.op :: form.map (wordOf c))

def printM (c : Cmd) : Option (List UInt8) :=
  match formOf c.op with
  | Option.none => Option.none
  | some form => if parseM (textM c form) = some c then some (textM c form) else Option.none

theorem print_parse {c : Cmd} {t : List UInt8} (h : printM c = some t) : parseM t = some c := by
  unfold printM at h
  split at h
  · cases h
  · split at h
    · rename_i hp; cases h; exact hp
    · cases h

theorem fig_val {b : UInt8} {x : Nat} (h : figVal b = some x) : x < 16 ∧ fig x = b := by
  unfold figVal at h
  split at h
  · rename_i hb
    cases h
    have h1 : 48 ≤ b.toNat := hb.1
    have h2 : b.toNat ≤ 57 := hb.2
    refine ⟨by omega, ?_⟩
    obtain ⟨k, hk⟩ : ∃ k, b.toNat = 48 + k := ⟨b.toNat - 48, by omega⟩
    have hb' : b = UInt8.ofNat (48 + k) := by rw [← hk]; simp
    have : k < 10 := by omega
    rw [hk, hb']
    rcases k with _|_|_|_|_|_|_|_|_|_|k <;> first | decide | omega
  · split at h
    · rename_i hb
      cases h
      have h1 : 97 ≤ b.toNat := hb.1
      have h2 : b.toNat ≤ 102 := hb.2
      refine ⟨by omega, ?_⟩
      obtain ⟨k, hk⟩ : ∃ k, b.toNat = 97 + k := ⟨b.toNat - 97, by omega⟩
      have hb' : b = UInt8.ofNat (97 + k) := by rw [← hk]; simp
      have : k < 6 := by omega
      rw [hk, hb']
      rcases k with _|_|_|_|_|_|k <;> first | decide | omega
    · cases h

theorem hexL_unhexL : ∀ (l : List UInt8) {r : List UInt8}, unhexL l = some r → hexL r = l
  | [], r, h => by cases h; rfl
  | [_], r, h => by cases h
  | a :: b :: l, r, h => by
    rw [unhexL] at h
    split at h
    · rename_i x y r' hx hy hr
      cases h
      have ih := hexL_unhexL l hr
      obtain ⟨hx1, hx2⟩ := fig_val hx
      obtain ⟨hy1, hy2⟩ := fig_val hy
      have e : (UInt8.ofNat (16 * x + y)).toNat = 16 * x + y := by simp; omega
      rw [hexL, ih, e, show (16 * x + y) / 16 = x by omega, show (16 * x + y) % 16 = y by omega, hx2, hy2]
    · cases h

theorem hexM_bytesM {l r : List UInt8} (h : bytesM l = some r) : hexM r = l := by
  unfold bytesM at h
  split at h
  · rename_i e; cases h; simp [hexM, e]
  · split at h
    · cases h
    · rename_i h1 h2
      have := hexL_unhexL l h
      unfold hexM
      split
      · rename_i e; subst e; simp [hexL] at this; exact absurd (Or.inl (by simpa using this.symm)) h2
      · exact this

theorem numM_itoa {w : List UInt8} {v : Int} (h : numM w = some v) : Lib.itoa v = w := by
  unfold numM at h
  split at h
  · split at h
    · rename_i hc; cases h; exact hc.2.2
    · cases h
  · cases h

theorem takes_num {c z : Cmd} {x : UInt8} {form : List UInt8} {w : List UInt8} {ws : List (List UInt8)} (hx : x ≠ 100) (h : takes c (x :: form) (w :: ws) = some z) :
    ∃ v, numM w = some v ∧ takes (c.setNum x v) form ws = some z := by
  rw [takes, takeM, if_neg hx] at h
  cases hv : numM w with
  | none => rw [hv] at h; cases h
  | some v => rw [hv] at h; exact ⟨v, rfl, h⟩

theorem takes_data {c z : Cmd} {form : List UInt8} {w : List UInt8} {ws : List (List UInt8)} (h : takes c (100 :: form) (w :: ws) = some z) :
    ∃ d, bytesM w = some d ∧ takes { c with data := d } form ws = some z := by
  rw [takes, takeM, if_pos rfl] at h
  cases hv : bytesM w with
  | none => rw [hv] at h; cases h
  | some v => rw [hv] at h; exact ⟨v, rfl, h⟩

theorem parse_print {s : List UInt8} {z : Cmd} (h : parseM s = some z) : printM z = some s := by
  have h0 := h
  have hj := jn_spl s
  have hn := spl_ne s
  unfold parseM at h
  cases hs : spl s with
  | nil => exact absurd hs hn
  | cons op ws =>
    rw [hs] at h hj
    simp only [List.headD_cons, List.tail_cons, List.length_cons] at h
    split at h
    · cases h
    · rename_i form hf
      split at h
      · cases h
      · rename_i hl
        have hlen : ws.length = form.length := by omega
        have key : z.op = op ∧ form.map (wordOf z) = ws := by
          unfold formOf at hf
          repeat' split at hf
          all_goals first
            | (cases hf; done)
            | skip
          all_goals cases hf
          · match ws, hlen with
            | [a, b, c], _ =>
              obtain ⟨v1, h1, h⟩ := takes_num (by decide) h
              obtain ⟨v2, h2, h⟩ := takes_num (by decide) h
              obtain ⟨v3, h3, h⟩ := takes_num (by decide) h
              cases h
              simp [wordOf, Cmd.getNum, Cmd.setNum, numM_itoa h1, numM_itoa h2, numM_itoa h3]
          · match ws, hlen with
            | [a, b, c], _ =>
              obtain ⟨v1, h1, h⟩ := takes_num (by decide) h
              obtain ⟨v2, h2, h⟩ := takes_num (by decide) h
              obtain ⟨v3, h3, h⟩ := takes_data h
              cases h
              simp [wordOf, Cmd.getNum, Cmd.setNum, numM_itoa h1, numM_itoa h2, hexM_bytesM h3]
          · match ws, hlen with
            | [a], _ =>
              obtain ⟨v1, h1, h⟩ := takes_num (by decide) h
              cases h
              simp [wordOf, Cmd.getNum, Cmd.setNum, numM_itoa h1]
          · match ws, hlen with
            | [a], _ =>
              obtain ⟨v1, h1, h⟩ := takes_num (by decide) h
              cases h
              simp [wordOf, Cmd.getNum, Cmd.setNum, numM_itoa h1]
          · match ws, hlen with
            | [a], _ =>
              obtain ⟨v1, h1, h⟩ := takes_num (by decide) h
              cases h
              simp [wordOf, Cmd.getNum, Cmd.setNum, numM_itoa h1]
          · match ws, hlen with
            | [], _ =>
              simp only [takes] at h
              cases h
              simp
        obtain ⟨k1, k2⟩ := key
        have ht : textM z form = s := by unfold textM; rw [k1, k2]; exact hj
        unfold printM
        rw [k1, hf]
        simp only
        rw [ht, if_pos h0]

theorem parse_blank_head (s : List UInt8) : parseM (32 :: s) = Option.none := by
  unfold parseM
  rw [spl_blank_head]
  simp [formOf]

theorem parse_blank_end {s : List UInt8} {z : Cmd} (h : parseM s = some z) : parseM (s ++ [32]) = Option.none := by
  have hn := spl_ne s
  unfold parseM at h ⊢
  rw [spl_blank_end]
  cases hs : spl s with
  | nil => exact absurd hs hn
  | cons op ws =>
    rw [hs] at h
    simp only [List.headD_cons, List.tail_cons, List.length_cons, List.cons_append, List.length_append, List.length_nil] at h ⊢
    cases hf : formOf op with
    | none => rfl
    | some form =>
      rw [hf] at h
      simp only at h ⊢
      split at h
      · cases h
      · rw [if_pos (by omega)]

end Go.Proofs.YtdeobbpmdfjfiaaDoor.M
