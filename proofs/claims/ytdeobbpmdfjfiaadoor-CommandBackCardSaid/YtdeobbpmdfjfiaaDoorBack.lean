/-
  CommandBack: the law's walk.
-/
import Derived.Test.YtdeobbpmdfjfiaaDoorAlive
namespace Go.Proofs.YtdeobbpmdfjfiaaDoor
open Go.RowKit
set_option linter.unusedVariables false
set_option linter.unusedSimpArgs false

theorem unhexL_len : ∀ (l r : List UInt8), M.unhexL l = some r → r.length ≤ l.length
  | [], r, h => by cases h; simp
  | [_], r, h => by cases h
  | a :: b :: l, r, h => by
    rw [M.unhexL] at h
    split at h
    · rename_i x y r' _ _ hr
      cases h
      have := unhexL_len l r' hr
      simp; omega
    · cases h

theorem takes_ok : ∀ (f : List UInt8) (ws : List (List UInt8)) (c z : M.Cmd), Ok c → (∀ x ∈ ws, x.length ≤ 1000) → M.takes c f ws = some z → Ok z
  | [], _, c, z, hc, _, h => by cases h; exact hc
  | x :: f, [], c, z, hc, _, h => by cases h
  | x :: f, w :: ws, c, z, hc, hw, h => by
    by_cases hx : x = 100
    · subst hx
      obtain ⟨d, hd, h⟩ := M.takes_data h
      refine takes_ok f ws { c with data := d } z ⟨hc.op, ?_, hc.id, hc.at_, hc.n⟩ (fun x hx => hw x (by simp [hx])) h
      have h1 := hw w (by simp)
      unfold M.bytesM at hd
      split at hd
      · cases hd; simp
      · split at hd
        · cases hd
        · have := unhexL_len w d hd; show d.length ≤ 1000; omega
    · obtain ⟨v, hv, h⟩ := M.takes_num hx h
      have hv2 : 0 ≤ v ∧ v ≤ 2147483647 := by
        unfold M.numM at hv
        split at hv
        · split at hv
          · rename_i hh; cases hv; exact ⟨hh.1, hh.2.1⟩
          · cases hv
        · cases hv
      refine takes_ok f ws _ z ?_ (fun x hx => hw x (by simp [hx])) h
      unfold M.Cmd.setNum
      split
      · exact ⟨hc.op, hc.data, ⟨by show _ ≤ v; omega, by show v ≤ _; omega⟩, hc.at_, hc.n⟩
      · split
        · exact ⟨hc.op, hc.data, hc.id, ⟨by show _ ≤ v; omega, by show v ≤ _; omega⟩, hc.n⟩
        · exact ⟨hc.op, hc.data, hc.id, hc.at_, ⟨by show _ ≤ v; omega, by show v ≤ _; omega⟩⟩

theorem parse_ok {s : List UInt8} {z : M.Cmd} (h : M.parseM s = some z) (hs : s.length ≤ 1000) : Ok z := by
  have hw : ∀ x ∈ M.spl s, x.length ≤ 1000 := fun x hx => by
    have := mem_jn (M.spl s) x hx
    rw [M.jn_spl] at this
    omega
  have hn := M.spl_ne s
  unfold M.parseM at h
  cases hsp : M.spl s with
  | nil => exact absurd hsp hn
  | cons op ws =>
    rw [hsp] at h hw
    simp only [List.headD_cons, List.tail_cons] at h
    split at h
    · cases h
    · split at h
      · cases h
      · exact takes_ok _ ws _ z ⟨hw op (by simp), by simp [M.Cmd.none], by simp [M.Cmd.none], by simp [M.Cmd.none], by simp [M.Cmd.none]⟩ (fun x hx => hw x (by simp [hx])) h

theorem none_ok : Ok M.Cmd.none := ⟨by decide, by decide, by decide, by decide, by decide⟩
theorem print_none' : M.printM M.Cmd.none = none := by decide

theorem print_len (c : M.Cmd) (hc : Ok c) (t : List UInt8) (h : M.printM c = some t) : t.length ≤ 8004 := by
  unfold M.printM at h
  cases hf : M.formOf c.op with
  | none => rw [hf] at h; cases h
  | some f =>
    rw [hf] at h
    simp only at h
    split at h
    · cases h; exact text_len c hc f (formOf_facts hf).2
    · cases h

set_option maxRecDepth 100000 in
set_option maxHeartbeats 1600000 in
theorem back_main (c : M.Cmd) (hc : Ok c) (hsum : (c.op.length : Int) + (c.data.length : Int) ≤ 1000) (s : ByteArray) (hs : s.size ≤ 1000) (w : World) (he : Env w)
    (P : Option (List UInt8)) (hP : M.printM c = P) (Z : Option M.Cmd) (hZ : M.parseM s.data.toList = Z) (I : Option M.Cmd) (hI : M.parseM (s.data.toList ++ [32]) = I) :
    Calls Tryd.prog 3 #[.agg #[bs c.op, .int .i64 c.id, .int .i64 c.at_, .int .i64 c.n, bs c.data], .string s] w fun e w' => e = .returned (.bool true) ∧ Below w.heap.size w w' := by
  have HP := Lib.hid hP
  have HZ := Lib.hid hZ
  have HI := Lib.hid hI
  clear hP hZ hI
  have hop := hc.op
  have hda := hc.data
  go_enter Tryd.func3, Tryd.ntmps3
  go_wp2_with fail
  have A0 := At.new w c
  have B0 : Below w.heap.size w (w.alloc (.cells (cmdCells c) 23)) := (Below.refl _ _).alloc (Nat.le_refl _) _
  refine (print_any c hc _ (he.below B0)).mono ?_
  rintro e w1 ⟨rfl, hb1⟩
  have A1 := A0.keep hb1
  have B1 := B0.trans (hb1.mono B0.size)
  rw [HP.out]
  clear A0 B0 hb1
  cases P with
  | none =>
    simp only [printV]
    go_wp2_with fail
    refine (parse_any ⟨#[]⟩ (by decide) _ (he.below B1)).mono ?_
    rintro e w2 ⟨rfl, hb2⟩
    have A2 := (A1.keep hb2).alloc (.cells (cmdCells M.Cmd.none) 23)
    have B2 := (B1.trans (hb2.mono B1.size)).alloc (Nat.le_trans B1.size hb2.size) (.cells (cmdCells M.Cmd.none) 23)
    have e2 : M.parseM (⟨#[]⟩ : ByteArray).data.toList = none := by decide
    rw [e2]
    simp only [parseV, cmdCells, M.Cmd.none]
    clear A1 B1 hb2 e2
    go_wp2_with fail
    have HeW := Lib.hid (he.below B2)
    refine (parse_any s (by omega) _ HeW.out).mono ?_
    rintro e w3 ⟨rfl, hb3⟩
    have B3 := B2.trans (hb3.mono B2.size)
    rw [HZ.out]
    clear hb3 A2 B2 HeW
    cases Z with
    | some z =>
      have HPZ := Lib.hid (M.parse_print HZ.out)
      have hz := parse_ok HZ.out (by simpa using hs)
      simp only [parseV, cmdCells]
      go_wp2_with fail
      have D := At.new w3 z
      have B4 := B3.alloc B3.size (.cells (cmdCells z) 23)
      refine (print_any z hz _ (he.below B4)).mono ?_
      rintro e w4 ⟨rfl, hb4⟩
      have D4 := D.keep hb4
      have B5 := B4.trans (hb4.mono B4.size)
      rw [HPZ.out]
      simp only [printV]
      clear D B4 B3 hb4
      go_wp2_with fail
      have e1 : (s ++ (⟨#[32]⟩ : ByteArray)).data.toList = s.data.toList ++ [32] := by simp
      have e2 : ((⟨#[32]⟩ : ByteArray) ++ s).data.toList = 32 :: s.data.toList := by simp
      have HBE := Lib.hid (M.parse_blank_end HZ.out)
      have HBH := Lib.hid (M.parse_blank_head s.data.toList)
      refine (parse_any (s ++ (⟨#[32]⟩ : ByteArray)) (by rw [ByteArray.size_append, show (⟨#[32]⟩ : ByteArray).size = 1 from rfl]; omega) _ (he.below B5)).mono ?_
      rintro e w5 ⟨rfl, hb5⟩
      have D5 := (D4.keep hb5).alloc (.cells (cmdCells M.Cmd.none) 23)
      have B6 := (B5.trans (hb5.mono B5.size)).alloc (Nat.le_trans B5.size hb5.size) (.cells (cmdCells M.Cmd.none) 23)
      rw [e1, HBE.out]
      simp only [parseV, cmdCells, M.Cmd.none]
      clear D4 B5 hb5 e1
      go_wp2_with fail
      refine (parse_any ((⟨#[32]⟩ : ByteArray) ++ s) (by rw [ByteArray.size_append, show (⟨#[32]⟩ : ByteArray).size = 1 from rfl]; omega) _ (he.below B6)).mono ?_
      rintro e w6 ⟨rfl, hb6⟩
      have D6 := (D5.keep hb6).alloc (.cells (cmdCells M.Cmd.none) 23)
      have B7 := (B6.trans (hb6.mono B6.size)).alloc (Nat.le_trans B6.size hb6.size) (.cells (cmdCells M.Cmd.none) 23)
      rw [e2, HBH.out]
      simp only [parseV, cmdCells, M.Cmd.none]
      clear D5 B6 hb6 e2
      go_wp2_with fail
      refine (alive_true _ (he.below B7)).mono ?_
      rintro e w7 ⟨rfl, hb7⟩
      have D7 := D6.keep hb7
      have B8 := B7.trans (hb7.mono B7.size)
      clear hb7 B7 D6
      have hst : (s.data.toList == s.toList) = true := by rw [Lib.toList_data]; simp
      go_wp2_with fail
      go_ret
      exact ⟨rfl, B8⟩
    | none =>
      simp only [parseV, cmdCells, M.Cmd.none]
      go_wp2_with fail
      have D := At.new w3 M.Cmd.none
      have B4 := B3.alloc B3.size (.cells (cmdCells M.Cmd.none) 23)
      refine (print_any M.Cmd.none none_ok _ (he.below B4)).mono ?_
      rintro e w4 ⟨rfl, hb4⟩
      have D4 := D.keep hb4
      have B5 := B4.trans (hb4.mono B4.size)
      rw [print_none']
      simp only [printV]
      clear D B4 B3 hb4
      go_wp2_with fail
      have e1 : (s ++ (⟨#[32]⟩ : ByteArray)).data.toList = s.data.toList ++ [32] := by simp
      have e2 : ((⟨#[32]⟩ : ByteArray) ++ s).data.toList = 32 :: s.data.toList := by simp
      have HBH := Lib.hid (M.parse_blank_head s.data.toList)
      refine (parse_any (s ++ (⟨#[32]⟩ : ByteArray)) (by rw [ByteArray.size_append, show (⟨#[32]⟩ : ByteArray).size = 1 from rfl]; omega) _ (he.below B5)).mono ?_
      rintro e w5 ⟨rfl, hb5⟩
      rw [e1, HI.out]
      have heq : ∀ W, (binOp .eql 23 (.agg #[bs [], .int .i64 0, .int .i64 0, .int .i64 0, bs []]) (.agg #[bs [], .int .i64 0, .int .i64 0, .int .i64 0, bs []])).run Tryd.prog W = .ok (.bool true) W := fun W => by
        have := run_eql_cmd M.Cmd.none M.Cmd.none W; simp only [M.Cmd.none] at this; rw [this]; simp
      cases I with
      | none =>
        have D5 := (D4.keep hb5).alloc (.cells (cmdCells M.Cmd.none) 23)
        have B6 := (B5.trans (hb5.mono B5.size)).alloc (Nat.le_trans B5.size hb5.size) (.cells (cmdCells M.Cmd.none) 23)
        simp only [parseV, cmdCells, M.Cmd.none]
        clear D4 B5 hb5 e1
        go_wp2_with fail
        refine (parse_any ((⟨#[32]⟩ : ByteArray) ++ s) (by rw [ByteArray.size_append, show (⟨#[32]⟩ : ByteArray).size = 1 from rfl]; omega) _ (he.below B6)).mono ?_
        rintro e w6 ⟨rfl, hb6⟩
        have D6 := (D5.keep hb6).alloc (.cells (cmdCells M.Cmd.none) 23)
        have B7 := (B6.trans (hb6.mono B6.size)).alloc (Nat.le_trans B6.size hb6.size) (.cells (cmdCells M.Cmd.none) 23)
        rw [e2, HBH.out]
        simp only [parseV, cmdCells, M.Cmd.none]
        clear D5 B6 hb6 e2
        go_wp2_with fail
        refine (alive_true _ (he.below B7)).mono ?_
        rintro e w7 ⟨rfl, hb7⟩
        have D7 := D6.keep hb7
        have B8 := B7.trans (hb7.mono B7.size)
        have hl7 := D7.lt
        obtain ⟨d0, d1, d2, d3, d4⟩ := D7.five
        simp only [M.Cmd.none] at d0 d1 d2 d3 d4
        clear hb7 B7 D6 D7
        go_wp2_with fail
        go_ret
        exact ⟨rfl, B8⟩
      | some i =>
        have D5 := (D4.keep hb5).alloc (.cells (cmdCells i) 23)
        have B6 := (B5.trans (hb5.mono B5.size)).alloc (Nat.le_trans B5.size hb5.size) (.cells (cmdCells i) 23)
        simp only [parseV, cmdCells]
        clear D4 B5 hb5 e1
        go_wp2_with fail
        refine (parse_any ((⟨#[32]⟩ : ByteArray) ++ s) (by rw [ByteArray.size_append, show (⟨#[32]⟩ : ByteArray).size = 1 from rfl]; omega) _ (he.below B6)).mono ?_
        rintro e w6 ⟨rfl, hb6⟩
        have D6 := (D5.keep hb6).alloc (.cells (cmdCells M.Cmd.none) 23)
        have B7 := (B6.trans (hb6.mono B6.size)).alloc (Nat.le_trans B6.size hb6.size) (.cells (cmdCells M.Cmd.none) 23)
        rw [e2, HBH.out]
        simp only [parseV, cmdCells, M.Cmd.none]
        clear D5 B6 hb6 e2
        go_wp2_with fail
        refine (alive_true _ (he.below B7)).mono ?_
        rintro e w7 ⟨rfl, hb7⟩
        have D7 := D6.keep hb7
        have B8 := B7.trans (hb7.mono B7.size)
        have hl7 := D7.lt
        obtain ⟨d0, d1, d2, d3, d4⟩ := D7.five
        simp only [M.Cmd.none] at d0 d1 d2 d3 d4
        clear hb7 B7 D6 D7
        go_wp2_with fail
        go_ret
        exact ⟨rfl, B8⟩
  | some t =>
    have HT := Lib.hid (M.print_parse HP.out)
    have htl := print_len c hc t HP.out
    simp only [printV]
    go_wp2_with fail
    refine (parse_any ⟨t.toArray⟩ (by show t.length ≤ _; omega) _ (he.below B1)).mono ?_
    rintro e w2 ⟨rfl, hb2⟩
    have A2 := (A1.keep hb2).alloc (.cells (cmdCells c) 23)
    have C2 := At.new w2 c
    have hlA := (A1.keep hb2).lt
    have B2 := (B1.trans (hb2.mono B1.size)).alloc (Nat.le_trans B1.size hb2.size) (.cells (cmdCells c) 23)
    have e2 : M.parseM (⟨t.toArray⟩ : ByteArray).data.toList = some c := HT.out
    rw [e2]
    obtain ⟨a0, a1, a2, a3, a4⟩ := (A1.keep hb2).five
    have hnq : ∀ W, (binOp .neq 23 (.agg #[bs c.op, .int .i64 c.id, .int .i64 c.at_, .int .i64 c.n, bs c.data]) (.agg #[bs c.op, .int .i64 c.id, .int .i64 c.at_, .int .i64 c.n, bs c.data])).run Tryd.prog W = .ok (.bool false) W := fun W => by
      rw [run_neq_cmd c c W]; simp
    simp only [parseV, cmdCells]
    clear A1 B1 hb2 e2
    go_wp2_with fail
    clear a0 a1 a2 a3 a4 hnq C2
    have HeW := Lib.hid (he.below B2)
    refine (parse_any s (by omega) _ HeW.out).mono ?_
    rintro e w3 ⟨rfl, hb3⟩
    have B3 := B2.trans (hb3.mono B2.size)
    rw [HZ.out]
    clear hb3 A2 B2 HeW
    cases Z with
    | some z =>
      have HPZ := Lib.hid (M.parse_print HZ.out)
      have hz := parse_ok HZ.out (by simpa using hs)
      simp only [parseV, cmdCells]
      go_wp2_with fail
      have D := At.new w3 z
      have B4 := B3.alloc B3.size (.cells (cmdCells z) 23)
      refine (print_any z hz _ (he.below B4)).mono ?_
      rintro e w4 ⟨rfl, hb4⟩
      have D4 := D.keep hb4
      have B5 := B4.trans (hb4.mono B4.size)
      rw [HPZ.out]
      simp only [printV]
      clear D B4 B3 hb4
      go_wp2_with fail
      have e1 : (s ++ (⟨#[32]⟩ : ByteArray)).data.toList = s.data.toList ++ [32] := by simp
      have e2 : ((⟨#[32]⟩ : ByteArray) ++ s).data.toList = 32 :: s.data.toList := by simp
      have HBE := Lib.hid (M.parse_blank_end HZ.out)
      have HBH := Lib.hid (M.parse_blank_head s.data.toList)
      refine (parse_any (s ++ (⟨#[32]⟩ : ByteArray)) (by rw [ByteArray.size_append, show (⟨#[32]⟩ : ByteArray).size = 1 from rfl]; omega) _ (he.below B5)).mono ?_
      rintro e w5 ⟨rfl, hb5⟩
      have D5 := (D4.keep hb5).alloc (.cells (cmdCells M.Cmd.none) 23)
      have B6 := (B5.trans (hb5.mono B5.size)).alloc (Nat.le_trans B5.size hb5.size) (.cells (cmdCells M.Cmd.none) 23)
      rw [e1, HBE.out]
      simp only [parseV, cmdCells, M.Cmd.none]
      clear D4 B5 hb5 e1
      go_wp2_with fail
      refine (parse_any ((⟨#[32]⟩ : ByteArray) ++ s) (by rw [ByteArray.size_append, show (⟨#[32]⟩ : ByteArray).size = 1 from rfl]; omega) _ (he.below B6)).mono ?_
      rintro e w6 ⟨rfl, hb6⟩
      have D6 := (D5.keep hb6).alloc (.cells (cmdCells M.Cmd.none) 23)
      have B7 := (B6.trans (hb6.mono B6.size)).alloc (Nat.le_trans B6.size hb6.size) (.cells (cmdCells M.Cmd.none) 23)
      rw [e2, HBH.out]
      simp only [parseV, cmdCells, M.Cmd.none]
      clear D5 B6 hb6 e2
      go_wp2_with fail
      refine (alive_true _ (he.below B7)).mono ?_
      rintro e w7 ⟨rfl, hb7⟩
      have D7 := D6.keep hb7
      have B8 := B7.trans (hb7.mono B7.size)
      clear hb7 B7 D6
      have hst : (s.data.toList == s.toList) = true := by rw [Lib.toList_data]; simp
      go_wp2_with fail
      go_ret
      exact ⟨rfl, B8⟩
    | none =>
      simp only [parseV, cmdCells, M.Cmd.none]
      go_wp2_with fail
      have D := At.new w3 M.Cmd.none
      have B4 := B3.alloc B3.size (.cells (cmdCells M.Cmd.none) 23)
      refine (print_any M.Cmd.none none_ok _ (he.below B4)).mono ?_
      rintro e w4 ⟨rfl, hb4⟩
      have D4 := D.keep hb4
      have B5 := B4.trans (hb4.mono B4.size)
      rw [print_none']
      simp only [printV]
      clear D B4 B3 hb4
      go_wp2_with fail
      have e1 : (s ++ (⟨#[32]⟩ : ByteArray)).data.toList = s.data.toList ++ [32] := by simp
      have e2 : ((⟨#[32]⟩ : ByteArray) ++ s).data.toList = 32 :: s.data.toList := by simp
      have HBH := Lib.hid (M.parse_blank_head s.data.toList)
      refine (parse_any (s ++ (⟨#[32]⟩ : ByteArray)) (by rw [ByteArray.size_append, show (⟨#[32]⟩ : ByteArray).size = 1 from rfl]; omega) _ (he.below B5)).mono ?_
      rintro e w5 ⟨rfl, hb5⟩
      rw [e1, HI.out]
      have heq : ∀ W, (binOp .eql 23 (.agg #[bs [], .int .i64 0, .int .i64 0, .int .i64 0, bs []]) (.agg #[bs [], .int .i64 0, .int .i64 0, .int .i64 0, bs []])).run Tryd.prog W = .ok (.bool true) W := fun W => by
        have := run_eql_cmd M.Cmd.none M.Cmd.none W; simp only [M.Cmd.none] at this; rw [this]; simp
      cases I with
      | none =>
        have D5 := (D4.keep hb5).alloc (.cells (cmdCells M.Cmd.none) 23)
        have B6 := (B5.trans (hb5.mono B5.size)).alloc (Nat.le_trans B5.size hb5.size) (.cells (cmdCells M.Cmd.none) 23)
        simp only [parseV, cmdCells, M.Cmd.none]
        clear D4 B5 hb5 e1
        go_wp2_with fail
        refine (parse_any ((⟨#[32]⟩ : ByteArray) ++ s) (by rw [ByteArray.size_append, show (⟨#[32]⟩ : ByteArray).size = 1 from rfl]; omega) _ (he.below B6)).mono ?_
        rintro e w6 ⟨rfl, hb6⟩
        have D6 := (D5.keep hb6).alloc (.cells (cmdCells M.Cmd.none) 23)
        have B7 := (B6.trans (hb6.mono B6.size)).alloc (Nat.le_trans B6.size hb6.size) (.cells (cmdCells M.Cmd.none) 23)
        rw [e2, HBH.out]
        simp only [parseV, cmdCells, M.Cmd.none]
        clear D5 B6 hb6 e2
        go_wp2_with fail
        refine (alive_true _ (he.below B7)).mono ?_
        rintro e w7 ⟨rfl, hb7⟩
        have D7 := D6.keep hb7
        have B8 := B7.trans (hb7.mono B7.size)
        have hl7 := D7.lt
        obtain ⟨d0, d1, d2, d3, d4⟩ := D7.five
        simp only [M.Cmd.none] at d0 d1 d2 d3 d4
        clear hb7 B7 D6 D7
        go_wp2_with fail
        go_ret
        exact ⟨rfl, B8⟩
      | some i =>
        have D5 := (D4.keep hb5).alloc (.cells (cmdCells i) 23)
        have B6 := (B5.trans (hb5.mono B5.size)).alloc (Nat.le_trans B5.size hb5.size) (.cells (cmdCells i) 23)
        simp only [parseV, cmdCells]
        clear D4 B5 hb5 e1
        go_wp2_with fail
        refine (parse_any ((⟨#[32]⟩ : ByteArray) ++ s) (by rw [ByteArray.size_append, show (⟨#[32]⟩ : ByteArray).size = 1 from rfl]; omega) _ (he.below B6)).mono ?_
        rintro e w6 ⟨rfl, hb6⟩
        have D6 := (D5.keep hb6).alloc (.cells (cmdCells M.Cmd.none) 23)
        have B7 := (B6.trans (hb6.mono B6.size)).alloc (Nat.le_trans B6.size hb6.size) (.cells (cmdCells M.Cmd.none) 23)
        rw [e2, HBH.out]
        simp only [parseV, cmdCells, M.Cmd.none]
        clear D5 B6 hb6 e2
        go_wp2_with fail
        refine (alive_true _ (he.below B7)).mono ?_
        rintro e w7 ⟨rfl, hb7⟩
        have D7 := D6.keep hb7
        have B8 := B7.trans (hb7.mono B7.size)
        have hl7 := D7.lt
        obtain ⟨d0, d1, d2, d3, d4⟩ := D7.five
        simp only [M.Cmd.none] at d0 d1 d2 d3 d4
        clear hb7 B7 D6 D7
        go_wp2_with fail
        go_ret
        exact ⟨rfl, B8⟩

set_option maxRecDepth 100000 in
set_option maxHeartbeats 800000 in
/-- Where the texts are too long: the live question alone. -/
theorem back_long1 (c : M.Cmd) (ho : c.op.length ≤ 140737488355328) (hd : c.data.length ≤ 140737488355328) (hsum : 1000 < (c.op.length : Int) + (c.data.length : Int)) (s : ByteArray) (w : World) (he : Env w) :
    Calls Tryd.prog 3 #[.agg #[bs c.op, .int .i64 c.id, .int .i64 c.at_, .int .i64 c.n, bs c.data], .string s] w fun e w' => e = .returned (.bool true) ∧ Below w.heap.size w w' := by
  go_enter Tryd.func3, Tryd.ntmps3
  go_wp2_with fail
  have B0 : Below w.heap.size w (w.alloc (.cells (cmdCells c) 23)) := (Below.refl _ _).alloc (Nat.le_refl _) _
  refine (alive_true _ (he.below B0)).mono ?_
  rintro e w1 ⟨rfl, hb1⟩
  have B1 := B0.trans (hb1.mono B0.size)
  clear B0 hb1
  go_wp2_with fail
  go_ret
  exact ⟨rfl, B1⟩

set_option maxRecDepth 100000 in
set_option maxHeartbeats 800000 in
theorem back_long2 (c : M.Cmd) (ho : c.op.length ≤ 140737488355328) (hd : c.data.length ≤ 140737488355328) (hsum : (c.op.length : Int) + (c.data.length : Int) ≤ 1000) (s : ByteArray) (hs : 1000 < (s.size : Int)) (w : World) (he : Env w) :
    Calls Tryd.prog 3 #[.agg #[bs c.op, .int .i64 c.id, .int .i64 c.at_, .int .i64 c.n, bs c.data], .string s] w fun e w' => e = .returned (.bool true) ∧ Below w.heap.size w w' := by
  go_enter Tryd.func3, Tryd.ntmps3
  go_wp2_with fail
  have B0 : Below w.heap.size w (w.alloc (.cells (cmdCells c) 23)) := (Below.refl _ _).alloc (Nat.le_refl _) _
  refine (alive_true _ (he.below B0)).mono ?_
  rintro e w1 ⟨rfl, hb1⟩
  have B1 := B0.trans (hb1.mono B0.size)
  clear B0 hb1
  go_wp2_with fail
  go_ret
  exact ⟨rfl, B1⟩

/-- CommandBack, at whatever command and text. -/
theorem back_any (c : M.Cmd) (ho : c.op.length ≤ 140737488355328) (hd : c.data.length ≤ 140737488355328) (h1 : -9223372036854775808 ≤ c.id ∧ c.id ≤ 9223372036854775807) (h2 : -9223372036854775808 ≤ c.at_ ∧ c.at_ ≤ 9223372036854775807)
    (h3 : -9223372036854775808 ≤ c.n ∧ c.n ≤ 9223372036854775807) (s : ByteArray) (w : World) (he : Env w) :
    Calls Tryd.prog 3 #[.agg #[bs c.op, .int .i64 c.id, .int .i64 c.at_, .int .i64 c.n, bs c.data], .string s] w fun e w' => e = .returned (.bool true) ∧ Below w.heap.size w w' := by
  by_cases hsum : (c.op.length : Int) + (c.data.length : Int) ≤ 1000
  · by_cases hs : s.size ≤ 1000
    · exact back_main c ⟨by omega, by omega, h1, h2, h3⟩ hsum s hs w he _ rfl _ rfl _ rfl
    · exact back_long2 c ho hd hsum s (by omega) w he
  · exact back_long1 c ho hd (by omega) s w he

end Go.Proofs.YtdeobbpmdfjfiaaDoor
