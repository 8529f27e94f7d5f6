/-
  CommandBack: THE TIED CARD: the row's statement ('commandBack_holds') with its listed variables tied to the program's text by the given tie.
-/
import Derived.Test.YtdeobbpmdfjfiaaDoorProofs
import Derived.Test.YtdeobbpmdfjfiaaDoorTie
import Derived.Test.YtdeobbpmdfjfiaaDoorCards
namespace Go.Proofs.YtdeobbpmdfjfiaaDoor
open Go

theorem commandBack_card_holds : Rows.CommandBackCardSaid :=
  Claim7.holds_tied_plain_at .later [] [.data, .data, .data, .data, .sentinel, .sentinel, .pinned] true (true, "23ad9e587d03a2ee89e80a754afb1035c8192db71161399ebea8cc76a93d494b") true
    commandBack_holds (fun _ h => by cases h) (by kernel_rfl) (fun _ h => by cases h) commandBack_row_tie rfl ⟨rfl, rfl⟩ (by kernel_rfl) rfl
    (fun f fn hf hfn => by
      obtain rfl : f = 3 := Option.some.inj ((show Tryd.prog.funcNamed "oakum/oakumlaw21.CommandBack" = some 3 by kernel_rfl).symm.trans hf) |>.symm
      obtain rfl : fn = Tryd.f3 := (Option.some.inj (Tryd.func3.symm.trans hfn)).symm
      exact ⟨by kernel_rfl, fun j t ht => by
        rw [Tryd.params3] at ht
        have hm : t ∈ [23, 9] := by simpa using Array.mem_of_getElem? ht
        have hall : ([23, 9].all fun u => !Tryd.prog.wantsStandIn u) = true := by kernel_rfl
        exact (show Tryd.prog.wantsStandIn t = false by simpa using List.all_eq_true.1 hall t hm)⟩)
    (by kernel_rfl)
end Go.Proofs.YtdeobbpmdfjfiaaDoor
