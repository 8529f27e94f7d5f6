/-
  CommandBack: look-ups in the map of forms; number.
-/
import Derived.Test.YtdeobbpmdfjfiaaDoorBase
namespace Go.Proofs.YtdeobbpmdfjfiaaDoor
open Go.RowKit

theorem beq_bytes (k : ByteArray) (l : List UInt8) : (k == ⟨l.toArray⟩) = decide (k.data.toList = l) := by
  obtain ⟨⟨a⟩⟩ := k
  show ((Array.mk a) == Array.mk l) = _
  rw [Bool.eq_iff_iff]
  simp

theorem find_forms (k : ByteArray) : Instr.findNow .string (.string k) formsEntries.toList 0 =
    some (match M.formOf k.data.toList with
      | some f => some (if k.data.toList = [114, 101, 97, 100] then 0 else if k.data.toList = [119, 114, 105, 116, 101] then 1 else if k.data.toList = [99, 114, 101, 97, 116, 101] then 2 else if k.data.toList = [100, 101, 108, 101, 116, 101] then 3 else if k.data.toList = [109, 101, 114, 103, 101] then 4 else 5, bs f)
      | none => none) := by
  simp only [formsEntries, Instr.findNow, Instr.sameNow, beq_bytes, M.formOf]
  by_cases h1 : k.data.toList = [114, 101, 97, 100]
  · simp [h1]
  by_cases h2 : k.data.toList = [119, 114, 105, 116, 101]
  · simp [h2]
  by_cases h3 : k.data.toList = [99, 114, 101, 97, 116, 101]
  · simp [h3]
  by_cases h4 : k.data.toList = [100, 101, 108, 101, 116, 101]
  · simp [h4]
  by_cases h5 : k.data.toList = [109, 101, 114, 103, 101]
  · simp [h5]
  by_cases h6 : k.data.toList = [115, 116, 101, 112]
  · simp [h6]
  simp [h1, h2, h3, h4, h5, h6]

theorem lookup_forms_some (w : World) (b : Nat) (hb : w.heap[b]? = some (.map formsEntries 6)) (k : ByteArray) (f : List UInt8) (h : M.formOf k.data.toList = some f) :
    (Instr.lookup 32 (.map (some b)) (.string k) true).run Tryd.prog w = .ok (.tuple #[bs f, .bool true]) w := by
  have hf := find_forms k
  rw [h] at hf
  have hc : (Instr.checkKey false 10000 9 (.string k)).run Tryd.prog w = .ok () w := MapKept.run_checkKey (k := .string k) Tryd.underlying9 (by simp [MapKept.IsKey]) false 9999
  have he : formsEntries.isEmpty = false := rfl
  simp [Instr.lookup, run_underlying Tryd.underlying32, MapKept.run_getObj_map hb, he, hc, MapKept.run_findKey Tryd.underlying9 hf, Result.andThen]

theorem lookup_forms_none (w : World) (b : Nat) (hb : w.heap[b]? = some (.map formsEntries 6)) (k : ByteArray) (h : M.formOf k.data.toList = none) :
    (Instr.lookup 32 (.map (some b)) (.string k) true).run Tryd.prog w = .ok (.tuple #[.string ⟨#[]⟩, .bool false]) w := by
  have hf := find_forms k
  rw [h] at hf
  have hc : (Instr.checkKey false 10000 9 (.string k)).run Tryd.prog w = .ok () w := MapKept.run_checkKey (k := .string k) Tryd.underlying9 (by simp [MapKept.IsKey]) false 9999
  have he : formsEntries.isEmpty = false := rfl
  simp [Instr.lookup, run_underlying Tryd.underlying32, MapKept.run_getObj_map hb, he, hc, MapKept.run_findKey Tryd.underlying9 hf, Result.andThen, Tryd.zeroValue9]

/-! hex -/
theorem number_any (b : Nat) (letter : Int) (w : World) :
    Calls Tryd.prog 10 #[.pointer (some ⟨b, 0, none⟩), .int .i32 letter] w fun e w' => e = .returned (.pointer (some ⟨b, if letter = 105 then 1 else if letter = 97 then 2 else 3, none⟩)) ∧ w' = w := by
  by_cases h1 : letter = 105
  · subst h1
    go_enter Tryd.func10, Tryd.ntmps10
    go_wp2
    go_ret
    exact ⟨rfl, rfl⟩
  · have e1 : (letter == 105) = false := beq_eq_false_iff_ne.2 h1
    by_cases h2 : letter = 97
    · subst h2
      go_enter Tryd.func10, Tryd.ntmps10
      go_wp2
      go_ret
      exact ⟨rfl, rfl⟩
    · have e2 : (letter == 97) = false := beq_eq_false_iff_ne.2 h2
      go_enter Tryd.func10, Tryd.ntmps10
      go_wp2
      go_ret
      exact ⟨rfl, rfl⟩
end Go.Proofs.YtdeobbpmdfjfiaaDoor
