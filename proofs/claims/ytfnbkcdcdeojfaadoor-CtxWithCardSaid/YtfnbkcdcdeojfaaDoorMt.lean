/- Texts as keys of maps. No program stands in this text. -/
import Derived.Test.YtfnbkcdcdeojfaaDoorMm
set_option linter.unusedVariables false
set_option linter.unusedSimpArgs false
namespace Go.Mk
open Go.RowKit

theorem ba_beq (a b : ByteArray) : (a == b) = true ↔ a = b := by
  obtain ⟨x⟩ := a
  obtain ⟨y⟩ := b
  constructor
  · intro h
    have e : x = y := by simpa using (show (x == y) = true from h)
    rw [e]
  · intro h
    cases h
    exact (show (x == x) = true by simp)
theorem findNow_str (k : ByteArray) : ∀ (ms : List (Ent ByteArray)) (i : Nat), Instr.findNow .string (.string k) (ms.map (Ent.mk' .string)) i = some (findL k ms i)
  | [], i => rfl
  | m :: ms, i => by
    simp only [List.map_cons, Instr.findNow, Ent.mk', Instr.sameNow, findL]
    by_cases h : m.key = k
    · subst h
      have : (m.key == m.key) = true := (ba_beq _ _).2 rfl
      simp [this]
    · have : (k == m.key) = false := Bool.eq_false_iff.2 (fun h' => h ((ba_beq _ _).1 h').symm)
      simp only [this, if_neg h]
      exact findNow_str k ms (i + 1)

theorem keyOk_str {P : Program} {tk : TypeId} (h : P.underlying tk = some .string) : KeyOk P tk Value.string where
  check := fun k e w => by
    rw [show (10000 : Nat) = 9999 + 1 from rfl, Instr.checkKey]
    simp [run_underlying h]
  find := fun k ms w => by
    simp only [Instr.findKey]
    simp [run_underlying h, findNow_str]
  stays := fun k => by simp [Instr.sameBits, (ba_beq k k).2 rfl]

end Go.Mk
