/- Traces as keys of maps: two numbers of 64 digits. -/
import Derived.Test.YtcppnmogdmpdbaaId
set_option linter.unusedVariables false
set_option linter.unusedSimpArgs false
namespace Go.Proofs.Ytcppnmogdmpdbaa
open Go.RowKit Go.Mk Go.Hp

abbrev Tr := Int × Int
def encTr (t : Tr) : Value := .agg #[.int .u64 t.1, .int .u64 t.2]

theorem equal_trace (a b c d : Int) (w : World) : (Op.equalIn 10000 116 (.agg #[.int .u64 a, .int .u64 b]) (.agg #[.int .u64 c, .int .u64 d])).run Try.prog w = .ok (a == c && b == d) w := by
  have hS : Try.prog.underlying 116 = some (.struct (Try.prog.fieldsOf 116)) := by kernel_rfl
  have hp : Try.prog.stoodInHeld 116 = false := by kernel_rfl
  rw [show (10000 : Nat) = 9999 + 1 from rfl, run_equalIn_agg w 9999 116 _ _ hS hp]
  simp only [Program.fieldsOf, Try.underlying116]
  go_simp
  by_cases h1 : a = c <;> by_cases h2 : b = d <;> simp [h1, h2]

theorem findAsk_trace (k : Tr) (w : World) : ∀ (ms : List (Ent Tr)) (i : Nat), (Instr.findAsking 116 (encTr k) (ms.map (Ent.mk' encTr)) i).run Try.prog w = .ok (findL k ms i) w
  | [], i => rfl
  | m :: ms, i => by
    rw [List.map_cons, Instr.findAsking]
    have he : (Op.equal 116 (encTr k) (encTr m.key)).run Try.prog w = .ok (k.1 == m.key.1 && k.2 == m.key.2) w := equal_trace _ _ _ _ w
    have hih := findAsk_trace k w ms (i + 1)
    simp only [Ent.mk', Sem.run_bind, he, Result.andThen_ok]
    unfold findL
    by_cases h : m.key = k
    · subst h
      simp
    · rw [if_neg h]
      have hb : (k.1 == m.key.1 && k.2 == m.key.2) = false := by
        cases hq : (k.1 == m.key.1 && k.2 == m.key.2) with
        | false => rfl
        | true =>
          simp only [Bool.and_eq_true, beq_iff_eq] at hq
          exact absurd (Prod.ext hq.1.symm hq.2.symm) h
      rw [hb]
      simpa [Ent.mk'] using hih

theorem keyOk_trace : KeyOk Try.prog 116 encTr where
  check := fun k e w => by
    obtain ⟨a, b⟩ := k
    cases e <;> kernel_rfl
  find := fun k ms w => by
    have hS : Try.prog.underlying 116 = some (.struct (Try.prog.fieldsOf 116)) := by kernel_rfl
    simp only [Instr.findKey]
    cases ms with
    | nil => simp [run_underlying hS, Instr.findNow, findL]
    | cons m ms =>
      have h := findAsk_trace k w (m :: ms) 0
      have hn : Instr.findNow (.struct (Try.prog.fieldsOf 116)) (encTr k) ((m :: ms).map (Ent.mk' encTr)) 0 = none := rfl
      simp only [Sem.run_bind, run_underlying hS, Result.andThen_ok, hn]
      exact h
  stays := fun k => by simp [Instr.sameBits, encTr]

end Go.Proofs.Ytcppnmogdmpdbaa
