/- No function starts a goroutine: then no call does, whatever its closure. -/
import GoSem.ClaimGoes
namespace Go.Proofs.YtnnppmcbgfadpaaGreatDoor
theorem goesFrom_of_none {P : Program} (h : P.funcs.any Func.goes = false) (f : String) : P.goesFrom f = false := by
  have hall : ∀ g : Nat, (P.funcs[g]?).any Func.goes = false := by
    intro g
    cases hg : P.funcs[g]? with
    | none => rfl
    | some fn =>
      cases hf : fn.goes with
      | false => simp [hf]
      | true =>
        have : P.funcs.any Func.goes = true := by rw [← Array.any_toList]; exact List.any_eq_true.2 ⟨fn, Array.mem_toList_iff.2 (Array.mem_of_getElem? hg), hf⟩
        rw [h] at this; cases this
  unfold Program.goesFrom
  cases P.funcNamed f with
  | none => rfl
  | some k =>
    show P.goes k = false
    unfold Program.goes
    rw [h, Bool.and_false, Bool.or_false]
    cases hc : ((P.closure k).any fun g => (P.funcs[g]?).any Func.goes) with
    | false => rfl
    | true =>
      simp only [hall] at hc
      simp at hc
end Go.Proofs.YtnnppmcbgfadpaaGreatDoor
