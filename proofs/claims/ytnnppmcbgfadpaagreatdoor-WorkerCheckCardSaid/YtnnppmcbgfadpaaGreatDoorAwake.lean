/- The anchor of WorkerCheck: in each world awake() returns true and leaves what was there as it was. -/
import Derived.KernelRfl
import Derived.Test.YtnnppmcbgfadpaaGreatDoorProg
import Derived.Test.YtnnppmcbgfadpaaGreatDoorSimZ
namespace Go.Proofs.YtnnppmcbgfadpaaGreatDoor
open Go.RowKit
def runEnds (P : Program) (n : Nat) (f : FuncId) (v : Value) : Bool := match penter P f #[] .normal with
  | some pf => match prun P n ⟨pf, [], ⟨0, .e⟩⟩ with
    | some c => endsWith P c f v
    | none => false
  | none => false
theorem runEnds_calls {P : Program} (hF : Facts P) (hmix : P.follows .mixedOrders = true) {n : Nat} {f : FuncId} {v : Value} (h : runEnds P n f v = true) (w : World) : Calls P f #[] w fun e w' => e = .returned v ∧ Below w.heap.size w w' := by
  unfold runEnds at h
  split at h
  · rename_i pf hp
    split at h
    · rename_i c hc
      exact closed_call hF hmix hp hc h w
    · cases h
  · cases h
def namesOk (P : Program) (k : Nat) : Bool := P.funcs.toList.zipIdx.all fun x => (x.1.body.isNone || x.1.name != "runtime.NumGoroutine") && (x.1.name != "internal/abi.NoEscape" || x.2 == k)
theorem factsOf {P : Program} {k : Nat} {fk : Func} (h : namesOk P k = true) (hk : P.funcs[k]? = some fk) (h1 : (fk.name == "runtime.NumGoroutine") = false) (h2 : fk.body = none) (h3 : (Extern.findNext fk).isNone = true) (h4 : Extern.find fk = some Extern.AbiNoEscape.same) : Facts P := by
  have hall : ∀ (g : Nat) (fn : Func), P.funcs[g]? = some fn → (fn.body.isNone || fn.name != "runtime.NumGoroutine") = true ∧ (fn.name != "internal/abi.NoEscape" || g == k) = true := by
    intro g fn hg
    have hm : (fn, g) ∈ P.funcs.toList.zipIdx := by
      rw [List.mem_zipIdx_iff_getElem?]
      simpa using hg
    have := List.all_eq_true.1 h _ hm
    simpa only [Bool.and_eq_true] using this
  refine ⟨?_, ?_⟩
  · intro g fn x w hg hb hn
    have := (hall g fn hg).2
    simp only [hn, bne_self_eq_false, Bool.false_or, beq_iff_eq] at this
    subst this
    rw [hk] at hg; cases hg
    unfold callFunc
    rw [Sem.run_bind]
    show (match P.funcs[g]? with | none => _ | some fn => _ : Sem Next).run P w = _
    rw [hk]
    simp only [h1, Bool.false_eq_true, if_false, h2, Option.isNone_none, if_true]
    rw [Option.isNone_iff_eq_none] at h3
    rw [h3, h4]
    rfl
  · intro g fn c hg hb hn
    have := (hall g fn hg).1
    rw [hb, hn] at this
    simp at this
theorem facts : Facts Tryz.prog := factsOf (k := 78) (fk := Tryz.f78) (by kernel_rfl) Tryz.func78 (by kernel_rfl) (by kernel_rfl) (by kernel_rfl) (by kernel_rfl)
theorem mixed : Tryz.prog.follows .mixedOrders = true := by kernel_rfl
end Go.Proofs.YtnnppmcbgfadpaaGreatDoor
