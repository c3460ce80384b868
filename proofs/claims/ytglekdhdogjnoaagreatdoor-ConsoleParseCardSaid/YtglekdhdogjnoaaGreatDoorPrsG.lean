/- The program's Parse. -/
import Derived.Test.YtglekdhdogjnoaaGreatDoorPrsF
import Derived.Test.YtglekdhdogjnoaaGreatDoorPrgK
import Derived.Test.YtglekdhdogjnoaaGreatDoorParseLawC
import Derived.Maps.RangeRun
namespace Go.Proofs.YtglekdhdogjnoaaGreatDoor
open Go.RowKit
open Go.ChangeMaps (setBlock)
set_option linter.unusedSimpArgs false
theorem wS_range {P : Program} {Q : Env → World → Prop} {rest : List SOp} {σ : Env} {w w' : World} {d : Tmp} {x : Operand} {T ty : TypeId} {p : String} {af : Array Edge} {gd : Option (Nat × Bool)} {v' : Value} (vx : Value)
    (hx : evalS σ x = vx) (hrun : (Instr.range T vx).run P w = .ok v' w') (k : wS P Q rest (upd σ d v') w') :
    wS P Q (⟨⟨some d, .range T x, ty, p, af, gd⟩, none⟩ :: rest) σ w := by
  refine wS_step (fun K hK => ?_)
  simp [execOp, hx, hrun, Result.andThen, stepS]
  exact hK.out _ _ k
theorem wS_next {P : Program} {Q : Env → World → Prop} {rest : List SOp} {σ : Env} {w w' : World} {d : Tmp} {x : Operand} {ty : TypeId} {b : Bool} {p : String} {af : Array Edge} {gd : Option (Nat × Bool)} {v' : Value} (vx : Value)
    (hx : evalS σ x = vx) (hrun : (Instr.next vx b ty).run P w = .ok v' w') (k : wS P Q rest (upd σ d v') w') :
    wS P Q (⟨⟨some d, .next x b, ty, p, af, gd⟩, none⟩ :: rest) σ w := by
  refine wS_step (fun K hK => ?_)
  simp [execOp, hx, hrun, Result.andThen, stepS]
  exact hK.out _ _ k
theorem endE_ct {P : Program} {n : Nat} {σ : Env} {w : World} {fn : Func} {R : Ending → World → Prop} {t u : Tmp} {ty : TypeId} {p : Addr} {v : Value} (h : fn.results = #[.cell t ty, .tmp u]) (hp : σ t = .pointer (some p)) (hl : (loadVar ty p).run P w = .ok v w) (hR : R (.returned (.tuple #[v, σ u])) w) : endE P n fn R .ret σ w := by
  intro a ha
  refine ⟨.tuple #[v, σ u], ?_, hR⟩
  have e : a.tmps.getD t undef = .pointer (some p) := (congrFun ha.get t).trans hp
  have e' : a.tmps[t]?.getD undef = .pointer (some p) := by rw [← e, Array.getD_eq_getD_getElem?]
  have f : a.tmps.getD u undef = σ u := congrFun ha.get u
  have f' : a.tmps[u]?.getD undef = σ u := by rw [← f, Array.getD_eq_getD_getElem?]
  simp [results, h, e, e', f, f', asAddr, Result.andThen, Sem.run_bind, hl]
theorem below_it {w w1 : World} (r : Nat) (o : Obj) (h : w1 = w ∨ w1 = w.drew) : Below r w (setBlock w1 r o) := by
  rcases h with rfl | rfl
  · exact ⟨rfl, rfl, rfl, by simp [setBlock], fun k hk => by simp only [setBlock]; rw [Array.getElem?_setIfInBounds_ne (by omega)]⟩
  · have g := Grow.drew w
    exact ⟨rfl, rfl, rfl, by show w.heap.size ≤ (w.heap.setIfInBounds r o).size; simp, fun k hk => by show (w.heap.setIfInBounds r o)[k]? = _; rw [Array.getElem?_setIfInBounds_ne (by omega)]⟩
theorem read_cases (k : Int) (hk : 1 ≤ k ∧ k ≤ 8) : ∃ f g, formV (S (wordL k)) f g = (formOf k).1 ∧ ReadsA g k ∧ ∀ args w, (callFunc g args).run Tryz.prog w = .ok (.enter g args) w := by
  have h : k = 1 ∨ k = 2 ∨ k = 3 ∨ k = 4 ∨ k = 5 ∨ k = 6 ∨ k = 7 ∨ k = 8 := by omega
  rcases h with rfl | rfl | rfl | rfl | rfl | rfl | rfl | rfl
  · exact ⟨28, 32, rfl, read_submit, fun _ _ => by simp [go_sem]⟩
  · exact ⟨65, 66, rfl, read_person 2 (by omega), fun _ _ => by simp [go_sem]⟩
  · exact ⟨36, 37, rfl, read_tick, fun _ _ => by simp [go_sem]⟩
  · exact ⟨38, 40, rfl, read_cut, fun _ _ => by simp [go_sem]⟩
  · exact ⟨67, 68, rfl, read_count 5 (by omega), fun _ _ => by simp [go_sem]⟩
  · exact ⟨43, 44, rfl, read_worker, fun _ _ => by simp [go_sem]⟩
  · exact ⟨65, 66, rfl, read_person 7 (by omega), fun _ _ => by simp [go_sem]⟩
  · exact ⟨67, 68, rfl, read_count 8 (by omega), fun _ _ => by simp [go_sem]⟩
theorem mem_forms {e : MapEntry} (h : e ∈ formsE.toList) : ∃ k : Int, (1 ≤ k ∧ k ≤ 8) ∧ e.key = .int .i64 k ∧ e.val = (formOf k).1 ∧ (e.born : Int) = k - 1 := by
  simp only [formsE, List.mem_cons, List.not_mem_nil, or_false] at h
  rcases h with rfl | rfl | rfl | rfl | rfl | rfl | rfl | rfl
  · exact ⟨1, ⟨by omega, by omega⟩, rfl, rfl, by simp⟩
  · exact ⟨2, ⟨by omega, by omega⟩, rfl, rfl, by simp⟩
  · exact ⟨3, ⟨by omega, by omega⟩, rfl, rfl, by simp⟩
  · exact ⟨4, ⟨by omega, by omega⟩, rfl, rfl, by simp⟩
  · exact ⟨5, ⟨by omega, by omega⟩, rfl, rfl, by simp⟩
  · exact ⟨6, ⟨by omega, by omega⟩, rfl, rfl, by simp⟩
  · exact ⟨7, ⟨by omega, by omega⟩, rfl, rfl, by simp⟩
  · exact ⟨8, ⟨by omega, by omega⟩, rfl, rfl, by simp⟩
theorem forms_born : (∀ x ∈ formsE.toList, x.born < 8) ∧ (formsE.toList.map (·.born)).Nodup := by
  constructor
  · intro x hx
    obtain ⟨k, hk, -, -, hb⟩ := mem_forms hx
    omega
  · simp [formsE]
/-- An entry that is not seen is left. -/
theorem left_none {seen : Array Nat} (h : (leftOf formsE seen).size = 0) (k : Int) (hk : 1 ≤ k ∧ k ≤ 8) : (k - 1).toNat ∈ seen := by
  have h' : leftOf formsE seen = #[] := Array.eq_empty_of_size_eq_zero h
  unfold leftOf at h'
  rw [Array.filter_eq_empty_iff] at h'
  have hc : k = 1 ∨ k = 2 ∨ k = 3 ∨ k = 4 ∨ k = 5 ∨ k = 6 ∨ k = 7 ∨ k = 8 := by omega
  have hm : ∃ e ∈ formsE, e.born = (k - 1).toNat := by
    rcases hc with rfl | rfl | rfl | rfl | rfl | rfl | rfl | rfl <;> simp [formsE]
  obtain ⟨e, he, hb⟩ := hm
  have := h' e he
  rw [← hb]
  simpa using this
theorem left_less {seen : Array Nat} {e : MapEntry} (h : e ∈ (leftOf formsE seen).toList) : e ∈ formsE.toList ∧ (leftOf formsE (seen.push e.born)).size < (leftOf formsE seen).size := by
  have h' : e ∈ leftOf formsE seen := by simpa using h
  unfold leftOf at h' ⊢
  rw [Array.mem_filter] at h'
  refine ⟨by simpa using h'.1, ?_⟩
  have e1 : (formsE.filter fun x => !(seen.push e.born).contains x.born) = (formsE.filter fun x => !seen.contains x.born).filter fun x => x.born != e.born := by
    rw [Array.filter_filter]
    congr 1
    funext x
    simp [Array.contains_push, bne]
    cases h1 : decide (x.born = e.born) <;> cases h2 : decide (x.born ∈ seen) <;> simp_all
  rw [e1]
  exact Array.size_filter_lt_size_iff_exists.2 ⟨e, by rw [Array.mem_filter]; exact h', by simp⟩
end Go.Proofs.YtglekdhdogjnoaaGreatDoor
