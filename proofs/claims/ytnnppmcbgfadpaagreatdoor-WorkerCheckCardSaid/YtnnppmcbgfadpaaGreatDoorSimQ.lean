/- Each operation of the pattern stands for the operation in a world that fits. -/
import Derived.Test.YtnnppmcbgfadpaaGreatDoorSimP
namespace Go.Proofs.YtnnppmcbgfadpaaGreatDoor
open Go.RowKit
/-- What the program's own text must show, once. -/
structure Facts (P : Program) : Prop where
  esc : ∀ (g : FuncId) (fn : Func) (x : Value) (w : World), P.funcs[g]? = some fn → fn.body = none → fn.name = "internal/abi.NoEscape" → (callFunc g #[x]).run P w = .ok (.value x) w
  num : ∀ (g : FuncId) (fn : Func) (c : Code), P.funcs[g]? = some fn → fn.body = some c → fn.name ≠ "runtime.NumGoroutine"
section
variable {P : Program} {w0 : World} {q : Bool} {ρ : Ren} {W w : World} {pw pw' : PW}
theorem callFunc_run (hF : Facts P) {g : FuncId} {fn : Func} {c : Code} (hf : P.funcs[g]? = some fn) (hb : fn.body = some c) (args : Array Value) (w : World) : (callFunc g args).run P w = .ok (.enter g args) w := by
  have hn := hF.num g fn c hf hb
  unfold callFunc
  rw [Sem.run_bind]
  show (match P.funcs[g]? with | none => _ | some fn => _ : Sem Next).run P w = _
  rw [hf]
  simp only [beq_iff_eq, hn, if_false, hb, Option.isNone_some, Bool.false_eq_true]
  rfl
theorem plain3_all {cs cs' : Array Value} (h : AR ρ cs cs') (hp : cs.toList.all (plainV 3) = true) : cs' = cs := by
  apply Array.ext
  · exact h.size.symm
  · intro i h1 h2
    exact plain_eq 3 _ _ (List.all_eq_true.1 hp cs[i] (by simp)) (h.get i cs[i] cs'[i] (Array.getElem?_eq_getElem h2) (Array.getElem?_eq_getElem h1))
theorem AR_one {a : Value} {args' : Array Value} (h : AR ρ #[a] args') : ∃ a', args' = #[a'] ∧ VR ρ a a' := by
  obtain ⟨l⟩ := args'
  have hs := h.size
  match l, hs with
  | [a'], _ => exact ⟨a', rfl, h.get 0 a a' rfl rfl⟩
theorem AR_tail {x x' : Value} {l l' : List Value} (h : AR ρ (x :: l).toArray (x' :: l').toArray) : AR ρ l.toArray l'.toArray :=
  ⟨by simpa using h.size, fun i v v' a b => h.get (i + 1) v v' (by simpa using a) (by simpa using b)⟩
theorem fold_zip : ∀ (ps : List Tmp) (l l' : List Value) (t t' : Array Value), AR ρ l.toArray l'.toArray → AR ρ t t' →
    AR ρ ((ps.zip l).foldl (fun tmps (x : Tmp × Value) => tmps.setIfInBounds x.1 x.2) t) ((ps.zip l').foldl (fun tmps (x : Tmp × Value) => tmps.setIfInBounds x.1 x.2) t')
  | [], _, _, _, _, _, h => h
  | p :: ps, [], l', t, t', hl, h => by
    have : l' = [] := by have := hl.size; simpa using this.symm
    subst this; exact h
  | p :: ps, x :: l, [], t, t', hl, h => by have := hl.size; simp at this
  | p :: ps, x :: l, x' :: l', t, t', hl, h => by
    simp only [List.zip_cons_cons, List.foldl_cons]
    exact fold_zip ps l l' _ _ (AR_tail hl) (h.set p (hl.get 0 x x' rfl rfl))
/-- The records of loops. -/
structure LR (ρ : Ren) (l l' : Loop) : Prop where
  state : l.state = l'.state
  pending : l.pending = l'.pending
  fn : l.fn = l'.fn
  tmps : AR ρ l.tmps l'.tmps
  params : l.params = l'.params
  assign : l.assign = l'.assign
  body : l.body = l'.body
  defers : ∃ D, ρ l.defers = some D ∧ l'.defers = D.blk
theorem sim_getLoop {l : Nat} {L : Loc} (hL : ρ l = some L) : Sim P w0 q ρ LR (Instr.getLoop l) (Instr.getLoop L.blk) := by
  unfold Instr.getLoop
  refine sim_bind (sim_getObj hL) fun ρ1 o o' hle ho => ?_
  cases ho with
  | loop h1 h2 h3 h4 h5 h6 h7 h8 h9 => exact sim_pure fun ρ2 hle2 => ⟨h1, h2, h3, h4.mono hle2, h5, h6, h7, _, hle2 _ _ h8, h9⟩
  | _ => exact sim_halt
theorem sim_yield {l : Nat} {L : Loc} (hL : ρ l = some L) {args args' : Array Value} (ha : AR ρ args args') : Sim P w0 q ρ NR (Instr.yield l args) (Instr.yield L.blk args') := by
  unfold Instr.yield
  refine sim_bind (sim_getLoop hL) fun ρ1 r r' hle hr => ?_
  rw [ha.size, hr.params, hr.fn, hr.assign, hr.body]
  split
  · exact sim_halt
  · refine sim_pure fun ρ2 hle2 => .round (hle2 _ _ (hle _ _ hL)) _ ?_ _ _
    rw [← Array.foldl_toList, ← Array.foldl_toList, Array.toList_zip, Array.toList_zip]
    exact fold_zip _ _ _ _ _ (by simpa using ha.mono (Ren.le_trans hle hle2)) (hr.tmps.mono hle2)
theorem pcall_rel (hF : Facts P) {f f' : Value} {args args' : Array Value} {nx : Next} (hf : VR ρ f f') (ha : AR ρ args args') (h : pcall P f args pw = some (nx, pw')) (hrel : Rel pw W) (hr : HR P w0 ρ W w) :
    Good P w0 ρ false nx pw' w (do let d ← Deferred.ofValue f' args'; invoke d.target d.args) := by
  unfold pcall at h
  split at h
  · rename_i g first cap
    cases hf with
    | func _ hy h1 h2 h3 h4 =>
      rename_i first' cap'
      have hall : AR ρ (first ++ args ++ cap) (first' ++ args' ++ cap') := ((⟨h1, h3⟩ : AR ρ first first').append ha).append ⟨h2, h4⟩
      show Good P w0 ρ false nx pw' w (callFunc g (first' ++ args' ++ cap'))
      split at h
      · rename_i fn hfn
        split at h
        · rename_i c hb
          cases h
          exact ⟨ρ, _, w, W, Ren.le_refl _, callFunc_run hF hfn hb _ w, .enter g hall, hrel, hr, fun h => by cases h⟩
        · rename_i hb
          split at h
          · rename_i hp
            split at h
            · rename_i v hq
              split at h
              · rename_i hpv
                cases h
                rw [plain3_all hall hp]
                exact good_same (v' := v) (quick_run _ _ hq w) (plain_refl hpv ρ) hrel hr
              · cases h
            · cases h
          · split at h
            · rename_i hn
              split at h
              · rename_i x hx
                cases h
                have e : first ++ args ++ cap = #[x] := by rw [← hx]
                rw [e] at hall
                obtain ⟨x', e', hx'⟩ := AR_one hall
                rw [e']
                exact good_same (v' := x') (hF.esc g fn x' w hfn hb hn) hx' hrel hr
              · cases h
            · cases h
      · cases h
  · rename_i l a c
    cases hf with
    | func _ hy h1 h2 h3 h4 => exact (hy l rfl).elim
    | yield hL =>
      have : Good P w0 ρ false nx pw' w (Instr.yield _ args') := good_sim (sim_yield hL ha) h hrel hr
      have e : ∀ L : Nat, (do let d ← Deferred.ofValue (.func (.yield L) #[] #[]) args'; invoke d.target d.args : Sem Next) = Instr.yield L (#[] ++ args') := fun _ => rfl
      rw [e, Array.empty_append]
      exact this
  · cases h
theorem zeroOk_of {t : TypeId} (h : zeroOkB P t = true) : ZeroPlain P t := by
  intro i v hi hv
  unfold zeroOkB at h
  rw [hi] at h
  simp only [hv] at h
  exact h
theorem elemZero_of {t : TypeId} (h : elemRoomB P t = true) : ∀ e, (∀ w, (underlying t).run P w = .ok (.slice e) w) → ZeroPlain P e := by
  intro e he
  unfold elemRoomB at h
  split at h
  · rename_i e' hu
    have h3 := he default
    rw [run_underlying hu] at h3
    cases h3
    split at h
    · simp only [Bool.and_eq_true] at h
      exact zeroOk_of h.2
    · cases h
  · cases h
theorem mapZero_of {t : TypeId} (h : keyOkB P t = true) : ∀ kt et, (∀ w, (underlying t).run P w = .ok (.map kt et) w) → ZeroPlain P et := by
  intro kt et he
  unfold keyOkB at h
  split at h
  · rename_i kt' et' hu
    have h3 := he default
    rw [run_underlying hu] at h3
    cases h3
    split at h
    · exact zeroOk_of h
    · exact zeroOk_of h
    · cases h
  · cases h
theorem elemRoom_of {t : TypeId} (h : elemRoomB P t = true) : ElemRoom P t := by
  unfold elemRoomB at h
  split at h
  · rename_i e hu
    split at h
    · rename_i i hi
      intro e' n h1 h2
      have h3 := h1 default
      rw [run_underlying hu] at h3
      cases h3
      have h4 := h2 default
      rw [run_sizeOf hi] at h4
      cases h4
      simp only [Bool.and_eq_true] at h
      simpa using h.1
    · cases h
  · cases h
theorem fieldRoom_of {t : TypeId} {i : Nat} (h : fieldRoomB P t i = true) : FieldRoom P t i := by
  unfold fieldRoomB at h
  split at h
  · rename_i fs hu
    split at h
    · rename_i f hf
      split at h
      · rename_i i hi
        intro fs' f' n h1 h2 h3
        have h4 := h1 default
        rw [run_underlying hu] at h4
        cases h4
        rw [hf] at h2; cases h2
        have h5 := h3 default
        rw [run_sizeOf hi] at h5
        cases h5
        simpa using h
      · cases h
    · cases h
  · cases h
theorem keyOk_of {t : TypeId} (h : keyOkB P t = true) : KeyOk P t := by
  unfold keyOkB at h
  split at h
  · rename_i kt et hu
    intro kt' et' h1
    have h4 := h1 default
    rw [run_underlying hu] at h4
    cases h4
    split at h
    · rename_i hk; exact ⟨_, run_underlying hk, .inl rfl⟩
    · rename_i k hk; exact ⟨_, run_underlying hk, .inr ⟨k, rfl⟩⟩
    · cases h
  · cases h
theorem sizeFits_of {t : TypeId} {v : Value} (h : sizeFitsB P t v pw = true) (hrel : Rel pw W) (hr : HR P w0 ρ W w) : SizeFits P ρ t v ∧ ∀ a, v ≠ .pointer a := by
  unfold sizeFitsB at h
  split at h
  · exact ⟨(fun b o n c L e z hv => by cases hv), (fun a ha => by cases ha)⟩
  · rename_i a n c
    refine ⟨?_, fun a ha => by cases ha⟩
    intro b o n' c' L e z hv hL h1 h2
    cases hv
    split at h
    · rename_i cs e0 lo hi e' hg hu
      simp only [Bool.and_eq_true, decide_eq_true_eq] at h
      obtain ⟨hle, h⟩ := h
      split at h
      · rename_i i j hi' hj
        have h3 := h1 default
        rw [run_underlying hu] at h3
        cases h3
        have h4 := h2 default
        rw [run_sizeOf hj] at h4
        cases h4
        have hw : W.heap[b]? = some (.cells cs e0 (lo, hi)) := by rw [hrel.get, hg]
        obtain ⟨o', ho', hor⟩ := hr.get hw (by simpa [liveO] using hle) hL
        cases hor with
        | cells g1 g2 g3 g4 g5 g6 g7 =>
          rw [← g4 i hi']
          simpa using Eq.symm (by simpa using h)
      · cases h
    · cases h
  · exact ⟨(fun b o n c L e z hv => by cases hv), (fun a ha => by cases ha)⟩
  · cases h
end
end Go.Proofs.YtnnppmcbgfadpaaGreatDoor
