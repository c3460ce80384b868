/- Drawn regions: what an operation sees; what is read in whatever order. -/
import Derived.Test.YtnnppmcbgfadpaaGreatDoorSimT
namespace Go.Proofs.YtnnppmcbgfadpaaGreatDoor
open Go.RowKit
theorem setD_get (t : List Value) (d : Option Tmp) (v : Value) (s : Nat) : (setD t d v)[s]? = if d = some s ∧ s < t.length then some v else t[s]? := by
  cases d with
  | none => simp [setD]
  | some d =>
    simp only [setD, List.getElem?_set, Option.some.injEq]
    rcases Nat.lt_or_ge s t.length with h2 | h2
    · by_cases h : d = s
      · subst h; simp [h2]
      · simp [h]
    · have h3 : t[s]? = none := List.getElem?_eq_none h2
      have h4 : ¬ s < t.length := by omega
      by_cases h : d = s
      · subst h; simp [h3, h4]
      · simp [h]
theorem setD_length (t : List Value) (d : Option Tmp) (v : Value) : (setD t d v).length = t.length := by
  cases d <;> simp [setD]
def foldSeen (ops : List Oper) (vals : List (Nat × Value)) (l : List Nat) (t : List Value) : List Value :=
  l.foldl (fun t j => match ops[j]?, valOf vals j with | some x, some v => setD t x.dst v | _, _ => t) t
theorem foldSeen_length (ops : List Oper) (vals : List (Nat × Value)) : ∀ (l : List Nat) (t : List Value), (foldSeen ops vals l t).length = t.length := by
  intro l
  induction l with
  | nil => intro t; rfl
  | cons j l ih =>
    intro t
    show (foldSeen ops vals l _).length = _
    rw [ih]
    dsimp only
    split
    · exact setD_length _ _ _
    · rfl
theorem foldSeen_old {ops : List Oper} {vals : List (Nat × Value)} {s : Nat} : ∀ (l : List Nat) (t : List Value), (∀ j ∈ l, ∀ x, ops[j]? = some x → x.dst ≠ some s) → (foldSeen ops vals l t)[s]? = t[s]? := by
  intro l
  induction l with
  | nil => intro t _; rfl
  | cons j l ih =>
    intro t h
    show (foldSeen ops vals l _)[s]? = _
    rw [ih _ fun x hx => h x (by simp [hx])]
    dsimp only
    split
    · rename_i x v hx hv
      rw [setD_get, if_neg (fun hc => h j (by simp) x hx hc.1)]
    · rfl
theorem foldSeen_keep {ops : List Oper} {vals : List (Nat × Value)} {s : Nat} {v : Value} : ∀ (l : List Nat) (t : List Value), (∀ j ∈ l, ∀ x, ops[j]? = some x → x.dst = some s → valOf vals j = some v) → t[s]? = some v → (foldSeen ops vals l t)[s]? = some v := by
  intro l
  induction l with
  | nil => intro t _ h; exact h
  | cons j l ih =>
    intro t h ht
    show (foldSeen ops vals l _)[s]? = _
    refine ih _ (fun x hx => h x (by simp [hx])) ?_
    dsimp only
    split
    · rename_i x u hx hv
      rw [setD_get]
      split
      · rename_i hc
        have := h j (by simp) x hx hc.1
        rw [hv] at this; cases this; rfl
      · exact ht
    · exact ht
theorem foldSeen_new {ops : List Oper} {vals : List (Nat × Value)} {s : Nat} {v : Value} : ∀ (l : List Nat) (t : List Value), (∀ j ∈ l, ∀ x, ops[j]? = some x → x.dst = some s → valOf vals j = some v) → s < t.length →
    (∃ j ∈ l, ∃ x, ops[j]? = some x ∧ x.dst = some s) → (foldSeen ops vals l t)[s]? = some v := by
  intro l
  induction l with
  | nil => rintro t _ _ ⟨j, hj, _⟩; simp at hj
  | cons j l ih =>
    rintro t h hs ⟨j', hj', x, hx, hd⟩
    show (foldSeen ops vals l _)[s]? = _
    rcases List.mem_cons.1 hj' with e | hj'
    · subst e
      refine foldSeen_keep l _ (fun y hy => h y (by simp [hy])) ?_
      dsimp only
      rw [hx, h j' (by simp) x hx hd]
      simp only
      rw [setD_get, if_pos ⟨hd, hs⟩]
    · refine ih _ (fun y hy => h y (by simp [hy])) ?_ ⟨j', hj', x, hx, hd⟩
      dsimp only
      split
      · rw [setD_length]; exact hs
      · exact hs
section
variable {P : Program} {w0 : World} {ρ : Ren} {W w : World} {pw pw' : PW} {ops : List Oper} {plan : List (Option Nat × Nat × Nat)} {k : Nat} {vals : List (Nat × Value)} {tmps : List Value} {tm : Array Value} {listed : Array Bool}
/-- A slot that an operation looks at, when its turn has come. -/
theorem look_slot (h : DrawSt ρ ops plan k vals tmps tm listed) {i : Nat} {o : Oper} (ho : ops[i]? = some o) (hl : listed[i]? = some false) (hd : ∀ e ∈ depsP o, listed[e]? = some true) {t : Tmp} (ht : t ∈ looksP ops o) :
    VR ρ ((seenBy ops tmps vals o).getD t undef) (tm.getD t undef) := by
  have hundef : VR ρ undef undef := .tuple rfl fun i v v' hv => by simp at hv
  obtain ⟨p, _, _, _, h3, _⟩ := h.ok.get ho
  have hlook := List.all_eq_true.1 h3 t ht
  have hs : seenBy ops tmps vals o = foldSeen ops vals (depsP o) tmps := rfl
  rw [hs, List.getD_eq_getElem?_getD, Array.getD_eq_getD_getElem?]
  unfold lookOk at hlook
  by_cases hdep : ∃ j ∈ depsP o, ∃ x, ops[j]? = some x ∧ x.dst = some t
  · obtain ⟨j, hj, x, hx, hxd⟩ := hdep
    obtain ⟨v, hv, hv'⟩ := h.done j x hx (hd j hj)
    obtain ⟨v', h1, h2⟩ := hv' t hxd
    have hlt : t < tmps.length := h.ok.dst hx hxd
    rw [foldSeen_new (v := v) (depsP o) tmps (fun j' hj' x' hx' hd' => by
      have := h.ok.once hx' hx hd' hxd
      subst this; exact hv) hlt ⟨j, hj, x, hx, hxd⟩, h1]
    exact h2
  · have hno : ∀ j ∈ depsP o, ∀ x, ops[j]? = some x → x.dst ≠ some t := fun j hj x hx hxd => hdep ⟨j, hj, x, hx, hxd⟩
    rw [foldSeen_old (depsP o) tmps hno]
    rw [Bool.or_eq_true] at hlook
    rcases hlook with hlook | hlook
    · exfalso
      obtain ⟨j, hj, he⟩ := List.any_eq_true.1 hlook
      cases hx : ops[j]? with
      | none => rw [hx] at he; simp at he
      | some x => rw [hx] at he; simp only [Option.bind_some, beq_iff_eq] at he; exact hno j hj x hx he
    · have hold : ∀ (j : Nat) (x : Oper), ops[j]? = some x → listed[j]? = some true → x.dst ≠ some t := by
        intro j x hx hjl hxd
        have hjlt : j < ops.length := (List.getElem?_eq_some_iff.1 hx).1
        have := List.all_eq_true.1 hlook j (List.mem_range.2 hjlt)
        rw [hx] at this
        simp only [Bool.or_eq_true, bne_iff_ne, ne_eq, beq_iff_eq, List.contains_iff_mem] at this
        rcases this with (h1 | h1) | h1
        · exact h1 hxd
        · subst h1; rw [hl] at hjl; cases hjl
        · have := h.closed j x hx hjl i h1
          rw [hl] at this; cases this
      cases hv : tmps[t]? with
      | none =>
        have : tm[t]? = none := by
          rw [Array.getElem?_eq_none_iff, h.tsize]; exact List.getElem?_eq_none_iff.1 hv
        rw [this]; exact hundef
      | some v =>
        have hlt : t < tm.size := by rw [h.tsize]; exact (List.getElem?_eq_some_iff.1 hv).1
        rw [Array.getElem?_eq_getElem hlt]
        exact h.old t hold v _ hv (Array.getElem?_eq_getElem hlt)
theorem look_op {o : Oper} {t : Tmp} (h : Operand.tmp t ∈ o.op.operands.toList) : t ∈ looksP ops o :=
  List.mem_append.2 (.inl (List.mem_filterMap.2 ⟨_, h, rfl⟩))
theorem draw_env (h : DrawSt ρ ops plan k vals tmps tm listed) {i : Nat} {o : Oper} (ho : ops[i]? = some o) (hl : listed[i]? = some false) (hd : ∀ e ∈ depsP o, listed[e]? = some true) (df : List Deferred) :
    ∀ x ∈ o.op.operands.toList, okArg x = true → VR ρ (pev (seenBy ops tmps vals o) x) ((⟨tm, df⟩ : Act).eval x) := by
  intro x hx hok
  cases x with
  | tmp t => exact look_slot h ho hl hd (look_op hx)
  | const v => exact plain_VR ρ 3 v hok
  | func f => exact func_VR f
  | global g => cases hok
theorem draw_want (h : DrawSt ρ ops plan k vals tmps tm listed) {i : Nat} {o : Oper} (ho : ops[i]? = some o) (hl : listed[i]? = some false) (hd : ∀ e ∈ depsP o, listed[e]? = some true) :
    Region.wanted o (yielded ops.toArray tm) = pwanted ops (seenBy ops tmps vals o) o := by
  unfold Region.wanted pwanted yielded
  cases hg : o.guard with
  | none => rfl
  | some jb =>
    obtain ⟨j, b⟩ := jb
    simp only [List.getElem?_toArray]
    cases hx : (ops[j]?).bind (·.dst) with
    | none => simp
    | some t =>
      have hlk : t ∈ looksP ops o := by
        unfold looksP
        refine List.mem_append.2 (.inr ?_)
        rw [hg]; simp [hx]
      have := look_slot h ho hl hd hlk
      rw [Array.getD_eq_getD_getElem?] at this
      simp only [Option.bind_some]
      generalize (seenBy ops tmps vals o).getD t undef = u at this ⊢
      cases ht : tm[t]? with
      | none => rw [ht] at this; cases this <;> simp
      | some v' =>
        rw [ht] at this
        simp only [Option.getD_some] at this
        cases this <;> simp
end
section
variable {P : Program} {b : Frame} {a : Act} {k : List Item} {cs : List Frame} {w w' : World} {ops : Array Oper} {i : Nat} {rest : List Nat} {o : Oper}
theorem step_op_value {v : Value} (ho : ops[i]? = some o) (hw : Region.wanted o (yielded ops a.tmps) = true) (hnd : b.roundOf = none ∨ ∀ c, o.op ≠ .defer c) (hrun : (execOp a.eval o).run P w = .ok (.value v) w') :
    step P (lone (b.atR a (.inRegion ops (i :: rest) :: k)) cs w) = .next (lone (b.atR (a.put o.dst v) (.inRegion ops rest :: k)) cs w') := by
  have hsem : o.semAt b.roundOf a.eval = execOp a.eval o := by
    rcases hnd with h | h
    · rw [h]; exact Oper.semAt_none _ _
    · exact Oper.semAt_eq _ _ _ h
  have hfin : (b.atR a (.inRegion ops (i :: rest) :: k)).finish v = b.atR (a.put o.dst v) (.inRegion ops rest :: k) := by
    rw [Frame.finish_atR, ho]; rfl
  rw [← hfin]
  refine step_lone_go ?_
  rw [stepGR_op ho hw, hsem]
  simp [stepG.apply, Sem.runT_eq, hrun, GStep.bare_after]
theorem step_op_unit (ho : ops[i]? = some o) (hw : Region.wanted o (yielded ops a.tmps) = true) (hnd : b.roundOf = none ∨ ∀ c, o.op ≠ .defer c) (hrun : (execOp a.eval o).run P w = .ok .skip w') :
    step P (lone (b.atR a (.inRegion ops (i :: rest) :: k)) cs w) = .next (lone (b.atR (a.put o.dst undef) (.inRegion ops rest :: k)) cs w') := by
  have hsem : o.semAt b.roundOf a.eval = execOp a.eval o := by
    rcases hnd with h | h
    · rw [h]; exact Oper.semAt_none _ _
    · exact Oper.semAt_eq _ _ _ h
  have hfin : (b.atR a (.inRegion ops (i :: rest) :: k)).finish undef = b.atR (a.put o.dst undef) (.inRegion ops rest :: k) := by
    rw [Frame.finish_atR, ho]; rfl
  rw [← hfin]
  refine step_lone_go ?_
  rw [stepGR_op ho hw, hsem]
  simp [stepG.apply, Sem.runT_eq, hrun, GStep.bare_after]
theorem step_op_enter {f : FuncId} {args : Array Value} (ho : ops[i]? = some o) (hw : Region.wanted o (yielded ops a.tmps) = true) (hnd : b.roundOf = none ∨ ∀ c, o.op ≠ .defer c) (hrun : (execOp a.eval o).run P w = .ok (.enter f args) w') :
    step P (lone (b.atR a (.inRegion ops (i :: rest) :: k)) cs w) = .next (lone (Frame.enter P f args .normal) (b.atR a (.inRegion ops (i :: rest) :: k) :: cs) w') := by
  have hsem : o.semAt b.roundOf a.eval = execOp a.eval o := by
    rcases hnd with h | h
    · rw [h]; exact Oper.semAt_none _ _
    · exact Oper.semAt_eq _ _ _ h
  refine step_lone_go ?_
  rw [stepGR_op ho hw, hsem]
  simp [stepG.apply, Sem.runT_eq, hrun, GStep.bare_after, Frame.atR]
theorem step_op_round {l : Nat} {f : FuncId} {tmps : Array Value} {assign body : Code} (ho : ops[i]? = some o) (hw : Region.wanted o (yielded ops a.tmps) = true) (hnd : b.roundOf = none ∨ ∀ c, o.op ≠ .defer c) (hrun : (execOp a.eval o).run P w = .ok (.round l f tmps assign body) w') :
    step P (lone (b.atR a (.inRegion ops (i :: rest) :: k)) cs w) = .next (lone (Frame.round l f tmps assign body .normal) (b.atR a (.inRegion ops (i :: rest) :: k) :: cs) w') := by
  have hsem : o.semAt b.roundOf a.eval = execOp a.eval o := by
    rcases hnd with h | h
    · rw [h]; exact Oper.semAt_none _ _
    · exact Oper.semAt_eq _ _ _ h
  refine step_lone_go ?_
  rw [stepGR_op ho hw, hsem]
  simp [stepG.apply, Sem.runT_eq, hrun, GStep.bare_after]
theorem step_op_defer {d : Deferred} (ho : ops[i]? = some o) (hw : Region.wanted o (yielded ops a.tmps) = true) (hnd : b.roundOf = none) (hrun : (execOp a.eval o).run P w = .ok (.defer d) w') :
    step P (lone (b.atR a (.inRegion ops (i :: rest) :: k)) cs w) = .next (lone (b.atR ({ a with defers := d :: a.defers }.put o.dst undef) (.inRegion ops rest :: k)) cs w') := by
  have hsem : o.semAt b.roundOf a.eval = execOp a.eval o := by rw [hnd]; exact Oper.semAt_none _ _
  have hfin : (b.atR { a with defers := d :: a.defers } (.inRegion ops (i :: rest) :: k)).finish undef = b.atR ({ a with defers := d :: a.defers }.put o.dst undef) (.inRegion ops rest :: k) := by
    rw [Frame.finish_atR, ho]; rfl
  rw [← hfin]
  refine step_lone_go ?_
  rw [stepGR_op ho hw, hsem]
  simp [stepG.apply, Sem.runT_eq, hrun, GStep.bare_after, Frame.atR]
theorem step_op_recover {c : Frame} (ho : ops[i]? = some o) (hw : Region.wanted o (yielded ops a.tmps) = true) (hnd : b.roundOf = none) (hk : b.kind = .deferred) (hc : c.mode = .returning ∨ c.mode = .run) (hrun : (execOp a.eval o).run P w = .ok .recover w') :
    step P (lone (b.atR a (.inRegion ops (i :: rest) :: k)) (c :: cs) w) = .next (lone (b.atR (a.put o.dst .nilIface) (.inRegion ops rest :: k)) (c :: cs) w') := by
  have hsem : o.semAt b.roundOf a.eval = execOp a.eval o := by rw [hnd]; exact Oper.semAt_none _ _
  have hfin : (b.atR a (.inRegion ops (i :: rest) :: k)).finish .nilIface = b.atR (a.put o.dst .nilIface) (.inRegion ops rest :: k) := by
    rw [Frame.finish_atR, ho]; rfl
  rw [← hfin]
  refine step_lone_go ?_
  rw [stepGR_op ho hw, hsem]
  have htr : tryRecover (b.atR a (.inRegion ops (i :: rest) :: k)) (c :: cs) = none := by
    rcases hc with hc | hc <;> simp [tryRecover, Frame.atR, hk, hc]
  have hro : (b.atR a (.inRegion ops (i :: rest) :: k)).roundOf = none := hnd
  simp [stepG.apply, Sem.runT_eq, hrun, GStep.bare_after, htr, hro]
end
end Go.Proofs.YtnnppmcbgfadpaaGreatDoor
