/- A run of the pattern in which some calls are not entered: what they return is asked for. -/
import Derived.Test.YtnnppmcbgfadpaaGreatDoorSimZ
namespace Go.Proofs.YtnnppmcbgfadpaaGreatDoor
open Go.RowKit
structure Ask where
  f : FuncId
  args : Array Value
  v : Value
/-- The call answers so, in each world. -/
def Ask.ok (P : Program) (a : Ask) : Prop := ∀ w, Calls P a.f a.args w fun e w' => e = .returned a.v ∧ Below w.heap.size w w'
def oplain (P : Program) (c : PC) : Option (PC × List Ask) := (pstep P c).map fun c => (c, [])
def oasked (P : Program) (c : PC) (f : FuncId) (args : Array Value) (v : Value) (w : PW) : Option (PC × List Ask) :=
  if args.toList.all (plainV 3) && plainV 3 v then
    match pfinish P c.fr v w with
    | some fr => some (⟨fr, c.cs, w⟩, [⟨f, args, v⟩])
    | none => none
  else none
def ostep (P : Program) (K : FuncId → Option Value) (c : PC) : Option (PC × List Ask) :=
  if c.fr.ret then oplain P c else
  match c.fr.todo with
  | .inRegion ops (o :: _) :: _ =>
    if pwanted ops.toList c.fr.tmps o then
      match pexec P (pev c.fr.tmps) o c.w with
      | some (.enter f args, w) => match K f with
        | some v => oasked P c f args v w
        | none => oplain P c
      | _ => oplain P c
    else oplain P c
  | _ => oplain P c
def orun (P : Program) (K : FuncId → Option Value) : Nat → PC → List Ask → Option (PC × List Ask)
  | 0, c, l => some (c, l)
  | n + 1, c, l => match ostep P K c with
    | some (c', []) => orun P K n c' l
    | some (c', a :: l') => orun P K n c' (l ++ a :: l')
    | none => none
section
variable {P : Program} {w0 : World} {ρ : Ren} {W w w1 : World} {pw pw' : PW}
theorem HR.grown (h : HR P w0 ρ W w) (k : Below w.heap.size w w1) : HR P w0 ρ W w1 := by
  refine ⟨fun b L e => ⟨(h.dom b L e).1, Nat.lt_of_lt_of_le (h.dom b L e).2 k.size⟩, fun b o e l => ?_, h.inj, h.own, h.kind, ?_, h.off0⟩
  · obtain ⟨L, o', x1, x2, x3⟩ := h.obj b o e l
    exact ⟨L, o', x1, by rw [k.block _ (h.dom b L x1).2]; exact x2, x3⟩
  · exact h.below.trans ⟨k.os, k.tape, k.output, k.size, fun i hi => k.block i (Nat.lt_of_lt_of_le hi h.below.size)⟩
/-- Where the pattern leads, the machine comes, above these frames. -/
def GoesB (P : Program) (w0 : World) (base : List Frame) (ρ : Ren) (c' : PC) (fr : Frame) (cs : List Frame) (w : World) : Prop :=
  ∃ ρ' fr' cs' w', ρ.le ρ' ∧ Steps P (lone fr (cs ++ base) w) (lone fr' (cs' ++ base) w') ∧ CR P w0 ρ' c' fr' cs' w'
theorem Goes.at {c' : PC} {fr : Frame} {cs : List Frame} (h : Goes P w0 ρ c' fr cs w) (base : List Frame) : GoesB P w0 base ρ c' fr cs w := by
  obtain ⟨ρ', fr', cs', w', a, b, c⟩ := h
  exact ⟨ρ', fr', cs', w', a, b base, c⟩
theorem oasked_rel {c c' : PC} {l : List Ask} {b : Frame} {tm : Array Value} {df : List Deferred} {ops : Array Oper} {i : Nat} {rest : List Nat} {items : List Item} {cs : List Frame} {o : Oper} {p : Bool} {f : FuncId} {args : Array Value} {v : Value} (base : List Frame)
    (hb : FB ρ c.fr b) (hret : c.fr.ret = false) (ht : BodyW ρ c.fr.tmps c.fr.todo tm (.inRegion ops (i :: rest) :: items)) (hd : DsR ρ c.fr.defers df) (hcs : FRs ρ c.cs cs) (ho : ops[i]? = some o) (hw : Region.wanted o (yielded ops tm) = true)
    (hg : Good P w0 ρ p (.enter f args) pw' w (execOp (⟨tm, df⟩ : Act).eval o)) (h : oasked P c f args v pw' = some (c', l)) (hl : ∀ a ∈ l, a.ok P) : GoesB P w0 base ρ c' (b.atR ⟨tm, df⟩ (.inRegion ops (i :: rest) :: items)) cs w := by
  obtain ⟨ρ', nx', w', W', hle, hrun, hnr, hrel', hr', _⟩ := hg
  have hfr : FRw ρ' c.fr (b.atR ⟨tm, df⟩ (.inRegion ops (i :: rest) :: items)) := .run (hb.mono hle) hret (ht.mono hle) (hd.mono hle)
  cases hnr with
  | enter _ ha =>
    unfold oasked at h
    split at h
    · rename_i hpl
      rw [Bool.and_eq_true] at hpl
      split at h
      · rename_i fr' hf
        cases h
        have he := plain3_all ha hpl.1
        subst he
        have hnd : ∀ c, o.op ≠ .defer c := by
          intro c hc
          obtain ⟨d, hd⟩ := execOp_defer hc hrun
          cases hd
        obtain ⟨e, w2, fr2, ⟨rfl, hbel⟩, hcomes, hfn, hleave⟩ := hl _ (List.mem_singleton.2 rfl) w' (b.atR ⟨tm, df⟩ (.inRegion ops (i :: rest) :: items) :: (cs ++ base))
        have hcomes' : Steps P _ _ := hcomes
        refine ⟨ρ', (b.atR ⟨tm, df⟩ (.inRegion ops (i :: rest) :: items)).finish v, cs, w2, hle, ?_, ?_, hcs.mono hle, W', hrel', hr'.grown hbel⟩
        · refine (Steps.one (step_op_enter ho hw (.inr hnd) hrun)).trans ?_
          exact hcomes'.trans (.one (step_leave_returned hleave))
        · exact finish_rel hfr (plain_VR ρ' 3 v hpl.2) hf
      · cases h
    · cases h
theorem oplain_rel (hF : Facts P) (hmix : P.follows .mixedOrders = true) {c c' : PC} {l : List Ask} {fr : Frame} {cs : List Frame} (base : List Frame) (hcr : CR P w0 ρ c fr cs w) (h : oplain P c = some (c', l)) : GoesB P w0 base ρ c' fr cs w := by
  unfold oplain at h
  cases hp : pstep P c with
  | none => rw [hp] at h; cases h
  | some c1 =>
    rw [hp] at h
    cases h
    exact (step_rel hF hmix hcr hp).at base
theorem ostep_rel (hF : Facts P) (hmix : P.follows .mixedOrders = true) {K : FuncId → Option Value} {c c' : PC} {l : List Ask} {fr : Frame} {cs : List Frame} (base : List Frame) (hcr : CR P w0 ρ c fr cs w) (h : ostep P K c = some (c', l)) (hl : ∀ a ∈ l, a.ok P) : GoesB P w0 base ρ c' fr cs w := by
  have hcr0 := hcr
  obtain ⟨hfr, hcs, W, hrel, hr⟩ := hcr
  unfold ostep at h
  split at h
  · exact oplain_rel hF hmix base hcr0 h
  · rename_i hret
    split at h
    · rename_i ops o orest k htodo
      split at h
      · rename_i hw
        split at h
        · rename_i f args pw1 hex
          split at h
          · rename_i v hK
            generalize hpt : c.fr.todo = pt at hfr htodo
            cases hfr with
            | ret hb hret' => rw [hret'] at hret; exact (hret rfl).elim
            | run hb hret' ht hd =>
              rename_i b tm df todo
              rw [htodo] at hpt
              rw [hpt] at ht
              cases ht with
              | plain ha hi =>
                cases hi with
                | cons hi hk =>
                  rename_i i0 ks
                  cases hi with
                  | inRegion ops i hl' hm =>
                    obtain ⟨h1, h2⟩ := drop_cons hl'.symm
                    have hlt : i < ops.size := by have := (List.getElem?_eq_some_iff.1 h1).1; simpa using this
                    have ho : ops[i]? = some o := by simpa using h1
                    rw [range_drop hlt] at hm
                    subst hm
                    have hg := pexec_rel hF (fun x _ hx => pev_rel (df := df) ha x hx) hex hrel hr
                    refine oasked_rel (ops := ops) base hb hret' ?_ hd hcs ho (by rw [want_plain ha]; exact hw) hg h hl
                    rw [hpt]
                    exact .plain ha (.cons (.inRegion ops i hl' (range_drop hlt).symm) hk)
          · exact oplain_rel hF hmix base hcr0 h
        · exact oplain_rel hF hmix base hcr0 h
      · exact oplain_rel hF hmix base hcr0 h
    · exact oplain_rel hF hmix base hcr0 h
theorem orun_asks {K : FuncId → Option Value} : ∀ (n : Nat) {c c' : PC} {l l' : List Ask}, orun P K n c l = some (c', l') → ∀ a ∈ l, a ∈ l'
  | 0, c, c', l, l', h, a, ha => by cases h; exact ha
  | n + 1, c, c', l, l', h, a, ha => by
    simp only [orun] at h
    split at h
    · exact orun_asks n h a ha
    · exact orun_asks n h a (List.mem_append_left _ ha)
    · cases h
theorem orun_rel (hF : Facts P) (hmix : P.follows .mixedOrders = true) {K : FuncId → Option Value} (base : List Frame) : ∀ (n : Nat) {ρ : Ren} {w : World} {c c' : PC} {l l' : List Ask} {fr : Frame} {cs : List Frame}, CR P w0 ρ c fr cs w → orun P K n c l = some (c', l') → (∀ a ∈ l', a.ok P) → GoesB P w0 base ρ c' fr cs w
  | 0, ρ, w, c, c', l, l', fr, cs, h, e, _ => by cases e; exact ⟨ρ, fr, cs, w, Ren.le_refl _, .refl _ _, h⟩
  | n + 1, ρ, w, c, c', l, l', fr, cs, h, e, ha => by
    simp only [orun] at e
    split at e
    · rename_i c1 h1
      obtain ⟨ρ1, fr1, cs1, w1, g1, g2, g3⟩ := ostep_rel hF hmix base h h1 (fun a hm => by cases hm)
      obtain ⟨ρ2, fr2, cs2, w2, k1, k2, k3⟩ := orun_rel hF hmix base n g3 e ha
      exact ⟨ρ2, fr2, cs2, w2, Ren.le_trans g1 k1, g2.trans k2, k3⟩
    · rename_i c1 a1 l1 h1
      obtain ⟨ρ1, fr1, cs1, w1, g1, g2, g3⟩ := ostep_rel hF hmix base h h1 (fun a hm => ha a (orun_asks n e a (List.mem_append_right _ hm)))
      obtain ⟨ρ2, fr2, cs2, w2, k1, k2, k3⟩ := orun_rel hF hmix base n g3 e ha
      exact ⟨ρ2, fr2, cs2, w2, Ren.le_trans g1 k1, g2.trans k2, k3⟩
    · cases e
def normalK : CallKind → Bool
  | .normal => true
  | _ => false
/-- What the last configuration returns: a plain value. -/
def endVal (P : Program) (c : PC) (f : FuncId) : Option Value :=
  if c.fr.ret && c.fr.fn == f && normalK c.fr.kind && c.fr.defers.isEmpty && c.cs.isEmpty then
    match P.funcs[c.fr.fn]? with
    | some fn => match runP P (results fn c.fr.tmps.toArray) c.w with
      | some (u, _) => if plainV 3 u then some u else none
      | none => none
    | none => none
  else none
/-- A run with plain arguments, and what it asks. -/
def opens (P : Program) (K : FuncId → Option Value) (n : Nat) (f : FuncId) (args : Array Value) : Option (Value × List Ask) :=
  if args.toList.all (plainV 3) then
    match penter P f args .normal with
    | some pf => match orun P K n ⟨pf, [], ⟨0, .e⟩⟩ [] with
      | some (c, l) => (endVal P c f).map fun v => (v, l)
      | none => none
    | none => none
  else none
theorem opens_ok (hF : Facts P) (hmix : P.follows .mixedOrders = true) {K : FuncId → Option Value} {n : Nat} {f : FuncId} {args : Array Value} {v : Value} {l : List Ask} (h : opens P K n f args = some (v, l)) (hl : ∀ a ∈ l, a.ok P) : (⟨f, args, v⟩ : Ask).ok P := by
  intro w base
  unfold opens at h
  split at h
  · rename_i hpl
    split at h
    · rename_i pf hp
      split at h
      · rename_i c' l' hrun
        cases hend : endVal P c' f with
        | none => rw [hend] at h; cases h
        | some u0 =>
          rw [hend] at h
          cases h
          obtain ⟨hrel, hr⟩ := start_rel (P := P) w
          have har : AR (fun _ => none) args args := ⟨rfl, fun i v v' hv hv' => by
            rw [hv] at hv'; cases hv'
            exact plain_VR _ 3 v (List.all_eq_true.1 hpl v (Array.mem_toList_iff.2 (Array.mem_of_getElem? hv)))⟩
          have h0 : CR P w (fun _ => none) ⟨pf, [], ⟨0, .e⟩⟩ (Frame.enter P f args .normal) [] w := ⟨enter_rel har hp, .nil, _, hrel, hr⟩
          obtain ⟨ρ', fr', cs', w', g1, g2, g3⟩ := orun_rel hF hmix base n h0 hrun hl
          obtain ⟨hfr, hcs, W', hrel', hr'⟩ := g3
          unfold endVal at hend
          split at hend
          · rename_i hc
            simp only [Bool.and_eq_true, beq_iff_eq, List.isEmpty_iff] at hc
            obtain ⟨⟨⟨⟨e1, e2⟩, e3⟩, e4⟩, e5⟩ := hc
            rw [e5] at hcs
            cases hcs
            cases hfr with
            | run hb hret => rw [e1] at hret; cases hret
            | ret hb hret ht hd =>
              rename_i b tm df todo
              rw [e4] at hd
              cases hd
              split at hend
              · rename_i fn hfn
                split at hend
                · rename_i u pw1 hres
                  split at hend
                  · rename_i hpv
                    cases hend
                    obtain ⟨W1, r1, r2⟩ := runP_run _ _ _ _ _ hres hrel'
                    obtain ⟨ρ2, v', w2, x1, x2, x3, x4, x5⟩ := sim_results (P := P) (w0 := w) (q := true) fn ht ρ' (Ren.le_refl _) W' w' hr' _ W1 r1
                    obtain ⟨_, _, rfl⟩ := x5 rfl
                    have hv' := plain_eq 3 _ _ hpv x3
                    subst hv'
                    refine ⟨.returned v', w2, { b.atR ⟨tm, []⟩ todo with mode := .returning }, ⟨rfl, x4.below⟩, g2, ?_, ?_⟩
                    · show b.fn = f
                      rw [hb.fn]; exact e2
                    · refine ⟨rfl, rfl, ?_, fn, ?_, x2⟩
                      · show b.kind = .normal
                        rw [hb.kind]
                        cases hk : c'.fr.kind <;> rw [hk] at e3 <;> first | rfl | (simp [normalK] at e3)
                      · show P.funcs[b.fn]? = some fn
                        rw [hb.fn]; exact hfn
                  · cases hend
                · cases hend
              · cases hend
          · cases hend
      · cases h
    · cases h
  · cases h
end
end Go.Proofs.YtnnppmcbgfadpaaGreatDoor
