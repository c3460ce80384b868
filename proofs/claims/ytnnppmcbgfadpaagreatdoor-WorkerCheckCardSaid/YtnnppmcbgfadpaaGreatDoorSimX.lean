/- The machine's steps: records of loops, results, an operation applied. -/
import Derived.Test.YtnnppmcbgfadpaaGreatDoorSimW
namespace Go.Proofs.YtnnppmcbgfadpaaGreatDoor
open Go.RowKit
section
variable {P : Program} {w0 : World} {q : Bool} {ρ : Ren} {W w : World} {pw pw' : PW}
theorem RO_none {r : Option Nat} (h : RO ρ none r) : r = none := by cases h; rfl
theorem LR.obj {l l' : Loop} (h : LR ρ l l') (L : Loc) (s : LoopState) (p : Option Code) : OR P ρ L (.loop { l with state := s, pending := p }) (.loop { l' with state := s, pending := p }) := by
  obtain ⟨D, h1, h2⟩ := h.defers
  exact .loop rfl rfl h.fn h.tmps h.params h.assign h.body h1 h2
theorem LR.obj' {l l' : Loop} (h : LR ρ l l') (L : Loc) (s : LoopState) : OR P ρ L (.loop { l with state := s }) (.loop { l' with state := s }) := by
  obtain ⟨D, h1, h2⟩ := h.defers
  exact .loop rfl h.pending h.fn h.tmps h.params h.assign h.body h1 h2
theorem LR.mono {ρ' : Ren} (hle : ρ.le ρ') {l l' : Loop} (h : LR ρ l l') : LR ρ' l l' := by
  obtain ⟨D, h1, h2⟩ := h.defers
  exact ⟨h.state, h.pending, h.fn, h.tmps.mono hle, h.params, h.assign, h.body, D, hle _ _ h1, h2⟩
theorem sim_endRound {l : Nat} {L : Loc} (hL : ρ l = some L) (j : Option Code) : Sim P w0 false ρ VR (Instr.endRound l j) (Instr.endRound L.blk j) := by
  unfold Instr.endRound
  refine sim_bind (sim_getLoop hL) fun ρ1 r r' hle hr => ?_
  refine sim_bind (sim_setObj (hle _ _ hL) rfl (hr.obj L _ _)) fun ρ2 _ _ _ _ => ?_
  exact sim_pure fun _ _ => .bool _
theorem sim_beginRound {l : Nat} {L : Loc} (hL : ρ l = some L) : Sim P w0 false ρ (fun _ _ _ => True) (Instr.beginRound l) (Instr.beginRound L.blk) := by
  unfold Instr.beginRound
  refine sim_bind (sim_getLoop hL) fun ρ1 r r' hle hr => ?_
  refine sim_bind (sim_setObj (hle _ _ hL) rfl (hr.obj' L _)) fun ρ2 _ _ _ _ => ?_
  rw [hr.state]
  cases r'.state
  · exact sim_pure fun _ _ => trivial
  · exact sim_panic _
  · exact sim_panic _
  · exact sim_panic _
theorem sim_endLoop {l : Nat} {L : Loc} (hL : ρ l = some L) : Sim P w0 false ρ (fun _ j j' => j = j') (Instr.endLoop l) (Instr.endLoop L.blk) := by
  unfold Instr.endLoop
  refine sim_bind (sim_getLoop hL) fun ρ1 r r' hle hr => ?_
  rw [hr.state, hr.pending]
  split
  · exact sim_bind (RA := fun _ _ _ => True) (sim_panic _) fun ρ2 _ _ hle2 _ => by
      refine sim_bind (sim_setObj (hle2 _ _ (hle _ _ hL)) rfl ((hr.mono hle2).obj L _ _)) fun ρ3 _ _ _ _ => ?_
      exact sim_pure fun _ _ => rfl
  · refine sim_bind (sim_setObj (hle _ _ hL) rfl (hr.obj L _ _)) fun ρ2 _ _ _ _ => ?_
    exact sim_pure fun _ _ => rfl
theorem sim_takeDeferred {l : Nat} {L : Loc} (hL : ρ l = some L) : Sim P w0 false ρ (fun _ j j' => j = [] ∧ j' = []) (Instr.takeDeferred l) (Instr.takeDeferred L.blk) := by
  unfold Instr.takeDeferred
  refine sim_bind (sim_getObj hL) fun ρ1 o o' hle ho => ?_
  cases ho with
  | deferredNil =>
    refine sim_bind (sim_setObj (hle _ _ hL) rfl .deferredDone) fun ρ2 _ _ _ _ => ?_
    exact sim_pure fun _ _ => ⟨rfl, rfl⟩
  | _ => exact sim_halt
/-- What entering a loop hands back. -/
def EL (ρ : Ren) (x x' : Nat × List Deferred) : Prop := (∃ L, ρ x.1 = some L ∧ x'.1 = L.blk) ∧ DsR ρ x.2 x'.2
theorem sim_enterLoop (fn : FuncId) {tmps tmps' : Array Value} (ht : AR ρ tmps tmps') (ps : Array Tmp) (a b : Code) {r r' : Option Nat} (hr : RO ρ r r') : Sim P w0 false ρ EL (Instr.enterLoop fn tmps ps a b r) (Instr.enterLoop fn tmps' ps a b r') := by
  have tail : ∀ {ρ1 : Ren} {d : Nat} {D : Loc} {m m' : List Deferred}, ρ.le ρ1 → ρ1 d = some D → DsR ρ1 m m' → Sim P w0 false ρ1 EL
      (do pure (← newObj (.loop { state := .ready, pending := none, fn, tmps, params := ps, assign := a, body := b, defers := d }), m))
      (do pure (← newObj (.loop { state := .ready, pending := none, fn, tmps := tmps', params := ps, assign := a, body := b, defers := D.blk }), m')) := by
    intro ρ1 d D m m' hle hD hm
    refine sim_bind (sim_newObj rfl fun ρ' L hle' => .loop rfl rfl rfl (ht.mono (Ren.le_trans hle hle')) rfl rfl rfl (hle' _ _ hD) rfl) fun ρ2 x x' hle2 hx => ?_
    obtain ⟨L, h1, rfl, _⟩ := hx
    exact sim_pure fun ρ3 hle3 => ⟨⟨L, hle3 _ _ h1, rfl⟩, (hm.mono hle2).mono hle3⟩
  unfold Instr.enterLoop
  cases hr with
  | none =>
    refine sim_bind (sim_newObj (o := .deferred (some [])) (o' := .deferred (some [])) rfl fun _ _ _ => .deferredNil) fun ρ1 x x' hle hx => ?_
    obtain ⟨L, h1, rfl, _⟩ := hx
    exact tail hle h1 (.cons ⟨.coll h1, AR.nil _⟩ .nil)
  | some hL =>
    refine sim_bind (sim_getLoop hL) fun ρ1 r r' hle hr => ?_
    obtain ⟨D, h1, h2⟩ := hr.defers
    rw [h2]
    exact tail hle h1 .nil
theorem sim_mapM {α β β' : Type} {R : Ren → β → β' → Prop} (f : α → Sem β) (f' : α → Sem β') (hmono : ∀ {ρ1 ρ2 : Ren} {x : β} {x' : β'}, ρ1.le ρ2 → R ρ1 x x' → R ρ2 x x') (hf : ∀ ρ1 a, ρ.le ρ1 → Sim P w0 q ρ1 R (f a) (f' a)) : ∀ (l : List α) (ρ1 : Ren), ρ.le ρ1 →
    Sim P w0 q ρ1 (fun ρ2 xs xs' => xs.length = xs'.length ∧ ∀ (i : Nat) (x : β) (x' : β'), xs[i]? = some x → xs'[i]? = some x' → R ρ2 x x') (l.mapM f) (l.mapM f') := by
  intro l
  induction l with
  | nil => intro ρ1 _; rw [List.mapM_nil, List.mapM_nil]; exact sim_pure fun _ _ => ⟨rfl, fun i x x' h => by simp at h⟩
  | cons a l ih =>
    intro ρ1 hle
    rw [List.mapM_cons, List.mapM_cons]
    refine sim_bind (hf ρ1 a hle) fun ρ2 x x' hle2 hx => ?_
    refine sim_bind (ih ρ2 (Ren.le_trans hle hle2)) fun ρ3 xs xs' hle3 hxs => ?_
    refine sim_pure fun ρ4 hle4 => ⟨by simp [hxs.1], fun i y y' hy hy' => ?_⟩
    cases i with
    | zero =>
      simp only [List.getElem?_cons_zero, Option.some.injEq] at hy hy'
      subst hy; subst hy'
      exact hmono (Ren.le_trans hle3 hle4) hx
    | succ i =>
      simp only [List.getElem?_cons_succ] at hy hy'
      exact hmono hle4 (hxs.2 i y y' hy hy')
theorem sim_asAddr {v v' : Value} (hv : VR ρ v v') : Sim P w0 q ρ DR (asAddr v) (asAddr v') := by
  unfold asAddr
  cases hv with
  | ptr hL => exact sim_pure fun ρ1 hle => ⟨_, _, _, hle _ _ hL, rfl, rfl⟩
  | pnil => exact sim_panic _
  | _ => exact sim_halt
theorem sim_results (fn : Func) {t t' : Array Value} (ht : AR ρ t t') : Sim P w0 q ρ VR (results fn t) (results fn t') := by
  unfold results
  rw [Array.mapM_eq_mapM_toList, Array.mapM_eq_mapM_toList]
  refine sim_bind (RA := fun ρ1 a a' => AR ρ1 a a') ?_ fun ρ1 a a' hle ha => ?_
  · refine sim_bind (sim_mapM (R := VR) _ _ (fun hle h => h.mono hle) ?_ _ ρ (Ren.le_refl _)) fun ρ1 xs xs' hle hxs => ?_
    · intro ρ1 a hle
      cases a with
      | tmp u => exact sim_pure fun ρ2 hle2 => (AR_getD ht u).mono (Ren.le_trans hle hle2)
      | cell u ty =>
        refine sim_bind (sim_asAddr ((AR_getD ht u).mono hle)) fun ρ2 x x' hle2 hx => ?_
        exact sim_loadVar hx ty
    · exact sim_pure fun ρ2 hle2 => ⟨by simp [hxs.1], fun i v v' hv hv' => (hxs.2 i v v' (by simpa using hv) (by simpa using hv')).mono hle2⟩
  · refine sim_pure fun ρ2 hle2 => ?_
    have ha2 := ha.mono hle2
    by_cases h1 : a.size = 1
    · have h1' : a'.size = 1 := by rw [← ha.size]; exact h1
      rw [dif_pos h1, dif_pos h1']
      exact ha2.get 0 _ _ (Array.getElem?_eq_getElem (by omega)) (Array.getElem?_eq_getElem (by omega))
    · have h1' : ¬ a'.size = 1 := by rw [← ha.size]; exact h1
      rw [dif_neg h1, dif_neg h1']
      exact .tuple ha2.size ha2.get
/-- A run of the pattern used. -/
theorem use_sim {α α' : Type} {R : Ren → α → α' → Prop} {m : Sem α} {m' : Sem α'} {a : α} (hs : Sim P w0 q ρ R m m') (h : runP P m pw = some (a, pw')) (hrel : Rel pw W) (hr : HR P w0 ρ W w) :
    ∃ ρ' a' w' W', ρ.le ρ' ∧ m'.run P w = .ok a' w' ∧ R ρ' a a' ∧ Rel pw' W' ∧ HR P w0 ρ' W' w' := by
  obtain ⟨W', h1, h2⟩ := runP_run _ _ _ _ _ h hrel
  obtain ⟨ρ2, a', w', x1, x2, x3, x4, _⟩ := hs ρ (Ren.le_refl _) W w hr a W' h1
  exact ⟨ρ2, a', w', W', x1, x2, x3, h2, x4⟩
theorem execOp_defer {ev : Operand → Value} {o : Oper} {c : Call} {nx : Next} {w' : World} (ho : o.op = .defer c) (h : (execOp ev o).run P w = .ok nx w') : ∃ d, nx = .defer d := by
  unfold execOp at h
  rw [ho] at h
  simp only [Sem.run_bind] at h
  cases hr : (resolve ev c o.type).run P w with
  | ok d w1 => rw [hr] at h; simp only [Result.andThen_ok] at h; cases h; exact ⟨d, rfl⟩
  | halt x w1 => rw [hr] at h; cases h
/-- An operation applied to the machine. -/
theorem papply_rel {c c' : PC} {b : Frame} {tm : Array Value} {df : List Deferred} {ops : Array Oper} {i : Nat} {rest : List Nat} {items : List Item} {cs : List Frame} {o : Oper} {p : Bool} {nx : Next}
    (hb : FB ρ c.fr b) (hret : c.fr.ret = false) (ht : BodyW ρ c.fr.tmps c.fr.todo tm (.inRegion ops (i :: rest) :: items)) (hd : DsR ρ c.fr.defers df) (hcs : FRs ρ c.cs cs) (ho : ops[i]? = some o) (hw : Region.wanted o (yielded ops tm) = true)
    (hg : Good P w0 ρ p nx pw' w (execOp (⟨tm, df⟩ : Act).eval o)) (h : papply P c (some (nx, pw')) = some c') : Goes P w0 ρ c' (b.atR ⟨tm, df⟩ (.inRegion ops (i :: rest) :: items)) cs w := by
  obtain ⟨ρ', nx', w', W', hle, hrun, hnr, hrel', hr', _⟩ := hg
  have hfr : FRw ρ' c.fr (b.atR ⟨tm, df⟩ (.inRegion ops (i :: rest) :: items)) := .run (hb.mono hle) hret (ht.mono hle) (hd.mono hle)
  have hfin : ∀ v (d : List Deferred), (b.atR ⟨tm, d⟩ (.inRegion ops (i :: rest) :: items)).finish v = b.atR ((⟨tm, d⟩ : Act).put o.dst v) (.inRegion ops rest :: items) := by
    intro v d; rw [Frame.finish_atR, ho]; rfl
  have hnd : (∀ d, nx' ≠ .defer d) → ∀ c, o.op ≠ .defer c := by
    intro hn c hc
    obtain ⟨d, hd⟩ := execOp_defer hc hrun
    exact hn d hd
  cases hnr with
  | value hv =>
    simp only [papply] at h
    split at h
    · rename_i fr' hf
      cases h
      refine ⟨ρ', _, cs, w', hle, fun base => .one (step_op_value ho hw (.inr (hnd (by intro d e; cases e))) hrun), ?_, hcs.mono hle, W', hrel', hr'⟩
      rw [← hfin]
      exact finish_rel hfr hv hf
    · cases h
  | skip =>
    simp only [papply] at h
    split at h
    · rename_i fr' hf
      cases h
      refine ⟨ρ', _, cs, w', hle, fun base => .one (step_op_unit ho hw (.inr (hnd (by intro d e; cases e))) hrun), ?_, hcs.mono hle, W', hrel', hr'⟩
      rw [← hfin]
      exact finish_rel hfr (.tuple rfl fun i v v' hv => by simp at hv) hf
    · cases h
  | enter f ha =>
    simp only [papply] at h
    split at h
    · rename_i fr' hf
      cases h
      refine ⟨ρ', _, _ :: cs, w', hle, fun base => .one (step_op_enter ho hw (.inr (hnd (by intro d e; cases e))) hrun), ?_, .cons hfr (hcs.mono hle), W', hrel', hr'⟩
      exact enter_rel ha hf
    · cases h
  | round hL f htm a bd =>
    simp only [papply] at h
    cases h
    refine ⟨ρ', _, _ :: cs, w', hle, fun base => .one (step_op_round ho hw (.inr (hnd (by intro d e; cases e))) hrun), ?_, .cons hfr (hcs.mono hle), W', hrel', hr'⟩
    rename_i l L t t'
    have e : Frame.round L.blk f t' a bd .normal = ({ (default : Frame) with fn := f, kind := .normal, roundOf := some L.blk } : Frame).atR ⟨t', []⟩ [.code a, .beginRound, .code bd] := by
      simp [Frame.round, Frame.atR]
    rw [e]
    exact .run ⟨rfl, rfl, .some hL⟩ rfl (.plain (by simpa using htm) (.cons (.code a) (.cons .beginRound (.cons (.code bd) .nil)))) .nil
  | defer hd' =>
    rename_i d d'
    simp only [papply] at h
    split at h
    · rename_i hro
      split at h
      · rename_i fr' hf
        cases h
        have hbr : b.roundOf = none := RO_none (hro ▸ hb.round)
        refine ⟨ρ', _, cs, w', hle, fun base => .one (step_op_defer ho hw hbr hrun), ?_, hcs.mono hle, W', hrel', hr'⟩
        have hfr2 : FRw ρ' { c.fr with defers := d :: c.fr.defers } (b.atR ⟨tm, d' :: df⟩ (.inRegion ops (i :: rest) :: items)) :=
          .run (pf := { c.fr with defers := d :: c.fr.defers }) ⟨hb.fn, hb.kind, hb.round.mono hle⟩ hret (ht.mono hle) (.cons hd' (hd.mono hle))
        show FRa P ρ' pw' fr' (b.atR ((⟨tm, d' :: df⟩ : Act).put o.dst undef) (.inRegion ops rest :: items))
        rw [← hfin]
        exact finish_rel hfr2 (.tuple rfl fun i v v' hv => by simp at hv) hf
      · cases h
    · cases h
  | recover =>
    simp only [papply] at h
    split at h
    · rename_i c0 rest0 hro hkd hcs0
      split at h
      · rename_i fr' hf
        cases h
        rw [hcs0] at hcs
        cases hcs with
        | cons h0 hrest =>
          rename_i f0 m0
          have hbr : b.roundOf = none := RO_none (hro ▸ hb.round)
          have hmode : f0.mode = .returning ∨ f0.mode = .run := by
            cases h0 with
            | run => exact .inr rfl
            | ret => exact .inl rfl
          refine ⟨ρ', _, f0 :: m0, w', hle, fun base => .one (step_op_recover ho hw hbr (by rw [hb.kind]; exact hkd) hmode hrun), ?_, ?_, W', hrel', hr'⟩
          · rw [← hfin]
            exact finish_rel hfr .nilIface hf
          · show FRs ρ' c.cs (f0 :: m0)
            rw [hcs0]
            exact .cons (h0.mono hle) (hrest.mono hle)
      · cases h
    · cases h
end
end Go.Proofs.YtnnppmcbgfadpaaGreatDoor
