/- Each step of the pattern is made by the machine in each world that fits. -/
import Derived.Test.YtnnppmcbgfadpaaGreatDoorSimX
namespace Go.Proofs.YtnnppmcbgfadpaaGreatDoor
open Go.RowKit
section
variable {P : Program} {b : Frame} {tm : Array Value} {df : List Deferred} {todo : List Item} {cs : List Frame} {w w' : World}
theorem step_ret_coll {r : Nat} {args : Array Value} (h : (Instr.takeDeferred r).run P w = .ok [] w') :
    step P (lone { b.atR ⟨tm, ⟨.collected r, args⟩ :: df⟩ todo with mode := .returning } cs w) = .next (lone { b.atR ⟨tm, df⟩ todo with mode := .returning } cs w') :=
  step_lone_go (by simp [stepG, unwind, Frame.atR, Sem.runT_eq, h, GStep.bare_after])
theorem step_ret_call {g f : FuncId} {cap args A : Array Value} (h : (invoke (.fn (.func g) cap) args).run P w = .ok (.enter f A) w') :
    step P (lone { b.atR ⟨tm, ⟨.fn (.func g) cap, args⟩ :: df⟩ todo with mode := .returning } cs w) = .next (lone (Frame.enter P f A .deferred) ({ b.atR ⟨tm, df⟩ todo with mode := .returning } :: cs) w') :=
  step_lone_go (by simp [stepG, unwind, callDeferred, Frame.atR, Sem.runT_eq, h, GStep.bare_after])
theorem step_ret_normal {fn : Func} {v : Value} {c : Frame} (hk : b.kind = .normal) (hf : P.funcs[b.fn]? = some fn) (h : (results fn tm).run P w = .ok v w') :
    step P (lone { b.atR ⟨tm, []⟩ todo with mode := .returning } (c :: cs) w) = .next (lone (c.finish v) cs w') :=
  step_lone_go (by simp [stepG, unwind, doReturn, Frame.atR, Sem.runT_eq, h, GStep.bare_after, hk, hf])
theorem step_ret_deferred {fn : Func} {v : Value} {c : Frame} (hk : b.kind = .deferred) (hc : c.mode = .returning ∨ c.mode = .run) (hf : P.funcs[b.fn]? = some fn) (h : (results fn tm).run P w = .ok v w') :
    step P (lone { b.atR ⟨tm, []⟩ todo with mode := .returning } (c :: cs) w) = .next (lone c cs w') :=
  step_lone_go (by
    rcases hc with hc | hc <;> simp [stepG, unwind, doReturn, Frame.atR, Sem.runT_eq, h, GStep.bare_after, hk, hf, hc])
end
section
variable {P : Program} {w0 : World} {ρ : Ren} {W w : World} {pw pw' : PW}
theorem want_plain {ops : Array Oper} {tmps : List Value} {tm : Array Value} (ha : AR ρ tmps.toArray tm) (o : Oper) : Region.wanted o (yielded ops tm) = pwanted ops.toList tmps o := by
  unfold Region.wanted pwanted yielded
  cases hg : o.guard with
  | none => rfl
  | some jb =>
    obtain ⟨j, b⟩ := jb
    simp only [Array.getElem?_toList]
    cases hx : (ops[j]?).bind (·.dst) with
    | none => simp
    | some t =>
      have := AR_getD ha t
      rw [Array.getD_eq_getD_getElem?, Array.getD_eq_getD_getElem?, List.getElem?_toArray] at this
      rw [← List.getD_eq_getElem?_getD] at this
      simp only [Option.bind_some]
      generalize tmps.getD t undef = u at this ⊢
      cases ht : tm[t]? with
      | none => rw [ht] at this; cases this <;> simp
      | some v' =>
        rw [ht] at this
        simp only [Option.getD_some] at this
        cases this <;> simp
theorem FRa_of_ret {pf : PF} {fr : Frame} (h : FRw ρ pf fr) (hr : pf.ret = true) : FRa P ρ pw pf fr := by
  cases h with
  | run hb hret => rw [hr] at hret; cases hret
  | ret hb hret ht hd => exact .ret hb hret ht hd
theorem FRw.mode {pf : PF} {fr : Frame} (h : FRw ρ pf fr) : fr.mode = .returning ∨ fr.mode = .run := by
  cases h with
  | run => exact .inr rfl
  | ret => exact .inl rfl
/-- A value returned to the frame beneath. -/
theorem preturn_rel {fr : PF} {pcs : List PF} {cs : List Frame} {v v' : Value} {c' : PC} (hk : fr.kind = .normal) (hcs : FRs ρ pcs cs) (hv : VR ρ v v') (hrel : Rel pw W) (hr : HR P w0 ρ W w) (h : preturn P fr pcs v pw = some c') :
    ∃ f0 m0, cs = f0 :: m0 ∧ CR P w0 ρ c' (f0.finish v') m0 w := by
  unfold preturn at h
  split at h
  · rename_i c rest
    rw [hk] at h
    simp only at h
    cases hcs with
    | cons h0 hrest =>
      rename_i f0 m0
      split at h
      · rename_i c1 hf
        cases h
        exact ⟨f0, m0, rfl, finish_rel h0 hv hf, hrest, W, hrel, hr⟩
      · cases h
  · cases h
theorem plain_step {c : PC} {b : Frame} {tm : Array Value} {df : List Deferred} {cs : List Frame} {k : List PI} {k' todo : List Item} (hb : FB ρ c.fr b) (hret : c.fr.ret = false) (hd : DsR ρ c.fr.defers df) (hcs : FRs ρ c.cs cs) (hrel : Rel c.w W) (hr : HR P w0 ρ W w)
    (ha : AR ρ c.fr.tmps.toArray tm) (hk : IRs ρ k k') (hstep : ∀ cs, step P (lone (b.atR ⟨tm, df⟩ todo) cs w) = .next (lone (b.atR ⟨tm, df⟩ k') cs w)) :
    Goes P w0 ρ { c with fr := { c.fr with todo := k } } (b.atR ⟨tm, df⟩ todo) cs w :=
  ⟨ρ, _, cs, w, Ren.le_refl _, fun base => .one (hstep _), .run (pf := { c.fr with todo := k }) ⟨hb.fn, hb.kind, hb.round⟩ hret (.plain ha hk) hd, hcs, W, hrel, hr⟩
/-- A round or a function left. -/
theorem pleave_rel {c c' : PC} {b : Frame} {tm : Array Value} {df : List Deferred} {cs : List Frame} {todo : List Item} {j : Option Code} (hb : FB ρ c.fr b) (hd : DsR ρ c.fr.defers df) (hcs : FRs ρ c.cs cs) (hrel : Rel c.w W) (hr : HR P w0 ρ W w)
    (ha : AR ρ c.fr.tmps.toArray tm)
    (h1 : b.roundOf = none → (j = none ∨ j = some .ret) → ∀ cs, step P (lone (b.atR ⟨tm, df⟩ todo) cs w) = .next (lone { b.atR ⟨tm, df⟩ todo with mode := .returning } cs w))
    (h2 : ∀ l v w' f0 cs, b.roundOf = some l → b.kind = .normal → (Instr.endRound l j).run P w = .ok v w' → step P (lone (b.atR ⟨tm, df⟩ todo) (f0 :: cs) w) = .next (lone (f0.finish v) cs w'))
    (h : pleave P c j = some c') : Goes P w0 ρ c' (b.atR ⟨tm, df⟩ todo) cs w := by
  unfold pleave at h
  split at h
  · rename_i hro
    have hbr : b.roundOf = none := RO_none (hro ▸ hb.round)
    have key : (j = none ∨ j = some .ret) → some { c with fr := { c.fr with ret := true } } = some c' → Goes P w0 ρ c' (b.atR ⟨tm, df⟩ todo) cs w := by
      intro hj he
      cases he
      exact ⟨ρ, _, cs, w, Ren.le_refl _, fun base => .one (h1 hbr hj _), .ret (pf := { c.fr with ret := true }) ⟨hb.fn, hb.kind, hb.round⟩ rfl ha hd, hcs, W, hrel, hr⟩
    split at h
    · exact key (.inl rfl) h
    · exact key (.inr rfl) h
    · cases h
  · rename_i l hro
    split at h
    · rename_i hkd
      split at h
      · rename_i v pw1 hrun
        have hro' := hb.round
        rw [hro] at hro'
        generalize hbr : b.roundOf = r at hro'
        cases hro' with
        | some hL =>
          obtain ⟨ρ', v', w', W', g1, g2, g3, g4, g5⟩ := use_sim (sim_endRound hL j) hrun hrel hr
          obtain ⟨f0, m0, rfl, hcr⟩ := preturn_rel hkd (hcs.mono g1) g3 g4 g5 h
          exact ⟨ρ', _, m0, w', g1, fun base => .one (h2 _ _ _ f0 (m0 ++ base) hbr (by rw [hb.kind]; exact hkd) g2), hcr⟩
      · cases h
    · cases h
/-- A frame that returns. -/
theorem punwind_rel (hF : Facts P) {c c' : PC} {b : Frame} {tm : Array Value} {df : List Deferred} {cs : List Frame} {todo : List Item} (hb : FB ρ c.fr b) (hret : c.fr.ret = true) (ha : AR ρ c.fr.tmps.toArray tm) (hd : DsR ρ c.fr.defers df) (hcs : FRs ρ c.cs cs) (hrel : Rel c.w W) (hr : HR P w0 ρ W w)
    (h : punwind P c = some c') : Goes P w0 ρ c' { b.atR ⟨tm, df⟩ todo with mode := .returning } cs w := by
  unfold punwind at h
  split at h
  · rename_i r args ds hdf
    rw [hdf] at hd
    cases hd with
    | cons h0 hds =>
      rename_i d' ds'
      obtain ⟨t0, a0⟩ := h0
      obtain ⟨tg, ag⟩ := d'
      cases t0 with
      | coll hL =>
        split at h
        · rename_i pw1 hrun
          cases h
          obtain ⟨ρ', x, w', W', g1, g2, g3, g4, g5⟩ := use_sim (sim_takeDeferred hL) hrun hrel hr
          obtain ⟨_, rfl⟩ := g3
          exact ⟨ρ', _, cs, w', g1, fun base => .one (step_ret_coll g2), .ret (pf := { c.fr with defers := ds }) ⟨hb.fn, hb.kind, hb.round.mono g1⟩ hret (ha.mono g1) (hds.mono g1), hcs.mono g1, W', g4, g5⟩
        · cases h
  · rename_i g cap args ds hdf
    rw [hdf] at hd
    cases hd with
    | cons h0 hds =>
      rename_i d' ds'
      obtain ⟨t0, a0⟩ := h0
      obtain ⟨tg, ag⟩ := d'
      cases t0 with
      | fn _ hcap =>
        rename_i cap'
        split at h
        · rename_i f A pw1 hcall
          split at h
          · rename_i fr hf
            cases h
            have hfv : VR ρ (.func (.func g) #[] cap) (.func (.func g) #[] cap') := .func _ (fun l e => by cases e) rfl hcap.size (fun i v v' h => by simp at h) hcap.get
            obtain ⟨ρ', nx', w', W', g1, g2, g3, g4, g5, _⟩ := pcall_rel hF hfv a0 hcall hrel hr
            cases g3 with
            | enter _ hA =>
              have g2' : (invoke (.fn (.func g) cap') (#[] ++ ag)).run P w = .ok (.enter f _) w' := g2
              rw [Array.empty_append] at g2'
              exact ⟨ρ', _, _ :: cs, w', g1, fun base => .one (step_ret_call g2'), enter_rel hA hf, .cons (.ret (pf := { c.fr with defers := ds }) ⟨hb.fn, hb.kind, hb.round.mono g1⟩ hret (ha.mono g1) (hds.mono g1)) (hcs.mono g1), W', g4, g5⟩
          · cases h
        · cases h
  · cases h
  · rename_i hdf
    rw [hdf] at hd
    cases hd
    split at h
    · rename_i fn hfn
      split at h
      · rename_i v pw1 hrun
        obtain ⟨ρ', v', w', W', g1, g2, g3, g4, g5⟩ := use_sim (q := false) (sim_results fn ha) hrun hrel hr
        have hfn' : P.funcs[b.fn]? = some fn := by rw [hb.fn]; exact hfn
        cases hkd : c.fr.kind with
        | normal =>
          obtain ⟨f0, m0, rfl, hcr⟩ := preturn_rel hkd (hcs.mono g1) g3 g4 g5 h
          exact ⟨ρ', _, m0, w', g1, fun base => .one (step_ret_normal (by rw [hb.kind]; exact hkd) hfn' g2), hcr⟩
        | deferred =>
          unfold preturn at h
          rw [hkd] at h
          split at h
          · rename_i c1 rest hcc
            simp only at h
            split at h
            · rename_i hret0
              cases h
              rw [hcc] at hcs
              cases hcs with
              | cons h0 hrest =>
                rename_i f0 m0
                exact ⟨ρ', f0, m0, w', g1, fun base => .one (step_ret_deferred (by rw [hb.kind]; exact hkd) h0.mode hfn' g2), FRa_of_ret (h0.mono g1) hret0, hrest.mono g1, W', g4, g5⟩
            · cases h
          · cases h
        | _ => unfold preturn at h; rw [hkd] at h; split at h <;> cases h
      · cases h
    · cases h
end
end Go.Proofs.YtnnppmcbgfadpaaGreatDoor
