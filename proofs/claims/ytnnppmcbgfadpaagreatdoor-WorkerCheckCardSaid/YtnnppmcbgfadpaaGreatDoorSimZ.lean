/- Each step of the pattern is made by the machine in each world that fits; so is a run. -/
import Derived.Test.YtnnppmcbgfadpaaGreatDoorSimY
namespace Go.Proofs.YtnnppmcbgfadpaaGreatDoor
open Go.RowKit
section
variable {P : Program} {w0 : World} {ρ : Ren} {W w : World} {pw pw' : PW}
theorem DsR.append {a b c d : List Deferred} (h : DsR ρ a b) (k : DsR ρ c d) : DsR ρ (a ++ c) (b ++ d) := by
  induction h with
  | nil => exact k
  | cons h0 _ ih => exact .cons h0 ih
theorem yield_VR {l : Nat} {L : Loc} (h : ρ l = some L) : AR ρ #[.func (.yield l) #[] #[]] #[.func (.yield L.blk) #[] #[]] := AR.one (.yield h)
theorem resolve_range {a : Act} {g : Operand} {l : Nat} {w : World} {fn : Fn} {first cap : Array Value} (h : a.eval g = .func fn first cap) : (resolve a.eval (rangeCall g l) 0).run P w = .ok { target := .fn fn cap, args := first ++ #[.func (.yield l) #[] #[]] } w := by
  unfold resolve rangeCall
  simp only
  rw [h, show Array.map a.eval #[Operand.const (Value.func (Fn.yield l) #[] #[])] = #[Value.func (Fn.yield l) #[] #[]] by simp [Act.eval]]
  rfl
theorem finalTmps_get {vals : List (Nat × Value)} {s : Nat} : ∀ (rest : List Oper) (i : Nat) (t : List Value), (∀ (j : Nat) (x : Oper), rest[j]? = some x → x.dst ≠ some s) → (finalTmps t vals rest i)[s]? = t[s]? := by
  intro rest
  induction rest with
  | nil => intro i t _; rfl
  | cons o rest ih =>
    intro i t h
    show (finalTmps (match valOf vals i with | some v => setD t o.dst v | none => t) vals rest (i + 1))[s]? = _
    rw [ih (i + 1) _ fun j x hx => h (j + 1) x (by simpa using hx)]
    split
    · rw [setD_get, if_neg (fun hc => h 0 o rfl hc.1)]
    · rfl
theorem finalTmps_length {vals : List (Nat × Value)} : ∀ (rest : List Oper) (i : Nat) (t : List Value), (finalTmps t vals rest i).length = t.length := by
  intro rest
  induction rest with
  | nil => intro i t; rfl
  | cons o rest ih =>
    intro i t
    show (finalTmps (match valOf vals i with | some v => setD t o.dst v | none => t) vals rest (i + 1)).length = _
    rw [ih]
    split
    · exact setD_length _ _ _
    · rfl
theorem finalTmps_new {vals : List (Nat × Value)} {s : Nat} {v : Value} : ∀ (rest : List Oper) (i : Nat) (t : List Value) (j : Nat) (x : Oper), s < t.length → rest[j]? = some x → x.dst = some s → valOf vals (i + j) = some v →
    (∀ (j' : Nat) (x' : Oper), rest[j']? = some x' → x'.dst = some s → j' = j) → (finalTmps t vals rest i)[s]? = some v := by
  intro rest
  induction rest with
  | nil => intro i t j x _ h; simp at h
  | cons o rest ih =>
    intro i t j x hs hx hd hv hu
    show (finalTmps (match valOf vals i with | some v => setD t o.dst v | none => t) vals rest (i + 1))[s]? = _
    cases j with
    | zero =>
      simp only [List.getElem?_cons_zero, Option.some.injEq] at hx
      subst hx
      rw [Nat.add_zero] at hv
      rw [finalTmps_get rest (i + 1) _ (fun j' x' hx' hd' => by
        have := hu (j' + 1) x' (by simpa using hx') hd'
        omega), hv]
      simp only
      rw [setD_get, if_pos ⟨hd, hs⟩]
    | succ j =>
      simp only [List.getElem?_cons_succ] at hx
      refine ih (i + 1) _ j x ?_ hx hd (by rw [show i + 1 + j = i + (j + 1) by omega]; exact hv) (fun j' x' hx' hd' => ?_)
      · split
        · rw [setD_length]; exact hs
        · exact hs
      · have := hu (j' + 1) x' (by simpa using hx') hd'
        omega
/-- At the region's end the slots are as the pattern's. -/
theorem final_AR {ops : List Oper} {plan : List (Option Nat × Nat × Nat)} {k : Nat} {vals : List (Nat × Value)} {tmps : List Value} {tm : Array Value} {listed : Array Bool} (h : DrawSt ρ ops plan k vals tmps tm listed) (hall : unlisted listed = 0) : AR ρ (finalTmps tmps vals ops 0).toArray tm := by
  refine ⟨by simp [finalTmps_length, h.tsize], fun s v v' hv hv' => ?_⟩
  rw [List.getElem?_toArray] at hv
  have hl : ∀ (j : Nat) (x : Oper), ops[j]? = some x → listed[j]? = some true := by
    intro j x hx
    have hlt : j < listed.size := by rw [h.size]; exact (List.getElem?_eq_some_iff.1 hx).1
    rw [Array.getElem?_eq_getElem hlt, allListed hall j listed[j] (Array.getElem?_eq_getElem hlt)]
  by_cases hex : ∃ (j : Nat) (x : Oper), ops[j]? = some x ∧ x.dst = some s
  · obtain ⟨j, x, hx, hd⟩ := hex
    obtain ⟨u, hu, hu'⟩ := h.done j x hx (hl j x hx)
    obtain ⟨u', h1, h2⟩ := hu' s hd
    rw [finalTmps_new (v := u) ops 0 tmps j x (h.ok.dst hx hd) hx hd (by rw [Nat.zero_add]; exact hu) (fun j' x' hx' hd' => h.ok.once hx' hx hd' hd)] at hv
    cases hv
    rw [h1] at hv'; cases hv'
    exact h2
  · rw [finalTmps_get ops 0 tmps (fun j x hx hd => hex ⟨j, x, hx, hd⟩)] at hv
    exact h.old s (fun j x hx _ hd => hex ⟨j, x, hx, hd⟩) v v' hv hv'
theorem unlisted_replicate (n : Nat) : unlisted (Array.replicate n false) = n := by
  unfold unlisted
  rw [Array.toList_replicate, List.filter_replicate]
  simp
/-- A drawn region entered. -/
theorem draw_start {ops : List Oper} {plan : List (Option Nat × Nat × Nat)} {vals : List (Nat × Value)} {tmps : List Value} {tm : Array Value} (hok : DrawOk tmps.length ops plan) (ha : AR ρ tmps.toArray tm) : DrawSt ρ ops plan 0 vals tmps tm (Array.replicate ops.length false) := by
  have hf : ∀ j : Nat, (Array.replicate ops.length false)[j]? ≠ some true := by
    intro j hj
    rw [Array.getElem?_replicate] at hj
    split at hj <;> cases hj
  refine ⟨hok, by simp, Nat.zero_le _, fun j o _ hj => (hf j hj).elim, fun j e lo hi _ => ⟨fun hj => (hf j hj).elim, fun he => by omega⟩, by rw [← ha.size]; simp, fun j o _ hj => (hf j hj).elim, fun t _ v v' hv hv' => ha.get t v v' (by simpa using hv) hv'⟩
/-- The step of a drawn region. -/
theorem draw_step (hF : Facts P) {c c' : PC} {b : Frame} {tm : Array Value} {df : List Deferred} {cs : List Frame} {items : List Item} {ops : List Oper} {plan : List (Option Nat × Nat × Nat)} {k fuel t : Nat} {vals : List (Nat × Value)} {rest : List PI} {listed : Array Bool}
    (hb : FB ρ c.fr b) (hret : c.fr.ret = false) (htodo : c.fr.todo = .draw ops plan k vals :: rest) (hd : DsR ρ c.fr.defers df) (hcs : FRs ρ c.cs cs) (hrel : Rel c.w W) (hr : HR P w0 ρ W w)
    (hs : DrawSt ρ ops plan k vals c.fr.tmps tm listed) (hset : Settled P ops plan c.fr.tmps c.w k vals) (hi : IRs ρ rest items) (hf : fuel = unlisted listed)
    (h : (match effAt ops plan k with
      | some (_, o) =>
        let t := seenBy ops c.fr.tmps vals o
        if pwanted ops t o then papply P c (pexec P (pev t) o c.w) else none
      | none => pto { c with fr := { c.fr with tmps := finalTmps c.fr.tmps vals ops 0 } } rest) = some c') :
    Goes P w0 ρ c' (b.atR ⟨tm, df⟩ (.inRegion ops.toArray (Region.linearise.go .any ops.toArray fuel t listed []) :: items)) cs w := by
  obtain ⟨tm', listed', fuel', t', q1, q2, q3, q4⟩ := draw_reads hF hset hrel hr b df items fuel t tm listed hs hf
  have cont : ∀ {fr' : Frame}, Goes P w0 ρ c' (b.atR ⟨tm', df⟩ (.inRegion ops.toArray (Region.linearise.go .any ops.toArray fuel' t' listed' []) :: items)) cs w → Goes P w0 ρ c' (b.atR ⟨tm, df⟩ (.inRegion ops.toArray (Region.linearise.go .any ops.toArray fuel t listed []) :: items)) cs w := by
    rintro _ ⟨ρ', fr', cs', w', g1, g2, g3⟩
    exact ⟨ρ', fr', cs', w', g1, fun base => (q3 _).trans (g2 base), g3⟩
  refine cont (fr' := default) ?_
  cases he : effAt ops plan k with
  | none =>
    rw [he] at h
    simp only [pto] at h
    cases h
    rcases q4 with q4 | ⟨f, i, o, e, p, t'', r1, r2, r3, r4, r5, r6⟩
    · subst q4
      refine ⟨ρ, _, cs, w, Ren.le_refl _, fun base => .one stepR_region_end, .run (pf := { c.fr with tmps := _, todo := _ }) ⟨hb.fn, hb.kind, hb.round⟩ hret (.plain (final_AR q2 q1.symm) hi) hd, hcs, W, hrel, hr⟩
    · exfalso
      obtain ⟨lo, hi'⟩ := p
      have h1 : lo ≤ k := lo_le q2.ok q2.closed q2.eff i o (some e) lo hi' r3 r4 r6
      have h2 := q2.ok.eff r4
      have h3 := q2.eff i e lo hi' r4
      rw [r5] at h3
      simp at h3
      have : e = k := by omega
      subst this
      exact effAt_none he q2.ok.len i (lo, hi') r4
  | some io =>
    obtain ⟨i0, o0⟩ := io
    rw [he] at h
    simp only at h
    obtain ⟨ho0, p0, hp0⟩ := effAt_some he
    obtain ⟨lo0, hi0⟩ := p0
    have hi0l : i0 < listed'.size := by rw [q2.size]; exact (List.getElem?_eq_some_iff.1 ho0).1
    rcases q4 with q4 | ⟨f, i, o, e, p, t'', r1, r2, r3, r4, r5, r6⟩
    · exfalso
      have h1 := allListed (by rw [← q1]; exact q4) i0 listed'[i0] (Array.getElem?_eq_getElem hi0l)
      have h2 := (q2.eff i0 k lo0 hi0 hp0).1 (by rw [Array.getElem?_eq_getElem hi0l, h1])
      omega
    · obtain ⟨lo, hi'⟩ := p
      have h1 : lo ≤ k := lo_le q2.ok q2.closed q2.eff i o (some e) lo hi' r3 r4 r6
      have h2 := q2.ok.eff r4
      have h3 := q2.eff i e lo hi' r4
      rw [r5] at h3
      simp at h3
      have hek : e = k := by omega
      subst hek
      have hii := q2.ok.uniq hp0 r4
      subst hii
      rw [ho0] at r3; cases r3
      rw [r2]
      split at h
      · rename_i hw
        cases hex : pexec P (pev (seenBy ops c.fr.tmps vals o0)) o0 c.w with
        | none => rw [hex] at h; cases h
        | some x =>
          obtain ⟨nx, pw1⟩ := x
          rw [hex] at h
          have hg := pexec_rel hF (draw_env q2 ho0 r5 r6 df) hex hrel hr
          refine papply_rel (ops := ops.toArray) hb hret ?_ hd hcs (by simpa using ho0) (by rw [draw_want q2 ho0 r5 r6]; exact hw) hg h
          rw [htodo]
          exact .draw q2 hi he r5 r6 (by omega)
      · cases h
theorem step_rel (hF : Facts P) (hmix : P.follows .mixedOrders = true) {c c' : PC} {fr : Frame} {cs : List Frame} (hcr : CR P w0 ρ c fr cs w) (h : pstep P c = some c') : Goes P w0 ρ c' fr cs w := by
  obtain ⟨hfr, hcs, W, hrel, hr⟩ := hcr
  unfold pstep at h
  cases hfr with
  | ret hb hret ht hd =>
    rw [if_pos hret] at h
    exact punwind_rel hF hb hret ht hd hcs hrel hr h
  | run hb hret ht hd =>
    rename_i b tm df todo
    rw [if_neg (by rw [hret]; simp)] at h
    generalize hpt : c.fr.todo = pt at ht h
    cases ht with
    | draw hs hset hi hf =>
      rename_i ops plan k vals rest listed items fuel t
      exact draw_step hF hb hret hpt hd hcs hrel hr hs hset hi hf h
    | plain ha hi =>
      cases hi with
      | nil => exact pleave_rel hb hd hcs hrel hr ha (fun hbr _ cs => stepR_end hbr) (fun l v w' f0 cs hbr hk hrun => stepR_round_end hbr hk hrun) h
      | cons hi hk =>
        rename_i pk ks
        cases hi with
        | code cd =>
          cases cd with
          | skip => cases h; exact plain_step hb hret hd hcs hrel hr ha hk fun cs => stepR_skip
          | label l => cases h; exact plain_step hb hret hd hcs hrel hr ha hk fun cs => stepR_label
          | seq x y => cases h; exact plain_step hb hret hd hcs hrel hr ha (.cons (.code x) (.cons (.code y) hk)) fun cs => stepR_seq
          | cond x thn els =>
            simp only at h
            split at h
            · rename_i t hok hx
              cases h
              have := pev_rel (df := df) ha x hok
              rw [hx] at this
              have hx' : (⟨tm, df⟩ : Act).eval x = .bool t := by
                generalize (⟨tm, df⟩ : Act).eval x = v at this
                cases this; rfl
              exact plain_step hb hret hd hcs hrel hr ha (.cons (.code _) hk) fun cs => stepR_cond hx'
            · cases h
          | block id body => cases h; exact plain_step hb hret hd hcs hrel hr ha (.cons (.code body) (.cons (.inBlock id) hk)) fun cs => stepR_block
          | loop body => cases h; exact plain_step hb hret hd hcs hrel hr ha (.cons (.code body) (.cons (.inLoop body) hk)) fun cs => stepR_loop
          | exit id =>
            simp only at h
            obtain ⟨e1, e2⟩ := exit_rel id hk
            split at h
            · rename_i k1 hk1
              cases h
              obtain ⟨k2, hk2, hkr⟩ := e1 k1 hk1
              exact plain_step hb hret hd hcs hrel hr ha hkr fun cs => stepR_exit hk2
            · rename_i hk1
              exact pleave_rel hb hd hcs hrel hr ha (fun hbr hj => by rcases hj with hj | hj <;> cases hj) (fun l v w' f0 cs hbr hkd hrun => stepR_round_exit hbr hkd (e2 hk1) hrun) h
          | ret => exact pleave_rel hb hd hcs hrel hr ha (fun hbr _ cs => stepR_ret hbr) (fun l v w' f0 cs hbr hk hrun => stepR_round_ret hbr hk hrun) h
          | rangeFunc f ps assign body =>
            simp only at h
            split at h
            · rename_i l mark pw1 hrun
              split at h
              · rename_i g args pw2 hok hcall
                split at h
                · rename_i fr2 hpen
                  cases h
                  have hfe : AR ρ c.fr.tmps.toArray tm := ha
                  obtain ⟨ρ1, x1, w1, W1, g1, g2, g3, g4, g5⟩ := use_sim (sim_enterLoop c.fr.fn ha ps assign body hb.round) hrun hrel hr
                  obtain ⟨⟨L, hL, hL2⟩, hmk⟩ := g3
                  obtain ⟨l', mark'⟩ := x1
                  simp only at hL hL2 hmk
                  subst hL2
                  have hfv := (pev_rel (df := df) ha f hok).mono g1
                  obtain ⟨ρ2, nx, w2, W2, k1, k2, k3, k4, k5, _⟩ := pcall_rel hF hfv (yield_VR hL) hcall g4 g5
                  cases k3 with
                  | enter _ hA =>
                    rename_i args'
                    have hev : ∃ fn first cap, (⟨tm, df⟩ : Act).eval f = .func fn first cap := by
                      generalize (⟨tm, df⟩ : Act).eval f = v at hfv k2
                      unfold pcall at hcall
                      split at hcall
                      · rename_i e; rw [e] at hfv; cases hfv; exact ⟨_, _, _, rfl⟩
                      · rename_i e; rw [e] at hfv; cases hfv <;> exact ⟨_, _, _, rfl⟩
                      · cases hcall
                    obtain ⟨fn, first, cap, hev⟩ := hev
                    have k2' : (invoke (.fn fn cap) (first ++ #[.func (.yield L.blk) #[] #[]])).run P w1 = .ok (.enter g args') w2 := by
                      rw [hev] at k2; exact k2
                    have he : (Instr.enterLoop b.fn tm ps assign body b.roundOf).run P w = .ok (L.blk, mark') w1 := by rw [hb.fn]; exact g2
                    refine ⟨ρ2, _, _ :: cs, w2, Ren.le_trans g1 k1, fun base => .one (stepR_rangeFunc (a := ⟨tm, df⟩) he (resolve_range hev) k2'), enter_rel hA hpen, .cons ?_ ((hcs.mono g1).mono k1), W2, k4, k5⟩
                    have hle := Ren.le_trans g1 k1
                    refine .run (pf := { c.fr with todo := _, defers := _ }) ⟨hb.fn, hb.kind, hb.round.mono hle⟩ hret (.plain (ha.mono hle) (.cons (.inRange (k1 _ _ hL)) (hk.mono hle))) ?_
                    exact (hmk.mono k1).append (hd.mono hle)
                · cases h
              · cases h
            · cases h
          | region id ops d =>
            cases d with
            | false => cases h; exact plain_step hb hret hd hcs hrel hr ha (.cons (.inRegion ops 0 rfl rfl) hk) fun cs => stepR_region
            | true =>
              simp only at h
              split at h
              · rename_i hok
                split at h
                · rename_i vals hset
                  cases h
                  have hok' := drawOk_of hok
                  obtain ⟨s1, s2⟩ := settle_sound _ _ _ _ _ hset
                  have hst := draw_start (vals := vals) hok' ha
                  have e : Region.schedule (P.follows .mixedOrders) ops (w.tape w.drawn (.order b.fn id)) = Region.linearise.go .any ops.toList.toArray ops.size (w.tape w.drawn (.order b.fn id)) (Array.replicate ops.toList.length false) [] := by
                    rw [hmix]; simp [Region.schedule, Region.linearise]
                  refine ⟨ρ, _, cs, _, Ren.le_refl _, fun base => .one stepR_region_draw, ?_, hcs, W, hrel, hr.drawn _⟩
                  rw [e]
                  refine .run (pf := { c.fr with todo := _ }) ⟨hb.fn, hb.kind, hb.round⟩ hret ?_ hd
                  have := BodyA.draw (P := P) (pw := c.w) (fuel := ops.size) (t := w.tape w.drawn (.order b.fn id)) hst (fun i o lo hi ho hp h1 h2 => by
                    have := s2 i o lo hi ho hp h1 h2
                    rwa [Nat.zero_add] at this) hk (by rw [unlisted_replicate]; simp)
                  simpa using this
                · cases h
              · cases h
          | _ => cases h
        | inBlock id => cases h; exact plain_step hb hret hd hcs hrel hr ha hk fun cs => stepR_inBlock
        | inLoop body => cases h; exact plain_step hb hret hd hcs hrel hr ha (.cons (.code body) (.cons (.inLoop body) hk)) fun cs => stepR_inLoop
        | inScope body => cases h
        | inRange hL => cases h
        | beginRound =>
          simp only at h
          split at h
          · rename_i l hro
            split at h
            · rename_i u pw1 hrun
              cases h
              have hro' := hb.round
              rw [hro] at hro'
              generalize hbr : b.roundOf = r at hro'
              cases hro' with
              | some hL =>
                obtain ⟨ρ', u', w', W', g1, g2, g3, g4, g5⟩ := use_sim (sim_beginRound hL) hrun hrel hr
                exact ⟨ρ', _, cs, w', g1, fun base => .one (stepR_beginRound hbr g2), .run (pf := { c.fr with todo := _ }) ⟨hb.fn, hb.kind, hb.round.mono g1⟩ hret (.plain (ha.mono g1) (hk.mono g1)) (hd.mono g1), hcs.mono g1, W', g4, g5⟩
            · cases h
          · cases h
        | endRange hL =>
          simp only at h
          split at h
          · rename_i j pw1 hrun
            cases h
            obtain ⟨ρ', j', w', W', g1, g2, g3, g4, g5⟩ := use_sim (sim_endLoop hL) hrun hrel hr
            subst g3
            refine ⟨ρ', _, cs, w', g1, fun base => .one (stepR_endRangeFunc g2), .run (pf := { c.fr with todo := _ }) ⟨hb.fn, hb.kind, hb.round.mono g1⟩ hret (.plain (ha.mono g1) ?_) (hd.mono g1), hcs.mono g1, W', g4, g5⟩
            cases j with
            | none => exact hk.mono g1
            | some cd => exact .cons (.code cd) (hk.mono g1)
          · cases h
        | inRegion ops i hl hm =>
          rename_i l m
          cases l with
          | nil =>
            cases h
            have hge : ops.size ≤ i := by
              rcases Nat.lt_or_ge i ops.size with h' | h'
              · have hlt : i < ops.toList.length := by simpa using h'
                rw [List.drop_eq_getElem_cons hlt] at hl; cases hl
              · exact h'
            have hm0 : m = [] := by rw [hm]; exact List.drop_eq_nil_of_le (by simpa using hge)
            subst hm0
            exact plain_step hb hret hd hcs hrel hr ha hk fun cs => stepR_region_end
          | cons o rest =>
            obtain ⟨h1, h2⟩ := drop_cons hl.symm
            have hlt : i < ops.size := by have := (List.getElem?_eq_some_iff.1 h1).1; simpa using this
            have ho : ops[i]? = some o := by simpa using h1
            rw [range_drop hlt] at hm
            subst hm
            simp only at h
            split at h
            · rename_i hw
              cases hex : pexec P (pev c.fr.tmps) o c.w with
              | none => rw [hex] at h; cases h
              | some x =>
                obtain ⟨nx, pw1⟩ := x
                rw [hex] at h
                have hg := pexec_rel hF (fun x _ hx => pev_rel (df := df) ha x hx) hex hrel hr
                refine papply_rel (ops := ops) hb hret ?_ hd hcs ho (by rw [want_plain ha]; exact hw) hg h
                rw [hpt]
                exact .plain ha (.cons (.inRegion ops i hl (range_drop hlt).symm) hk)
            · rename_i hw
              simp only [pto] at h
              cases h
              have hstep : ∀ cs, step P (lone (b.atR ⟨tm, df⟩ (.inRegion ops (i :: (List.range ops.size).drop (i + 1)) :: ks)) cs w) = .next (lone (b.atR ⟨((⟨tm, df⟩ : Act).put o.dst undef).tmps, df⟩ (.inRegion ops ((List.range ops.size).drop (i + 1)) :: ks)) cs w) := by
                intro cs
                have := stepR_op_skip (P := P) (b := b) (a := ⟨tm, df⟩) (k := ks) (cs := cs) (w := w) (ops := ops) (i := i) (rest := (List.range ops.size).drop (i + 1)) (by
                  rw [ho]; simp only [Option.map_some, Option.getD_some]; rw [want_plain ha]; simpa using hw)
                rw [this, ho]
                show _ = _
                have e2 : ∀ its : List Item, b.atR ((⟨tm, df⟩ : Act).put o.dst undef) its = b.atR ⟨((⟨tm, df⟩ : Act).put o.dst undef).tmps, df⟩ its := by
                  intro its; cases o.dst <;> rfl
                show Stepped.next (lone (b.atR ((⟨tm, df⟩ : Act).put o.dst undef) _) cs w) = _
                rw [e2]
              refine ⟨ρ, _, cs, w, Ren.le_refl _, fun base => .one (hstep _), .run (pf := { c.fr with tmps := _, todo := _ }) ⟨hb.fn, hb.kind, hb.round⟩ hret (.plain (setD_AR ha _ (.tuple rfl fun i v v' hv => by simp at hv) df) (.cons (.inRegion ops (i + 1) h2 rfl) hk)) hd, hcs, W, hrel, hr⟩
theorem run_rel (hF : Facts P) (hmix : P.follows .mixedOrders = true) : ∀ (n : Nat) {ρ : Ren} {w : World} {c c' : PC} {fr : Frame} {cs : List Frame}, CR P w0 ρ c fr cs w → prun P n c = some c' → Goes P w0 ρ c' fr cs w
  | 0, ρ, w, c, c', fr, cs, h, e => by cases e; exact ⟨ρ, fr, cs, w, Ren.le_refl _, fun _ => .refl _ _, h⟩
  | n + 1, ρ, w, c, c', fr, cs, h, e => by
    simp only [prun] at e
    split at e
    · rename_i c1 h1
      obtain ⟨ρ1, fr1, cs1, w1, g1, g2, g3⟩ := step_rel hF hmix h h1
      obtain ⟨ρ2, fr2, cs2, w2, k1, k2, k3⟩ := run_rel hF hmix n g3 e
      exact ⟨ρ2, fr2, cs2, w2, Ren.le_trans g1 k1, fun base => (g2 base).trans (k2 base), k3⟩
    · cases e
/-- The pattern's world that is empty. -/
theorem start_rel (w : World) : Rel ⟨0, .e⟩ { w with heap := #[] } ∧ HR P w (fun _ => none) { w with heap := #[] } w := by
  refine ⟨⟨by decide, rfl, fun i => ?_⟩, ⟨?_, ?_, ?_, ?_, ?_, .refl _ _, ?_⟩⟩
  · show (#[] : Array Obj)[i]? = _
    unfold PW.get
    simp
  · intro b L h; cases h
  · intro b o h; simp at h
  · intro b c o o' L M h; simp at h
  · intro b o L h; simp at h
  · intro b o h; simp at h
  · intro b L h; cases h
/-- What is asked of the pattern's last configuration: the function returns this. -/
def endsWith (P : Program) (c : PC) (f : FuncId) (v : Value) : Bool :=
  c.fr.ret && c.fr.fn == f && (match c.fr.kind with | .normal => true | _ => false) && c.fr.defers.isEmpty && c.cs.isEmpty && plainV 3 v &&
  match P.funcs[c.fr.fn]? with
  | some fn => match runP P (results fn c.fr.tmps.toArray) c.w with
    | some (u, _) => eqV 4 u v
    | none => false
  | none => false
/-- A run of the pattern that starts with nothing: each call returns so, and leaves what was there as it was. -/
theorem closed_call (hF : Facts P) (hmix : P.follows .mixedOrders = true) {f : FuncId} {pf : PF} {n : Nat} {c' : PC} {v : Value} (hp : penter P f #[] .normal = some pf) (hrun : prun P n ⟨pf, [], ⟨0, .e⟩⟩ = some c') (hend : endsWith P c' f v = true) (w : World) :
    Calls P f #[] w fun e w' => e = .returned v ∧ Below w.heap.size w w' := by
  obtain ⟨hrel, hr⟩ := start_rel (P := P) w
  have h0 : CR P w (fun _ => none) ⟨pf, [], ⟨0, .e⟩⟩ (Frame.enter P f #[] .normal) [] w := ⟨enter_rel (AR.nil _) hp, .nil, _, hrel, hr⟩
  obtain ⟨ρ', fr', cs', w', g1, g2, g3⟩ := run_rel hF hmix n h0 hrun
  obtain ⟨hfr, hcs, W', hrel', hr'⟩ := g3
  unfold endsWith at hend
  simp only [Bool.and_eq_true, beq_iff_eq, List.isEmpty_iff] at hend
  obtain ⟨⟨⟨⟨⟨⟨e1, e2⟩, e3⟩, e4⟩, e5⟩, e6⟩, e7⟩ := hend
  rw [e5] at hcs
  cases hcs
  cases hfr with
  | run hb hret => rw [e1] at hret; cases hret
  | ret hb hret ht hd =>
    rename_i b tm df todo
    rw [e4] at hd
    cases hd
    cases hfn : P.funcs[c'.fr.fn]? with
    | none => rw [hfn] at e7; cases e7
    | some fn =>
      rw [hfn] at e7
      simp only at e7
      split at e7
      · rename_i u pw1 hres
        have hu := eqV_eq _ _ _ e7
        subst hu
        obtain ⟨W1, r1, r2⟩ := runP_run _ _ _ _ _ hres hrel'
        obtain ⟨ρ2, v', w2, x1, x2, x3, x4, x5⟩ := sim_results (P := P) (w0 := w) (q := true) fn ht ρ' (Ren.le_refl _) W' w' hr' u W1 r1
        obtain ⟨_, _, rfl⟩ := x5 rfl
        have hv' := plain_eq 3 _ _ e6 x3
        subst hv'
        intro cs
        refine ⟨.returned v', w2, { b.atR ⟨tm, []⟩ todo with mode := .returning }, ⟨rfl, x4.below⟩, ?_, ?_, ?_⟩
        · exact g2 cs
        · show b.fn = f
          rw [hb.fn]; exact e2
        · refine ⟨rfl, rfl, ?_, fn, ?_, x2⟩
          · show b.kind = .normal
            rw [hb.kind]
            cases hk : c'.fr.kind <;> rw [hk] at e3 <;> first | rfl | cases e3
          · show P.funcs[b.fn]? = some fn
            rw [hb.fn]; exact hfn
      · cases e7
end
end Go.Proofs.YtnnppmcbgfadpaaGreatDoor
