/- Drawn regions walked through; values handed back to frames; frames entered. -/
import Derived.Test.YtnnppmcbgfadpaaGreatDoorSimV
namespace Go.Proofs.YtnnppmcbgfadpaaGreatDoor
open Go.RowKit
theorem effAt_some {k : Nat} : ∀ {ops : List Oper} {plan : List (Option Nat × Nat × Nat)} {i : Nat} {o : Oper}, effAt ops plan k = some (i, o) → ops[i]? = some o ∧ ∃ p, plan[i]? = some (some k, p)
  | [], _, i, o, h => by simp [effAt] at h
  | x :: ops, [], i, o, h => by simp [effAt] at h
  | x :: ops, p :: plan, i, o, h => by
    unfold effAt at h
    split at h
    · rename_i hp
      cases h
      obtain ⟨e, q⟩ := p
      simp only [beq_iff_eq] at hp
      subst hp
      exact ⟨rfl, q, rfl⟩
    · cases he : effAt ops plan k with
      | none => rw [he] at h; cases h
      | some y =>
        rw [he] at h
        cases h
        exact effAt_some (ops := ops) (plan := plan) he
theorem effAt_none {k : Nat} : ∀ {ops : List Oper} {plan : List (Option Nat × Nat × Nat)}, effAt ops plan k = none → plan.length = ops.length → ∀ (i : Nat) (p : Nat × Nat), plan[i]? ≠ some (some k, p)
  | [], [], _, _, i, p, h => by simp at h
  | [], _ :: _, _, hl, _, _, _ => by simp at hl
  | _ :: _, [], _, hl, _, _, _ => by simp at hl
  | x :: ops, q :: plan, h, hl, i, p, hi => by
    unfold effAt at h
    split at h
    · cases h
    · rename_i hq
      cases i with
      | zero =>
        simp only [List.getElem?_cons_zero, Option.some.injEq] at hi
        subst hi
        simp at hq
      | succ i =>
        simp only [List.getElem?_cons_succ] at hi
        simp only [List.length_cons, Nat.add_right_cancel_iff] at hl
        refine effAt_none (ops := ops) (plan := plan) ?_ hl i p hi
        cases he : effAt ops plan k with
        | none => rfl
        | some y => rw [he] at h; cases h
section
variable {P : Program} {w0 : World} {ρ : Ren} {W w : World} {pw pw' : PW} {ops : List Oper} {plan : List (Option Nat × Nat × Nat)} {k : Nat} {vals : List (Nat × Value)} {tmps : List Value}
/-- The readings of a stage, in whatever order, up to the next effect or to the end. -/
theorem draw_reads (hF : Facts P) (hset : Settled P ops plan tmps pw k vals) (hrel : Rel pw W) (hr : HR P w0 ρ W w) (b : Frame) (df : List Deferred) (items : List Item) :
    ∀ (fuel t : Nat) (tm : Array Value) (listed : Array Bool), DrawSt ρ ops plan k vals tmps tm listed → fuel = unlisted listed →
    ∃ tm' listed' fuel' t', fuel' = unlisted listed' ∧ DrawSt ρ ops plan k vals tmps tm' listed' ∧
      (∀ cs, Steps P (lone (b.atR ⟨tm, df⟩ (.inRegion ops.toArray (Region.linearise.go .any ops.toArray fuel t listed []) :: items)) cs w) (lone (b.atR ⟨tm', df⟩ (.inRegion ops.toArray (Region.linearise.go .any ops.toArray fuel' t' listed' []) :: items)) cs w)) ∧
      (fuel' = 0 ∨ ∃ f i o e p t'', fuel' = f + 1 ∧ Region.linearise.go .any ops.toArray fuel' t' listed' [] = i :: Region.linearise.go .any ops.toArray f t'' (listed'.setIfInBounds i true) [] ∧ ops[i]? = some o ∧ plan[i]? = some (some e, p) ∧ listed'[i]? = some false ∧ ∀ j ∈ depsP o, listed'[j]? = some true) := by
  intro fuel
  induction fuel with
  | zero => intro t tm listed hs hf; exact ⟨tm, listed, 0, t, hf, hs, fun _ => .refl _ _, .inl rfl⟩
  | succ fuel ih =>
    intro t tm listed hs hf
    obtain ⟨i, o, t', hord, ho, hl, hd, hf'⟩ := order_next (t := t) hs hf
    have hilt : i < ops.length := (List.getElem?_eq_some_iff.1 ho).1
    obtain ⟨p, hp, _⟩ := hs.ok.get ho
    obtain ⟨e, lo, hi⟩ := p
    cases e with
    | some e => exact ⟨tm, listed, fuel + 1, t, hf, hs, fun _ => .refl _ _, .inr ⟨fuel, i, o, e, (lo, hi), t', rfl, hord, ho, hp, hl, hd⟩⟩
    | none =>
      have h1 : lo ≤ k := lo_le hs.ok hs.closed hs.eff i o none lo hi ho hp hd
      have h2 : k ≤ hi := le_hi hs.ok hs.kle hs.size hs.closed hs.eff (ops.length - i) i (none, lo, hi) (by omega) hp hl
      obtain ⟨v, hread, hval⟩ := hset i o lo hi ho hp h1 h2
      have hpure := hs.ok.pure ho hp
      have hwant := draw_want hs ho hl hd
      have heff : ∀ (j e lo hi : Nat), plan[j]? = some (some e, lo, hi) → ((listed.setIfInBounds i true)[j]? = some true ↔ e < k) := by
        intro j e lo' hi' hj
        have hne : i ≠ j := by rintro rfl; rw [hp] at hj; cases hj
        rw [Array.getElem?_setIfInBounds, if_neg hne]
        exact hs.eff j e lo' hi' hj
      have hoA : ops.toArray[i]? = some o := by simpa using ho
      have key : ∃ v', VR ρ v v' ∧ ∀ cs rest, step P (lone (b.atR ⟨tm, df⟩ (.inRegion ops.toArray (i :: rest) :: items)) cs w) = .next (lone (b.atR ((⟨tm, df⟩ : Act).put o.dst v') (.inRegion ops.toArray rest :: items)) cs w) := by
        unfold readOne at hread
        split at hread
        · split at hread
          · rename_i hdeps hw
            split at hread
            · rename_i u pw1 hex
              cases hread
              obtain ⟨ρ', nx', w', W', g1, g2, g3, g4, g5, g6⟩ := pexec_rel hF (draw_env hs ho hl hd df) hex hrel hr
              obtain ⟨e1, e2⟩ := g6 hpure
              subst e1; subst e2
              cases g3 with
              | value hv =>
                refine ⟨_, hv, fun cs rest => step_op_value hoA (by rw [hwant]; exact hw) (.inr ?_) g2⟩
                intro c hc
                rw [hc] at hpure; cases hpure
            · cases hread
          · rename_i hdeps hw
            cases hread
            refine ⟨undef, .tuple rfl (fun i v v' hv => by simp at hv), fun cs rest => ?_⟩
            have := stepR_op_skip (P := P) (b := b) (a := ⟨tm, df⟩) (k := items) (cs := cs) (w := w) (ops := ops.toArray) (i := i) (rest := rest) (by
              rw [hoA]; simp only [Option.map_some, Option.getD_some]; rw [hwant]; simpa using hw)
            rw [hoA] at this
            exact this
        · cases hread
      obtain ⟨v', hvr, hstep⟩ := key
      have hs' := hs.list ho hl hd (fun _ _ h => h) hval hvr hs.kle heff df
      obtain ⟨tm2, listed2, fuel2, t2, q1, q2, q3, q4⟩ := ih t' _ _ hs' hf'
      refine ⟨tm2, listed2, fuel2, t2, q1, q2, fun cs => ?_, q4⟩
      rw [hord]
      have e : b.atR ((⟨tm, df⟩ : Act).put o.dst v') (.inRegion ops.toArray (Region.linearise.go .any ops.toArray fuel t' (listed.setIfInBounds i true) []) :: items) =
          b.atR ⟨((⟨tm, df⟩ : Act).put o.dst v').tmps, df⟩ (.inRegion ops.toArray (Region.linearise.go .any ops.toArray fuel t' (listed.setIfInBounds i true) []) :: items) := by
        cases o.dst <;> rfl
      refine .head (hstep cs _) ?_
      rw [e]
      exact q3 cs
theorem drop_cons {α : Type} {l : List α} {i : Nat} {x : α} {r : List α} (h : l.drop i = x :: r) : l[i]? = some x ∧ r = l.drop (i + 1) := by
  have hlt : i < l.length := by
    rcases Nat.lt_or_ge i l.length with h' | h'
    · exact h'
    · rw [List.drop_eq_nil_of_le h'] at h; cases h
  rw [List.drop_eq_getElem_cons hlt] at h
  cases h
  exact ⟨List.getElem?_eq_getElem hlt, rfl⟩
theorem range_drop {n i : Nat} (h : i < n) : (List.range n).drop i = i :: (List.range n).drop (i + 1) := by
  rw [List.drop_eq_getElem_cons (by simpa using h)]
  simp
/-- A value handed back to a frame that waits for it. -/
theorem finish_rel {pf pf' : PF} {fr : Frame} {v v' : Value} (h : FRw ρ pf fr) (hv : VR ρ v v') (hp : pfinish P pf v pw = some pf') : FRa P ρ pw pf' (fr.finish v') := by
  unfold pfinish at hp
  split at hp
  · cases hp
  · rename_i hret
    cases h with
    | ret hb hr' => rw [hr'] at hret; exact (hret rfl).elim
    | run hb hr' ht hd =>
      rename_i b tm df todo
      split at hp
      · rename_i ops o rest kk htodo
        rw [htodo] at ht
        cases ht with
        | plain ha hi =>
          cases hi with
          | cons hi hk =>
            cases hi with
            | inRegion _ i hl hm =>
              cases hp
              obtain ⟨h1, h2⟩ := drop_cons hl.symm
              have hlt : i < ops.size := by have := (List.getElem?_eq_some_iff.1 h1).1; simpa using this
              rw [hm, range_drop hlt, Frame.finish_atR]
              have e : (ops[i]?).bind (·.dst) = o.dst := by
                have : ops[i]? = some o := by simpa using h1
                rw [this]; rfl
              rw [e]
              have e2 : ∀ its : List Item, b.atR ((⟨tm, df⟩ : Act).put o.dst v') its = b.atR ⟨((⟨tm, df⟩ : Act).put o.dst v').tmps, df⟩ its := by
                intro its; cases o.dst <;> rfl
              rw [e2]
              exact .run (pf := { pf with tmps := _, todo := _ }) ⟨hb.fn, hb.kind, hb.round⟩ hr' (.plain (setD_AR ha _ hv df) (.cons (.inRegion ops (i + 1) h2 rfl) hk)) hd
      · rename_i l kk htodo
        rw [htodo] at ht
        cases ht with
        | plain ha hi =>
          cases hi with
          | cons hi hk =>
            cases hi with
            | inRange hL =>
              cases hp
              rw [finish_atR_inRangeFunc]
              exact .run (pf := { pf with todo := _ }) ⟨hb.fn, hb.kind, hb.round⟩ hr' (.plain ha (.cons (.endRange hL) hk)) hd
      · rename_i ops plan k vals rest htodo
        rw [htodo] at ht
        cases ht with
        | plain ha hi =>
          cases hi with
          | cons hi hk => cases hi
        | draw hs hi he hl hdd hf =>
          rename_i listed items i fuel t o
          rw [he] at hp
          simp only at hp
          split at hp
          · rename_i vals' hn hset
            cases hp
            obtain ⟨ho, p, hpl⟩ := effAt_some he
            obtain ⟨lo, hi'⟩ := p
            obtain ⟨s1, s2⟩ := settle_sound _ _ _ _ _ hset
            have hext0 : Ext vals ((i, v) :: vals) := by
              intro j u hj
              rw [valOf_cons]
              split
              · rename_i e; subst e; rw [hn] at hj; cases hj
              · exact hj
            have heff : ∀ (j e lo hi : Nat), plan[j]? = some (some e, lo, hi) → ((listed.setIfInBounds i true)[j]? = some true ↔ e < k + 1) := by
              intro j e lo2 hi2 hj
              rw [Array.getElem?_setIfInBounds]
              have hlt : i < listed.size := (Array.getElem?_eq_some_iff.1 hl).1
              split
              · rename_i e2; subst e2
                rw [hpl] at hj; cases hj
                simp [hlt]
              · rename_i hne
                rw [hs.eff j e lo2 hi2 hj]
                have : e ≠ k := by
                  rintro rfl
                  exact hne (hs.ok.uniq hpl hj)
                omega
            have hs' := hs.list ho hl hdd (fun j u hj => s1 j u (hext0 j u hj)) (s1 i v (by rw [valOf_cons, if_pos rfl])) hv (hs.ok.efflt hpl) heff df
            have hoA : ops.toArray[i]? = some o := by simpa using ho
            rw [Frame.finish_atR, hoA]
            have e2 : b.atR ((⟨tm, df⟩ : Act).put ((some o).bind (·.dst)) v') (.inRegion ops.toArray (Region.linearise.go .any ops.toArray fuel t (listed.setIfInBounds i true) []) :: items) = b.atR ⟨((⟨tm, df⟩ : Act).put o.dst v').tmps, df⟩ (.inRegion ops.toArray (Region.linearise.go .any ops.toArray fuel t (listed.setIfInBounds i true) []) :: items) := by
              show b.atR ((⟨tm, df⟩ : Act).put o.dst v') _ = _
              cases o.dst <;> rfl
            rw [e2]
            refine .run (pf := { pf with todo := _ }) ⟨hb.fn, hb.kind, hb.round⟩ hr' (.draw hs' ?_ hi ?_) hd
            · intro j x lo2 hi2 hx hpx h1 h2
              have := s2 j x lo2 hi2 hx hpx h1 h2
              rwa [Nat.zero_add] at this
            · have := unlisted_set hl; omega
          · cases hp
      · cases hp
/-- A frame that is entered. -/
theorem enter_rel {f : FuncId} {args args' : Array Value} {kd : CallKind} {pf : PF} (ha : AR ρ args args') (h : penter P f args kd = some pf) : FRa P ρ pw pf (Frame.enter P f args' kd) := by
  unfold penter at h
  split at h
  · rename_i fn hf
    split at h
    · rename_i c hb
      split at h
      · rename_i hsz
        cases h
        have e : Frame.enter P f args' kd = ({ (default : Frame) with fn := f, kind := kd } : Frame).atR ⟨args' ++ Array.replicate (fn.ntmps - args'.size) undef, []⟩ [.code c] := by
          unfold Frame.enter Frame.atR
          simp only [hf, Option.map_some, Option.getD_some, Option.bind_some, hb]
          rfl
        rw [e]
        refine .run ⟨rfl, rfl, .none⟩ rfl (.plain ?_ (.cons (.code c) .nil)) .nil
        have hrep : AR ρ (Array.replicate (fn.ntmps - args.size) undef) (Array.replicate (fn.ntmps - args'.size) undef) := by
          refine ⟨by simp [ha.size], fun i v v' hv hv' => ?_⟩
          rw [Array.getElem?_replicate] at hv hv'
          split at hv
          · split at hv'
            · cases hv; cases hv'
              exact .tuple rfl fun i v v' hv => by simp at hv
            · cases hv'
          · cases hv
        have := ha.append hrep
        rw [show (args.toList ++ List.replicate (fn.ntmps - args.size) undef).toArray = args ++ Array.replicate (fn.ntmps - args.size) undef by simp]
        exact this
      · cases h
    · cases h
  · cases h
end
end Go.Proofs.YtnnppmcbgfadpaaGreatDoor
