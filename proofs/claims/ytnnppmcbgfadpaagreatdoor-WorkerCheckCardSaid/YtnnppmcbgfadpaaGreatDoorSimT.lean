/- Drawn regions: the stages, what is noted, what is looked at. -/
import Derived.Test.YtnnppmcbgfadpaaGreatDoorSimS
namespace Go.Proofs.YtnnppmcbgfadpaaGreatDoor
open Go.RowKit
theorem drawOk_of {n : Nat} {ops : List Oper} {plan : List (Option Nat × Nat × Nat)} (h : drawOk n ops plan = true) : DrawOk n ops plan := by
  unfold drawOk at h
  simp only [Bool.and_eq_true, beq_iff_eq, List.all_eq_true, List.mem_range] at h
  exact ⟨h.1, h.2⟩
section
variable {n : Nat} {ops : List Oper} {plan : List (Option Nat × Nat × Nat)}
theorem DrawOk.get (h : DrawOk n ops plan) {i : Nat} {o : Oper} (ho : ops[i]? = some o) : ∃ p, plan[i]? = some p ∧ 
    ((depsP o).all (· < i) = true ∧
    (match o.dst with | some t => decide (t < n) && (List.range i).all (fun j => match ops[j]? with | some x => x.dst != some t | none => true) | none => true) = true ∧
    (looksP ops o).all (lookOk ops i o) = true ∧
    (p.2.1 == 0 || (depsP o).any fun j => match plan[j]? with | some p' => decide (p.2.1 ≤ atLeast p') | none => false) = true ∧
    (match p.1 with
     | some e => p.2.1 == e && decide (e < effN plan) && (List.range i).all (fun j => match plan[j]? with | some p' => p'.1 != some e | none => true)
     | none => pureOp o.op && (decide (effN plan ≤ p.2.2) || (List.range ops.length).any fun s => match ops[s]?, plan[s]? with | some x, some p' => (depsP x).contains i && decide (atMost p' ≤ p.2.2) | _, _ => false)) = true) := by
  have hi : i < ops.length := (List.getElem?_eq_some_iff.1 ho).1
  have := h.op i hi
  unfold opOk at this
  have hp : i < plan.length := by rw [h.len]; exact hi
  rw [ho, List.getElem?_eq_getElem hp] at this
  simp only [Bool.and_eq_true] at this
  obtain ⟨⟨⟨⟨h1, h2⟩, h3⟩, h4⟩, h6⟩ := this
  exact ⟨plan[i], List.getElem?_eq_getElem hp, h1, h2, h3, h4, h6⟩
theorem DrawOk.deps (h : DrawOk n ops plan) {i : Nat} {o : Oper} (ho : ops[i]? = some o) : ∀ j ∈ depsP o, j < i := by
  obtain ⟨p, _, h1, _⟩ := h.get ho
  intro j hj
  simpa using List.all_eq_true.1 h1 j hj
theorem DrawOk.dst (h : DrawOk n ops plan) {i : Nat} {o : Oper} {t : Tmp} (ho : ops[i]? = some o) (ht : o.dst = some t) : t < n := by
  obtain ⟨p, _, _, h2, _⟩ := h.get ho
  rw [ht] at h2
  simp only [Bool.and_eq_true, decide_eq_true_eq] at h2
  exact h2.1
theorem DrawOk.once (h : DrawOk n ops plan) {i j : Nat} {o x : Oper} {t : Tmp} (ho : ops[i]? = some o) (hx : ops[j]? = some x) (ht : o.dst = some t) (hu : x.dst = some t) : i = j := by
  have key : ∀ {i j : Nat} {o x : Oper}, ops[i]? = some o → ops[j]? = some x → o.dst = some t → x.dst = some t → ¬ j < i := by
    intro i j o x ho hx ht hu hlt
    obtain ⟨p, _, _, h2, _⟩ := h.get ho
    rw [ht] at h2
    simp only [Bool.and_eq_true, List.all_eq_true, List.mem_range] at h2
    have := h2.2 j hlt
    rw [hx] at this
    simp [hu] at this
  have h1 := key ho hx ht hu
  have h2 := key hx ho hu ht
  omega
theorem DrawOk.eff (h : DrawOk n ops plan) {i e lo hi : Nat} (hp : plan[i]? = some (some e, lo, hi)) : lo = e := by
  have hi' : i < ops.length := by rw [← h.len]; exact (List.getElem?_eq_some_iff.1 hp).1
  obtain ⟨p, hp', _, _, _, _, h6⟩ := h.get (List.getElem?_eq_getElem hi')
  rw [hp] at hp'; cases hp'
  simp only [Bool.and_eq_true, beq_iff_eq] at h6
  exact h6.1.1
theorem DrawOk.uniq (h : DrawOk n ops plan) {i j e : Nat} {p p' : Nat × Nat} (hp : plan[i]? = some (some e, p)) (hq : plan[j]? = some (some e, p')) : i = j := by
  have key : ∀ {i j : Nat} {p p' : Nat × Nat}, plan[i]? = some (some e, p) → plan[j]? = some (some e, p') → ¬ j < i := by
    intro i j p p' hp hq hlt
    have hi' : i < ops.length := by rw [← h.len]; exact (List.getElem?_eq_some_iff.1 hp).1
    obtain ⟨p0, hp', _, _, _, _, h6⟩ := h.get (List.getElem?_eq_getElem hi')
    rw [hp] at hp'; cases hp'
    simp only [Bool.and_eq_true, List.all_eq_true, List.mem_range] at h6
    have := h6.2 j hlt
    rw [hq] at this
    simp at this
  have h1 := key hp hq
  have h2 := key hq hp
  omega
theorem DrawOk.pure (h : DrawOk n ops plan) {i : Nat} {o : Oper} {p : Nat × Nat} (ho : ops[i]? = some o) (hp : plan[i]? = some (none, p)) : pureOp o.op = true := by
  obtain ⟨p0, hp', _, _, _, _, h6⟩ := h.get ho
  rw [hp] at hp'; cases hp'
  simp only [Bool.and_eq_true] at h6
  exact h6.1
/-- What stands listed has its stage behind it. -/
theorem lo_le {k : Nat} {listed : Array Bool} (h : DrawOk n ops plan) (closed : ∀ (j : Nat) (o : Oper), ops[j]? = some o → listed[j]? = some true → ∀ e ∈ depsP o, listed[e]? = some true)
    (heff : ∀ (j e lo hi : Nat), plan[j]? = some (some e, lo, hi) → (listed[j]? = some true ↔ e < k)) :
    ∀ (i : Nat) (o : Oper) (e : Option Nat) (lo hi : Nat), ops[i]? = some o → plan[i]? = some (e, lo, hi) → (∀ j ∈ depsP o, listed[j]? = some true) → lo ≤ k := by
  intro i
  induction i using Nat.strongRecOn with
  | _ i ih =>
    intro o e lo hi ho hp hd
    obtain ⟨p, hp', h1, _, _, h4, _⟩ := h.get ho
    rw [hp] at hp'; cases hp'
    simp only [Bool.or_eq_true, beq_iff_eq, List.any_eq_true] at h4
    rcases h4 with h4 | ⟨j, hj, h4⟩
    · omega
    · have hjl := hd j hj
      have hji : j < i := h.deps ho j hj
      cases hpj : plan[j]? with
      | none => rw [hpj] at h4; cases h4
      | some p' =>
        rw [hpj] at h4
        simp only [decide_eq_true_eq] at h4
        obtain ⟨e', lo', hi'⟩ := p'
        cases e' with
        | some x =>
          have := (heff j x lo' hi' hpj).1 hjl
          simp only [atLeast] at h4
          omega
        | none =>
          have hjo : j < ops.length := by rw [← h.len]; exact (List.getElem?_eq_some_iff.1 hpj).1
          have := ih j hji ops[j] none lo' hi' (List.getElem?_eq_getElem hjo) hpj (closed j _ (List.getElem?_eq_getElem hjo) hjl)
          simp only [atLeast] at h4
          omega
theorem DrawOk.efflt (h : DrawOk n ops plan) {i e lo hi : Nat} (hp : plan[i]? = some (some e, lo, hi)) : e < effN plan := by
  have hi' : i < ops.length := by rw [← h.len]; exact (List.getElem?_eq_some_iff.1 hp).1
  obtain ⟨p, hp', _, _, _, _, h6⟩ := h.get (List.getElem?_eq_getElem hi')
  rw [hp] at hp'; cases hp'
  simp only [Bool.and_eq_true, decide_eq_true_eq] at h6
  exact h6.1.2
/-- What is not listed has its last stage ahead of it. -/
theorem le_hi {k : Nat} {listed : Array Bool} (h : DrawOk n ops plan) (hk : k ≤ effN plan) (hsize : listed.size = ops.length) (closed : ∀ (j : Nat) (o : Oper), ops[j]? = some o → listed[j]? = some true → ∀ e ∈ depsP o, listed[e]? = some true)
    (heff : ∀ (j e lo hi : Nat), plan[j]? = some (some e, lo, hi) → (listed[j]? = some true ↔ e < k)) :
    ∀ (d i : Nat) (p : Option Nat × Nat × Nat), i + d = ops.length → plan[i]? = some p → listed[i]? = some false → k ≤ atMost p := by
  intro d
  induction d using Nat.strongRecOn with
  | _ d ih =>
    intro i p hd hp hl
    have hi' : i < ops.length := by rw [← h.len]; exact (List.getElem?_eq_some_iff.1 hp).1
    obtain ⟨e, lo, hi⟩ := p
    cases e with
    | some e =>
      have := heff i e lo hi hp
      show k ≤ e
      rw [hl] at this
      simp at this
      omega
    | none =>
      obtain ⟨p, hp', _, _, _, _, h6⟩ := h.get (List.getElem?_eq_getElem hi')
      rw [hp] at hp'; cases hp'
      simp only [Bool.and_eq_true, Bool.or_eq_true, decide_eq_true_eq, List.any_eq_true, List.mem_range] at h6
      rcases h6.2 with h6 | ⟨s, hs, h6⟩
      · show k ≤ hi; omega
      · cases hps : plan[s]? with
        | none => rw [hps, List.getElem?_eq_getElem hs] at h6; cases h6
        | some p' =>
          rw [hps, List.getElem?_eq_getElem hs] at h6
          simp only [Bool.and_eq_true, decide_eq_true_eq, List.contains_iff_mem] at h6
          have his : i < s := h.deps (List.getElem?_eq_getElem hs) i h6.1
          have hsl : listed[s]? = some false := by
            have hlt : s < listed.size := by omega
            rw [Array.getElem?_eq_getElem hlt]
            cases hb : listed[s] with
            | false => rfl
            | true =>
              have := closed s _ (List.getElem?_eq_getElem hs) (by rw [Array.getElem?_eq_getElem hlt, hb]) i h6.1
              rw [hl] at this; cases this
          have := ih (ops.length - s) (by omega) s p' (by omega) hps hsl
          show k ≤ hi
          omega
end
theorem valOf_cons (i j : Nat) (v : Value) (vals : List (Nat × Value)) : valOf ((i, v) :: vals) j = if j = i then some v else valOf vals j := rfl
def Ext (a b : List (Nat × Value)) : Prop := ∀ j v, valOf a j = some v → valOf b j = some v
theorem seenBy_ext {ops : List Oper} {tmps : List Value} {a b : List (Nat × Value)} (h : Ext a b) {o : Oper} (hd : (depsP o).all (fun j => (valOf a j).isSome) = true) : seenBy ops tmps b o = seenBy ops tmps a o := by
  unfold seenBy
  have : ∀ (l : List Nat) (t : List Value), (∀ j ∈ l, (valOf a j).isSome = true) →
      l.foldl (fun t j => match ops[j]?, valOf b j with | some x, some v => setD t x.dst v | _, _ => t) t = l.foldl (fun t j => match ops[j]?, valOf a j with | some x, some v => setD t x.dst v | _, _ => t) t := by
    intro l
    induction l with
    | nil => intro t _; rfl
    | cons j l ih =>
      intro t hl
      simp only [List.foldl_cons]
      obtain ⟨v, hv⟩ := Option.isSome_iff_exists.1 (hl j (by simp))
      rw [hv, h j v hv]
      exact ih _ fun x hx => hl x (by simp [hx])
  exact this _ _ fun j hj => List.all_eq_true.1 hd j hj
theorem readOne_ext {P : Program} {ops : List Oper} {tmps : List Value} {w : PW} {a b : List (Nat × Value)} (h : Ext a b) {o : Oper} {v : Value} (hr : readOne P ops tmps a w o = some v) : readOne P ops tmps b w o = some v := by
  unfold readOne at hr ⊢
  split at hr
  · rename_i hd
    have hd' : (depsP o).all (fun j => (valOf b j).isSome) = true := by
      rw [List.all_eq_true] at hd ⊢
      intro j hj
      obtain ⟨v, hv⟩ := Option.isSome_iff_exists.1 (hd j hj)
      rw [h j v hv]; rfl
    rw [if_pos hd', seenBy_ext h hd]
    exact hr
  · cases hr
theorem eqV_eq : ∀ (n : Nat) (a b : Value), eqV n a b = true → a = b := by
  intro n
  induction n with
  | zero =>
    intro a b h
    cases a <;> cases b <;> simp only [eqV, Bool.and_eq_true, beq_iff_eq, Bool.false_eq_true] at h <;> first
      | (subst h; rfl)
      | (obtain ⟨h1, h2⟩ := h; subst h1; subst h2; rfl)
      | (obtain ⟨⟨h1, h2⟩, h3⟩ := h; subst h1; subst h2; subst h3; rfl)
      | rfl
      | (rw [ba_eq h])
  | succ n ih =>
    have hgo : ∀ (l m : List Value), eqV.go n l m = true → l = m := by
      intro l
      induction l with
      | nil => intro m h; cases m <;> simp only [eqV.go, Bool.false_eq_true] at h; rfl
      | cons x l ihl =>
        intro m h
        cases m with
        | nil => simp only [eqV.go, Bool.false_eq_true] at h
        | cons y m =>
          simp only [eqV.go, Bool.and_eq_true] at h
          rw [ih _ _ h.1, ihl _ h.2]
    have harr : ∀ (a b : Array Value), eqV.go n a.toList b.toList = true → a = b := fun a b h => Array.ext' (hgo _ _ h)
    intro a b h
    cases a <;> cases b <;> simp only [eqV, Bool.and_eq_true, beq_iff_eq, Bool.false_eq_true] at h <;> first
      | (subst h; rfl)
      | (rw [ba_eq h])
      | (rw [harr _ _ h])
      | (obtain ⟨⟨h1, h2⟩, h3⟩ := h; subst h1; rw [harr _ _ h2, harr _ _ h3])
      | (obtain ⟨⟨h1, h2⟩, h3⟩ := h; subst h1; subst h2; subst h3; rfl)
      | (obtain ⟨h1, h2⟩ := h; subst h1; rw [ih _ _ h2])
      | (obtain ⟨h1, h2⟩ := h; subst h1; subst h2; rfl)
      | rfl
theorem settle_sound {P : Program} {ops : List Oper} {tmps : List Value} {w : PW} {k : Nat} : ∀ (rest : List Oper) (ps : List (Option Nat × Nat × Nat)) (i : Nat) (vals vals' : List (Nat × Value)), settle P ops tmps w k rest ps i vals = some vals' →
    Ext vals vals' ∧ ∀ (j : Nat) (o : Oper) (lo hi : Nat), rest[j]? = some o → ps[j]? = some (none, lo, hi) → lo ≤ k → k ≤ hi → ∃ v, readOne P ops tmps vals' w o = some v ∧ valOf vals' (i + j) = some v := by
  intro rest
  induction rest with
  | nil =>
    intro ps i vals vals' h
    cases h
    exact ⟨fun _ _ h => h, fun j o lo hi ho => by simp at ho⟩
  | cons o rest ih =>
    intro ps i vals vals' h
    cases ps with
    | nil => simp only [settle] at h; cases h
    | cons p ps =>
      simp only [settle] at h
      have shift : ∀ {vals1 : List (Nat × Value)}, Ext vals vals1 → settle P ops tmps w k rest ps (i + 1) vals1 = some vals' → (∀ lo hi, p = (none, lo, hi) → lo ≤ k → k ≤ hi → ∃ v, readOne P ops tmps vals1 w o = some v ∧ valOf vals1 i = some v) →
          Ext vals vals' ∧ ∀ (j : Nat) (o' : Oper) (lo hi : Nat), (o :: rest)[j]? = some o' → (p :: ps)[j]? = some (none, lo, hi) → lo ≤ k → k ≤ hi → ∃ v, readOne P ops tmps vals' w o' = some v ∧ valOf vals' (i + j) = some v := by
        intro vals1 he hs hv
        obtain ⟨e1, e2⟩ := ih ps (i + 1) vals1 vals' hs
        refine ⟨fun j v hj => e1 j v (he j v hj), fun j o' lo hi ho hp h1 h2 => ?_⟩
        cases j with
        | zero =>
          simp only [List.getElem?_cons_zero, Option.some.injEq] at ho hp
          subst ho
          obtain ⟨v, g1, g2⟩ := hv lo hi hp h1 h2
          exact ⟨v, readOne_ext e1 g1, e1 _ _ g2⟩
        | succ j =>
          simp only [List.getElem?_cons_succ] at ho hp
          have := e2 j o' lo hi ho hp h1 h2
          rwa [show i + 1 + j = i + (j + 1) by omega] at this
      split at h
      · rename_i e he
        exact shift (fun _ _ h => h) h fun lo hi hp => by rw [hp] at he; cases he
      · rename_i he
        split at h
        · rename_i hk
          split at h
          · rename_i v hr hn
            have hext : Ext vals ((i, v) :: vals) := by
              intro j u hj
              rw [valOf_cons]
              split
              · rename_i e; subst e; rw [hn] at hj; cases hj
              · exact hj
            refine shift hext h fun lo hi hp _ _ => ⟨v, readOne_ext hext hr, by rw [valOf_cons, if_pos rfl]⟩
          · cases h
        · rename_i hk
          split at h
          · rename_i hc
            split at h
            · rename_i v u hr hu
              split at h
              · rename_i hq
                have := eqV_eq _ _ _ hq
                subst this
                exact shift (fun _ _ h => h) h fun lo hi hp _ _ => ⟨v, hr, hu⟩
              · cases h
            · cases h
          · rename_i hc
            refine shift (fun _ _ h => h) h fun lo hi hp h1 h2 => ?_
            simp only [Bool.and_eq_true, decide_eq_true_eq] at hc
            subst hp
            simp only at hk hc
            exact (hc ⟨by omega, h2⟩).elim
end Go.Proofs.YtnnppmcbgfadpaaGreatDoor
