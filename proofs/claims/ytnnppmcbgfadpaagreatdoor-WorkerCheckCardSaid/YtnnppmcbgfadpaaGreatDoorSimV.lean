/- Drawn regions: the readings, in whatever order they come; the effect whose turn it is. -/
import Derived.Test.YtnnppmcbgfadpaaGreatDoorSimU
namespace Go.Proofs.YtnnppmcbgfadpaaGreatDoor
open Go.RowKit
theorem filter_set : ∀ (l : List Bool) (i : Nat), l[i]? = some false → (l.filter (!·)).length = ((l.set i true).filter (!·)).length + 1
  | [], i, h => by simp at h
  | x :: l, 0, h => by
    simp only [List.getElem?_cons_zero, Option.some.injEq] at h
    subst h
    simp
  | x :: l, i + 1, h => by
    simp only [List.getElem?_cons_succ] at h
    have := filter_set l i h
    cases x <;> simp [this]
theorem unlisted_set {listed : Array Bool} {i : Nat} (h : listed[i]? = some false) : unlisted listed = unlisted (listed.setIfInBounds i true) + 1 := by
  unfold unlisted
  rw [Array.toList_setIfInBounds]
  exact filter_set _ i (by simpa using h)
theorem allListed {listed : Array Bool} (h : unlisted listed = 0) : ∀ (i : Nat) (b : Bool), listed[i]? = some b → b = true := by
  intro i b hb
  unfold unlisted at h
  have := List.eq_nil_of_length_eq_zero h
  rw [List.filter_eq_nil_iff] at this
  have hm : b ∈ listed.toList := by
    have : listed.toList[i]? = some b := by simpa using hb
    exact List.mem_of_getElem? this
  simpa using this b hm
theorem some_unlisted {listed : Array Bool} (h : unlisted listed ≠ 0) : ∃ i : Nat, listed[i]? = some false := by
  unfold unlisted at h
  cases hl : listed.toList.filter (!·) with
  | nil => rw [hl] at h; simp at h
  | cons x l =>
    have hx : x ∈ listed.toList.filter (!·) := by rw [hl]; simp
    rw [List.mem_filter] at hx
    obtain ⟨i, hi⟩ := List.getElem?_of_mem hx.1
    have : x = false := by simpa using hx.2
    subst this
    exact ⟨i, by simpa using hi⟩
section
variable {P : Program} {w0 : World} {ρ : Ren} {W w : World} {pw pw' : PW} {ops : List Oper} {plan : List (Option Nat × Nat × Nat)} {k : Nat} {vals : List (Nat × Value)} {tmps : List Value} {tm : Array Value} {listed : Array Bool}
/-- There is always one whose turn it is. -/
theorem ready_some (h : DrawSt ρ ops plan k vals tmps tm listed) (hu : unlisted listed ≠ 0) : Region.ready .any ops.toArray listed ≠ [] := by
  obtain ⟨i, hi⟩ := some_unlisted hu
  have key : ∀ (i : Nat), listed[i]? = some false → ∃ j, j ∈ Region.ready .any ops.toArray listed := by
    intro i
    induction i using Nat.strongRecOn with
    | _ i ih =>
      intro hi
      have hlt : i < ops.length := by rw [← h.size]; exact (Array.getElem?_eq_some_iff.1 hi).1
      have ho : ops[i]? = some ops[i] := List.getElem?_eq_getElem hlt
      by_cases hd : ∀ e ∈ depsP ops[i], listed[e]? = some true
      · refine ⟨i, ?_⟩
        unfold Region.ready
        simp only [List.mem_filter, List.mem_range, List.size_toArray, List.getElem?_toArray, Bool.and_eq_true, Bool.not_eq_true']
        refine ⟨hlt, ?_, ?_⟩
        · rw [Array.getD_eq_getD_getElem?, hi]; rfl
        · rw [ho]
          simp only [Option.map_some, Option.getD_some, Array.all_eq_true_iff_forall_mem, Bool.or_eq_true, Bool.not_eq_true']
          intro x hx
          by_cases hb : Region.binds .any x = true
          · right
            have : x.on ∈ depsP ops[i] := List.mem_map.2 ⟨x, List.mem_filter.2 ⟨Array.mem_def.1 hx, hb⟩, rfl⟩
            rw [Array.getD_eq_getD_getElem?, hd x.on this]; rfl
          · left; simpa using hb
      · have ⟨e, hne⟩ := Classical.not_forall.1 hd
        have ⟨he, hel⟩ := Classical.not_imp.1 hne
        have hei : e < i := h.ok.deps ho e he
        have helt : e < listed.size := by rw [h.size]; omega
        refine ih e hei ?_
        rw [Array.getElem?_eq_getElem helt] at hel ⊢
        cases hb : listed[e] with
        | false => rfl
        | true => rw [hb] at hel; exact (hel rfl).elim
  obtain ⟨j, hj⟩ := key i hi
  intro e; rw [e] at hj; cases hj
theorem ready_inv (h : DrawSt ρ ops plan k vals tmps tm listed) {i : Nat} (hi : i ∈ Region.ready .any ops.toArray listed) : ∃ o, ops[i]? = some o ∧ listed[i]? = some false ∧ ∀ e ∈ depsP o, listed[e]? = some true := by
  unfold Region.ready at hi
  simp only [List.mem_filter, List.mem_range, List.size_toArray, List.getElem?_toArray, Bool.and_eq_true, Bool.not_eq_true'] at hi
  obtain ⟨hlt, h1, h2⟩ := hi
  refine ⟨ops[i], List.getElem?_eq_getElem hlt, ?_, ?_⟩
  · rw [Array.getD_eq_getD_getElem?] at h1
    have hlt' : i < listed.size := by rw [h.size]; exact hlt
    rw [Array.getElem?_eq_getElem hlt'] at h1 ⊢
    simpa using h1
  · rw [List.getElem?_eq_getElem hlt] at h2
    simp only [Option.map_some, Option.getD_some, Array.all_eq_true_iff_forall_mem, Bool.or_eq_true, Bool.not_eq_true'] at h2
    intro e he
    obtain ⟨x, hx, rfl⟩ := List.mem_map.1 he
    obtain ⟨hx1, hx2⟩ := List.mem_filter.1 hx
    rcases h2 x (Array.mem_def.2 hx1) with h | h
    · rw [hx2] at h; cases h
    · rw [Array.getD_eq_getD_getElem?] at h
      cases hg : listed[x.on]? <;> rw [hg] at h <;> simp at h
      rw [h]
/-- The next of the order. -/
theorem order_next (h : DrawSt ρ ops plan k vals tmps tm listed) {fuel t : Nat} (hf : fuel + 1 = unlisted listed) : ∃ i o t', Region.linearise.go .any ops.toArray (fuel + 1) t listed [] = i :: Region.linearise.go .any ops.toArray fuel t' (listed.setIfInBounds i true) [] ∧ ops[i]? = some o ∧ listed[i]? = some false ∧ (∀ e ∈ depsP o, listed[e]? = some true) ∧ fuel = unlisted (listed.setIfInBounds i true) := by
  have hne := ready_some h (by omega)
  have hpos : 0 < (Region.ready .any ops.toArray listed).length := List.length_pos_iff.2 hne
  have hlt : t % (Region.ready .any ops.toArray listed).length < (Region.ready .any ops.toArray listed).length := Nat.mod_lt _ hpos
  have hg := List.getElem?_eq_getElem hlt
  obtain ⟨o, ho, hl, hd⟩ := ready_inv h (List.getElem_mem hlt)
  refine ⟨_, o, t / (Region.ready .any ops.toArray listed).length, ?_, ho, hl, hd, ?_⟩
  · simp only [Region.linearise.go]
    change (match (Region.ready .any ops.toArray listed)[t % (Region.ready .any ops.toArray listed).length]? with
      | some i => Region.linearise.go .any ops.toArray fuel (t / (Region.ready .any ops.toArray listed).length) (listed.setIfInBounds i true) [i]
      | none => [].reverse) = _
    rw [hg]
    simp only
    rw [linearise_go_acc, List.reverse_singleton, List.singleton_append]
  · have := unlisted_set hl
    omega
/-- One more is listed. -/
theorem DrawSt.list (h : DrawSt ρ ops plan k vals tmps tm listed) {i : Nat} {o : Oper} (ho : ops[i]? = some o) (hl : listed[i]? = some false) (hd : ∀ e ∈ depsP o, listed[e]? = some true) {vals' : List (Nat × Value)} {k' : Nat} (hext : Ext vals vals') {v v' : Value} (hv : valOf vals' i = some v) (hvr : VR ρ v v')
    (hk : k' ≤ effN plan) (heff : ∀ (j e lo hi : Nat), plan[j]? = some (some e, lo, hi) → ((listed.setIfInBounds i true)[j]? = some true ↔ e < k')) (df : List Deferred) :
    DrawSt ρ ops plan k' vals' tmps ((⟨tm, df⟩ : Act).put o.dst v').tmps (listed.setIfInBounds i true) := by
  have hlt : i < listed.size := (Array.getElem?_eq_some_iff.1 hl).1
  have hget : ∀ j, (listed.setIfInBounds i true)[j]? = if i = j then some true else listed[j]? := by
    intro j
    rw [Array.getElem?_setIfInBounds]
    split
    · rename_i e; subst e; simp [hlt]
    · rfl
  have hput : ∀ s : Nat, ((⟨tm, df⟩ : Act).put o.dst v').tmps[s]? = if o.dst = some s ∧ s < tm.size then some v' else tm[s]? := by
    intro s
    cases hdst : o.dst with
    | none => simp [Act.put]
    | some d =>
      simp only [Act.put, Array.getElem?_setIfInBounds, Option.some.injEq]
      by_cases e : d = s
      · subst e
        by_cases h2 : d < tm.size
        · simp [h2]
        · simp [h2]
      · simp [e]
  refine ⟨h.ok, by simp [h.size], hk, ?_, heff, ?_, ?_, ?_⟩
  · intro j x hx hj e he
    rw [hget] at hj ⊢
    split
    · rfl
    · split at hj
      · rename_i e2; subst e2
        rw [ho] at hx; cases hx
        exact hd e he
      · exact h.closed j x hx hj e he
  · have : ((⟨tm, df⟩ : Act).put o.dst v').tmps.size = tm.size := by
      cases o.dst <;> simp [Act.put]
    rw [this, h.tsize]
  · intro j x hx hj
    rw [hget] at hj
    split at hj
    · rename_i e; subst e
      rw [ho] at hx; cases hx
      refine ⟨v, hv, fun t ht => ⟨v', ?_, hvr⟩⟩
      rw [hput, if_pos ⟨ht, by rw [h.tsize]; exact h.ok.dst ho ht⟩]
    · rename_i hne
      obtain ⟨u, hu, hu'⟩ := h.done j x hx hj
      refine ⟨u, hext _ _ hu, fun t ht => ?_⟩
      obtain ⟨u', h1, h2⟩ := hu' t ht
      refine ⟨u', ?_, h2⟩
      rw [hput, if_neg]
      · exact h1
      · rintro ⟨hc, _⟩
        exact hne (h.ok.once ho hx hc ht)
  · intro t ht u u' hu hu'
    rw [hput] at hu'
    have hno : o.dst ≠ some t := ht i o ho (by rw [hget, if_pos rfl])
    rw [if_neg (fun hc => hno hc.1)] at hu'
    refine h.old t (fun j x hx hj => ht j x hx ?_) u u' hu hu'
    rw [hget]; split
    · rfl
    · exact hj
end
end Go.Proofs.YtnnppmcbgfadpaaGreatDoor
