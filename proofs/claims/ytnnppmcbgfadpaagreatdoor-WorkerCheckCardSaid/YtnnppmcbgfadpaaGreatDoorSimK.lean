/- The kernel's run over trees is a run of the model in the pattern's world. -/
import Derived.Test.YtnnppmcbgfadpaaGreatDoorRun
import Derived.Test.YtnnppmcbgfadpaaGreatDoorSimJ
namespace Go.Proofs.YtnnppmcbgfadpaaGreatDoor
theorem Tr.get_set : ∀ (f : Nat) (t : Tr) (k j : Nat) (x : Obj), k + 1 < 2 ^ f → (Tr.set f t k x).get j = if j = k then some x else t.get j := by
  intro f
  induction f with
  | zero => intro t k j x h; simp at h
  | succ f ih =>
    intro t k j x h
    have hk : ∀ m, m ≠ 0 → m = k → (m - 1) / 2 + 1 < 2 ^ f := by
      intro m hm e; subst e; rw [Nat.pow_succ] at h; omega
    cases t with
    | e =>
      unfold Tr.set
      by_cases h0 : k = 0
      · subst h0
        by_cases hj : j = 0
        · subst hj; simp [Tr.get]
        · simp [Tr.get, hj]
      · simp only [h0, if_false]
        by_cases hj : j = 0
        · subst hj; split <;> simp [Tr.get] <;> omega
        · split
          · rename_i he
            simp only [Tr.get, hj, if_false]
            split
            · rw [ih _ _ _ _ (hk k h0 rfl)]
              have : (j - 1) / 2 = (k - 1) / 2 ↔ j = k := by omega
              simp [this, Tr.get]
            · have : j ≠ k := by omega
              simp [this]
          · rename_i he
            simp only [Tr.get, hj, if_false]
            split
            · have : j ≠ k := by omega
              simp [this]
            · rw [ih _ _ _ _ (hk k h0 rfl)]
              have : (j - 1) / 2 = (k - 1) / 2 ↔ j = k := by omega
              simp [this, Tr.get]
    | n o l r =>
      unfold Tr.set
      by_cases h0 : k = 0
      · subst h0
        by_cases hj : j = 0
        · subst hj; simp [Tr.get]
        · simp [Tr.get, hj]
      · simp only [h0, if_false]
        by_cases hj : j = 0
        · subst hj
          have : (0 : Nat) ≠ k := fun e => h0 e.symm
          split <;> simp [Tr.get, this]
        · split
          · rename_i he
            simp only [Tr.get, hj, if_false]
            split
            · rw [ih _ _ _ _ (hk k h0 rfl)]
              have : (j - 1) / 2 = (k - 1) / 2 ↔ j = k := by omega
              simp [this]
            · have : j ≠ k := by omega
              simp [this]
          · rename_i he
            simp only [Tr.get, hj, if_false]
            split
            · have : j ≠ k := by omega
              simp [this]
            · rw [ih _ _ _ _ (hk k h0 rfl)]
              have : (j - 1) / 2 = (k - 1) / 2 ↔ j = k := by omega
              simp [this]
/-- The world of a tree. -/
structure Rel (pw : PW) (W : World) : Prop where
  le : pw.size ≤ 16000000
  size : W.heap.size = pw.size
  get : ∀ i, W.heap[i]? = pw.get i
theorem PW.get_set {pw : PW} (hle : pw.size ≤ 16000000) {i j : Nat} {o : Obj} (hi : i < pw.size) : (pw.set i o).get j = if j = i then some o else pw.get j := by
  unfold PW.get PW.set
  simp only
  rw [Tr.get_set _ _ _ _ _ (by have : (16777216 : Nat) = 2 ^ 24 := rfl; omega)]
  by_cases e : j = i
  · subst e; simp [hi]
  · simp [e]
theorem PW.get_push {pw : PW} (hlt : pw.size < 16000000) {j : Nat} {o : Obj} : (pw.push o).get j = if j = pw.size then some o else pw.get j := by
  unfold PW.get PW.push
  simp only
  rw [Tr.get_set _ _ _ _ _ (by have : (16777216 : Nat) = 2 ^ 24 := rfl; omega)]
  by_cases e : j = pw.size
  · subst e; simp
  · simp only [e, if_false]
    by_cases h : j < pw.size
    · rw [if_pos h, if_pos (by omega)]
    · rw [if_neg h, if_neg (by omega)]
theorem PW.get_lt {pw : PW} {i : Nat} {o : Obj} (h : pw.get i = some o) : i < pw.size := by
  unfold PW.get at h
  split at h
  · assumption
  · cases h
theorem Rel.push {pw : PW} {W : World} (h : Rel pw W) (hlt : pw.size < 16000000) (o : Obj) : Rel (pw.push o) { W with heap := W.heap.push o } := by
  refine ⟨hlt, by simp [h.size, PW.push], fun i => ?_⟩
  rw [PW.get_push hlt, Array.getElem?_push, h.size, h.get i]
theorem Rel.set {pw : PW} {W : World} (h : Rel pw W) {i : Nat} (hi : i < pw.size) (o : Obj) : Rel (pw.set i o) { W with heap := W.heap.setIfInBounds i o } := by
  refine ⟨h.le, by simp [h.size, PW.set], fun j => ?_⟩
  rw [PW.get_set h.le hi, Array.getElem?_setIfInBounds, h.size, ← h.get j]
  by_cases e : j = i
  · subst e; simp [hi]
  · rw [if_neg e, if_neg (fun x => e x.symm)]
theorem Rel.cell {pw : PW} {W : World} (h : Rel pw W) (a : Addr) : W.cell? a = pw.cell a := by
  unfold World.cell? PW.cell
  rw [h.get a.block]; rfl
theorem Rel.shape {pw : PW} {W : World} (h : Rel pw W) (r : Nat) : W.shape? r = pw.shape r := by
  unfold World.shape? PW.shape
  rw [h.get r]; rfl
theorem Rel.frozen {pw : PW} {W : World} (h : Rel pw W) (a : Addr) : W.frozen? a = pw.frozen a := by
  unfold World.frozen? PW.frozen
  rw [h.get a.block]; rfl
theorem Rel.setCell {pw : PW} {W : World} (h : Rel pw W) {a : Addr} {v : Value} (hc : (pw.cell a).isSome = true) : Rel (setRow pw a v) (W.setCell a v) := by
  unfold setRow
  cases hb : pw.get a.block with
  | none => unfold PW.cell at hc; rw [hb] at hc; cases hc
  | some o =>
    cases o with
    | cells c e fz =>
      have hs : a.spot.isSome = false := by
        unfold PW.cell at hc; rw [hb] at hc
        cases hh : a.spot.isSome
        · rfl
        · simp [hh] at hc
      have hlt := PW.get_lt hb
      have key := h.set hlt (.cells (c.setIfInBounds a.off v) e fz)
      refine ⟨key.le, ?_, fun i => ?_⟩
      · show (W.heap.modify _ _).size = _
        simp [h.size, PW.set]
      · rw [← key.get i]
        show (W.heap.modify a.block _)[i]? = (W.heap.setIfInBounds a.block _)[i]?
        rw [getElem?_modify', Array.getElem?_setIfInBounds]
        by_cases ei : a.block = i
        · subst ei
          rw [if_pos rfl, if_pos rfl, h.get, hb, h.size, if_pos hlt]
          simp [hs]
        · rw [if_neg ei, if_neg ei]
    | _ => unfold PW.cell at hc; rw [hb] at hc; cases hc
theorem oneCell_agg {v : Value} (h : oneCell v = true) : (∀ cs, v ≠ .agg cs) ∧ ∀ cs, v ≠ .tuple cs := by
  constructor <;> (intro cs e; subst e; cases h)
theorem runP_run {P : Program} {α : Type} : ∀ (m : Sem α) (pw : PW) (a : α) (pw' : PW) (W : World), runP P m pw = some (a, pw') → Rel pw W → ∃ W', m.run P W = .ok a W' ∧ Rel pw' W' := by
  intro m
  induction m with
  | pure x => intro pw a pw' W h hr; simp only [runP, Option.some.injEq, Prod.mk.injEq] at h; obtain ⟨rfl, rfl⟩ := h; exact ⟨W, rfl, hr⟩
  | load md ad k ih =>
    intro pw a pw' W h hr
    simp only [runP] at h
    cases hc : pw.cell ad with
    | none => rw [hc] at h; cases h
    | some v =>
      rw [hc] at h
      obtain ⟨W', h1, h2⟩ := ih v pw a pw' W h hr
      refine ⟨W', ?_, h2⟩
      rw [Sem.run, hr.cell, hc]; exact h1
  | store md ad v k ih =>
    intro pw a pw' W h hr
    simp only [runP] at h
    split at h
    · rename_i hc
      simp only [Bool.and_eq_true, Bool.not_eq_true'] at hc
      obtain ⟨⟨h1, h2⟩, h3⟩ := hc
      obtain ⟨n1, n2⟩ := oneCell_agg h1
      obtain ⟨W', r1, r2⟩ := ih _ a pw' _ h (hr.setCell (v := v) h2)
      refine ⟨W', ?_, r2⟩
      obtain ⟨x, hx⟩ := Option.isSome_iff_exists.1 h2
      have hcw : W.cell? ad = some x := by rw [hr.cell, hx]
      have hfw : W.frozen? ad = false := by rw [hr.frozen, h3]
      cases v <;> first | exact absurd rfl (n1 _) | exact absurd rfl (n2 _) | (simp only [Sem.run, hcw, hfw]; exact r1)
    · cases h
  | new o k ih =>
    intro pw a pw' W h hr
    simp only [runP] at h
    split at h
    · rename_i hlt
      obtain ⟨W', r1, r2⟩ := ih _ _ a pw' _ h (hr.push hlt o)
      exact ⟨W', by rw [Sem.run, hr.size]; exact r1, r2⟩
    · cases h
  | shape r k ih =>
    intro pw a pw' W h hr
    simp only [runP] at h
    obtain ⟨W', r1, r2⟩ := ih _ _ a pw' W h hr
    exact ⟨W', by rw [Sem.run, hr.shape]; exact r1, r2⟩
  | freeze ad n k ih => intro pw a pw' W h hr; cases h
  | frozen ad k ih =>
    intro pw a pw' W h hr
    simp only [runP] at h
    obtain ⟨W', r1, r2⟩ := ih _ _ a pw' W h hr
    exact ⟨W', by rw [Sem.run, hr.frozen]; exact r1, r2⟩
  | getObj r k ih =>
    intro pw a pw' W h hr
    simp only [runP] at h
    cases hg : pw.get r with
    | none => rw [hg] at h; cases h
    | some o =>
      rw [hg] at h
      have hw : W.heap[r]? = some o := by rw [hr.get, hg]
      cases o <;> first | (cases h; done) | (
        obtain ⟨W', r1, r2⟩ := ih _ _ a pw' W h hr
        exact ⟨W', by rw [Sem.run, hw]; exact r1, r2⟩)
  | setObj r o k ih =>
    intro pw a pw' W h hr
    simp only [runP] at h
    cases hg : pw.get r with
    | none => rw [hg] at h; cases h
    | some o' =>
      rw [hg] at h
      have hw : W.heap[r]? = some o' := by rw [hr.get, hg]
      cases o' <;> first | (cases h; done) | (
        obtain ⟨W', r1, r2⟩ := ih _ a pw' _ h (hr.set (PW.get_lt hg) o)
        exact ⟨W', by rw [Sem.run, hw]; exact r1, r2⟩)
  | choose q k ih =>
    intro pw a pw' W h hr
    simp only [runP] at h
    split at h
    · rename_i hq
      obtain ⟨W', r1, r2⟩ := ih _ _ a pw' W h hr
      exact ⟨W', by rw [Sem.run, if_pos hq]; exact r1, r2⟩
    · cases h
  | sys c k ih => intro pw a pw' W h hr; cases h
  | program k ih =>
    intro pw a pw' W h hr
    simp only [runP] at h
    obtain ⟨W', r1, r2⟩ := ih _ _ a pw' W h hr
    exact ⟨W', by rw [Sem.run]; exact r1, r2⟩
  | mark m k ih =>
    intro pw a pw' W h hr
    simp only [runP] at h
    obtain ⟨W', r1, r2⟩ := ih _ a pw' W h hr
    exact ⟨W', by rw [Sem.run]; exact r1, r2⟩
  | halt x => intro pw a pw' W h hr; cases h
end Go.Proofs.YtnnppmcbgfadpaaGreatDoor
