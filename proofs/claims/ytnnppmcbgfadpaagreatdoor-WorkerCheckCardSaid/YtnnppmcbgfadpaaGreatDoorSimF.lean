/- New rows, maps and iterators in a pattern and in what fits it. -/
import Derived.Test.YtnnppmcbgfadpaaGreatDoorSimE
namespace Go.Proofs.YtnnppmcbgfadpaaGreatDoor
open Go.RowKit
section
variable {P : Program} {w0 : World} {q : Bool} {ρ : Ren} {W w : World}
theorem sim_asInt {v v' : Value} (hv : VR ρ v v') : Sim P w0 q ρ (fun _ x x' => x = x') (asInt v) (asInt v') := by
  unfold asInt
  refine sim_bind (sim_asIntOf hv) fun ρ1 a a' _ h => ?_
  subst h; exact sim_pure fun _ _ => rfl
theorem fixed_askRoom (n : Nat) : Fixed P (askRoom n) := by
  unfold askRoom; split
  · exact .inl ⟨(), fun _ => rfl⟩
  · exact fixed_pure _
def msTail (elem : TypeId) (l c : Int) : Sem Value := do
  let n := c.toNat * (← sizeOf elem)
  let zero ← if n = 0 then pure #[] else do pure (← zeroValue elem).cells
  let a ← newRow elem ((Array.range n).map (zero[· % zero.size]!))
  pure (.slice (some a) l.toNat c.toNat)
theorem sim_msTail {e : TypeId} (hz : ZeroPlain P e) (l c : Int) (hlc : l.toNat ≤ c.toNat) (hroom : ∀ n, (∀ w, (sizeOf e).run P w = .ok n w) → n ≠ 0) : Sim P w0 false ρ VR (msTail e l c) (msTail e l c) := by
  unfold msTail
  refine sim_bind (sim_fixed (fixed_sizeOf e)) fun ρ2 n n' hle2 hn => ?_
  obtain ⟨rfl, hrun2⟩ := hn
  have hn0 := hroom n hrun2
  dsimp only
  have tail : ∀ (z : Array Value) (ρ3 : Ren), ρ2.le ρ3 → (∀ ρ, AR ρ z z) → Sim P w0 false ρ3 VR (do let a ← newRow e ((Array.range (c.toNat * n)).map fun x => z[x % z.size]!); pure (.slice (some a) l.toNat c.toNat)) (do let a ← newRow e ((Array.range (c.toNat * n)).map fun x => z[x % z.size]!); pure (.slice (some a) l.toNat c.toNat)) := by
    intro z ρ3 hle3 hz3
    refine sim_bind (sim_newRow e (zrow_AR (hz3 ρ3) (c.toNat * n) fun x => x % z.size)) fun ρ4 a a' hle4 ha => ?_
    obtain ⟨hd, b, L, hb, rfl, _, hsz, _⟩ := ha
    refine sim_pure fun ρ5 hle5 => ?_
    simp only [Array.size_map, Array.size_range] at hsz
    rcases Nat.eq_zero_or_pos c.toNat with h0 | hl
    · have hl0 : l.toNat = 0 := by omega
      rw [h0] at hsz
      simp only [Nat.zero_mul] at hsz
      rw [h0, hl0]
      exact .sfresh _ (hle5 _ _ hb) hsz
    · obtain ⟨b2, o, M, h1, h2, rfl⟩ := hd
      cases h2
      rw [hb] at h1; cases h1
      exact .slice (hle5 _ _ hb) (by rw [hsz]; exact Nat.mul_pos hl (by omega)) hlc hl (.inl rfl)
  by_cases h0 : c.toNat * n = 0
  · rw [if_pos h0]; exact tail #[] ρ2 (Ren.le_refl _) fun ρ => AR.nil ρ
  · rw [if_neg h0]
    refine sim_bind (sim_zeroValue hz) fun ρ3 v v' hle3 hv => ?_
    obtain ⟨rfl, hp⟩ := hv
    exact tail v.cells ρ3 hle3 fun ρ => plain_cells hp ρ
theorem sim_makeSlice {t : TypeId} (hz : ∀ e, (∀ w, (underlying t).run P w = .ok (.slice e) w) → ZeroPlain P e) {x x' y y' : Value} (hx : VR ρ x x') (hy : VR ρ y y') (hroom : ElemRoom P t) : Sim P w0 false ρ VR (Instr.makeSlice t x y) (Instr.makeSlice t x' y') := by
  unfold Instr.makeSlice
  refine sim_bind (sim_fixed (fixed_underlying t)) fun ρ1 d d' hle hd => ?_
  obtain ⟨rfl, hrun⟩ := hd
  cases d with
  | slice e =>
    refine sim_bind (sim_asInt (hx.mono hle)) fun ρ2 l l' hle2 hl => ?_
    subst hl
    refine sim_bind (sim_asInt ((hy.mono hle).mono hle2)) fun ρ3 c c' hle3 hc => ?_
    subst hc
    refine sim_bind (sim_fixed (fixed_typeInfo e)) fun ρ4 i i' hle4 hi => ?_
    obtain ⟨rfl, _⟩ := hi
    dsimp only
    split
    · intro ρ1 h1 W w hr a W' h
      exfalso
      revert h
      split
      · intro h
        have : Sim P w0 false ρ (fun _ (_ : Value) (_ : Unit) => True) (runtimePanic (.error "makeslice: cap out of range")) (pure ()) := sim_panic _
        cases h
      · split
        · intro h; cases h
        · intro h
          rw [Sem.run_bind] at h
          generalize Sem.run P _ W = r at h
          cases r with
          | halt _ _ => cases h
          | ok b W1 => cases h
    · rename_i hcond
      refine sim_bind (sim_fixed (fixed_askRoom _)) fun ρ5 _ _ hle5 _ => ?_
      refine sim_msTail (hz e hrun) _ _ ?_ fun n hn => hroom e n hrun hn
      simp only [Bool.or_eq_true, decide_eq_true_eq, not_or] at hcond
      omega
  | _ => exact sim_halt
theorem sim_newObj {o o' : Obj} (hl : liveO o = true) (hor : ∀ ρ' L, ρ.le ρ' → OR P ρ' L o o') : Sim P w0 false ρ (fun ρ2 r r' => ∃ L, ρ2 r = some L ∧ r' = L.blk ∧ L.off = 0) (newObj o) (newObj o') := by
  intro ρ1 h1 W w hr a W' e'
  have e2 : (newObj o).run P W = .ok W.heap.size { W with heap := W.heap.push o } := rfl
  rw [e2] at e'
  cases e'
  have hfree : ρ1 W.heap.size = none := by
    cases e : ρ1 W.heap.size with
    | none => rfl
    | some M => have := (hr.dom _ M e).1; omega
  let L : Loc := ⟨w.heap.size, 0, 0, 0, 0⟩
  have hle : ρ1.le (ρ1.add W.heap.size L) := Ren.le_add _ _ _ hfree
  refine ⟨ρ1.add W.heap.size L, w.heap.size, { w with heap := w.heap.push o' }, hle, rfl, ⟨L, Ren.add_same _ _ _, rfl, rfl⟩, ?_, fun h => by cases h⟩
  exact hr.alloc (L := L) rfl rfl rfl rfl hl rfl rfl rfl (hor _ _ (Ren.le_trans h1 hle))
theorem OR.notCells {L : Loc} {o o' : Obj} (h : OR P ρ L o o') (hn : ∀ c e fz, o ≠ .cells c e fz) : ∀ c e fz, o' ≠ .cells c e fz := by
  intro c e fz he; subst he; cases h; exact hn _ _ _ rfl
theorem getObj_run {r : Nat} {o : Obj} (ho : w.heap[r]? = some o) (hn : ∀ c e fz, o ≠ .cells c e fz) : (getObj r).run P w = .ok o w := by
  have : (getObj r).run P w = match w.heap[r]? with
    | some (.cells ..) => .halt (.stuck "getObj: a row of cells") w
    | some o => .ok o w
    | none => .halt (.stuck "getObj: no such block") w := by
    unfold getObj; rw [Sem.run]; cases hh : w.heap[r]? with
    | none => rfl
    | some x => cases x <;> rfl
  rw [this, ho]
  cases o <;> first | exact (hn _ _ _ rfl).elim | rfl
theorem getObj_inv {r : Nat} {o : Obj} {W' : World} (e : (getObj r).run P W = .ok o W') : W.heap[r]? = some o ∧ (∀ c e fz, o ≠ .cells c e fz) ∧ W' = W := by
  cases hh : W.heap[r]? with
  | none => unfold getObj at e; rw [Sem.run, hh] at e; cases e
  | some x =>
    by_cases hn : ∀ c e fz, x ≠ .cells c e fz
    · rw [getObj_run hh hn] at e; cases e; exact ⟨rfl, hn, rfl⟩
    · exfalso
      cases x with
      | cells c t fz => unfold getObj at e; rw [Sem.run, hh] at e; cases e
      | _ => exact hn fun _ _ _ h => by cases h
theorem setObj_run {r : Nat} {o o2 : Obj} (ho : w.heap[r]? = some o) (hn : ∀ c e fz, o ≠ .cells c e fz) : (setObj r o2).run P w = .ok () { w with heap := w.heap.setIfInBounds r o2 } := by
  have : (setObj r o2).run P w = match w.heap[r]? with
    | some (.cells ..) => .halt (.stuck "setObj: a row of cells") w
    | some _ => .ok () { w with heap := w.heap.setIfInBounds r o2 }
    | none => .halt (.stuck "setObj: no such block") w := by
    unfold setObj; rw [Sem.run]; cases hh : w.heap[r]? with
    | none => rfl
    | some x => cases x <;> rfl
  rw [this, ho]
  cases o <;> first | exact (hn _ _ _ rfl).elim | rfl
theorem setObj_inv {r : Nat} {o2 : Obj} {u : Unit} {W' : World} (e : (setObj r o2).run P W = .ok u W') : ∃ o, W.heap[r]? = some o ∧ (∀ c e fz, o ≠ .cells c e fz) ∧ W' = { W with heap := W.heap.setIfInBounds r o2 } := by
  cases hh : W.heap[r]? with
  | none => unfold setObj at e; rw [Sem.run, hh] at e; cases e
  | some x =>
    by_cases hn : ∀ c e fz, x ≠ .cells c e fz
    · rw [setObj_run hh hn] at e; cases e; exact ⟨x, rfl, hn, rfl⟩
    · exfalso
      cases x with
      | cells c t fz => unfold setObj at e; rw [Sem.run, hh] at e; cases e
      | _ => exact hn fun _ _ _ h => by cases h
theorem HR.live (hr : HR P w0 ρ W w) {r : Nat} {o : Obj} (ho : W.heap[r]? = some o) (hn : ∀ c e fz, o ≠ .cells c e fz) : liveO o = true := by
  rcases hr.kind r o ho with h | h
  · exact h
  · cases o <;> first | exact (hn _ _ _ rfl).elim | cases h
theorem sim_getObj {r : Nat} {L : Loc} (hL : ρ r = some L) : Sim P w0 q ρ (fun ρ2 o o' => OR P ρ2 L o o') (getObj r) (getObj L.blk) := by
  intro ρ1 h1 W w hr o W' e
  obtain ⟨ho, hn, rfl⟩ := getObj_inv e
  obtain ⟨o', ho', hor⟩ := hr.get ho (hr.live ho hn) (h1 _ _ hL)
  exact ⟨ρ1, o', w, Ren.le_refl _, getObj_run ho' (hor.notCells hn), hor, hr, fun _ => ⟨rfl, rfl, rfl⟩⟩
theorem sim_setObj {r : Nat} {L : Loc} {o2 o2' : Obj} (hL : ρ r = some L) (hl : liveO o2 = true) (hor2 : OR P ρ L o2 o2') : Sim P w0 false ρ (fun _ _ _ => True) (setObj r o2) (setObj L.blk o2') := by
  intro ρ1 h1 W w hr u W' e
  obtain ⟨o, ho, hn, rfl⟩ := setObj_inv e
  have hlv := hr.live ho hn
  obtain ⟨o', ho', hor⟩ := hr.get ho hlv (h1 _ _ hL)
  have hr1 : r < W.heap.size := (Array.getElem?_eq_some_iff.1 ho).1
  have hr2 : L.blk < w.heap.size := (Array.getElem?_eq_some_iff.1 ho').1
  refine ⟨ρ1, (), _, Ren.le_refl _, setObj_run ho' (hor.notCells hn), trivial, ?_, fun h => by cases h⟩
  refine hr.update (o2 := o2) (o2' := o2') ho hlv ?_ (h1 _ _ hL) ?_ ?_ ?_ hl ?_ ?_ ?_ rfl rfl rfl (hor2.mono h1)
  · cases o <;> first | exact (hn _ _ _ rfl).elim | rfl
  · simp
  · simp [hr1]
  · intro i hi; simp only [Array.getElem?_setIfInBounds, if_neg (fun e : r = i => hi e.symm)]
  · simp
  · simp [hr2]
  · intro i hi; simp only [Array.getElem?_setIfInBounds, if_neg (fun e : L.blk = i => hi e.symm)]
theorem sim_makeMap (t : TypeId) {r r' : Option Value} (h : VRo ρ r r') : Sim P w0 false ρ VR (Instr.makeMap t r) (Instr.makeMap t r') := by
  have tail : ∀ {ρ1 : Ren}, Sim P w0 false ρ1 VR (do pure (.map (some (← newObj (.map #[] 0))))) (do pure (.map (some (← newObj (.map #[] 0))))) := by
    intro ρ1
    refine sim_bind (sim_newObj rfl fun ρ' L _ => .map 0 .nil) fun ρ2 a a' hle2 ha => ?_
    obtain ⟨L, h1, rfl, _⟩ := ha
    exact sim_pure fun ρ3 hle3 => .map (hle3 _ _ h1)
  unfold Instr.makeMap
  cases h with
  | none => exact tail
  | some hv =>
    refine sim_bind (sim_fixed (fixed_underlying t)) fun ρ1 d d' hle hd => ?_
    obtain ⟨rfl, _⟩ := hd
    cases d <;> first | exact sim_halt | skip
    exact sim_bind (sim_asInt (hv.mono hle)) fun ρ2 _ _ _ _ => tail
end
end Go.Proofs.YtnnppmcbgfadpaaGreatDoor
