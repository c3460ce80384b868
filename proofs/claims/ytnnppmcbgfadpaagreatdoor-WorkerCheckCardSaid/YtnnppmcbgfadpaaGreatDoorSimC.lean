/- Reads, writes and new blocks in a pattern and in what fits it. -/
import Derived.Test.YtnnppmcbgfadpaaGreatDoorSimB
namespace Go.Proofs.YtnnppmcbgfadpaaGreatDoor
open Go.RowKit
section
variable {P : Program} {w0 : World} {q : Bool} {ρ : Ren} {W w : World}
theorem store_inv (hr : HR P w0 ρ W w) {a : Addr} {v : Value} {u : Unit} {W' : World} (e : (store a v).run P W = .ok u W') :
    (∀ cs, v ≠ .agg cs) ∧ (∀ cs, v ≠ .tuple cs) ∧ (∃ x, W.cell? a = some x) ∧ W.frozen? a = false ∧ W' = W.setCell a v := by
  have key : ∀ (v : Value), (∀ cs, v ≠ .agg cs) → (∀ cs, v ≠ .tuple cs) → (store a v).run P W = .ok u W' → (∃ x, W.cell? a = some x) ∧ W.frozen? a = false ∧ W' = W.setCell a v := by
    intro v h1 h2 e
    have e2 : (store a v).run P W = match W.cell? a with
      | some _ => if W.frozen? a then .halt (.unsupported (.unsafePointer "a write to bytes that a string shares")) W else .ok () (W.setCell a v)
      | none => match W.farStore P a v false with
        | .ok (w, _) => .ok () w
        | .error h => .halt h W := by
      cases v <;> first | exact ((h1 _ rfl).elim) | exact ((h2 _ rfl).elim) | rfl
    rw [e2] at e
    obtain ⟨x, hx⟩ := hr.noFarS (P := P) a v false
    cases hc : W.cell? a with
    | none => rw [hc] at e; simp only [hx] at e; cases e
    | some y =>
      rw [hc] at e
      simp only [] at e
      split at e
      · cases e
      · rename_i hf; cases e
        exact ⟨⟨y, rfl⟩, by simpa using hf, rfl⟩
  cases v with
  | agg cs => cases e
  | tuple cs => cases e
  | _ => exact ⟨fun _ h => (by cases h), fun _ h => (by cases h), key _ (fun _ h => (by cases h)) (fun _ h => (by cases h)) e⟩
theorem store_run {a : Addr} {v x : Value} (h1 : ∀ cs, v ≠ .agg cs) (h2 : ∀ cs, v ≠ .tuple cs) (hc : w.cell? a = some x) (hf : w.frozen? a = false) : (store a v).run P w = .ok () (w.setCell a v) := by
  have e2 : (store a v).run P w = match w.cell? a with
      | some _ => if w.frozen? a then .halt (.unsupported (.unsafePointer "a write to bytes that a string shares")) w else .ok () (w.setCell a v)
      | none => match w.farStore P a v false with
        | .ok (w, _) => .ok () w
        | .error h => .halt h w := by
      cases v <;> first | exact ((h1 _ rfl).elim) | exact ((h2 _ rfl).elim) | rfl
  rw [e2, hc]; simp only [hf]; rfl
theorem VR.notAgg {v v' : Value} (h : VR ρ v v') (h1 : ∀ cs, v ≠ .agg cs) : ∀ cs, v' ≠ .agg cs := by
  intro cs e; subst e; cases h; exact h1 _ rfl
theorem VR.notTuple {v v' : Value} (h : VR ρ v v') (h1 : ∀ cs, v ≠ .tuple cs) : ∀ cs, v' ≠ .tuple cs := by
  intro cs e; subst e; cases h; exact h1 _ rfl
/-- A cell that is there, in both. -/
theorem HR.place (hr : HR P w0 ρ W w) {b o : Nat} {L : Loc} {x : Value} (hL : ρ b = some L) (hc : W.cell? ⟨b, o, none⟩ = some x) :
    ∃ c e fz c' e' fz', W.heap[b]? = some (.cells c e fz) ∧ o < c.size ∧ fz.1 ≤ fz.2 ∧ w.heap[L.blk]? = some (.cells c' e' fz') ∧ OR P ρ L (.cells c e fz) (.cells c' e' fz') := by
  unfold World.cell? at hc
  cases hb : W.heap[b]? with
  | none => simp [hb] at hc
  | some y =>
    cases y with
    | cells c e fz =>
      simp only [hb, Option.isSome_none, Bool.false_eq_true, if_false] at hc
      have ho : o < c.size := (Array.getElem?_eq_some_iff.1 hc).1
      have hlv : liveO (.cells c e fz) = true := by
        rcases hr.kind _ _ hb with h | h
        · exact h
        · simp only [deadO, Array.isEmpty_iff] at h; subst h; simp at hc
      obtain ⟨o', h2, h3⟩ := hr.get hb hlv hL
      cases h3 with
      | cells h1 h2' h3' h4 h5 h6 h7 =>
        exact ⟨c, e, fz, _, _, _, rfl, ho, by simpa [liveO] using hlv, h2, .cells h1 h2' h3' h4 h5 h6 h7⟩
    | _ => simp [hb] at hc
theorem getElem?_modify' {α : Type} (a : Array α) (i j : Nat) (f : α → α) : (a.modify i f)[j]? = if i = j then a[j]?.map f else a[j]? := by
  rw [Array.getElem?_modify]
theorem HR.store (hr : HR P w0 ρ W w) {b o : Nat} {L : Loc} {x v v' : Value} (hL : ρ b = some L) (hv : VR ρ v v') (hc : W.cell? ⟨b, o, none⟩ = some x) (hf : W.frozen? ⟨b, o, none⟩ = false) :
    w.frozen? ⟨L.blk, L.off + o, none⟩ = false ∧ (∃ y, w.cell? ⟨L.blk, L.off + o, none⟩ = some y) ∧ HR P w0 ρ (W.setCell ⟨b, o, none⟩ v) (w.setCell ⟨L.blk, L.off + o, none⟩ v') := by
  obtain ⟨c, e, fz, c', e', fz', hb, ho, hfz, hw, hor⟩ := hr.place hL hc
  obtain ⟨y, hy, _⟩ := hr.cell hL hc
  have hfr : ¬ (fz.1 ≤ o ∧ o < fz.2) := by
    intro h
    unfold World.frozen? at hf
    obtain ⟨lo, hi⟩ := fz
    simp [hb, h.1, h.2] at hf
  cases hor with
  | cells h1 h2 h3 h4 h5 h6 h7 =>
    refine ⟨?_, ⟨y, hy⟩, ?_⟩
    · unfold World.frozen?
      obtain ⟨lo', hi'⟩ := fz'
      simp only [hw]
      cases hd : (decide (lo' ≤ L.off + o) && decide (L.off + o < hi')) with
      | false => rfl
      | true =>
        simp only [Bool.and_eq_true, decide_eq_true_eq] at hd
        exact (hfr (h6 o hd.1 hd.2)).elim
    · refine hr.update (o2 := .cells (c.setIfInBounds o v) e fz) (o2' := .cells (c'.setIfInBounds (L.off + o) v') e fz') hb (by simpa [liveO] using hfz) ?_ hL ?_ ?_ ?_ (by simpa [liveO] using hfz) ?_ ?_ ?_ rfl rfl rfl ?_
      · cases hro : roO (.cells c e fz) with
        | false => rfl
        | true =>
          obtain ⟨lo, hi⟩ := fz
          simp only [roO, Bool.and_eq_true, beq_iff_eq, decide_eq_true_eq] at hro
          exact (hfr ⟨by simp [hro.1], by simp only []; omega⟩).elim
      · simp [World.setCell]
      · simp only [World.setCell, getElem?_modify', if_true, hb, Option.map_some, Option.isSome_none, Bool.false_eq_true, if_false]
      · intro i hi; simp only [World.setCell, getElem?_modify', if_neg (fun e : b = i => hi e.symm)]
      · simp [World.setCell]
      · simp only [World.setCell, getElem?_modify', if_true, hw, Option.map_some, Option.isSome_none, Bool.false_eq_true, if_false]
      · intro i hi; simp only [World.setCell, getElem?_modify', if_neg (fun e : L.blk = i => hi e.symm)]
      · refine .cells (by simp [h1]) (by simp [h2]) (by simpa using h3) h4 ?_ h6 h7
        intro i u u' hu hu'
        rw [Array.getElem?_setIfInBounds] at hu hu'
        by_cases e : o = i
        · subst e
          rw [if_pos rfl, if_pos ho] at hu
          rw [if_pos rfl, if_pos (by omega)] at hu'
          cases hu; cases hu'; exact hv
        · rw [if_neg e] at hu
          rw [if_neg (by omega)] at hu'
          exact h5 i u u' hu hu'
theorem sim_store {b o : Nat} {L : Loc} {v v' : Value} (hL : ρ b = some L) (hv : VR ρ v v') : Sim P w0 false ρ (fun _ _ _ => True) (store ⟨b, o, none⟩ v) (store ⟨L.blk, L.off + o, none⟩ v') := by
  intro ρ1 h1 W w hr a W' e
  obtain ⟨n1, n2, ⟨x, hx⟩, hf, rfl⟩ := store_inv hr e
  have hv1 := hv.mono h1
  obtain ⟨hf', ⟨y, hy⟩, hr'⟩ := hr.store (h1 _ _ hL) hv1 hx hf
  exact ⟨ρ1, (), _, Ren.le_refl _, store_run (hv1.notAgg n1) (hv1.notTuple n2) hy hf', trivial, hr', fun h => by cases h⟩
/-- Addresses that fit. -/
def DR (ρ : Ren) (a a' : Addr) : Prop := ∃ b o L, ρ b = some L ∧ a = ⟨b, o, none⟩ ∧ a' = ⟨L.blk, L.off + o, none⟩
theorem DR.mono {ρ ρ' : Ren} (hle : ρ.le ρ') {a a' : Addr} (h : DR ρ a a') : DR ρ' a a' := by
  obtain ⟨b, o, L, h1, h2, h3⟩ := h; exact ⟨b, o, L, hle _ _ h1, h2, h3⟩
theorem DR.add {a a' : Addr} (h : DR ρ a a') (n : Nat) : DR ρ (a.add n) (a'.add n) := by
  obtain ⟨b, o, L, h1, rfl, rfl⟩ := h
  unfold Addr.add
  split
  · exact ⟨b, o, L, h1, rfl, rfl⟩
  · exact ⟨b, o + n, L, h1, rfl, by simp [Nat.add_assoc]⟩
theorem sim_load' {a a' : Addr} (h : DR ρ a a') : Sim P w0 q ρ VR (load a) (load a') := by
  obtain ⟨b, o, L, h1, rfl, rfl⟩ := h; exact sim_load h1
theorem sim_store' {a a' : Addr} {v v' : Value} (h : DR ρ a a') (hv : VR ρ v v') : Sim P w0 false ρ (fun _ _ _ => True) (store a v) (store a' v') := by
  obtain ⟨b, o, L, h1, rfl, rfl⟩ := h; exact sim_store h1 hv
theorem sim_loadCellsFrom {a a' : Addr} (n : Nat) : ∀ {ρ : Ren} (_ : DR ρ a a') (i : Nat) {acc acc' : Array Value} (_ : AR ρ acc acc'), Sim P w0 q ρ AR (loadCellsFrom a i n acc) (loadCellsFrom a' i n acc') := by
  induction n with
  | zero => intro ρ h i acc acc' ha; exact sim_pure fun _ hle => ha.mono hle
  | succ n ih =>
    intro ρ h i acc acc' ha
    refine sim_bind (sim_load' (h.add i)) fun ρ1 v v' hle hv => ?_
    exact ih (h.mono hle) (i + 1) ((ha.mono hle).push hv)
theorem sim_loadCells {a a' : Addr} (h : DR ρ a a') (n : Nat) : Sim P w0 q ρ AR (loadCells a n) (loadCells a' n) := sim_loadCellsFrom n h 0 (AR.nil ρ)
theorem sim_storeCells {a a' : Addr} : ∀ (vs vs' : List Value) {ρ : Ren} (_ : DR ρ a a') (i : Nat) (_ : AR ρ vs.toArray vs'.toArray), Sim P w0 false ρ (fun _ _ _ => True) (storeCells a vs i) (storeCells a' vs' i)
  | [], [], ρ, h, i, hv => sim_pure fun _ _ => trivial
  | [], y :: ys, ρ, h, i, hv => by have := hv.size; simp at this
  | x :: xs, [], ρ, h, i, hv => by have := hv.size; simp at this
  | x :: xs, y :: ys, ρ, h, i, hv => by
    refine sim_bind (sim_store' (h.add i) (hv.get 0 x y (by simp) (by simp))) fun ρ1 _ _ hle _ => ?_
    refine sim_storeCells xs ys (h.mono hle) (i + 1) ⟨by have := hv.size; simpa using this, fun j u u' hu hu' => ?_⟩
    exact (hv.get (j + 1) u u' (by simpa using hu) (by simpa using hu')).mono hle
theorem sim_loadVar {a a' : Addr} (h : DR ρ a a') (t : TypeId) : Sim P w0 q ρ VR (loadVar t a) (loadVar t a') := by
  unfold loadVar
  refine sim_bind (sim_fixed (fixed_isAgg t)) fun ρ1 x x' hle hx => ?_
  obtain ⟨rfl, _⟩ := hx
  cases x with
  | true =>
    refine sim_bind (sim_fixed (fixed_sizeOf t)) fun ρ2 n n' hle2 hn => ?_
    obtain ⟨rfl, _⟩ := hn
    refine sim_bind (sim_loadCells ((h.mono hle).mono hle2) n) fun ρ3 c c' hle3 hc => ?_
    exact sim_pure fun ρ4 hle4 => .agg hc.size (hc.mono hle4).get
  | false => exact sim_load' (h.mono hle)
theorem sim_storeVar {a a' : Addr} (h : DR ρ a a') (t : TypeId) {v v' : Value} (hv : VR ρ v v') : Sim P w0 false ρ (fun _ _ _ => True) (storeVar t a v) (storeVar t a' v') := by
  unfold storeVar
  refine sim_bind (sim_fixed (fixed_sizeOf t)) fun ρ1 n n' hle hn => ?_
  obtain ⟨rfl, _⟩ := hn
  rw [← hv.cells.size]
  split
  · exact sim_bind (RA := fun _ _ _ => True) sim_halt fun ρ2 _ _ hle2 _ => sim_storeCells _ _ ((h.mono hle).mono hle2) 0 (by simpa using ((hv.cells.mono hle).mono hle2))
  · exact sim_storeCells _ _ (h.mono hle) 0 (by simpa using hv.cells.mono hle)
theorem sim_newRow (e : TypeId) {c c' : Array Value} (h : AR ρ c c') : Sim P w0 false ρ (fun ρ2 a a' => DR ρ2 a a' ∧ ∃ b L, ρ2 b = some L ∧ a = ⟨b, 0, none⟩ ∧ L.off = 0 ∧ L.size = c.size ∧ L.room = c'.size) (newRow e c) (newRow e c') := by
  intro ρ1 h1 W w hr a W' e'
  have e2 : (newRow e c).run P W = .ok ⟨W.heap.size, 0, none⟩ { W with heap := W.heap.push (.cells c e) } := rfl
  rw [e2] at e'
  cases e'
  have hfree : ρ1 W.heap.size = none := by
    cases e : ρ1 W.heap.size with
    | none => rfl
    | some M => have := (hr.dom _ M e).1; omega
  let L : Loc := ⟨w.heap.size, 0, c.size, c'.size, ((P.info? e).map (·.size)).getD 0⟩
  have hle : ρ1.le (ρ1.add W.heap.size L) := Ren.le_add _ _ _ hfree
  refine ⟨ρ1.add W.heap.size L, ⟨w.heap.size, 0, none⟩, { w with heap := w.heap.push (.cells c' e) }, hle, rfl, ⟨⟨_, 0, L, Ren.add_same _ _ _, rfl, rfl⟩, _, L, Ren.add_same _ _ _, rfl, rfl, rfl, rfl⟩, ?_, fun h => by cases h⟩
  refine hr.alloc (L := L) rfl rfl rfl rfl (by simp [liveO]) rfl rfl rfl ?_
  refine .cells rfl rfl (by simp [L, h.size]) (fun i hi => by simp [L, hi]) ?_ (fun k hk hk2 => by simp only [] at hk2; omega) (fun _ => rfl)
  intro i v v' hv hv'
  simp only [L, Nat.zero_add] at hv'
  exact (h.get i v v' hv hv').mono (Ren.le_trans h1 hle)
theorem sim_newVar (t : TypeId) {v v' : Value} (hv : VR ρ v v') : Sim P w0 false ρ (fun ρ2 a a' => DR ρ2 a a') (newVar t v) (newVar t v') :=
  (sim_newRow t hv.cells).mono fun _ _ _ _ h => h.1
end
end Go.Proofs.YtnnppmcbgfadpaaGreatDoor
