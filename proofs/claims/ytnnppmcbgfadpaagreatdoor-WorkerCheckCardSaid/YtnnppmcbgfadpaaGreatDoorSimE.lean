/- Built values, rows, maps and iterators in a pattern and in what fits it. -/
import Derived.Test.YtnnppmcbgfadpaaGreatDoorSimD
namespace Go.Proofs.YtnnppmcbgfadpaaGreatDoor
open Go.RowKit
section
variable {P : Program} {w0 : World} {q : Bool} {ρ : Ren} {W w : World}
/-- Parts of a built value. -/
inductive PR (ρ : Ren) : List (Nat × Value) → List (Nat × Value) → Prop
  | nil : PR ρ [] []
  | cons (i : Nat) {v v' : Value} {l l' : List (Nat × Value)} (h : VR ρ v v') (hl : PR ρ l l') : PR ρ ((i, v) :: l) ((i, v') :: l')
theorem PR.mono {ρ ρ' : Ren} (hle : ρ.le ρ') {l l' : List (Nat × Value)} (h : PR ρ l l') : PR ρ' l l' := by
  induction h with
  | nil => exact .nil
  | cons i h _ ih => exact .cons i (h.mono hle) ih
theorem fold_AR (off : Nat) : ∀ (l l' : List (Value × Nat)) (cs cs' : Array Value), AR ρ cs cs' → l.map (·.2) = l'.map (·.2) → (∀ (i : Nat) (x x' : Value × Nat), l[i]? = some x → l'[i]? = some x' → VR ρ x.1 x'.1) →
    AR ρ (l.foldl (fun cs x => cs.setIfInBounds (off + x.2) x.1) cs) (l'.foldl (fun cs x => cs.setIfInBounds (off + x.2) x.1) cs')
  | [], [], cs, cs', h, _, _ => h
  | [], y :: l', cs, cs', h, e, _ => by simp at e
  | x :: l, [], cs, cs', h, e, _ => by simp at e
  | x :: l, y :: l', cs, cs', h, e, hv => by
    simp only [List.map_cons, List.cons.injEq] at e
    simp only [List.foldl_cons]
    refine fold_AR off l l' _ _ ?_ e.2 fun i a b ha hb => hv (i + 1) a b (by simpa using ha) (by simpa using hb)
    rw [← e.1]
    exact h.set _ (hv 0 x y (by simp) (by simp))
theorem zipIdx_fold (off : Nat) {v v' : Array Value} (hv : AR ρ v v') {cs cs' : Array Value} (h : AR ρ cs cs') :
    AR ρ (v.zipIdx.foldl (fun cs (c, j) => cs.setIfInBounds (off + j) c) cs) (v'.zipIdx.foldl (fun cs (c, j) => cs.setIfInBounds (off + j) c) cs') := by
  rw [← Array.foldl_toList, ← Array.foldl_toList]
  refine fold_AR off _ _ cs cs' h ?_ ?_
  · refine List.ext_getElem? fun i => ?_
    simp only [List.getElem?_map, Array.toList_zipIdx, List.getElem?_zipIdx, Array.getElem?_toList]
    cases hx : v[i]? with
    | none => rw [hv.none hx]
    | some x => obtain ⟨y, hy, _⟩ := hv.some hx; rw [hy]; rfl
  · intro i x x' hx hx'
    simp only [Array.toList_zipIdx, List.getElem?_zipIdx, Array.getElem?_toList, Option.map_eq_some_iff] at hx hx'
    obtain ⟨a, ha, rfl⟩ := hx
    obtain ⟨b, hb, rfl⟩ := hx'
    exact hv.get i a b ha hb
theorem fill_AR (place : Nat → Option (Nat × Nat)) : ∀ (l l' : List (Nat × Value)) (cs cs' r : Array Value), AR ρ cs cs' → PR ρ l l' → Instr.fill place cs l = some r → ∃ r', Instr.fill place cs' l' = some r' ∧ AR ρ r r'
  | [], [], cs, cs', r, h, _, e => by simp only [Instr.fill, Option.some.injEq] at e; subst e; exact ⟨cs', rfl, h⟩
  | (i, v) :: l, (j, v') :: l', cs, cs', r, h, hp, e => by
    cases hp with
    | cons _ hv hl =>
      unfold Instr.fill at e ⊢
      cases hpl : place i with
      | none => rw [hpl] at e; simp at e
      | some os =>
        obtain ⟨off, size⟩ := os
        simp only [hpl] at e ⊢
        rw [← hv.cells.size, ← h.size]
        split at e
        · cases e
        · rename_i hc
          rw [if_neg hc]
          exact fill_AR place l l' _ _ r (zipIdx_fold off hv.cells h) hl e
  | [], _ :: _, _, _, _, _, hp, _ => by cases hp
  | _ :: _, [], _, _, _, _, hp, _ => by cases hp
theorem fixed_mapM {α β : Type} (f : α → Sem β) (hf : ∀ a, Fixed P (f a)) (l : Array α) : Fixed P (l.mapM f) := by
  rw [Array.mapM_eq_mapM_toList]
  refine fixed_bind ?_ fun _ => fixed_pure _
  induction l.toList with
  | nil => rw [List.mapM_nil]; exact fixed_pure _
  | cons a l ih => rw [List.mapM_cons]; exact fixed_bind (hf a) fun _ => fixed_bind ih fun _ => fixed_pure _
theorem plain_cells {v : Value} (h : plainV 3 v = true) (ρ : Ren) : AR ρ v.cells v.cells := (plain_refl h ρ).cells
theorem sim_build {t : TypeId} (hz : ZeroPlain P t) {l l' : Array (Nat × Value)} (h : PR ρ l.toList l'.toList) : Sim P w0 q ρ VR (Instr.build t l) (Instr.build t l') := by
  unfold Instr.build
  refine sim_bind (sim_zeroValue hz) fun ρ1 v v' hle hv => ?_
  obtain ⟨rfl, hp⟩ := hv
  refine sim_bind (sim_fixed (fixed_underlying t)) fun ρ2 d d' hle2 hd => ?_
  obtain ⟨rfl, _⟩ := hd
  cases d with
  | struct fields =>
    dsimp only
    refine sim_bind (sim_fixed (fixed_mapM _ (fun f => fixed_bind (fixed_sizeOf f.type) fun _ => fixed_pure _) fields)) fun ρ3 ps ps' hle3 hps => ?_
    obtain ⟨rfl, _⟩ := hps
    cases hf : Instr.fill (ps[·]?) v.cells l.toList with
    | none => exact sim_halt
    | some r =>
      obtain ⟨r', hr', har⟩ := fill_AR _ _ _ _ _ r (plain_cells hp ρ3) (((h.mono hle).mono hle2).mono hle3) hf
      rw [hr']
      exact sim_pure fun ρ4 hle4 => .agg har.size (har.mono hle4).get
  | array n e =>
    dsimp only
    refine sim_bind (sim_fixed (fixed_sizeOf e)) fun ρ3 ps ps' hle3 hps => ?_
    obtain ⟨rfl, _⟩ := hps
    cases hf : Instr.fill (fun i => some (i * ps, ps)) v.cells l.toList with
    | none => exact sim_halt
    | some r =>
      obtain ⟨r', hr', har⟩ := fill_AR _ _ _ _ _ r (plain_cells hp ρ3) (((h.mono hle).mono hle2).mono hle3) hf
      rw [hr']
      exact sim_pure fun ρ4 hle4 => .agg har.size (har.mono hle4).get
  | _ => exact sim_halt
theorem fold_size (off : Nat) : ∀ (l : List (Value × Nat)) (cs : Array Value), (l.foldl (fun cs x => cs.setIfInBounds (off + x.2) x.1) cs).size = cs.size
  | [], cs => rfl
  | x :: l, cs => by rw [List.foldl_cons, fold_size off l]; simp
theorem fill_size (place : Nat → Option (Nat × Nat)) : ∀ (l : List (Nat × Value)) (cs r : Array Value), Instr.fill place cs l = some r → r.size = cs.size
  | [], cs, r, e => by simp only [Instr.fill, Option.some.injEq] at e; subst e; rfl
  | (i, v) :: l, cs, r, e => by
    unfold Instr.fill at e
    cases hpl : place i with
    | none => rw [hpl] at e; simp at e
    | some os =>
      obtain ⟨off, size⟩ := os
      simp only [hpl] at e
      split at e
      · cases e
      · rw [fill_size place l _ r e, ← Array.foldl_toList]
        exact fold_size off _ cs
theorem zrow_AR {z : Array Value} (h : AR ρ z z) (n : Nat) (k : Nat → Nat) : AR ρ ((Array.range n).map fun i => z[k i]!) ((Array.range n).map fun i => z[k i]!) := by
  refine ⟨rfl, fun i v v' hv hv' => ?_⟩
  rw [hv] at hv'; cases hv'
  rw [Array.getElem?_map] at hv
  cases hx : (Array.range n)[i]? with
  | none => rw [hx] at hv; cases hv
  | some j =>
    rw [hx] at hv
    simp only [Option.map_some, Option.some.injEq] at hv
    subst hv
    rw [getElem!_def]
    cases hz : z[k j]? with
    | none => exact .bool _
    | some x => exact h.get _ x x hz hz
/-- The elements of a slice type take room. -/
def ElemRoom (P : Program) (t : TypeId) : Prop := ∀ e n, (∀ w, (underlying t).run P w = .ok (.slice e) w) → (∀ w, (sizeOf e).run P w = .ok n w) → n ≠ 0
theorem slice_new {b n : Nat} {a' : Addr} {L : Loc} (h : ρ b = some L) (ha : DR ρ ⟨b, 0, none⟩ a') (hs : n = 0 ∧ L.size = 0 ∨ 0 < n ∧ 0 < L.size) {c : Nat} (hn : n ≤ c) (hc : n = 0 → c = 0) : VR ρ (.slice (some ⟨b, 0, none⟩) n c) (.slice (some a') n c) := by
  obtain ⟨b2, o, M, h1, h2, rfl⟩ := ha
  cases h2
  rw [h] at h1; cases h1
  rcases hs with ⟨rfl, h0⟩ | ⟨h0, h1⟩
  · rw [hc rfl]; exact .sfresh _ h h0
  · exact .slice h h1 hn (by omega) (.inl rfl)
theorem sim_buildSlice {t : TypeId} (hz : ∀ e, (∀ w, (underlying t).run P w = .ok (.slice e) w) → ZeroPlain P e) (len : Nat) {l l' : Array (Nat × Value)} (h : PR ρ l.toList l'.toList) (hroom : ElemRoom P t) : Sim P w0 false ρ VR (Instr.buildSlice t len l) (Instr.buildSlice t len l') := by
  unfold Instr.buildSlice
  refine sim_bind (sim_fixed (fixed_underlying t)) fun ρ1 d d' hle hd => ?_
  obtain ⟨rfl, hrun⟩ := hd
  cases d with
  | slice e =>
    dsimp only
    refine sim_bind (sim_fixed (fixed_sizeOf e)) fun ρ2 n n' hle2 hn => ?_
    obtain ⟨rfl, hrun2⟩ := hn
    have hn0 := hroom e n hrun hrun2
    have tail : ∀ (z : Array Value) (ρ3 : Ren), ρ2.le ρ3 → (∀ ρ, AR ρ z z) → Sim P w0 false ρ3 VR
        (match Instr.fill (fun i => some (i * n, n)) ((Array.range (len * n)).map fun x => z[x % z.size]!) l.toList with
          | some cells => (do pure (.slice (some (← newRow e cells)) len len)) | _ => stuck "buildSlice: a part of the wrong size")
        (match Instr.fill (fun i => some (i * n, n)) ((Array.range (len * n)).map fun x => z[x % z.size]!) l'.toList with
          | some cells => (do pure (.slice (some (← newRow e cells)) len len)) | _ => stuck "buildSlice: a part of the wrong size") := by
      intro z ρ3 hle3 hz3
      cases hf : Instr.fill (fun i => some (i * n, n)) ((Array.range (len * n)).map fun x => z[x % z.size]!) l.toList with
      | none => exact sim_halt
      | some r =>
        obtain ⟨r', hr', har⟩ := fill_AR _ _ _ _ _ r (zrow_AR (hz3 ρ3) (len * n) fun x => x % z.size) (((h.mono hle).mono hle2).mono hle3) hf
        rw [hr']
        refine sim_bind (sim_newRow e har) fun ρ4 a a' hle4 ha => ?_
        obtain ⟨hd, b, L, hb, rfl, _, hsz, _⟩ := ha
        refine sim_pure fun ρ5 hle5 => slice_new (hle5 _ _ hb) (hd.mono hle5) ?_ (Nat.le_refl _) id
        have hrs := fill_size _ _ _ _ hf
        simp only [Array.size_map, Array.size_range] at hrs
        rw [hsz, hrs]
        rcases Nat.eq_zero_or_pos len with rfl | hl
        · left; simp
        · right; exact ⟨hl, Nat.mul_pos hl (by omega)⟩
    by_cases hbig : len * n > 2 ^ 24
    · rw [if_pos hbig]; exact sim_halt
    · rw [if_neg hbig, if_neg hbig]
      by_cases h0 : len * n = 0
      · rw [if_pos h0, if_pos h0]; exact tail #[] ρ2 (Ren.le_refl _) fun ρ => AR.nil ρ
      · rw [if_neg h0, if_neg h0]
        refine sim_bind (sim_zeroValue (hz e hrun)) fun ρ3 v v' hle3 hv => ?_
        obtain ⟨rfl, hp⟩ := hv
        exact tail v.cells ρ3 hle3 fun ρ => plain_cells hp ρ
  | _ => exact sim_halt
end
end Go.Proofs.YtnnppmcbgfadpaaGreatDoor
