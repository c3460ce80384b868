/- Worlds that fit a pattern, and runs of the model's operations in both. -/
import Derived.Below
import Derived.Test.YtnnppmcbgfadpaaGreatDoorSimA
namespace Go.Proofs.YtnnppmcbgfadpaaGreatDoor
open Go.RowKit
def liveO : Obj → Bool
  | .cells _ _ (lo, hi) => decide (lo ≤ hi)
  | .map .. | .stringIter .. | .mapIter .. | .loop _ | .deferred _ => true
  | _ => false
/-- A block that nobody may look at any more. -/
def deadO : Obj → Bool
  | .cells c _ _ => c.isEmpty
  | _ => false
/-- A block that is read alone. -/
def roO : Obj → Bool
  | .cells c _ (lo, hi) => lo == 0 && decide (c.size ≤ hi)
  | _ => false
def isKey : Value → Bool
  | .string _ | .int .. => true
  | _ => false
/-- The entries of maps, one by one. -/
inductive ER (ρ : Ren) : List MapEntry → List MapEntry → Prop
  | nil : ER ρ [] []
  | cons {x x' : MapEntry} {l l' : List MapEntry} (hk : x'.key = x.key) (hi : isKey x.key = true) (hb : x'.born = x.born) (hv : VR ρ x.val x'.val) (hl : ER ρ l l') : ER ρ (x :: l) (x' :: l')
theorem ER.mono {ρ ρ' : Ren} (hle : ρ.le ρ') {l l' : List MapEntry} (h : ER ρ l l') : ER ρ' l l' := by
  induction h with
  | nil => exact .nil
  | cons hk hi hb hv _ ih => exact .cons hk hi hb (hv.mono hle) ih
inductive OR (P : Program) (ρ : Ren) (L : Loc) : Obj → Obj → Prop
  | cells {c c' : Array Value} {e : TypeId} {fz fz' : Nat × Nat} (hroom : L.room = c'.size) (hsize : L.size = c.size) (hin : L.off + c.size ≤ c'.size)
      (hz : ∀ i, P.info? e = some i → i.size = L.z)
      (hget : ∀ (i : Nat) (v v' : Value), c[i]? = some v → c'[L.off + i]? = some v' → VR ρ v v')
      (hf : ∀ k, fz'.1 ≤ L.off + k → L.off + k < fz'.2 → fz.1 ≤ k ∧ k < fz.2) (hfe : fz = (0, 0) → fz'.1 = fz'.2) : OR P ρ L (.cells c e fz) (.cells c' e fz')
  | map {es es' : Array MapEntry} (t : Nat) (h : ER ρ es.toList es'.toList) : OR P ρ L (.map es t) (.map es' t)
  | str (s : ByteArray) (n : Nat) : OR P ρ L (.stringIter s n) (.stringIter s n)
  | mapIterNone (a : Nat) (b : Array Nat) (c : Nat) : OR P ρ L (.mapIter none a b c) (.mapIter none a b c)
  | mapIter {m : Nat} {M : Loc} (h : ρ m = some M) (a : Nat) (b : Array Nat) (c : Nat) : OR P ρ L (.mapIter (some m) a b c) (.mapIter (some M.blk) a b c)
  | loop {l l' : Loop} {D : Loc} (h1 : l.state = l'.state) (h2 : l.pending = l'.pending) (h3 : l.fn = l'.fn) (h4 : AR ρ l.tmps l'.tmps) (h5 : l.params = l'.params) (h6 : l.assign = l'.assign) (h7 : l.body = l'.body)
      (h8 : ρ l.defers = some D) (h9 : l'.defers = D.blk) : OR P ρ L (.loop l) (.loop l')
  | deferredNil : OR P ρ L (.deferred (some [])) (.deferred (some []))
  | deferredDone : OR P ρ L (.deferred none) (.deferred none)
theorem OR.mono {P : Program} {ρ ρ' : Ren} (hle : ρ.le ρ') {L : Loc} {o o' : Obj} (h : OR P ρ L o o') : OR P ρ' L o o' := by
  cases h with
  | cells h1 h2 h3 h4 h5 h6 h7 => exact .cells h1 h2 h3 h4 (fun i v v' a b => (h5 i v v' a b).mono hle) h6 h7
  | map t h => exact .map t (h.mono hle)
  | str s n => exact .str s n
  | mapIterNone a b c => exact .mapIterNone a b c
  | mapIter h a b c => exact .mapIter (hle _ _ h) a b c
  | loop h1 h2 h3 h4 h5 h6 h7 h8 h9 => exact .loop h1 h2 h3 (h4.mono hle) h5 h6 h7 (hle _ _ h8) h9
  | deferredNil => exact .deferredNil
  | deferredDone => exact .deferredDone
/-- The world w fits the pattern W; what lay below in w0 is as it was. -/
structure HR (P : Program) (w0 : World) (ρ : Ren) (W w : World) : Prop where
  dom : ∀ b L, ρ b = some L → b < W.heap.size ∧ L.blk < w.heap.size
  obj : ∀ b o, W.heap[b]? = some o → liveO o = true → ∃ L o', ρ b = some L ∧ w.heap[L.blk]? = some o' ∧ OR P ρ L o o'
  inj : ∀ b c o o' L M, W.heap[b]? = some o → liveO o = true → W.heap[c]? = some o' → liveO o' = true → ρ b = some L → ρ c = some M → L.blk = M.blk → b = c
  own : ∀ b o L, W.heap[b]? = some o → liveO o = true → roO o = false → ρ b = some L → w0.heap.size ≤ L.blk
  kind : ∀ (b : Nat) (o : Obj), W.heap[b]? = some o → liveO o = true ∨ deadO o = true
  below : Below w0.heap.size w0 w
  off0 : ∀ b L, ρ b = some L → L.off = 0
/-- What a run in the pattern shows, a run in each world that fits it shows too. 'q': nothing is written or made. -/
def Sim (P : Program) (w0 : World) (q : Bool) (ρ : Ren) {α α' : Type} (R : Ren → α → α' → Prop) (m : Sem α) (m' : Sem α') : Prop :=
  ∀ ρ1, ρ.le ρ1 → ∀ W w, HR P w0 ρ1 W w → ∀ a W', m.run P W = .ok a W' →
    ∃ ρ2 a' w', ρ1.le ρ2 ∧ m'.run P w = .ok a' w' ∧ R ρ2 a a' ∧ HR P w0 ρ2 W' w' ∧ (q = true → ρ2 = ρ1 ∧ W' = W ∧ w' = w)
section
variable {P : Program} {w0 : World} {q : Bool} {ρ : Ren} {α α' β β' : Type}
theorem Sim.weak {R : Ren → α → α' → Prop} {m : Sem α} {m' : Sem α'} (h : Sim P w0 true ρ R m m') : Sim P w0 q ρ R m m' := by
  intro ρ1 h1 W w hr a W' e
  obtain ⟨ρ2, a', w', x1, x2, x3, x4, x5⟩ := h ρ1 h1 W w hr a W' e
  exact ⟨ρ2, a', w', x1, x2, x3, x4, fun _ => x5 rfl⟩
theorem Sim.up {ρ' : Ren} (hle : ρ.le ρ') {R : Ren → α → α' → Prop} {m : Sem α} {m' : Sem α'} (h : Sim P w0 q ρ R m m') : Sim P w0 q ρ' R m m' :=
  fun ρ1 h1 => h ρ1 (Ren.le_trans hle h1)
theorem Sim.mono {R R' : Ren → α → α' → Prop} (hR : ∀ ρ1 a a', ρ.le ρ1 → R ρ1 a a' → R' ρ1 a a') {m : Sem α} {m' : Sem α'} (h : Sim P w0 q ρ R m m') : Sim P w0 q ρ R' m m' := by
  intro ρ1 h1 W w hr a W' e
  obtain ⟨ρ2, a', w', x1, x2, x3, x4, x5⟩ := h ρ1 h1 W w hr a W' e
  exact ⟨ρ2, a', w', x1, x2, hR _ _ _ (Ren.le_trans h1 x1) x3, x4, x5⟩
theorem sim_pure {R : Ren → α → α' → Prop} {a : α} {a' : α'} (h : ∀ ρ1, ρ.le ρ1 → R ρ1 a a') : Sim P w0 q ρ R (pure a) (pure a') := by
  intro ρ1 h1 W w hr b W' e
  have : (Result.ok a W : Result α) = .ok b W' := e
  cases this
  exact ⟨ρ1, a', w, Ren.le_refl _, rfl, h ρ1 h1, hr, fun _ => ⟨rfl, rfl, rfl⟩⟩
theorem sim_halt {R : Ren → α → α' → Prop} {h : Halt} {m' : Sem α'} : Sim P w0 q ρ R (.halt h) m' := by
  intro ρ1 h1 W w hr b W' e
  cases e
theorem sim_bind {RA : Ren → α → α' → Prop} {RB : Ren → β → β' → Prop} {m : Sem α} {m' : Sem α'} {f : α → Sem β} {f' : α' → Sem β'}
    (h : Sim P w0 q ρ RA m m') (k : ∀ ρ1 a a', ρ.le ρ1 → RA ρ1 a a' → Sim P w0 q ρ1 RB (f a) (f' a')) : Sim P w0 q ρ RB (m >>= f) (m' >>= f') := by
  intro ρ1 h1 W w hr b W' e
  rw [Sem.run_bind] at e
  cases hm : m.run P W with
  | halt x y => rw [hm] at e; cases e
  | ok a W1 =>
    rw [hm] at e
    obtain ⟨ρ2, a', w', x1, x2, x3, x4, x5⟩ := h ρ1 h1 W w hr a W1 hm
    obtain ⟨ρ3, b', w'', y1, y2, y3, y4, y5⟩ := k ρ2 a a' (Ren.le_trans h1 x1) x3 ρ2 (Ren.le_refl _) W1 w' x4 b W' e
    refine ⟨ρ3, b', w'', Ren.le_trans x1 y1, ?_, y3, y4, ?_⟩
    · rw [Sem.run_bind, x2]; exact y2
    · intro hq
      obtain ⟨z1, z2, z3⟩ := x5 hq
      obtain ⟨z4, z5, z6⟩ := y5 hq
      exact ⟨z4.trans z1, z5.trans z2, z6.trans z3⟩
/-- A run that does not look at the world. -/
def Fixed (P : Program) (m : Sem α) : Prop := (∃ a, ∀ w, m.run P w = .ok a w) ∨ (∃ h, ∀ w, m.run P w = .halt h w)
theorem fixed_pure (a : α) : Fixed P (pure a : Sem α) := .inl ⟨a, fun _ => rfl⟩
theorem fixed_halt (h : Halt) : Fixed P (.halt h : Sem α) := .inr ⟨h, fun _ => rfl⟩
theorem fixed_program : Fixed P program := .inl ⟨P, fun _ => rfl⟩
theorem fixed_bind {m : Sem α} {f : α → Sem β} (h : Fixed P m) (k : ∀ a, Fixed P (f a)) : Fixed P (m >>= f) := by
  rcases h with ⟨a, h⟩ | ⟨x, h⟩
  · rcases k a with ⟨b, hb⟩ | ⟨y, hy⟩
    · exact .inl ⟨b, fun w => by rw [Sem.run_bind, h w]; exact hb w⟩
    · exact .inr ⟨y, fun w => by rw [Sem.run_bind, h w]; exact hy w⟩
  · exact .inr ⟨x, fun w => by rw [Sem.run_bind, h w]; rfl⟩
theorem sim_fixed {m : Sem α} (h : Fixed P m) : Sim P w0 q ρ (fun _ a a' => a = a' ∧ ∀ w, m.run P w = .ok a w) m m := by
  intro ρ1 h1 W w hr a W' e
  rcases h with ⟨b, h⟩ | ⟨x, h⟩
  · have e' := (h W).symm.trans e
    cases e'
    exact ⟨ρ1, a, w, Ren.le_refl _, h w, ⟨rfl, h⟩, hr, fun _ => ⟨rfl, rfl, rfl⟩⟩
  · have e' := (h W).symm.trans e
    cases e'
theorem fixed_typeInfo (t : TypeId) : Fixed P (typeInfo t) := by
  unfold typeInfo
  refine fixed_bind fixed_program fun p => ?_
  split
  · exact fixed_pure _
  · exact fixed_halt _
theorem fixed_underlying (t : TypeId) : Fixed P (underlying t) := by
  unfold underlying
  refine fixed_bind fixed_program fun p => ?_
  split
  · exact fixed_pure _
  · exact fixed_halt _
theorem fixed_sizeOf (t : TypeId) : Fixed P (sizeOf t) := fixed_bind (fixed_typeInfo t) fun _ => fixed_pure _
theorem fixed_zeroValue (t : TypeId) : Fixed P (zeroValue t) := by
  unfold zeroValue
  refine fixed_bind (fixed_typeInfo t) fun p => ?_
  split
  · exact fixed_pure _
  · exact fixed_halt _
theorem fixed_isAgg (t : TypeId) : Fixed P (isAgg t) := by
  unfold isAgg
  refine fixed_bind (fixed_underlying t) fun p => ?_
  split <;> exact fixed_pure _
end
section
variable {P : Program} {w0 : World} {q : Bool} {ρ : Ren} {W w : World}
theorem HR.get (h : HR P w0 ρ W w) {b : Nat} {o : Obj} {L : Loc} (hb : W.heap[b]? = some o) (hl : liveO o = true) (hL : ρ b = some L) : ∃ o', w.heap[L.blk]? = some o' ∧ OR P ρ L o o' := by
  obtain ⟨M, o', h1, h2, h3⟩ := h.obj b o hb hl
  rw [hL] at h1; cases h1
  exact ⟨o', h2, h3⟩
theorem HR.cell (h : HR P w0 ρ W w) {b o : Nat} {L : Loc} {v : Value} (hL : ρ b = some L) (hc : W.cell? ⟨b, o, none⟩ = some v) : ∃ v', w.cell? ⟨L.blk, L.off + o, none⟩ = some v' ∧ VR ρ v v' := by
  unfold World.cell? at hc
  cases hb : W.heap[b]? with
  | none => simp [hb] at hc
  | some x =>
    cases x with
    | cells c e fz =>
      simp only [hb, Option.isSome_none, Bool.false_eq_true, if_false] at hc
      have hlv : liveO (.cells c e fz) = true := by
        rcases h.kind _ _ hb with h | h
        · exact h
        · simp only [deadO, Array.isEmpty_iff] at h; subst h; simp at hc
      obtain ⟨o', h2, h3⟩ := h.get hb hlv hL
      cases h3 with
      | cells h1 h2' h3' h4 h5 h6 h7 =>
        rename_i c' fz'
        have ho : o < c.size := (Array.getElem?_eq_some_iff.1 hc).1
        have hlt : L.off + o < c'.size := by omega
        refine ⟨c'[L.off + o], ?_, h5 o v _ hc (Array.getElem?_eq_getElem hlt)⟩
        unfold World.cell?
        simp only [h2, Option.isSome_none, Bool.false_eq_true, if_false]
        exact Array.getElem?_eq_getElem hlt
    | _ => simp [hb] at hc
/-- One block of the pattern turns, and the one that fits it. -/
theorem HR.update (h : HR P w0 ρ W w) {W' w' : World} {b : Nat} {L : Loc} {o o2 o2' : Obj} (hb : W.heap[b]? = some o) (hl : liveO o = true) (hro : roO o = false) (hL : ρ b = some L)
    (hs : W'.heap.size = W.heap.size) (hb' : W'.heap[b]? = some o2) (hne : ∀ i, i ≠ b → W'.heap[i]? = W.heap[i]?) (hl2 : liveO o2 = true)
    (hs' : w'.heap.size = w.heap.size) (hw' : w'.heap[L.blk]? = some o2') (hne' : ∀ i, i ≠ L.blk → w'.heap[i]? = w.heap[i]?)
    (hos : w'.os = w.os) (htape : w'.tape = w.tape) (hout : w'.output = w.output) (hor : OR P ρ L o2 o2') : HR P w0 ρ W' w' := by
  refine ⟨?_, ?_, ?_, ?_, ?_, ?_, h.off0⟩
  · intro c M hc; rw [hs, hs']; exact h.dom c M hc
  · intro c x hc hx
    by_cases e : c = b
    · subst e; rw [hb'] at hc; cases hc
      exact ⟨L, o2', hL, hw', hor⟩
    · rw [hne c e] at hc
      obtain ⟨M, x', h1, h2, h3⟩ := h.obj c x hc hx
      refine ⟨M, x', h1, ?_, h3⟩
      rw [hne' M.blk]
      · exact h2
      · intro e'; exact e (h.inj c b x o M L hc hx hb hl h1 hL e')
  · intro c d x y M N hc hx hd hy hM hN e
    have key : ∀ (c : Nat) (x : Obj), W'.heap[c]? = some x → liveO x = true → ∃ x0, W.heap[c]? = some x0 ∧ liveO x0 = true := by
      intro c x hc hx
      by_cases e : c = b
      · subst e; exact ⟨o, hb, hl⟩
      · rw [hne c e] at hc; exact ⟨x, hc, hx⟩
    obtain ⟨x0, h1, h2⟩ := key c x hc hx
    obtain ⟨y0, h3, h4⟩ := key d y hd hy
    exact h.inj c d x0 y0 M N h1 h2 h3 h4 hM hN e
  · intro c x M hc hx hr hM
    by_cases e : c = b
    · subst e; exact h.own c o M hb hl hro hM
    · rw [hne c e] at hc; exact h.own c x M hc hx hr hM
  · intro c x hc
    by_cases e : c = b
    · subst e; rw [hb'] at hc; cases hc; exact .inl hl2
    · rw [hne c e] at hc; exact h.kind c x hc
  · have hge := h.own b o L hb hl hro hL
    exact ⟨hos.trans h.below.os, htape.trans h.below.tape, hout.trans h.below.output, by rw [hs']; exact h.below.size, fun k hk => (hne' k (by omega)).trans (h.below.block k hk)⟩
/-- A new block in both. -/
theorem HR.alloc (h : HR P w0 ρ W w) {W' w' : World} {o2 o2' : Obj} {L : Loc} (hL0 : L.off = 0) (hLb : L.blk = w.heap.size)
    (hW : W'.heap = W.heap.push o2) (hw : w'.heap = w.heap.push o2') (hl2 : liveO o2 = true)
    (hos : w'.os = w.os) (htape : w'.tape = w.tape) (hout : w'.output = w.output) (hor : OR P (ρ.add W.heap.size L) L o2 o2') : HR P w0 (ρ.add W.heap.size L) W' w' := by
  have hfree : ρ W.heap.size = none := by
    cases e : ρ W.heap.size with
    | none => rfl
    | some M => have := (h.dom _ M e).1; omega
  have hle : ρ.le (ρ.add W.heap.size L) := Ren.le_add _ _ _ hfree
  have getW : ∀ i, W'.heap[i]? = if i = W.heap.size then some o2 else W.heap[i]? := by intro i; rw [hW, Array.getElem?_push]
  have getw : ∀ i, w'.heap[i]? = if i = w.heap.size then some o2' else w.heap[i]? := by intro i; rw [hw, Array.getElem?_push]
  have old : ∀ c x M, W.heap[c]? = some x → (ρ.add W.heap.size L) c = some M → c ≠ W.heap.size ∧ ρ c = some M := by
    intro c x M hc hM
    have : c < W.heap.size := (Array.getElem?_eq_some_iff.1 hc).1
    have hne : c ≠ W.heap.size := by omega
    rw [Ren.add_ne _ _ _ _ hne] at hM
    exact ⟨hne, hM⟩
  have off0 : ∀ c M, (ρ.add W.heap.size L) c = some M → M.off = 0 := by
    intro c M hc
    by_cases e : c = W.heap.size
    · subst e; rw [Ren.add_same] at hc; cases hc; exact hL0
    · rw [Ren.add_ne _ _ _ _ e] at hc; exact h.off0 c M hc
  refine ⟨?_, ?_, ?_, ?_, ?_, ?_, off0⟩
  · intro c M hc
    rw [hW, hw, Array.size_push, Array.size_push]
    by_cases e : c = W.heap.size
    · subst e; rw [Ren.add_same] at hc; cases hc; omega
    · rw [Ren.add_ne _ _ _ _ e] at hc
      have := h.dom c M hc; omega
  · intro c x hc hx
    rw [getW] at hc
    split at hc
    · rename_i e; subst e; cases hc
      exact ⟨L, o2', Ren.add_same _ _ _, by rw [getw, if_pos hLb], hor⟩
    · rename_i e
      obtain ⟨M, x', h1, h2, h3⟩ := h.obj c x hc hx
      refine ⟨M, x', hle _ _ h1, ?_, h3.mono hle⟩
      rw [getw, if_neg]
      · exact h2
      · have := (h.dom c M h1).2; omega
  · intro c d x y M N hc hx hd hy hM hN e
    rw [getW] at hc hd
    split at hc <;> split at hd
    · rename_i e1 e2; rw [e1, e2]
    · rename_i e1 e2
      subst e1; rw [Ren.add_same] at hM; cases hM
      obtain ⟨_, hN'⟩ := old d y N hd hN
      have := (h.dom d N hN').2; omega
    · rename_i e1 e2
      subst e2; rw [Ren.add_same] at hN; cases hN
      obtain ⟨_, hM'⟩ := old c x M hc hM
      have := (h.dom c M hM').2; omega
    · obtain ⟨_, hM'⟩ := old c x M hc hM
      obtain ⟨_, hN'⟩ := old d y N hd hN
      exact h.inj c d x y M N hc hx hd hy hM' hN' e
  · intro c x M hc hx hr hM
    rw [getW] at hc
    split at hc
    · rename_i e; subst e; rw [Ren.add_same] at hM; cases hM
      rw [hLb]; exact h.below.size
    · obtain ⟨_, hM'⟩ := old c x M hc hM
      exact h.own c x M hc hx hr hM'
  · intro c x hc
    rw [getW] at hc
    split at hc
    · cases hc; exact .inl hl2
    · exact h.kind c x hc
  · refine ⟨hos.trans h.below.os, htape.trans h.below.tape, hout.trans h.below.output, ?_, fun k hk => ?_⟩
    · rw [hw, Array.size_push]; have := h.below.size; omega
    · have := h.below.size
      rw [getw, if_neg (by omega)]; exact h.below.block k hk
theorem run_load (a : Addr) (W : World) : (load a).run P W = match W.cell? a with
    | some v => .ok v W
    | none => match W.farLoad P a false with
      | .ok (v, _) => .ok v W
      | .error h => .halt h W := by
  unfold load; rw [Sem.run]
  cases W.cell? a with
  | some v => rfl
  | none =>
    show (match W.farLoad P a false with
      | .ok (v, _) => Sem.run P (Sem.pure v) W
      | .error h => .halt h W) = _
    cases W.farLoad P a false <;> rfl
theorem HR.noFar (h : HR P w0 ρ W w) (a : Addr) (t : Bool) : ∃ x, W.farLoad P a t = .error x := by
  unfold World.farLoad
  split
  · rename_i hb; rcases h.kind _ _ hb with h | h <;> cases h
  · exact ⟨_, rfl⟩
theorem HR.noFarS (h : HR P w0 ρ W w) (a : Addr) (v : Value) (t : Bool) : ∃ x, W.farStore P a v t = .error x := by
  unfold World.farStore
  split
  · rename_i hb; rcases h.kind _ _ hb with h | h <;> cases h
  · exact ⟨_, rfl⟩
theorem sim_load {b o : Nat} {L : Loc} (hL : ρ b = some L) : Sim P w0 q ρ VR (load ⟨b, o, none⟩) (load ⟨L.blk, L.off + o, none⟩) := by
  intro ρ1 h1 W w hr a W' e
  rw [run_load] at e
  cases hc : W.cell? ⟨b, o, none⟩ with
  | none =>
    rw [hc] at e
    obtain ⟨x, hx⟩ := hr.noFar (P := P) ⟨b, o, none⟩ false
    simp only [hx] at e
    cases e
  | some v =>
    rw [hc] at e
    cases e
    obtain ⟨v', hv', hvr⟩ := hr.cell (h1 _ _ hL) hc
    refine ⟨ρ1, v', w, Ren.le_refl _, ?_, hvr, hr, fun _ => ⟨rfl, rfl, rfl⟩⟩
    rw [run_load, hv']
end
end Go.Proofs.YtnnppmcbgfadpaaGreatDoor
