/- A rule for regions that draw whose operations may write own blocks: predicates of the environment and the world, stable under a relation of worlds. -/
import Derived.Test.YtnnppmcbgfadpaaGreatDoorEnv
namespace Go.Proofs.YtnnppmcbgfadpaaGreatDoor
open Go.RowKit
/-- What an operation has left: a predicate of some slots and the world, stable under R. -/
structure SPE (R : World → World → Prop) where
  u : List Tmp
  p : Env → World → Prop
  st : ∀ σ w w', R w w' → p σ w → p σ w'
  cg : ∀ σ σ' w, (∀ t ∈ u, σ t = σ' t) → p σ w → p σ' w
section
variable {R : World → World → Prop}
def SPE.any : SPE R := ⟨[], fun _ _ => True, fun _ _ _ _ _ => trivial, fun _ _ _ _ _ => trivial⟩
def SPE.val (t : Tmp) (V : Value) : SPE R := ⟨[t], fun σ _ => σ t = V, fun _ _ _ _ h => h, fun _ _ _ h e => by rw [← h t (by simp)]; exact e⟩
def SPE.of (t : Tmp) (q : Value → World → Prop) (st : ∀ v w w', R w w' → q v w → q v w') : SPE R := ⟨[t], fun σ w => q (σ t) w, fun _ _ _ h e => st _ _ _ h e, fun _ _ _ h e => by rw [← h t (by simp)]; exact e⟩
theorem SPE.any_p (σ : Env) (w : World) : (SPE.any : SPE R).p σ w = True := rfl
theorem SPE.val_p (t : Tmp) (V : Value) (σ : Env) (w : World) : (SPE.val t V : SPE R).p σ w = (σ t = V) := rfl
theorem SPE.of_p (t : Tmp) (q : Value → World → Prop) (st : ∀ v w w', R w w' → q v w → q v w') (σ : Env) (w : World) : (SPE.of t q st : SPE R).p σ w = q (σ t) w := rfl
def getP (L : List (SPE R)) (j : Nat) : SPE R := L.getD j SPE.any
theorem getP_zero (x : SPE R) (L : List (SPE R)) : getP (x :: L) 0 = x := rfl
theorem getP_succ (x : SPE R) (L : List (SPE R)) (j : Nat) : getP (x :: L) (j + 1) = getP L j := rfl
abbrev TabE := List (List Nat × List Tmp)
def opAt (l : List Oper) (i : Nat) (f : Oper → Bool) : Bool := match l[i]? with | some o => f o | none => true
/-- What the kernel is asked: the order, the slots, the tables. -/
def okE (n : Nat) (l : List Oper) (us : List (List Tmp)) (T : TabE) : Bool :=
  dstsB n l &&
  ((List.range l.length).all fun i => opAt l i fun o => (depsS o).all (· < i)) &&
  ((List.range l.length).all fun i => (List.range l.length).all fun j => i == j || opAt l i fun x => opAt l j fun y => (match x.dst with | some t => y.dst != some t | none => true)) &&
  ((List.range l.length).all fun j => opAt l j fun o => (us.getD j []).all fun t => (List.range l.length).all fun k => opAt l k fun x => x.dst != some t || k == j || (depsS o).contains k) &&
  ((List.range l.length).all fun i => opAt l i fun o => (T.getD i ([], [])).1.all fun j => (depsS o).contains j && decide (j < l.length)) &&
  ((List.range l.length).all fun i => opAt l i fun _ => (T.getD i ([], [])).2.all fun t => (List.range l.length).all fun k => opAt l k fun x => x.dst != some t || k == i || (depsS x).contains i) &&
  decide (us.length = l.length)
def factsE (L : List (SPE R)) (σ0 σ : Env) (w : World) : List Nat → List Tmp → Prop
  | j :: js, ts => (getP L j).p σ w ∧ factsE L σ0 σ w js ts
  | [], t :: ts => σ t = σ0 t ∧ factsE L σ0 σ w [] ts
  | [], [] => True
def oneE (P : Program) (L : List (SPE R)) (σ0 : Env) (w0 : World) (s : SOp) (ts : List Nat × List Tmp) (i : SPE R) : Prop :=
  ∀ σ w, R w0 w → factsE L σ0 σ w ts.1 ts.2 →
      (wantS σ s.g = true → stepS P (fun v w' => i.p (putS σ s.o.dst v) w' ∧ R w w') ((execOp (evalS σ) s.o).run P w)) ∧ (wantS σ s.g = false → i.p (putS σ s.o.dst undef) w)
def oblE (P : Program) (L : List (SPE R)) (σ0 : Env) (w0 : World) : List SOp → TabE → Nat → Prop
  | s :: rest, ts :: tab, i => oneE P L σ0 w0 s ts (getP L i) ∧ oblE P L σ0 w0 rest tab (i + 1)
  | _ :: _, [], _ => False
  | [], _, _ => True
theorem oblE_get {P : Program} {L : List (SPE R)} {σ0 : Env} {w0 : World} {l : List Oper} : ∀ (m : List Oper) (T : TabE) (k : Nat), oblE P L σ0 w0 (m.map (stripO l.toArray)) T k → ∀ i o, m[i]? = some o → oneE P L σ0 w0 (stripO l.toArray o) (T.getD i ([], [])) (getP L (k + i))
  | [], _, _, _, i, o, h => by simp at h
  | x :: m, [], k, h, i, o, ho => by exact h.elim
  | x :: m, t :: T, k, h, 0, o, ho => by simp at ho; subst ho; exact h.1
  | x :: m, t :: T, k, h, i + 1, o, ho => by
    have := oblE_get m T (k + 1) h.2 i o (by simpa using ho)
    rw [show k + (i + 1) = k + 1 + i by omega]; exact this
structure InvE (L : List (SPE R)) (l : List Oper) (σ0 : Env) (w0 : World) (listed : Array Bool) (σ : Env) (w : World) : Prop where
  size : listed.size = l.length
  reach : R w0 w
  done : ∀ j, j < l.length → listed[j]? = some true → (getP L j).p σ w
  old : ∀ t, (∀ (j : Nat) (o : Oper), l[j]? = some o → listed[j]? = some true → o.dst ≠ some t) → σ t = σ0 t
  closed : ∀ (j : Nat) (o : Oper), l[j]? = some o → listed[j]? = some true → ∀ e ∈ depsS o, listed[e]? = some true
structure EEnd (L : List (SPE R)) (l : List Oper) (σ0 σ : Env) (w : World) : Prop where
  at_ : ∀ j, decide (j < l.length) = true → (getP L j).p σ w
  old : ∀ t, freeB l t = true → σ t = σ0 t
theorem facts_E {L : List (SPE R)} {σ0 σ : Env} {w : World} : ∀ (js : List Nat) (ts : List Tmp), (∀ j ∈ js, (getP L j).p σ w) → (∀ t ∈ ts, σ t = σ0 t) → factsE L σ0 σ w js ts
  | j :: js, ts, h, k => by unfold factsE; exact ⟨h j (by simp), facts_E js ts (fun x hx => h x (by simp [hx])) k⟩
  | [], t :: ts, h, k => by unfold factsE; exact ⟨k t (by simp), facts_E [] ts h (fun x hx => k x (by simp [hx]))⟩
  | [], [], _, _ => by unfold factsE; trivial
theorem opAt_get {l : List Oper} {i : Nat} {f : Oper → Bool} {o : Oper} (h : opAt l i f = true) (ho : l[i]? = some o) : f o = true := by
  unfold opAt at h; rw [ho] at h; exact h
theorem wpAny_E {P : Program} {n : Nat} {L : List (SPE R)} {l : List Oper} {σ0 : Env} {w0 : World} {us : List (List Tmp)} {T : TabE} {Q : Exit → Env → World → Prop}
    (hB : okE n l us T = true) (hu : L.map (·.u) = us) (hrf : ∀ a, R a a) (htr : ∀ a b c, R a b → R b c → R a c)
    (hobl : oblE P L σ0 w0 (l.map (stripO l.toArray)) T 0) (hend : ∀ σ w, R w0 w → EEnd L l σ0 σ w → Q .normal σ w) :
    ∀ (fuel : Nat) (listed : Array Bool) (a : Act) (σ : Env) (w : World), Fr n a σ → InvE L l σ0 w0 listed σ w → cntT listed + fuel = l.length → wpAny P .any l.toArray (frQ n Q) fuel listed a w := by
  simp only [okE, Bool.and_eq_true, decide_eq_true_eq] at hB
  obtain ⟨⟨⟨⟨⟨⟨hB1, hB2⟩, hB3⟩, hB4⟩, hB5⟩, hB6⟩, hB7⟩ := hB
  have rg : ∀ {i : Nat} {o : Oper}, l[i]? = some o → i ∈ List.range l.length := fun h => List.mem_range.2 (List.getElem?_eq_some_iff.1 h).1
  have hlt : ∀ (i : Nat) (o : Oper), l[i]? = some o → ∀ e ∈ depsS o, e < i := by
    intro i o ho e he
    have := opAt_get (List.all_eq_true.1 hB2 i (rg ho)) ho
    simpa using List.all_eq_true.1 this e he
  have huniq : ∀ (i j : Nat) (x y : Oper) (t : Tmp), l[i]? = some x → l[j]? = some y → x.dst = some t → y.dst = some t → i = j := by
    intro i j x y t hx hy h1 h2
    have := List.all_eq_true.1 (List.all_eq_true.1 hB3 i (rg hx)) j (rg hy)
    simp only [Bool.or_eq_true, beq_iff_eq] at this
    rcases this with h | h
    · exact h
    · have := opAt_get (opAt_get h hx) hy
      simp [h1, h2] at this
  have huse : ∀ (j : Nat) (o : Oper) (t : Tmp), l[j]? = some o → t ∈ (getP L j).u → ∀ (k : Nat) (x : Oper), l[k]? = some x → x.dst = some t → k = j ∨ k ∈ depsS o := by
    intro j o t ho ht k x hx hd
    have h1 := opAt_get (List.all_eq_true.1 hB4 j (rg ho)) ho
    have e : us.getD j [] = (getP L j).u := by
      subst hu
      unfold getP
      rw [List.getD_eq_getElem?_getD, List.getD_eq_getElem?_getD, List.getElem?_map]
      cases L[j]? <;> rfl
    rw [e] at h1
    have h2 := opAt_get (List.all_eq_true.1 (List.all_eq_true.1 h1 t ht) k (rg hx)) hx
    simp only [hd, bne_self_eq_false, Bool.false_or, Bool.or_eq_true, beq_iff_eq, List.contains_iff_mem] at h2
    exact h2
  have endQ : ∀ (listed : Array Bool) (a : Act) (σ : Env) (w : World), Fr n a σ → InvE L l σ0 w0 listed σ w → Region.ready .any l.toArray listed = [] → frQ n Q .normal a w := by
    intro listed a σ w hf hi hr
    have hall := all_listed hi.size hlt hr
    refine ⟨σ, hf, hend σ w hi.reach ⟨fun j hj => hi.done j (by simpa using hj) (hall j (by simpa using hj)), fun t ht => hi.old t fun j o ho _ => ?_⟩⟩
    have := List.all_eq_true.1 ht o (List.mem_of_getElem? ho)
    simpa using this
  intro fuel
  induction fuel with
  | zero =>
    intro listed a σ w hf hi hc
    have hr : Region.ready .any l.toArray listed = [] := by
      cases hx : Region.ready .any l.toArray listed with
      | nil => rfl
      | cons i r =>
        obtain ⟨o, _, h2, _⟩ := (ready_iff l listed hi.size i).1 (by rw [hx]; simp)
        exact absurd h2 (cnt_full (by rw [hi.size]; omega) i)
    exact ⟨hr, endQ listed a σ w hf hi hr⟩
  | succ fuel ih =>
    intro listed a σ w hf hi hc
    refine ⟨endQ listed a σ w hf hi, fun i hri => ?_⟩
    obtain ⟨o, ho, hl, hd⟩ := (ready_iff l listed hi.size i).1 hri
    have hil : i < listed.size := by rw [hi.size]; exact (List.getElem?_eq_some_iff.1 ho).1
    have hT1 : ∀ j ∈ (T.getD i ([], [])).1, (getP L j).p σ w := by
      intro j hj
      have h1 := opAt_get (List.all_eq_true.1 hB5 i (rg ho)) ho
      have h2 := List.all_eq_true.1 h1 j hj
      simp only [Bool.and_eq_true, List.contains_iff_mem, decide_eq_true_eq] at h2
      exact hi.done j h2.2 (hd j h2.1)
    have hT2 : ∀ t ∈ (T.getD i ([], [])).2, σ t = σ0 t := by
      intro t ht
      have h1 := opAt_get (List.all_eq_true.1 hB6 i (rg ho)) ho
      refine hi.old t fun k x hx hk hdst => ?_
      have h2 := opAt_get (List.all_eq_true.1 (List.all_eq_true.1 h1 t ht) k (rg hx)) hx
      simp only [hdst, bne_self_eq_false, Bool.false_or, Bool.or_eq_true, beq_iff_eq, List.contains_iff_mem] at h2
      rcases h2 with rfl | hc
      · rw [hl] at hk; simp at hk
      · have := hi.closed k x hx hk i hc
        rw [hl] at this; simp at this
    have hone := oblE_get l T 0 hobl i o ho σ w hi.reach (facts_E _ _ hT1 hT2)
    rw [Nat.zero_add] at hone
    obtain ⟨h1, h2⟩ := hone
    have hdst : ∀ t, o.dst = some t → t < n := dsts_of hB1 o (List.mem_of_getElem? ho)
    have hcn : cntT (listed.setIfInBounds i true) + fuel = l.length := by rw [cnt_next hl]; omega
    have hget : ∀ j, (listed.setIfInBounds i true)[j]? = if i = j then some true else listed[j]? := by
      intro j; rw [Array.getElem?_setIfInBounds]
      by_cases e : i = j
      · rw [if_pos e, if_pos e, if_pos (by omega)]
      · rw [if_neg e, if_neg e]
    have next : ∀ (v : Value) (w' : World), (getP L i).p (putS σ o.dst v) w' → R w w' → InvE L l σ0 w0 (listed.setIfInBounds i true) (putS σ o.dst v) w' := by
      intro v w' hp hR
      refine ⟨by simp [hi.size], htr _ _ _ hi.reach hR, ?_, ?_, ?_⟩
      · intro j hj hjl
        rw [hget] at hjl
        by_cases e : i = j
        · subst e; exact hp
        · rw [if_neg e] at hjl
          obtain ⟨x, hx⟩ : ∃ x, l[j]? = some x := ⟨_, List.getElem?_eq_getElem hj⟩
          refine (getP L j).cg σ _ w' (fun t ht => ?_) ((getP L j).st σ w w' hR (hi.done j hj hjl))
          cases hod : o.dst with
          | none => rfl
          | some d =>
            simp only [putS]
            refine (upd_ne _ _ _ _ fun e' => ?_).symm
            rcases huse j x t hx ht i o ho (by rw [hod, e']) with h | h
            · exact e h
            · have := hi.closed j x hx hjl i h
              rw [hl] at this; simp at this
      · intro t ht
        have hne : putS σ o.dst v t = σ t := by
          cases hod : o.dst with
          | none => rfl
          | some u => exact upd_ne _ _ _ _ fun e' => ht i o ho (by rw [hget, if_pos rfl]) (by rw [hod, e'])
        rw [hne]
        refine hi.old t fun j x hx hj => ht j x hx ?_
        rw [hget]; split
        · rfl
        · exact hj
      · intro j x hx hj e he
        rw [hget] at hj ⊢
        split
        · rfl
        · by_cases e' : i = j
          · subst e'
            rw [ho] at hx; obtain rfl := Option.some.inj hx
            exact hd e he
          · rw [if_neg e'] at hj
            exact hi.closed j x hx hj e he
    unfold wpOp
    rw [List.getElem?_toArray, ho]
    simp only []
    rw [show Region.wanted o (yielded l.toArray a.tmps) = wantS σ (stripO l.toArray o).g by rw [want_eq l.toArray o a, hf.get]]
    split
    · rename_i hw
      refine .inl ?_
      have h1 := h1 hw
      unfold Oper.wp
      rw [show execOp a.eval o = execOp (evalS σ) (stripO l.toArray o).o by rw [hf.eval]; rfl]
      generalize (execOp (evalS σ) (stripO l.toArray o).o).run P w = r at *
      cases r with
      | ok nx w' =>
        cases nx <;> simp only [stepS] at h1 <;> simp only [Oper.upon]
        · exact ih _ _ _ _ (hf.put _ _ hdst) (next _ _ h1.1 h1.2) hcn
        · exact ih _ _ _ _ (hf.put _ _ hdst) (next _ _ h1.1 h1.2) hcn
        · exact h1.mono fun e w'' => by
            rintro ⟨v, rfl, h⟩
            exact ih _ _ _ _ (hf.put _ _ hdst) (next _ _ h.1 h.2) hcn
      | halt x w' => simp only [stepS] at h1
    · rename_i hw
      exact ih _ _ _ _ (hf.put _ _ hdst) (next _ _ (h2 (by simpa using hw)) (hrf w)) hcn
/-- THE RULE. -/
theorem wE_drawE {P : Program} {n : Nat} {Q : Exit → Env → World → Prop} {σ : Env} {w : World} {id : Nat} {l : List Oper} (L : List (SPE R)) (us : List (List Tmp)) (T : TabE)
    (hm : P.follows .mixedOrders = true) (hB : okE n l us T = true) (hu : L.map (·.u) = us) (hrf : ∀ a, R a a) (htr : ∀ a b c, R a b → R b c → R a c)
    (hobl : oblE P L σ w.drew (l.map (stripO l.toArray)) T 0) (hend : ∀ σ' w', R w.drew w' → EEnd L l σ σ' w' → Q .normal σ' w') : wE P n (.region id l.toArray true) Q σ w := by
  intro a ha
  refine wp_region_any hm ?_
  refine wpAny_E hB hu hrf htr hobl hend _ _ a σ _ ha ⟨by simp, hrf _, ?_, fun _ _ => rfl, ?_⟩ ?_
  · intro j _ h; simp [Array.getElem?_replicate] at h
  · intro j o _ h; simp [Array.getElem?_replicate] at h
  · simp [cntT, List.count_replicate]
theorem oneE_plain {P : Program} {L : List (SPE R)} {σ0 : Env} {w0 : World} {d : Option Tmp} {op : Op} {ty : TypeId} {p : String} {af : Array Edge} {gd : Option (Nat × Bool)} {ts : List Nat × List Tmp} {i : SPE R} (h : ∀ σ w, R w0 w → factsE L σ0 σ w ts.1 ts.2 → stepS P (fun v w' => i.p (putS σ d v) w' ∧ R w w') ((execOp (evalS σ) ⟨d, op, ty, p, af, gd⟩).run P w)) : oneE P L σ0 w0 ⟨⟨d, op, ty, p, af, gd⟩, none⟩ ts i :=
  fun σ w hR hf => ⟨fun _ => h σ w hR hf, fun h => by simp [wantS] at h⟩
end
/-- Worlds grow; a block from base on may turn from Z to V, once. -/
structure GrowZ (base : Nat) (Z V : Obj) (w w' : World) : Prop where
  os : w'.os = w.os
  tape : w'.tape = w.tape
  output : w'.output = w.output
  size : w.heap.size ≤ w'.heap.size
  block : ∀ k, k < w.heap.size → w'.heap[k]? = w.heap[k]? ∨ (base ≤ k ∧ w.heap[k]? = some Z ∧ w'.heap[k]? = some V)
theorem GrowZ.refl {base : Nat} {Z V : Obj} (w : World) : GrowZ base Z V w w := ⟨rfl, rfl, rfl, Nat.le_refl _, fun _ _ => .inl rfl⟩
theorem GrowZ.trans {base : Nat} {Z V : Obj} {a b c : World} (h : GrowZ base Z V a b) (k : GrowZ base Z V b c) : GrowZ base Z V a c := by
  refine ⟨k.os.trans h.os, k.tape.trans h.tape, k.output.trans h.output, Nat.le_trans h.size k.size, fun i hi => ?_⟩
  rcases h.block i hi with e | ⟨e1, e2, e3⟩ <;> rcases k.block i (Nat.lt_of_lt_of_le hi h.size) with f | ⟨f1, f2, f3⟩
  · exact .inl (f.trans e)
  · exact .inr ⟨f1, e.symm.trans f2, f3⟩
  · exact .inr ⟨e1, e2, f.trans e3⟩
  · exact .inr ⟨e1, e2, f3⟩
theorem GrowZ.grow {base : Nat} {Z V : Obj} {w w' : World} (h : Grow w w') : GrowZ base Z V w w' := ⟨h.os, h.tape, h.output, h.size, fun k hk => .inl (h.block k hk)⟩
theorem GrowZ.below {base : Nat} {Z V : Obj} {w w' : World} (h : GrowZ base Z V w w') (hb : base ≤ w.heap.size) : Below base w w' :=
  ⟨h.os, h.tape, h.output, h.size, fun k hk => by rcases h.block k (by omega) with e | ⟨e, _⟩; exact e; omega⟩
/-- A block that is not Z stays. -/
theorem GrowZ.keep {base : Nat} {Z V : Obj} {w w' : World} (h : GrowZ base Z V w w') {k : Nat} {o : Obj} (hk : w.heap[k]? = some o) (hne : o ≠ Z ∨ o = V) : w'.heap[k]? = some o := by
  rcases h.block k (Array.getElem?_eq_some_iff.1 hk).1 with e | ⟨_, e2, e3⟩
  · rw [e]; exact hk
  · rw [hk] at e2
    rcases hne with h | h
    · exact absurd (Option.some.inj e2) h
    · rw [e3, h]
/-- The pointer of an own block, which holds Z or V. -/
def OwnZ (base : Nat) (Z V : Obj) (v : Value) (w : World) : Prop := ∃ p, v = .pointer (some ⟨p, 0, none⟩) ∧ base ≤ p ∧ (w.heap[p]? = some Z ∨ w.heap[p]? = some V)
theorem OwnZ.st {base : Nat} {Z V : Obj} : ∀ (v : Value) (w w' : World), GrowZ base Z V w w' → OwnZ base Z V v w → OwnZ base Z V v w' := by
  rintro v w w' h ⟨p, rfl, hb, hp⟩
  refine ⟨p, rfl, hb, ?_⟩
  rcases hp with hp | hp
  · rcases h.block p (Array.getElem?_eq_some_iff.1 hp).1 with e | ⟨_, _, e3⟩
    · exact .inl (by rw [e]; exact hp)
    · exact .inr e3
  · exact .inr (h.keep hp (.inr rfl))
/-- The own block, which holds V. -/
def FullZ (base : Nat) (V : Obj) (v : Value) (w : World) : Prop := ∃ p, v = .pointer (some ⟨p, 0, none⟩) ∧ base ≤ p ∧ w.heap[p]? = some V
theorem FullZ.st {base : Nat} {Z V : Obj} : ∀ (v : Value) (w w' : World), GrowZ base Z V w w' → FullZ base V v w → FullZ base V v w' := by
  rintro v w w' h ⟨p, rfl, hb, hp⟩
  exact ⟨p, rfl, hb, h.keep hp (.inr rfl)⟩
/-- The whole of an own block is written. -/
theorem store_full {P : Program} {base : Nat} {T : TypeId} {Zc Vc : Array Value} {v : Value} {w : World} (h : OwnZ base (.cells Zc T (0, 0)) (.cells Vc T (0, 0)) v w) (hi : (P.info? T).map (·.size) = some Vc.size) (hs : Zc.size = Vc.size) (h1 : Vc.all (·.oneCell') = true) :
    ∃ p, v = .pointer (some ⟨p, 0, none⟩) ∧ (storeVar T ⟨p, 0, none⟩ (.agg Vc)).run P w = .ok () (w.setRow p Vc) ∧ FullZ base (.cells Vc T (0, 0)) v (w.setRow p Vc) ∧ GrowZ base (.cells Zc T (0, 0)) (.cells Vc T (0, 0)) w (w.setRow p Vc) := by
  obtain ⟨p, rfl, hb, hp⟩ := h
  obtain ⟨old, hold, hosz⟩ : ∃ old, w.heap[p]? = some (.cells old T (0, 0)) ∧ old.size = Vc.size := by
    rcases hp with hp | hp
    · exact ⟨_, hp, hs⟩
    · exact ⟨_, hp, rfl⟩
  have hlt := (Array.getElem?_eq_some_iff.1 hold).1
  have hset : (w.setRow p Vc).heap[p]? = some (.cells Vc T (0, 0)) := setRow_heap w p old Vc T (0, 0) hold
  have hoth : ∀ k, k ≠ p → (w.setRow p Vc).heap[k]? = w.heap[k]? := by
    intro k hk
    unfold World.setRow
    rw [Array.getElem?_modify, if_neg (Ne.symm hk)]
  refine ⟨p, rfl, run_storeVar_row w p T T old Vc hold hi hosz h1, ⟨p, rfl, hb, hset⟩, ⟨?_, ?_, ?_, ?_, fun k hk => ?_⟩⟩
  · simp [World.setRow]
  · simp [World.setRow]
  · simp [World.setRow]
  · simp [World.setRow]
  · by_cases e : k = p
    · subst e
      rcases hp with hp | hp
      · exact .inr ⟨hb, hp, hset⟩
      · exact .inl (by rw [hset, hp])
    · exact .inl (hoth k e)
theorem OwnZ.new {base : Nat} {Zc : Array Value} {T : TypeId} {V : Obj} {w : World} (hb : base ≤ w.heap.size) : OwnZ base (.cells Zc T (0, 0)) V (.pointer (some ⟨w.heap.size, 0, none⟩)) (w.alloc (.cells Zc T)) :=
  ⟨_, rfl, hb, .inl (heap_alloc_new w _)⟩
theorem step_store_full {P : Program} {base : Nat} {T : TypeId} {Zc Vc : Array Value} {σ : Env} {x y : Operand} {ty : TypeId} {ps : String} {af : Array Edge} {gd : Option (Nat × Bool)} {w : World} {K : Value → World → Prop}
    (h : OwnZ base (.cells Zc T (0, 0)) (.cells Vc T (0, 0)) (evalS σ x) w) (hy : evalS σ y = .agg Vc) (hi : (P.info? T).map (·.size) = some Vc.size) (hs : Zc.size = Vc.size) (h1 : Vc.all (·.oneCell') = true)
    (hK : ∀ w', FullZ base (.cells Vc T (0, 0)) (evalS σ x) w' → GrowZ base (.cells Zc T (0, 0)) (.cells Vc T (0, 0)) w w' → K undef w') :
    stepS P K ((execOp (evalS σ) ⟨none, .store T x y, ty, ps, af, gd⟩).run P w) := by
  obtain ⟨p, hp, hrun, hf, hg⟩ := store_full h hi hs h1
  simp only [execOp, hp, hy, Instr.storeAt, Instr.sureAddr, Sem.run_bind, Sem.run_pure, Result.andThen_ok, hrun, stepS]
  exact hK _ hf hg
end Go.Proofs.YtnnppmcbgfadpaaGreatDoor
