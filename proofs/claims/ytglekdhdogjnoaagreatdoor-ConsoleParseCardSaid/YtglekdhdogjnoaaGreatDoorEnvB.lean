/- A rule for regions that draw whose effects stand in a chain: exact values and worlds. -/
import Derived.Test.YtglekdhdogjnoaaGreatDoorEnv
namespace Go.Proofs.YtglekdhdogjnoaaGreatDoor
open Go.RowKit
/-! ### A region that draws, its effects in a chain: exact values, exact worlds -/
/-- In the k-th world operation s yields V: the world stays (an operation that is no effect), or goes on by one (an effect). -/
def exactU (V : Value) (w' : World) : Result Next → Prop
  | .ok (.value v) w'' => v = V ∧ w'' = w'
  | .ok .skip w'' => undef = V ∧ w'' = w'
  | _ => False
theorem exactU_value (V v : Value) (w' w'' : World) : exactU V w' (.ok (.value v) w'') = (v = V ∧ w'' = w') := rfl
theorem exactU_skip (V : Value) (w' w'' : World) : exactU V w' (.ok .skip w'') = (undef = V ∧ w'' = w') := rfl
def factsV (Vs : List Value) (σ0 σ : Env) : List (Tmp × Option Nat) → Prop
  | [] => True
  | (t, some j) :: ts => σ t = Vs.getD j undef ∧ factsV Vs σ0 σ ts
  | (t, none) :: ts => σ t = σ0 t ∧ factsV Vs σ0 σ ts
/-- All worlds of the list, and for each what an operation that is no effect must do. -/
def quietAll (P : Program) (σ : Env) (o : Oper) (V : Value) : List World → Prop
  | [] => True
  | x :: xs => exactU V x ((execOp (evalS σ) o).run P x) ∧ quietAll P σ o V xs
theorem quietAll_get {P : Program} {σ : Env} {o : Oper} {V : Value} : ∀ (Xs : List World) (k : Nat) (x : World), Xs[k]? = some x → quietAll P σ o V Xs → exactU V x ((execOp (evalS σ) o).run P x)
  | [], k, x, h, _ => by simp at h
  | y :: Xs, 0, x, h, hq => by simp at h; subst h; exact hq.1
  | y :: Xs, k + 1, x, h, hq => quietAll_get Xs k x (by simpa using h) hq.2
def oneV (P : Program) (Vs : List Value) (Xs : List World) (E : List Nat) (σ0 : Env) (s : SOp) (ts : List (Tmp × Option Nat)) (i : Nat) : Prop :=
  ∀ σ, factsV Vs σ0 σ ts → s.g = none ∧
    match E.idxOf? i with
    | none => quietAll P σ s.o (Vs.getD i undef) Xs
    | some k => ∃ x y, Xs[k]? = some x ∧ Xs[k + 1]? = some y ∧ exactU (Vs.getD i undef) y ((execOp (evalS σ) s.o).run P x)
def oblV (P : Program) (Vs : List Value) (Xs : List World) (E : List Nat) (σ0 : Env) : List SOp → Tab → Nat → Prop
  | s :: rest, ts :: tab, i => oneV P Vs Xs E σ0 s ts i ∧ oblV P Vs Xs E σ0 rest tab (i + 1)
  | _, _, _ => True
/-- The effects stand in a chain. -/
def chainB (l : List Oper) : List Nat → Bool
  | a :: b :: r => (match l[b]? with | some o => (depsS o).contains a | none => false) && chainB l (b :: r)
  | _ => true
theorem chain_get {l : List Oper} : ∀ (E : List Nat) (k a b : Nat), chainB l E = true → E[k]? = some a → E[k + 1]? = some b → ∃ o, l[b]? = some o ∧ a ∈ depsS o
  | [], k, a, b, _, h, _ => by simp at h
  | [x], 0, a, b, _, _, h => by simp at h
  | [x], k + 1, a, b, _, h, _ => by simp at h
  | x :: y :: r, 0, a, b, hc, h1, h2 => by
    simp at h1 h2; subst h1 h2
    simp only [chainB, Bool.and_eq_true] at hc
    cases ho : l[y]? with
    | none => rw [ho] at hc; simp at hc
    | some o => rw [ho] at hc; exact ⟨o, rfl, by simpa using hc.1⟩
  | x :: y :: r, k + 1, a, b, hc, h1, h2 => by
    simp only [chainB, Bool.and_eq_true] at hc
    exact chain_get (y :: r) k a b hc.2 (by simpa using h1) (by simpa using h2)
theorem oblV_get {P : Program} {Vs : List Value} {Xs : List World} {E : List Nat} {l : List Oper} {σ0 : Env} : ∀ (m : List Oper) (k : Nat), oblV P Vs Xs E σ0 (m.map (stripO l.toArray)) (m.map fun o => (looksS l o).map fun t => (t, srcS l o t)) k →
    ∀ i o, m[i]? = some o → oneV P Vs Xs E σ0 (stripO l.toArray o) ((looksS l o).map fun t => (t, srcS l o t)) (k + i)
  | [], _, _, i, o, h => by simp at h
  | x :: m, k, h, 0, o, ho => by simp at ho; subst ho; exact h.1
  | x :: m, k, h, i + 1, o, ho => by
    have := oblV_get m (k + 1) h.2 i o (by simpa using ho)
    rw [show k + (i + 1) = k + 1 + i by omega]; exact this
theorem facts_V {Vs : List Value} {l : List Oper} {σ0 σ : Env} {w : World} {o : Oper} : ∀ (ts : List Tmp), factsS (fun j v _ => v = Vs.getD j undef) l σ0 σ w o ts → factsV Vs σ0 σ (ts.map fun t => (t, srcS l o t))
  | [], _ => trivial
  | t :: ts, h => by
    obtain ⟨h1, h2⟩ := h
    simp only [List.map_cons]
    cases hs : srcS l o t with
    | none => rw [hs] at h1; exact ⟨h1, facts_V ts h2⟩
    | some j => rw [hs] at h1; exact ⟨h1, facts_V ts h2⟩
/-- The first k effects are listed, no other. -/
def effs (E : List Nat) (k : Nat) (listed : Array Bool) : Prop := ∀ t e, E[t]? = some e → (listed[e]? = some true ↔ t < k)
theorem wpAny_exact {P : Program} {n : Nat} {Vs : List Value} {Xs : List World} {E : List Nat} {l : List Oper} {σ0 : Env} {Q : Exit → Env → World → Prop}
    (hB : stabB n l = true) (hE : chainB l E = true) (hnd : E.Nodup) (hlt : ∀ e ∈ E, e < l.length)
    (hobl : oblV P Vs Xs E σ0 (l.map (stripO l.toArray)) (tabOf l) 0)
    (hend : ∀ σ w, Xs[E.length]? = some w → StEnd (fun j v _ => v = Vs.getD j undef) l σ0 σ w → Q .normal σ w) :
    ∀ (fuel : Nat) (listed : Array Bool) (a : Act) (σ : Env) (w w0 : World) (k : Nat), Fr n a σ → StInv n (fun j v _ => v = Vs.getD j undef) (fun _ _ => True) l σ0 w0 listed σ w → k ≤ E.length → Xs[k]? = some w → effs E k listed → cntT listed + fuel = l.length → wpAny P .any l.toArray (frQ n Q) fuel listed a w := by
  simp only [stabB, Bool.and_eq_true] at hB
  obtain ⟨⟨hB1, hB2⟩, hB3⟩ := hB
  have hok : ∀ (i : Nat) (o : Oper), l[i]? = some o → okOp l i o = true := by
    intro i o ho
    have := List.all_eq_true.1 hB2 i (List.mem_range.2 (List.getElem?_eq_some_iff.1 ho).1)
    rw [ho] at this; exact this
  have hdl : ∀ (i : Nat) (o : Oper), l[i]? = some o → ∀ e ∈ depsS o, e < i := by
    intro i o ho e he
    have := hok i o ho
    simp only [okOp, Bool.and_eq_true] at this
    simpa using List.all_eq_true.1 this.1 e he
  have huniq : ∀ (i j : Nat) (x y : Oper) (t : Tmp), l[i]? = some x → l[j]? = some y → x.dst = some t → y.dst = some t → i = j := by
    intro i j x y t hx hy h1 h2
    have := List.all_eq_true.1 (List.all_eq_true.1 hB3 i (List.mem_range.2 (List.getElem?_eq_some_iff.1 hx).1)) j (List.mem_range.2 (List.getElem?_eq_some_iff.1 hy).1)
    rw [hx, hy] at this
    simpa [h1, h2] using this
  have endQ : ∀ (listed : Array Bool) (a : Act) (σ : Env) (w w0 : World) (k : Nat), Fr n a σ → StInv n (fun j v _ => v = Vs.getD j undef) (fun _ _ => True) l σ0 w0 listed σ w → k ≤ E.length → Xs[k]? = some w → effs E k listed → Region.ready .any l.toArray listed = [] → frQ n Q .normal a w := by
    intro listed a σ w w0 k hf hi hk hx he hr
    have hall := all_listed hi.size hdl hr
    have hkE : k = E.length := by
      rcases Nat.lt_or_ge k E.length with h | h
      · have := (he k E[k] (List.getElem?_eq_getElem h)).1 (hall _ (hlt _ (List.getElem_mem h)))
        omega
      · omega
    subst hkE
    exact ⟨σ, hf, hend σ w hx ⟨fun j o t ho hd => hi.done j o t ho (hall j (List.getElem?_eq_some_iff.1 ho).1) hd, fun t ht => hi.old t fun j o ho _ => ht o (List.mem_of_getElem? ho)⟩⟩
  intro fuel
  induction fuel with
  | zero =>
    intro listed a σ w w0 k hf hi hk hx he hc
    have hr : Region.ready .any l.toArray listed = [] := by
      cases hx : Region.ready .any l.toArray listed with
      | nil => rfl
      | cons i r =>
        obtain ⟨o, _, h2, _⟩ := (ready_iff l listed hi.size i).1 (by rw [hx]; simp)
        exact absurd h2 (cnt_full (by rw [hi.size]; omega) i)
    exact ⟨hr, endQ listed a σ w w0 k hf hi hk hx he hr⟩
  | succ fuel ih =>
    intro listed a σ w w0 k hf hi hk hx he hc
    refine ⟨endQ listed a σ w w0 k hf hi hk hx he, fun i hri => ?_⟩
    obtain ⟨o, ho, hl, hd⟩ := (ready_iff l listed hi.size i).1 hri
    have hfacts := facts_V _ (facts_of hi ho hl hd (looksS l o) (by have := hok i o ho; simp only [okOp, Bool.and_eq_true] at this; exact this.2))
    have h1 := oblV_get l 0 hobl i o ho σ hfacts
    rw [Nat.zero_add] at h1
    obtain ⟨hg, h1⟩ := h1
    have hdst : ∀ t, o.dst = some t → t < n := dsts_of hB1 o (List.mem_of_getElem? ho)
    have hcn : cntT (listed.setIfInBounds i true) + fuel = l.length := by rw [cnt_next hl]; omega
    have hil : i < listed.size := by rw [hi.size]; exact (List.getElem?_eq_some_iff.1 ho).1
    have hget : ∀ j, (listed.setIfInBounds i true)[j]? = if i = j then some true else listed[j]? := by
      intro j; rw [Array.getElem?_setIfInBounds]
      by_cases e : i = j
      · rw [if_pos e, if_pos e, if_pos (by omega)]
      · rw [if_neg e, if_neg e]
    unfold wpOp
    rw [List.getElem?_toArray, ho]
    simp only []
    rw [show Region.wanted o (yielded l.toArray a.tmps) = wantS σ (stripO l.toArray o).g by rw [want_eq l.toArray o a, hf.get], hg]
    rw [if_pos (show wantS σ none = true from rfl)]
    refine .inl ?_
    unfold Oper.wp
    rw [show execOp a.eval o = execOp (evalS σ) (stripO l.toArray o).o by rw [hf.eval]; rfl]
    have go : ∀ (v : Value) (w' : World) (k' : Nat), v = Vs.getD i undef → k' ≤ E.length → Xs[k']? = some w' → effs E k' (listed.setIfInBounds i true) → wpAny P .any l.toArray (frQ n Q) fuel (listed.setIfInBounds i true) (a.put o.dst v) w' :=
      fun v w' k' hv hk' hx' he' => ih _ _ _ w' w0 k' (hf.put _ _ hdst) (hi.next (fun _ _ _ _ _ h => h) (fun _ _ _ _ _ => trivial) huniq ho hd hv trivial) hk' hx' he' hcn
    cases hE' : E.idxOf? i with
    | none =>
      rw [hE'] at h1
      have hni : i ∉ E := by rw [List.idxOf?_eq_none_iff] at hE'; exact hE'
      have h2 := quietAll_get Xs k w hx h1
      have he' : effs E k (listed.setIfInBounds i true) := by
        intro t e hte
        rw [hget, if_neg (fun h => hni (by rw [h]; exact List.mem_of_getElem? hte))]
        exact he t e hte
      generalize (execOp (evalS σ) (stripO l.toArray o).o).run P w = r at *
      cases r with
      | ok nx w' =>
        cases nx <;> simp only [exactU] at h2 <;> simp only [Oper.upon]
        · obtain ⟨hv, rfl⟩ := h2; exact go _ _ k hv hk hx he'
        · obtain ⟨hv, rfl⟩ := h2; exact go _ _ k hv hk hx he'
      | halt x w' => simp only [exactU] at h2
    | some t =>
      rw [hE'] at h1
      obtain ⟨x, y, hxt, hyt, h2⟩ := h1
      have hti : E[t]? = some i := by
        have := List.idxOf?_eq_some_iff.1 hE'
        obtain ⟨h, h', _⟩ := this
        rw [List.getElem?_eq_getElem h]; simpa using h'
      have htk : t = k := by
        have h3 : ¬ t < k := fun h => by have := (he t i hti).2 h; rw [hl] at this; simp at this
        rcases Nat.lt_or_ge k t with h | h
        · exfalso
          have htpos : t = (t - 1) + 1 := by omega
          have hlt' : t - 1 < E.length := by have := (List.getElem?_eq_some_iff.1 hti).1; omega
          obtain ⟨o', ho', hm⟩ := chain_get E (t - 1) E[t - 1] i hE (List.getElem?_eq_getElem hlt') (by rw [← htpos]; exact hti)
          rw [ho] at ho'; obtain rfl := Option.some.inj ho'
          have := (he (t - 1) _ (List.getElem?_eq_getElem hlt')).1 (hd _ hm)
          omega
        · omega
      subst htk
      rw [hx] at hxt; obtain rfl := Option.some.inj hxt
      have he' : effs E (t + 1) (listed.setIfInBounds i true) := by
        intro t' e hte
        rw [hget]
        by_cases e' : i = e
        · subst e'
          rw [if_pos rfl]
          have : t' = t := by
            have a1 := (List.getElem?_eq_some_iff.1 hte); have a2 := (List.getElem?_eq_some_iff.1 hti)
            obtain ⟨b1, b2⟩ := a1; obtain ⟨d1, d2⟩ := a2
            rcases Nat.lt_trichotomy t' t with h | h | h
            · exact absurd (b2.trans d2.symm) (List.pairwise_iff_getElem.1 hnd t' t b1 d1 h)
            · exact h
            · exact absurd (d2.trans b2.symm) (List.pairwise_iff_getElem.1 hnd t t' d1 b1 h)
          constructor
          · intro _; omega
          · intro _; rfl
        · rw [if_neg e', he t' e hte]
          constructor
          · intro h; omega
          · intro h
            rcases Nat.lt_or_ge t' t with h' | h'
            · exact h'
            · have : t' = t := by omega
              subst this
              rw [hti] at hte; exact absurd (Option.some.inj hte) e'
      have hkE : t + 1 ≤ E.length := by have := (List.getElem?_eq_some_iff.1 hti).1; omega
      generalize (execOp (evalS σ) (stripO l.toArray o).o).run P w = r at *
      cases r with
      | ok nx w' =>
        cases nx <;> simp only [exactU] at h2 <;> simp only [Oper.upon]
        · obtain ⟨hv, rfl⟩ := h2; exact go _ _ (t + 1) hv hkE hyt he'
        · obtain ⟨hv, rfl⟩ := h2; exact go _ _ (t + 1) hv hkE hyt he'
      | halt x w' => simp only [exactU] at h2
theorem wE_exact {P : Program} {n : Nat} {Q : Exit → Env → World → Prop} {σ : Env} {w : World} {id : Nat} {l : List Oper} (Vs : List Value) (Xs : List World) (E : List Nat) (tab : Tab)
    (hm : P.follows .mixedOrders = true) (hB : (stabB n l && chainB l E && decide E.Nodup && E.all (· < l.length)) = true) (hT : tabOf l = tab) (hX0 : Xs[0]? = some w.drew)
    (hobl : oblV P Vs Xs E σ (l.map (stripO l.toArray)) tab 0) (hend : ∀ σ' w', Xs[E.length]? = some w' → TEnd (Vs.map SP.val) l σ σ' w' → Q .normal σ' w') : wE P n (.region id l.toArray true) Q σ w := by
  subst hT
  simp only [Bool.and_eq_true, decide_eq_true_eq, List.all_eq_true] at hB
  obtain ⟨⟨⟨h1, h2⟩, h3⟩, h4⟩ := hB
  intro a ha
  refine wp_region_any hm ?_
  refine wpAny_exact h1 h2 h3 h4 hobl ?_ _ _ a σ _ w.drew 0 ha ⟨by simp, trivial, ?_, fun _ _ => rfl, ?_⟩ (by omega) hX0 ?_ ?_
  · rintro σ' w' hw ⟨e1, e2⟩
    refine hend σ' w' hw ⟨fun j t ht => ?_, fun t ht => e2 t fun o ho => ?_⟩
    · cases hx : l[j]? with
      | none => rw [hx] at ht; simp at ht
      | some o =>
        rw [hx] at ht
        have this : σ' t = Vs.getD j undef := e1 j o t hx ht
        rw [List.getD_eq_getElem?_getD, List.getElem?_map]
        rw [List.getD_eq_getElem?_getD] at this
        cases hv : Vs[j]? with
        | none => trivial
        | some V => rw [hv] at this; exact this
    · have := List.all_eq_true.1 ht o ho
      simpa using this
  · intro j o t _ h; simp [Array.getElem?_replicate] at h
  · intro j o _ h; simp [Array.getElem?_replicate] at h
  · intro t e _
    constructor
    · intro h; simp [Array.getElem?_replicate] at h
    · omega
  · simp [cntT, List.count_replicate]
end Go.Proofs.YtglekdhdogjnoaaGreatDoor
