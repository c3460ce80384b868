/- A rule for regions that draw whose effects stand in a chain: what is known of the world behind each effect, and of the slots. -/
import Derived.Test.YtglekdhdogjnoaaGreatDoorEnvB
import Derived.Test.YtglekdhdogjnoaaGreatDoorEnvC
namespace Go.Proofs.YtglekdhdogjnoaaGreatDoor
open Go.RowKit
/-- A predicate of some slots. -/
structure VP where
  u : List Tmp
  p : Env → Prop
  cg : ∀ σ σ', (∀ t ∈ u, σ t = σ' t) → p σ → p σ'
def VP.any : VP := ⟨[], fun _ => True, fun _ _ _ _ => trivial⟩
def VP.val (t : Tmp) (V : Value) : VP := ⟨[t], fun σ => σ t = V, fun _ _ h e => by rw [← h t (by simp)]; exact e⟩
def VP.of (t : Tmp) (q : Value → Prop) : VP := ⟨[t], fun σ => q (σ t), fun _ _ h e => by rw [← h t (by simp)]; exact e⟩
theorem VP.any_p (σ : Env) : VP.any.p σ = True := rfl
theorem VP.val_p (t : Tmp) (V : Value) (σ : Env) : (VP.val t V).p σ = (σ t = V) := rfl
theorem VP.of_p (t : Tmp) (q : Value → Prop) (σ : Env) : (VP.of t q).p σ = q (σ t) := rfl
/-- A predicate of the world and the slots. -/
structure WP where
  p : Env → World → Prop
def WP.no : WP := ⟨fun _ _ => True⟩
def WP.of (q : World → Prop) : WP := ⟨fun _ w => q w⟩
def WP.at (t : Tmp) (q : Value → World → Prop) : WP := ⟨fun σ w => q (σ t) w⟩
theorem WP.of_p (q : World → Prop) (σ : Env) (w : World) : (WP.of q).p σ w = q w := rfl
theorem WP.at_p (t : Tmp) (q : Value → World → Prop) (σ : Env) (w : World) : (WP.at t q).p σ w = q (σ t) w := rfl
def getV (L : List VP) (j : Nat) : VP := L.getD j VP.any
theorem getV_zero (x : VP) (L : List VP) : getV (x :: L) 0 = x := rfl
theorem getV_succ (x : VP) (L : List VP) (j : Nat) : getV (x :: L) (j + 1) = getV L j := rfl
def getW (L : List WP) (j : Nat) : WP := L.getD j WP.no
theorem getW_zero (x : WP) (L : List WP) : getW (x :: L) 0 = x := rfl
theorem getW_succ (x : WP) (L : List WP) (j : Nat) : getW (x :: L) (j + 1) = getW L j := rfl
/-- For each operation: the operations whose predicates it uses; the slots that are as they were; the effects that are done before it (at least, at most). -/
abbrev TabC := List (List Nat × List Tmp × Nat × Nat)
def okC (n : Nat) (l : List Oper) (E : List Nat) (us : List (List Tmp)) (T : TabC) : Bool :=
  dstsB n l &&
  ((List.range l.length).all fun i => opAt l i fun o => (depsS o).all (· < i)) &&
  ((List.range l.length).all fun i => (List.range l.length).all fun j => i == j || opAt l i fun x => opAt l j fun y => (match x.dst with | some t => y.dst != some t | none => true)) &&
  ((List.range l.length).all fun j => opAt l j fun o => (us.getD j []).all fun t => (List.range l.length).all fun k => opAt l k fun x => x.dst != some t || k == j || (depsS o).contains k) &&
  ((List.range l.length).all fun i => opAt l i fun o => (T.getD i ([], [], 0, 0)).1.all fun j => (depsS o).contains j && decide (j < l.length)) &&
  ((List.range l.length).all fun i => opAt l i fun _ => (T.getD i ([], [], 0, 0)).2.1.all fun t => (List.range l.length).all fun k => opAt l k fun x => x.dst != some t || k == i || (depsS x).contains i) &&
  ((List.range l.length).all fun i => opAt l i fun o => match (T.getD i ([], [], 0, 0)).2.2.1 with | 0 => true | m + 1 => (match E[m]? with | some e => (depsS o).contains e | none => false)) &&
  ((List.range l.length).all fun i => match E[(T.getD i ([], [], 0, 0)).2.2.2]? with | none => decide (E.length ≤ (T.getD i ([], [], 0, 0)).2.2.2) | some e => i == e || opAt l e fun o => (depsS o).contains i) &&
  chainB l E && decide E.Nodup && E.all (· < l.length)
def factsC (L : List VP) (σ0 σ : Env) : List Nat → List Tmp → Prop
  | j :: js, ts => (getV L j).p σ ∧ factsC L σ0 σ js ts
  | [], t :: ts => σ t = σ0 t ∧ factsC L σ0 σ [] ts
  | [], [] => True
/-- An operation that is no effect, where k effects are done. -/
def quietC (P : Program) (σ : Env) (s : SOp) (i : VP) (W : WP) (w : World) : Prop :=
  (wantS σ s.g = true → stepS P (fun v w' => i.p (putS σ s.o.dst v) ∧ W.p (putS σ s.o.dst v) w') ((execOp (evalS σ) s.o).run P w)) ∧ (wantS σ s.g = false → i.p (putS σ s.o.dst undef) ∧ W.p (putS σ s.o.dst undef) w)
def manyC (P : Program) (L : List VP) (Ws : List WP) (σ0 : Env) (s : SOp) (ts : List Nat × List Tmp × Nat × Nat) (i : VP) : List Nat → Prop
  | k :: ks => (∀ σ w, (getW Ws k).p σ w → factsC L σ0 σ ts.1 ts.2.1 → quietC P σ s i (getW Ws k) w) ∧ manyC P L Ws σ0 s ts i ks
  | [] => True
def oneC (P : Program) (L : List VP) (Ws : List WP) (E : List Nat) (σ0 : Env) (s : SOp) (ts : List Nat × List Tmp × Nat × Nat) (j : Nat) : Prop :=
  match E.idxOf? j with
  | some k => ∀ σ w, (getW Ws k).p σ w → factsC L σ0 σ ts.1 ts.2.1 → quietC P σ s (getV L j) (getW Ws (k + 1)) w
  | none => manyC P L Ws σ0 s ts (getV L j) (List.range' ts.2.2.1 (ts.2.2.2 + 1 - ts.2.2.1))
def oblC (P : Program) (L : List VP) (Ws : List WP) (E : List Nat) (σ0 : Env) : List SOp → TabC → Nat → Prop
  | s :: rest, ts :: tab, i => oneC P L Ws E σ0 s ts i ∧ oblC P L Ws E σ0 rest tab (i + 1)
  | _ :: _, [], _ => False
  | [], _, _ => True
theorem oblC_get {P : Program} {L : List VP} {Ws : List WP} {E : List Nat} {σ0 : Env} {l : List Oper} : ∀ (m : List Oper) (T : TabC) (k : Nat), oblC P L Ws E σ0 (m.map (stripO l.toArray)) T k → ∀ i o, m[i]? = some o → oneC P L Ws E σ0 (stripO l.toArray o) (T.getD i ([], [], 0, 0)) (k + i)
  | [], _, _, _, i, o, h => by simp at h
  | x :: m, [], k, h, i, o, ho => by exact h.elim
  | x :: m, t :: T, k, h, 0, o, ho => by simp at ho; subst ho; exact h.1
  | x :: m, t :: T, k, h, i + 1, o, ho => by
    have := oblC_get m T (k + 1) h.2 i o (by simpa using ho)
    rw [show k + (i + 1) = k + 1 + i by omega]; exact this
theorem manyC_get {P : Program} {L : List VP} {Ws : List WP} {σ0 : Env} {s : SOp} {ts : List Nat × List Tmp × Nat × Nat} {i : VP} : ∀ (ks : List Nat), manyC P L Ws σ0 s ts i ks → ∀ k ∈ ks, ∀ σ w, (getW Ws k).p σ w → factsC L σ0 σ ts.1 ts.2.1 → quietC P σ s i (getW Ws k) w
  | [], _, k, hk => by simp at hk
  | x :: ks, h, k, hk => by
    rcases List.mem_cons.1 hk with rfl | hk
    · exact h.1
    · exact manyC_get ks h.2 k hk
theorem facts_C {L : List VP} {σ0 σ : Env} : ∀ (js : List Nat) (ts : List Tmp), (∀ j ∈ js, (getV L j).p σ) → (∀ t ∈ ts, σ t = σ0 t) → factsC L σ0 σ js ts
  | j :: js, ts, h, k => by unfold factsC; exact ⟨h j (by simp), facts_C js ts (fun x hx => h x (by simp [hx])) k⟩
  | [], t :: ts, h, k => by unfold factsC; exact ⟨k t (by simp), facts_C [] ts h (fun x hx => k x (by simp [hx]))⟩
  | [], [], _, _ => by unfold factsC; trivial
structure InvC (L : List VP) (Ws : List WP) (E : List Nat) (l : List Oper) (σ0 : Env) (k : Nat) (listed : Array Bool) (σ : Env) (w : World) : Prop where
  size : listed.size = l.length
  done : ∀ j, j < l.length → listed[j]? = some true → (getV L j).p σ
  old : ∀ t, (∀ (j : Nat) (o : Oper), l[j]? = some o → listed[j]? = some true → o.dst ≠ some t) → σ t = σ0 t
  closed : ∀ (j : Nat) (o : Oper), l[j]? = some o → listed[j]? = some true → ∀ e ∈ depsS o, listed[e]? = some true
  le : k ≤ E.length
  effs : effs E k listed
  world : (getW Ws k).p σ w
structure CEnd (L : List VP) (l : List Oper) (σ0 σ : Env) : Prop where
  at_ : ∀ j, decide (j < l.length) = true → (getV L j).p σ
  old : ∀ t, freeB l t = true → σ t = σ0 t
theorem wpAny_C {P : Program} {n : Nat} {L : List VP} {Ws : List WP} {E : List Nat} {l : List Oper} {σ0 : Env} {us : List (List Tmp)} {T : TabC} {Q : Exit → Env → World → Prop}
    (hB : okC n l E us T = true) (hu : L.map (·.u) = us)
    (hobl : oblC P L Ws E σ0 (l.map (stripO l.toArray)) T 0) (hend : ∀ σ w, (getW Ws E.length).p σ w → CEnd L l σ0 σ → Q .normal σ w) :
    ∀ (fuel : Nat) (listed : Array Bool) (a : Act) (σ : Env) (w : World) (k : Nat), Fr n a σ → InvC L Ws E l σ0 k listed σ w → cntT listed + fuel = l.length → wpAny P .any l.toArray (frQ n Q) fuel listed a w := by
  simp only [okC, Bool.and_eq_true, decide_eq_true_eq] at hB
  obtain ⟨⟨⟨⟨⟨⟨⟨⟨⟨⟨hB1, hB2⟩, hB3⟩, hB4⟩, hB6⟩, hB7⟩, hB8⟩, hB9⟩, hE⟩, hnd⟩, hEl⟩ := hB
  have rg : ∀ {i : Nat} {o : Oper}, l[i]? = some o → i ∈ List.range l.length := fun h => List.mem_range.2 (List.getElem?_eq_some_iff.1 h).1
  have hlt : ∀ (i : Nat) (o : Oper), l[i]? = some o → ∀ e ∈ depsS o, e < i := by
    intro i o ho e he
    have := opAt_get (List.all_eq_true.1 hB2 i (rg ho)) ho
    simpa using List.all_eq_true.1 this e he
  have hElt : ∀ e ∈ E, e < l.length := fun e he => by simpa using List.all_eq_true.1 hEl e he
  have huse : ∀ (j : Nat) (o : Oper) (t : Tmp), l[j]? = some o → t ∈ (getV L j).u → ∀ (k : Nat) (x : Oper), l[k]? = some x → x.dst = some t → k = j ∨ k ∈ depsS o := by
    intro j o t ho ht k x hx hd
    have h1 := opAt_get (List.all_eq_true.1 hB4 j (rg ho)) ho
    have e : us.getD j [] = (getV L j).u := by
      subst hu
      unfold getV
      rw [List.getD_eq_getElem?_getD, List.getD_eq_getElem?_getD, List.getElem?_map]
      cases L[j]? <;> rfl
    rw [e] at h1
    have h2 := opAt_get (List.all_eq_true.1 (List.all_eq_true.1 h1 t ht) k (rg hx)) hx
    simp only [hd, bne_self_eq_false, Bool.false_or, Bool.or_eq_true, beq_iff_eq, List.contains_iff_mem] at h2
    exact h2
  have endQ : ∀ (listed : Array Bool) (a : Act) (σ : Env) (w : World) (k : Nat), Fr n a σ → InvC L Ws E l σ0 k listed σ w → Region.ready .any l.toArray listed = [] → frQ n Q .normal a w := by
    intro listed a σ w k hf hi hr
    have hall := all_listed hi.size hlt hr
    have hkE : k = E.length := by
      rcases Nat.lt_or_ge k E.length with h | h
      · have := (hi.effs k E[k] (List.getElem?_eq_getElem h)).1 (hall _ (hElt _ (List.getElem_mem h)))
        omega
      · have := hi.le; omega
    subst hkE
    refine ⟨σ, hf, hend σ w hi.world ⟨fun j hj => hi.done j (by simpa using hj) (hall j (by simpa using hj)), fun t ht => hi.old t fun j o ho _ => ?_⟩⟩
    have := List.all_eq_true.1 ht o (List.mem_of_getElem? ho)
    simpa using this
  intro fuel
  induction fuel with
  | zero =>
    intro listed a σ w k hf hi hc
    have hr : Region.ready .any l.toArray listed = [] := by
      cases hx : Region.ready .any l.toArray listed with
      | nil => rfl
      | cons i r =>
        obtain ⟨o, _, h2, _⟩ := (ready_iff l listed hi.size i).1 (by rw [hx]; simp)
        exact absurd h2 (cnt_full (by rw [hi.size]; omega) i)
    exact ⟨hr, endQ listed a σ w k hf hi hr⟩
  | succ fuel ih =>
    intro listed a σ w k hf hi hc
    refine ⟨endQ listed a σ w k hf hi, fun i hri => ?_⟩
    obtain ⟨o, ho, hl, hd⟩ := (ready_iff l listed hi.size i).1 hri
    have hil : i < listed.size := by rw [hi.size]; exact (List.getElem?_eq_some_iff.1 ho).1
    have hT1 : ∀ j ∈ (T.getD i ([], [], 0, 0)).1, (getV L j).p σ := by
      intro j hj
      have h1 := opAt_get (List.all_eq_true.1 hB6 i (rg ho)) ho
      have h2 := List.all_eq_true.1 h1 j hj
      simp only [Bool.and_eq_true, List.contains_iff_mem, decide_eq_true_eq] at h2
      exact hi.done j h2.2 (hd j h2.1)
    have hT2 : ∀ t ∈ (T.getD i ([], [], 0, 0)).2.1, σ t = σ0 t := by
      intro t ht
      have h1 := opAt_get (List.all_eq_true.1 hB7 i (rg ho)) ho
      refine hi.old t fun k x hx hk hdst => ?_
      have h2 := opAt_get (List.all_eq_true.1 (List.all_eq_true.1 h1 t ht) k (rg hx)) hx
      simp only [hdst, bne_self_eq_false, Bool.false_or, Bool.or_eq_true, beq_iff_eq, List.contains_iff_mem] at h2
      rcases h2 with rfl | hc
      · rw [hl] at hk; simp at hk
      · have := hi.closed k x hx hk i hc
        rw [hl] at this; simp at this
    have hfacts := facts_C _ _ hT1 hT2
    have hone := oblC_get l T 0 hobl i o ho
    rw [Nat.zero_add] at hone
    have hdst : ∀ t, o.dst = some t → t < n := dsts_of hB1 o (List.mem_of_getElem? ho)
    have hcn : cntT (listed.setIfInBounds i true) + fuel = l.length := by rw [cnt_next hl]; omega
    have hget : ∀ j, (listed.setIfInBounds i true)[j]? = if i = j then some true else listed[j]? := by
      intro j; rw [Array.getElem?_setIfInBounds]
      by_cases e : i = j
      · rw [if_pos e, if_pos e, if_pos (by omega)]
      · rw [if_neg e, if_neg e]
    have next : ∀ (v : Value) (w' : World) (k' : Nat), (getV L i).p (putS σ o.dst v) → (getW Ws k').p (putS σ o.dst v) w' → k' ≤ E.length → effs E k' (listed.setIfInBounds i true) → InvC L Ws E l σ0 k' (listed.setIfInBounds i true) (putS σ o.dst v) w' := by
      intro v w' k' hp hW hk' he'
      refine ⟨by simp [hi.size], ?_, ?_, ?_, hk', he', hW⟩
      · intro j hj hjl
        rw [hget] at hjl
        by_cases e : i = j
        · subst e; exact hp
        · rw [if_neg e] at hjl
          obtain ⟨x, hx⟩ : ∃ x, l[j]? = some x := ⟨_, List.getElem?_eq_getElem hj⟩
          refine (getV L j).cg σ _ (fun t ht => ?_) (hi.done j hj hjl)
          cases hod : o.dst with
          | none => rfl
          | some d =>
            simp only [putS]
            refine (upd_ne _ _ _ _ fun e' => ?_).symm
            rcases huse j x t hx ht i o ho (by rw [hod, e']) with h | h
            · exact e h
            · have := hi.closed j x hx hjl i h
              rw [hl] at this; simp at this
      · intro t ht
        have hne : putS σ o.dst v t = σ t := by
          cases hod : o.dst with
          | none => rfl
          | some u => exact upd_ne _ _ _ _ fun e' => ht i o ho (by rw [hget, if_pos rfl]) (by rw [hod, e'])
        rw [hne]
        refine hi.old t fun j x hx hj => ht j x hx ?_
        rw [hget]; split
        · rfl
        · exact hj
      · intro j x hx hj e he
        rw [hget] at hj ⊢
        split
        · rfl
        · by_cases e' : i = j
          · subst e'
            rw [ho] at hx; obtain rfl := Option.some.inj hx
            exact hd e he
          · rw [if_neg e'] at hj
            exact hi.closed j x hx hj e he
    -- one step, whatever W is asked behind it
    have step : ∀ (k' : Nat), quietC P σ (stripO l.toArray o) (getV L i) (getW Ws k') w → k' ≤ E.length → effs E k' (listed.setIfInBounds i true) → wpOp P l.toArray (frQ n Q) i (wpAny P .any l.toArray (frQ n Q) fuel (listed.setIfInBounds i true)) a w := by
      rintro k' ⟨h1, h2⟩ hk' he'
      unfold wpOp
      rw [List.getElem?_toArray, ho]
      simp only []
      rw [show Region.wanted o (yielded l.toArray a.tmps) = wantS σ (stripO l.toArray o).g by rw [want_eq l.toArray o a, hf.get]]
      split
      · rename_i hw
        refine .inl ?_
        have h1 := h1 hw
        unfold Oper.wp
        rw [show execOp a.eval o = execOp (evalS σ) (stripO l.toArray o).o by rw [hf.eval]; rfl]
        generalize (execOp (evalS σ) (stripO l.toArray o).o).run P w = r at *
        cases r with
        | ok nx w' =>
          cases nx <;> simp only [stepS] at h1 <;> simp only [Oper.upon]
          · exact ih _ _ _ _ k' (hf.put _ _ hdst) (next _ _ k' h1.1 h1.2 hk' he') hcn
          · exact ih _ _ _ _ k' (hf.put _ _ hdst) (next _ _ k' h1.1 h1.2 hk' he') hcn
          · exact h1.mono fun e w'' => by
              rintro ⟨v, rfl, h⟩
              exact ih _ _ _ _ k' (hf.put _ _ hdst) (next _ _ k' h.1 h.2 hk' he') hcn
        | halt x w' => simp only [stepS] at h1
      · rename_i hw
        have h2 := h2 (by simpa using hw)
        exact ih _ _ _ _ k' (hf.put _ _ hdst) (next _ _ k' h2.1 h2.2 hk' he') hcn
    unfold oneC at hone
    cases hE' : E.idxOf? i with
    | none =>
      rw [hE'] at hone
      have hni : i ∉ E := by rw [List.idxOf?_eq_none_iff] at hE'; exact hE'
      have he' : effs E k (listed.setIfInBounds i true) := by
        intro t e hte
        rw [hget, if_neg (fun h => hni (by rw [h]; exact List.mem_of_getElem? hte))]
        exact hi.effs t e hte
      refine step k (manyC_get _ hone k ?_ σ w hi.world hfacts) hi.le he'
      have hlo : (T.getD i ([], [], 0, 0)).2.2.1 ≤ k := by
        have h1 := opAt_get (List.all_eq_true.1 hB8 i (rg ho)) ho
        cases hm : (T.getD i ([], [], 0, 0)).2.2.1 with
        | zero => omega
        | succ m =>
          rw [hm] at h1
          simp only [] at h1
          cases hEm : E[m]? with
          | none => rw [hEm] at h1; simp at h1
          | some e =>
            rw [hEm] at h1
            have := (hi.effs m e hEm).1 (hd e (by simpa using h1))
            omega
      have hhi : k ≤ (T.getD i ([], [], 0, 0)).2.2.2 := by
        have h1 := List.all_eq_true.1 hB9 i (rg ho)
        cases hEm : E[(T.getD i ([], [], 0, 0)).2.2.2]? with
        | none =>
          rw [hEm] at h1
          have := hi.le
          have h1 := of_decide_eq_true h1; omega
        | some e =>
          rw [hEm] at h1
          simp only [Bool.or_eq_true, beq_iff_eq] at h1
          rcases h1 with h1 | h1
          · exact absurd (List.mem_of_getElem? hEm) (by rw [← h1]; exact hni)
          · rcases Nat.lt_or_ge (T.getD i ([], [], 0, 0)).2.2.2 k with h | h
            · exfalso
              have h3 := (hi.effs _ e hEm).2 h
              obtain ⟨oe, hoe⟩ : ∃ oe, l[e]? = some oe := ⟨_, List.getElem?_eq_getElem (hElt e (List.mem_of_getElem? hEm))⟩
              have h4 := opAt_get h1 hoe
              have := hi.closed e oe hoe h3 i (by simpa using h4)
              rw [hl] at this; simp at this
            · exact h
      exact List.mem_range'.2 ⟨k - (T.getD i ([], [], 0, 0)).2.2.1, by omega, by omega⟩
    | some t =>
      rw [hE'] at hone
      have hti : E[t]? = some i := by
        have := List.idxOf?_eq_some_iff.1 hE'
        obtain ⟨h, h', _⟩ := this
        rw [List.getElem?_eq_getElem h]; simpa using h'
      have htk : t = k := by
        have h3 : ¬ t < k := fun h => by have := (hi.effs t i hti).2 h; rw [hl] at this; simp at this
        rcases Nat.lt_or_ge k t with h | h
        · exfalso
          have htpos : t = (t - 1) + 1 := by omega
          have hlt' : t - 1 < E.length := by have := (List.getElem?_eq_some_iff.1 hti).1; omega
          obtain ⟨o', ho', hm⟩ := chain_get E (t - 1) E[t - 1] i hE (List.getElem?_eq_getElem hlt') (by rw [← htpos]; exact hti)
          rw [ho] at ho'; obtain rfl := Option.some.inj ho'
          have := (hi.effs (t - 1) _ (List.getElem?_eq_getElem hlt')).1 (hd _ hm)
          omega
        · omega
      subst htk
      have he' : effs E (t + 1) (listed.setIfInBounds i true) := by
        intro t' e hte
        rw [hget]
        by_cases e' : i = e
        · subst e'
          rw [if_pos rfl]
          have : t' = t := by
            have a1 := (List.getElem?_eq_some_iff.1 hte); have a2 := (List.getElem?_eq_some_iff.1 hti)
            obtain ⟨b1, b2⟩ := a1; obtain ⟨d1, d2⟩ := a2
            rcases Nat.lt_trichotomy t' t with h | h | h
            · exact absurd (b2.trans d2.symm) (List.pairwise_iff_getElem.1 hnd t' t b1 d1 h)
            · exact h
            · exact absurd (d2.trans b2.symm) (List.pairwise_iff_getElem.1 hnd t t' d1 b1 h)
          constructor
          · intro _; omega
          · intro _; rfl
        · rw [if_neg e', hi.effs t' e hte]
          constructor
          · intro h; omega
          · intro h
            rcases Nat.lt_or_ge t' t with h' | h'
            · exact h'
            · have : t' = t := by omega
              subst this
              rw [hti] at hte; exact absurd (Option.some.inj hte) e'
      have hkE : t + 1 ≤ E.length := by have := (List.getElem?_eq_some_iff.1 hti).1; omega
      exact step (t + 1) (hone σ w hi.world hfacts) hkE he'
theorem wE_chain {P : Program} {n : Nat} {Q : Exit → Env → World → Prop} {σ : Env} {w : World} {id : Nat} {l : List Oper} (L : List VP) (Ws : List WP) (E : List Nat) (us : List (List Tmp)) (T : TabC)
    (hm : P.follows .mixedOrders = true) (hB : okC n l E us T = true) (hu : L.map (·.u) = us) (h0 : (getW Ws 0).p σ w.drew)
    (hobl : oblC P L Ws E σ (l.map (stripO l.toArray)) T 0) (hend : ∀ σ' w', (getW Ws E.length).p σ' w' → CEnd L l σ σ' → Q .normal σ' w') : wE P n (.region id l.toArray true) Q σ w := by
  intro a ha
  refine wp_region_any hm ?_
  refine wpAny_C hB hu hobl hend _ _ a σ _ 0 ha ⟨by simp, ?_, fun _ _ => rfl, ?_, by omega, ?_, h0⟩ ?_
  · intro j _ h; simp [Array.getElem?_replicate] at h
  · intro j o _ h; simp [Array.getElem?_replicate] at h
  · intro t e _
    constructor
    · intro h; simp [Array.getElem?_replicate] at h
    · omega
  · simp [cntT, List.count_replicate]
theorem quietC_plain {P : Program} {σ : Env} {d : Option Tmp} {op : Op} {ty : TypeId} {ps : String} {af : Array Edge} {gd : Option (Nat × Bool)} {i : VP} {W : WP} {w : World}
    (h : stepS P (fun v w' => i.p (putS σ d v) ∧ W.p (putS σ d v) w') ((execOp (evalS σ) ⟨d, op, ty, ps, af, gd⟩).run P w)) : quietC P σ ⟨⟨d, op, ty, ps, af, gd⟩, none⟩ i W w :=
  ⟨fun _ => h, fun h => by simp [wantS] at h⟩
end Go.Proofs.YtglekdhdogjnoaaGreatDoor
