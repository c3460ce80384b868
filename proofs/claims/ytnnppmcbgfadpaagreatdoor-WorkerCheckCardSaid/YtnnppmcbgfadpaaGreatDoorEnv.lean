/- A walk over an environment of slots (a function from slot numbers to values): no literal frames, no edges. Rules for code, for regions that do not draw, and for regions that draw and only read. -/
import Derived.WalkKit
import Derived.WalkSpells
import Derived.WalkLawsBesides
import Derived.BigQuiet
import Derived.Deep.QuietTactic
import Derived.Lib.Hide
namespace Go.Proofs.YtnnppmcbgfadpaaGreatDoor
open Go.RowKit
abbrev Env := Nat → Value
def evalS (σ : Env) : Operand → Value
  | .tmp t => σ t
  | .const v => v
  | .global g => .pointer (some ⟨g, 0, none⟩)
  | .func f => .func (.func f) #[] #[]
theorem evalS_tmp (σ : Env) (t : Nat) : evalS σ (.tmp t) = σ t := rfl
theorem evalS_const (σ : Env) (v : Value) : evalS σ (.const v) = v := rfl
theorem evalS_global (σ : Env) (g : Nat) : evalS σ (.global g) = .pointer (some ⟨g, 0, none⟩) := rfl
theorem evalS_func (σ : Env) (f : FuncId) : evalS σ (.func f) = .func (.func f) #[] #[] := rfl
def upd (σ : Env) (d : Nat) (v : Value) : Env := fun i => if i = d then v else σ i
theorem upd_same (σ : Env) (d : Nat) (v : Value) : upd σ d v d = v := if_pos rfl
theorem upd_ne (σ : Env) (d : Nat) (v : Value) (i : Nat) (h : i ≠ d) : upd σ d v i = σ i := if_neg h
theorem upd_self (σ : Env) (d : Nat) (v : Value) (h : σ d = v) : upd σ d v = σ := by
  funext i; unfold upd; split
  · rename_i e; rw [e, h]
  · rfl
def putS (σ : Env) (d : Option Tmp) (v : Value) : Env := match d with | some d => upd σ d v | none => σ
/-- An operation without its edges and its place; its guard is the slot that it looks at. -/
structure SOp where
  o : Oper
  g : Option (Option Tmp × Bool)
def stripO (ops : Array Oper) (o : Oper) : SOp := ⟨⟨o.dst, o.op, o.type, "", #[], none⟩, o.guard.map fun jb => ((ops[jb.1]?).bind (·.dst), jb.2)⟩
def boolS : Value → Option Bool
  | .bool b => some b
  | _ => none
theorem boolS_undef : boolS undef = none := rfl
theorem boolS_bool (b : Bool) : boolS (.bool b) = some b := rfl
def wantS (σ : Env) : Option (Option Tmp × Bool) → Bool
  | none => true
  | some (some t, b) => boolS (σ t) == some b
  | some (none, _) => false
/-- What is asked once an operation has yielded this. No panic, no halt. -/
def stepS (P : Program) (K : Value → World → Prop) : Result Next → Prop
  | .ok (.value v) w' => K v w'
  | .ok .skip w' => K undef w'
  | .ok (.enter f args) w' => Calls P f args w' fun e w'' => ∃ v, e = .returned v ∧ K v w''
  | _ => False
theorem stepS_value (P : Program) (K : Value → World → Prop) (v : Value) (w : World) : stepS P K (.ok (.value v) w) = K v w := rfl
theorem stepS_skip (P : Program) (K : Value → World → Prop) (w : World) : stepS P K (.ok .skip w) = K undef w := rfl
theorem stepS_enter (P : Program) (K : Value → World → Prop) (f : FuncId) (args : Array Value) (w : World) : stepS P K (.ok (.enter f args) w) = Calls P f args w fun e w'' => ∃ v, e = .returned v ∧ K v w'' := rfl
def wS (P : Program) (Q : Env → World → Prop) : List SOp → Env → World → Prop
  | [], σ, w => Q σ w
  | s :: rest, σ, w => (wantS σ s.g = true → stepS P (fun v w' => wS P Q rest (putS σ s.o.dst v) w') ((execOp (evalS σ) s.o).run P w)) ∧
      (wantS σ s.g = false → wS P Q rest (putS σ s.o.dst undef) w)
theorem eval_eq (a : Act) : a.eval = evalS (fun i => a.tmps.getD i undef) := by
  funext x; cases x <;> rfl
theorem put_getD (a : Act) (d : Option Tmp) (v : Value) (hd : ∀ t, d = some t → t < a.tmps.size) : (fun i => (a.put d v).tmps.getD i undef) = putS (fun i => a.tmps.getD i undef) d v := by
  cases d with
  | none => rfl
  | some t =>
    have ht := hd t rfl
    funext i
    simp only [Act.put, putS, upd, Array.getD_eq_getD_getElem?, Array.getElem?_setIfInBounds]
    by_cases h : t = i
    · subst h; simp [ht]
    · rw [if_neg h, if_neg (fun e => h e.symm)]
theorem want_eq (ops : Array Oper) (o : Oper) (a : Act) : Region.wanted o (yielded ops a.tmps) = wantS (fun i => a.tmps.getD i undef) (stripO ops o).g := by
  unfold Region.wanted stripO wantS yielded
  cases hg : o.guard with
  | none => rfl
  | some jb =>
    obtain ⟨j, b⟩ := jb
    simp only [Option.map_some]
    cases hd : (ops[j]?).bind (·.dst) with
    | none => simp
    | some t =>
      simp only [Option.bind_some, Array.getD_eq_getD_getElem?]
      cases ht : a.tmps[t]? with
      | none => simp [boolS, undef]
      | some v => cases v <;> simp [boolS]
/-- The frame a holds the environment σ in its n slots. -/
structure Fr (n : Nat) (a : Act) (σ : Env) : Prop where
  size : a.tmps.size = n
  defers : a.defers = []
  get : (fun i => a.tmps.getD i undef) = σ
theorem Fr.put {n : Nat} {a : Act} {σ : Env} (h : Fr n a σ) (d : Option Tmp) (v : Value) (hd : ∀ t, d = some t → t < n) : Fr n (a.put d v) (putS σ d v) := by
  refine ⟨?_, ?_, ?_⟩
  · unfold Act.put; split <;> simp [h.size]
  · unfold Act.put; split <;> simp [h.defers]
  · rw [put_getD a d v (by rw [h.size]; exact hd), h.get]
theorem Fr.eval {n : Nat} {a : Act} {σ : Env} (h : Fr n a σ) : a.eval = evalS σ := by rw [eval_eq, h.get]
def frQ (n : Nat) (Q : Exit → Env → World → Prop) : Exit → Act → World → Prop := fun e a w => ∃ σ, Fr n a σ ∧ Q e σ w
theorem wpList_of_wS {P : Program} {ops : Array Oper} {Q : Exit → Env → World → Prop} (n : Nat) :
    ∀ (l : List Oper) (a : Act) (σ : Env) (w : World), (∀ o ∈ l, ∀ t, o.dst = some t → t < n) → Fr n a σ →
      wS P (Q .normal) (l.map (stripO ops)) σ w → wpList P ops (frQ n Q) l a w
  | [], a, σ, w, _, hf, h => ⟨σ, hf, h⟩
  | o :: l, a, σ, w, ho, hf, h => by
    obtain ⟨h1, h2⟩ := h
    have hlt : ∀ t, o.dst = some t → t < n := ho o (by simp)
    have ih := fun a σ w => wpList_of_wS (P := P) (ops := ops) (Q := Q) n l a σ w (fun o ho' => ho o (by simp [ho']))
    have hwant : Region.wanted o (yielded ops a.tmps) = wantS σ (stripO ops o).g := by rw [want_eq ops o a, hf.get]
    unfold wpList
    rw [hwant]
    split
    · rename_i hw
      refine .inl ?_
      have h1 := h1 hw
      unfold Oper.wp
      have e : execOp a.eval o = execOp (evalS σ) (stripO ops o).o := by rw [hf.eval]; rfl
      rw [e]
      generalize (execOp (evalS σ) (stripO ops o).o).run P w = r at *
      cases r with
      | ok nx w' =>
        cases nx <;> simp only [stepS] at h1 <;> simp only [Oper.upon]
        · exact ih _ _ _ (hf.put _ _ hlt) h1
        · exact ih _ _ _ (hf.put _ _ hlt) h1
        · exact h1.mono fun e w'' => by rintro ⟨v, rfl, h⟩; exact ih _ _ _ (hf.put _ _ hlt) h
      | halt x w' => simp only [stepS] at h1
    · rename_i hw
      exact ih _ _ _ (hf.put _ _ hlt) (h2 (by simpa using hw))
/-- The slots of a list of operations lie below n: asked of the kernel. -/
def dstsB (n : Nat) (l : List Oper) : Bool := l.all fun o => match o.dst with | some t => decide (t < n) | none => true
theorem dsts_of {n : Nat} {l : List Oper} (h : dstsB n l = true) : ∀ o ∈ l, ∀ t, o.dst = some t → t < n := by
  intro o ho t ht
  have := List.all_eq_true.1 h o ho
  rw [ht] at this
  simpa using this
section
variable {P : Program} {Q : Env → World → Prop} {rest : List SOp} {σ : Env} {w : World} {t : Tmp} {b : Bool} {d : Tmp} {op : Op} {ty : TypeId} {p : String} {af : Array Edge} {gd : Option (Nat × Bool)}
theorem wS_nil (h : Q σ w) : wS P Q [] σ w := h
theorem wS_step (h : ∀ K : Value → World → Prop, Hid (∀ v w', wS P Q rest (upd σ d v) w' → K v w') → stepS P K ((execOp (evalS σ) ⟨some d, op, ty, p, af, gd⟩).run P w)) : wS P Q (⟨⟨some d, op, ty, p, af, gd⟩, none⟩ :: rest) σ w :=
  ⟨fun _ => h _ (fun _ _ h => h), fun h => by simp [wantS] at h⟩
theorem wS_unit (h : ∀ K : Value → World → Prop, Hid (∀ v w', wS P Q rest σ w' → K v w') → stepS P K ((execOp (evalS σ) ⟨none, op, ty, p, af, gd⟩).run P w)) : wS P Q (⟨⟨none, op, ty, p, af, gd⟩, none⟩ :: rest) σ w :=
  ⟨fun _ => h _ (fun _ _ h => h), fun h => by simp [wantS] at h⟩
theorem wS_move {x : Operand} (h : wS P Q rest (upd σ d (evalS σ x)) w) : wS P Q (⟨⟨some d, .move x, ty, p, af, gd⟩, none⟩ :: rest) σ w :=
  ⟨fun _ => h, fun h => by simp [wantS] at h⟩
theorem wS_assign {x : Operand} (h : wS P Q rest (upd σ d (evalS σ x)) w) : wS P Q (⟨⟨some d, .assign x, ty, p, af, gd⟩, none⟩ :: rest) σ w :=
  ⟨fun _ => h, fun h => by simp [wantS] at h⟩
theorem wS_skip (hb : (boolS (σ t) == some b) = false) (h : wS P Q rest (upd σ d undef) w) : wS P Q (⟨⟨some d, op, ty, p, af, gd⟩, some (some t, b)⟩ :: rest) σ w :=
  ⟨fun h => by simp only [wantS] at h; rw [hb] at h; simp at h, fun _ => h⟩
theorem wS_want {o : Oper} (hb : (boolS (σ t) == some b) = true) (h : wS P Q (⟨o, none⟩ :: rest) σ w) : wS P Q (⟨o, some (some t, b)⟩ :: rest) σ w :=
  ⟨fun _ => h.1 rfl, fun h => by simp only [wantS] at h; rw [hb] at h; simp at h⟩
theorem wS_split (h : (boolS (σ t) == some b) = true → wS P Q (⟨⟨some d, op, ty, p, af, gd⟩, none⟩ :: rest) σ w) (h' : (boolS (σ t) == some b) = false → wS P Q rest (upd σ d undef) w) : wS P Q (⟨⟨some d, op, ty, p, af, gd⟩, some (some t, b)⟩ :: rest) σ w := by
  cases hb : (boolS (σ t) == some b)
  · exact wS_skip hb (h' hb)
  · exact wS_want hb (h hb)
end
/-- A cut: what follows needs some facts of the environment and the world alone. -/
theorem wS_cut' {P : Program} {Q : Env → World → Prop} (M : Env → World → Prop) : ∀ (l : List SOp) (n : Nat) (σ : Env) (w : World), wS P M (l.take n) σ w → (∀ σ w, M σ w → wS P Q (l.drop n) σ w) → wS P Q l σ w
  | [], n, σ, w, h, h2 => by simp only [List.take_nil, List.drop_nil] at h h2; exact h2 _ _ h
  | s :: l, 0, σ, w, h, h2 => h2 _ _ h
  | s :: l, n + 1, σ, w, h, h2 => by
    simp only [List.take_succ_cons, List.drop_succ_cons] at h h2
    refine ⟨fun hw => ?_, fun hw => wS_cut' M l n _ _ (h.2 hw) h2⟩
    have h1 := h.1 hw
    generalize (execOp (evalS σ) s.o).run P w = r at *
    cases r with
    | ok nx w' =>
      cases nx <;> simp only [stepS] at h1 ⊢
      · exact wS_cut' M l n _ _ h1 h2
      · exact wS_cut' M l n _ _ h1 h2
      · exact h1.mono fun e w'' => by rintro ⟨v, rfl, h⟩; exact ⟨v, rfl, wS_cut' M l n _ _ h h2⟩
    | halt x w' => simp only [stepS] at h1
theorem wS_cut {P : Program} {Q : Env → World → Prop} {l : List SOp} {σ : Env} {w : World} (n : Nat) (M : Env → World → Prop) (h : wS P M (l.take n) σ w) (h2 : ∀ σ w, M σ w → wS P Q (l.drop n) σ w) : wS P Q l σ w := wS_cut' M l n σ w h h2

/-- Code, from an environment and a world on. -/
def wE (P : Program) (n : Nat) (c : Code) (Q : Exit → Env → World → Prop) (σ : Env) (w : World) : Prop :=
  ∀ a, Fr n a σ → c.wp P (frQ n Q) a w
def thenE (K : Env → World → Prop) (Q : Exit → Env → World → Prop) : Exit → Env → World → Prop
  | .normal, σ, w => K σ w
  | e, σ, w => Q e σ w
def blockE (id : Nat) (Q : Exit → Env → World → Prop) : Exit → Env → World → Prop
  | .exit id', σ, w => if id' = id then Q .normal σ w else Q (.exit id') σ w
  | e, σ, w => Q e σ w
section
variable {P : Program} {n : Nat} {Q : Exit → Env → World → Prop} {σ : Env} {w : World}
theorem wE_seq {x y : Code} (h : ∀ K : Env → World → Prop, Hid (∀ σ w, wE P n y Q σ w → K σ w) → wE P n x (thenE K Q) σ w) : wE P n (.seq x y) Q σ w := by
  intro a ha
  refine wp_seq (wp_mono (h _ (fun _ _ h => h) a ha) ?_)
  rintro e a' w' ⟨σ', hf, hq⟩
  cases e <;> first | exact hq a' hf | exact ⟨σ', hf, hq⟩
theorem wE_skip (h : Q .normal σ w) : wE P n .skip Q σ w := fun _ ha => wp_skip ⟨σ, ha, h⟩
theorem wE_ret (h : Q .ret σ w) : wE P n .ret Q σ w := fun _ ha => wp_ret ⟨σ, ha, h⟩
theorem wE_exit {id : Nat} (h : Q (.exit id) σ w) : wE P n (.exit id) Q σ w := fun _ ha => wp_exit ⟨σ, ha, h⟩
theorem wE_block {id : Nat} {c : Code} (h : wE P n c (blockE id Q) σ w) : wE P n (.block id c) Q σ w := by
  intro a ha
  refine wp_block (wp_mono (h a ha) ?_)
  rintro e a' w' ⟨σ', hf, hq⟩
  cases e <;> simp only [blockE, Exit.inBlock] at hq ⊢ <;> first | exact ⟨σ', hf, hq⟩ | (split <;> rename_i hi <;> simp only [hi, if_true, if_false] at hq <;> exact ⟨σ', hf, hq⟩)
theorem wE_cond {c : Operand} {x y : Code} (t : Bool) (hc : evalS σ c = .bool t) (h1 : t = true → wE P n x Q σ w) (h2 : t = false → wE P n y Q σ w) : wE P n (.cond c x y) Q σ w := by
  intro a ha
  exact wp_cond_split (t := t) (by rw [ha.eval]; exact hc) (fun ht => h1 ht a ha) (fun ht => h2 ht a ha)
theorem wE_if {c : Operand} {x y : Code} (hb : (boolS (evalS σ c)).isSome = true) (h1 : boolS (evalS σ c) = some true → wE P n x Q σ w) (h2 : boolS (evalS σ c) = some false → wE P n y Q σ w) : wE P n (.cond c x y) Q σ w := by
  cases hv : evalS σ c <;> rw [hv] at hb <;> simp only [boolS, Option.isSome_none, Bool.false_eq_true] at hb
  rename_i b
  rw [hv] at h1 h2
  exact wE_cond b hv (fun h => h1 (by rw [h]; rfl)) (fun h => h2 (by rw [h]; rfl))
theorem wE_loop {c : Code} {α : Type} (I : α → Env → World → Prop) (μ : α → Nat) (g : α) (h0 : I g σ w)
    (round : ∀ g σ w, I g σ w → wE P n c (thenE (fun σ' w' => ∃ g', I g' σ' w' ∧ μ g' < μ g) Q) σ w) : wE P n (.loop c) Q σ w := by
  intro a ha b k cs
  have key : ∀ m g σ w a, μ g = m → I g σ w → Fr n a σ →
      ∃ e a' w', frQ n Q e a' w' ∧ Arrives P (lone (b.at a (.code c :: .inLoop c :: k)) cs w) b k cs e a' w' := by
    intro m
    induction m using Nat.strongRecOn with
    | _ m ih =>
      intro g σ w a hm hI ha
      obtain ⟨e, a₁, w₁, ⟨σ₁, hf, hq⟩, harr⟩ := round g σ w hI a ha b (.inLoop c :: k) cs
      cases e with
      | normal =>
        obtain ⟨g', hI', hlt⟩ := hq
        obtain ⟨e₂, a₂, w₂, hq₂, harr₂⟩ := ih (μ g') (hm ▸ hlt) g' σ₁ w₁ a₁ rfl hI' hf
        exact ⟨e₂, a₂, w₂, hq₂, .of_steps (Steps.trans harr (.one step_inLoop)) harr₂⟩
      | exit id => exact ⟨_, a₁, w₁, ⟨σ₁, hf, hq⟩, .pass (x := .inLoop c) rfl (fun _ _ => .inl (by simp)) harr⟩
      | goto l => exact ⟨_, a₁, w₁, ⟨σ₁, hf, hq⟩, .pass (x := .inLoop c) rfl (fun _ _ => .inl (by simp)) harr⟩
      | ret => exact ⟨_, a₁, w₁, ⟨σ₁, hf, hq⟩, .pass (x := .inLoop c) rfl (fun _ _ => .inl (by simp)) harr⟩
      | panic ch => exact ⟨_, a₁, w₁, ⟨σ₁, hf, hq⟩, .pass (x := .inLoop c) rfl (fun _ _ => .inl (by simp)) harr⟩
      | outgrown => exact ⟨_, a₁, w₁, ⟨σ₁, hf, hq⟩, .pass (x := .inLoop c) rfl (fun _ _ => .inl (by simp)) harr⟩
  obtain ⟨e, a', w', hq, harr⟩ := key _ g σ w a rfl h0 ha
  exact ⟨e, a', w', hq, .of_steps (.one step_loop) harr⟩
theorem wE_region {id : Nat} {l : List Oper} (hd : dstsB n l = true) (h : wS P (Q .normal) (l.map (stripO l.toArray)) σ w) : wE P n (.region id l.toArray false) Q σ w :=
  fun a ha => wp_region_lit (wpList_of_wS n l a σ w (dsts_of hd) ha h)
/-- The environment of a call's first step. -/
def envOf (l : List Value) : Env := fun i => l.getD i undef
/-- What a function's end asks. -/
def endE (P : Program) (n : Nat) (fn : Func) (R : Ending → World → Prop) : Exit → Env → World → Prop
  | .normal, σ, w | .ret, σ, w => ∀ a, Fr n a σ → ∃ v, (results fn a.tmps).run P w = .ok v w ∧ R (.returned v) w
  | _, _, _ => False
theorem calls_of_wE {f : FuncId} {fn : Func} {c : Code} {args : List Value} {R : Ending → World → Prop} (hf : P.funcs[f]? = some fn) (hb : fn.body = some c) (hn : fn.ntmps = n) (hl : args.length ≤ n)
    (h : wE P n c (endE P n fn R) (envOf args) w) : Calls P f args.toArray w R := by
  refine calls_of_wp hf hb (wp_mono (h _ ⟨?_, rfl, ?_⟩) ?_)
  · simp [hn]; omega
  · funext i
    simp only [envOf, Array.getD_eq_getD_getElem?, List.getD_eq_getElem?_getD, Array.getElem?_append, List.size_toArray, List.getElem?_toArray, Array.getElem?_replicate]
    split
    · rfl
    · rename_i hi
      rw [List.getElem?_eq_none (by omega)]
      split <;> rfl
  · rintro e a' w' ⟨σ', hf', hq⟩
    cases e <;> simp only [endE, bodyPost] at hq ⊢ <;> first | exact ⟨hf'.defers, hq a' hf'⟩ | exact hq.elim
theorem endE_tmp {fn : Func} {R : Ending → World → Prop} {t : Tmp} (h : fn.results = #[.tmp t]) (hR : R (.returned (σ t)) w) : endE P n fn R .ret σ w := by
  intro a ha
  refine ⟨_, results_tmp h _ _ _, ?_⟩
  rw [show a.tmps.getD t undef = σ t from congrFun ha.get t]
  exact hR
theorem endE_tmp2 {fn : Func} {R : Ending → World → Prop} {t u : Tmp} (h : fn.results = #[.tmp t, .tmp u]) (hR : R (.returned (.tuple #[σ t, σ u])) w) : endE P n fn R .ret σ w := by
  intro a ha
  refine ⟨_, results_tmp2 h _ _ _, ?_⟩
  rw [show a.tmps.getD t undef = σ t from congrFun ha.get t, show a.tmps.getD u undef = σ u from congrFun ha.get u]
  exact hR
theorem endE_none {fn : Func} {R : Ending → World → Prop} (h : fn.results = #[]) (hR : R (.returned (.tuple #[])) w) : endE P n fn R .normal σ w := by
  intro a ha
  exact ⟨_, results_none h _ _ _, hR⟩
theorem endE_none_ret {fn : Func} {R : Ending → World → Prop} (h : fn.results = #[]) (hR : R (.returned (.tuple #[])) w) : endE P n fn R .ret σ w := by
  intro a ha
  exact ⟨_, results_none h _ _ _, hR⟩
end
/-! ### A region that draws its order, each operation by what its value is, whatever the order -/
/-- The temporaries that an operation looks at. -/
def looksS (l : List Oper) (o : Oper) : List Tmp := o.looksAt l.toArray
/-- The operations that stand before o in every order. -/
def depsS (o : Oper) : List Nat := (o.after.toList.filter (Region.binds .any ·)).map (·.on)
/-- The operation, among o's own, that writes the slot t. -/
def srcS (l : List Oper) (o : Oper) (t : Tmp) : Option Nat := (depsS o).find? fun j => match l[j]? with | some x => x.dst == some t | none => false
def okOp (l : List Oper) (i : Nat) (o : Oper) : Bool :=
  (depsS o).all (· < i) &&
  (looksS l o).all fun t => match srcS l o t with
    | some _ => true
    | none => (List.range l.length).all fun k => match l[k]? with | some x => x.dst != some t || k == i || (depsS x).contains i | none => true
def stabB (n : Nat) (l : List Oper) : Bool :=
  dstsB n l &&
  ((List.range l.length).all fun i => match l[i]? with | some o => okOp l i o | none => true) &&
  ((List.range l.length).all fun i => (List.range l.length).all fun j => i == j || match l[i]?, l[j]? with | some x, some y => (match x.dst with | some t => y.dst != some t | none => true) | _, _ => true)
def factsS (Φ : Nat → Value → World → Prop) (l : List Oper) (σ0 σ : Env) (w : World) (o : Oper) : List Tmp → Prop
  | [] => True
  | t :: ts => (match srcS l o t with | some j => Φ j (σ t) w | none => σ t = σ0 t) ∧ factsS Φ l σ0 σ w o ts
def oblS (P : Program) (Φ : Nat → Value → World → Prop) (R : World → World → Prop) (l : List Oper) (σ0 : Env) (w0 : World) : List Oper → Nat → Prop
  | [], _ => True
  | o :: rest, i => (∀ σ w, R w0 w → factsS Φ l σ0 σ w o (looksS l o) →
      (wantS σ (stripO l.toArray o).g = true → stepS P (fun v w' => Φ i v w' ∧ R w w') ((execOp (evalS σ) (stripO l.toArray o).o).run P w)) ∧ (wantS σ (stripO l.toArray o).g = false → Φ i undef w)) ∧ oblS P Φ R l σ0 w0 rest (i + 1)
theorem oblS_get {P : Program} {Φ : Nat → Value → World → Prop} {R : World → World → Prop} {l : List Oper} {σ0 : Env} {w0 : World} : ∀ (m : List Oper) (k : Nat), oblS P Φ R l σ0 w0 m k → ∀ i o, m[i]? = some o →
    ∀ σ w, R w0 w → factsS Φ l σ0 σ w o (looksS l o) → (wantS σ (stripO l.toArray o).g = true → stepS P (fun v w' => Φ (k + i) v w' ∧ R w w') ((execOp (evalS σ) (stripO l.toArray o).o).run P w)) ∧ (wantS σ (stripO l.toArray o).g = false → Φ (k + i) undef w)
  | [], _, _, i, o, h => by simp at h
  | x :: m, k, h, 0, o, ho => by simp at ho; subst ho; simpa using h.1
  | x :: m, k, h, i + 1, o, ho => by
    have := oblS_get m (k + 1) h.2 i o (by simpa using ho)
    rw [show k + (i + 1) = k + 1 + i by omega]; exact this
/-- What holds while a part of the operations is listed. -/
structure StInv (n : Nat) (Φ : Nat → Value → World → Prop) (R : World → World → Prop) (l : List Oper) (σ0 : Env) (w0 : World) (listed : Array Bool) (σ : Env) (w : World) : Prop where
  size : listed.size = l.length
  reach : R w0 w
  done : ∀ (j : Nat) (o : Oper) (t : Tmp), l[j]? = some o → listed[j]? = some true → o.dst = some t → Φ j (σ t) w
  old : ∀ t, (∀ (j : Nat) (o : Oper), l[j]? = some o → listed[j]? = some true → o.dst ≠ some t) → σ t = σ0 t
  closed : ∀ (j : Nat) (o : Oper), l[j]? = some o → listed[j]? = some true → ∀ e ∈ depsS o, listed[e]? = some true
theorem ready_iff (l : List Oper) (listed : Array Bool) (hs : listed.size = l.length) (i : Nat) : i ∈ Region.ready .any l.toArray listed ↔ ∃ o, l[i]? = some o ∧ listed[i]? = some false ∧ ∀ e ∈ depsS o, listed[e]? = some true := by
  unfold Region.ready depsS
  simp only [List.mem_filter, List.mem_range, List.size_toArray, List.getElem?_toArray, Bool.and_eq_true, Bool.not_eq_true', List.mem_map]
  constructor
  · rintro ⟨hi, h1, h2⟩
    refine ⟨l[i], List.getElem?_eq_getElem hi, ?_, ?_⟩
    · rw [Array.getD_eq_getD_getElem?] at h1
      have hlt : i < listed.size := by omega
      rw [Array.getElem?_eq_getElem hlt] at h1 ⊢
      simpa using h1
    · rw [List.getElem?_eq_getElem hi] at h2
      simp only [Option.map_some, Option.getD_some, Array.all_eq_true_iff_forall_mem, Bool.or_eq_true, Bool.not_eq_true'] at h2
      rintro e ⟨x, hx, rfl⟩
      have := h2 x (Array.mem_def.2 hx.1)
      rcases this with h | h
      · rw [hx.2] at h; simp at h
      · rw [Array.getD_eq_getD_getElem?] at h
        cases hg : listed[x.on]? <;> rw [hg] at h <;> simp at h
        rw [h]
  · rintro ⟨o, ho, h1, h2⟩
    have hi : i < l.length := (List.getElem?_eq_some_iff.1 ho).1
    refine ⟨hi, ?_, ?_⟩
    · rw [Array.getD_eq_getD_getElem?, h1]; rfl
    · rw [ho]
      simp only [Option.map_some, Option.getD_some, Array.all_eq_true_iff_forall_mem, Bool.or_eq_true, Bool.not_eq_true']
      intro x hx
      by_cases hb : Region.binds .any x = true
      · right
        rw [Array.getD_eq_getD_getElem?, h2 x.on ⟨x, ⟨Array.mem_def.1 hx, hb⟩, rfl⟩]; rfl
      · left; simpa using hb
theorem facts_of {n : Nat} {Φ : Nat → Value → World → Prop} {R : World → World → Prop} {l : List Oper} {σ0 σ : Env} {w0 w : World} {listed : Array Bool} (h : StInv n Φ R l σ0 w0 listed σ w)
    {i : Nat} {o : Oper} (hi : l[i]? = some o) (hl : listed[i]? = some false) (hd : ∀ e ∈ depsS o, listed[e]? = some true) (ts : List Tmp)
    (hok : ts.all (fun t => match srcS l o t with
      | some _ => true
      | none => (List.range l.length).all fun k => match l[k]? with | some x => x.dst != some t || k == i || (depsS x).contains i | none => true) = true) : factsS Φ l σ0 σ w o ts := by
  induction ts with
  | nil => trivial
  | cons t ts ih =>
    simp only [List.all_cons, Bool.and_eq_true] at hok
    refine ⟨?_, ih hok.2⟩
    have h1 := hok.1
    cases hs : srcS l o t with
    | some j =>
      simp only []
      have hj := List.find?_some hs
      have hm := List.mem_of_find?_eq_some hs
      cases hx : l[j]? with
      | none => rw [hx] at hj; simp at hj
      | some x =>
        rw [hx] at hj
        exact h.done j x t hx (hd j hm) (by simpa using hj)
    | none =>
      rw [hs] at h1
      simp only []
      refine h.old t fun k x hx hk hdst => ?_
      have hk' : k < l.length := (List.getElem?_eq_some_iff.1 hx).1
      have := List.all_eq_true.1 h1 k (List.mem_range.2 hk')
      rw [hx] at this
      simp only [hdst, bne_self_eq_false, Bool.false_or, Bool.or_eq_true, beq_iff_eq, List.contains_iff_mem] at this
      rcases this with rfl | hc
      · rw [hl] at hk; simp at hk
      · have := h.closed k x hx hk i hc
        rw [hl] at this; simp at this
theorem StInv.next {n : Nat} {Φ : Nat → Value → World → Prop} {R : World → World → Prop} {l : List Oper} {σ0 σ : Env} {w0 w w' : World} {listed : Array Bool} (h : StInv n Φ R l σ0 w0 listed σ w)
    (hstab : ∀ i v w w', R w w' → Φ i v w → Φ i v w') (htr : ∀ a b c, R a b → R b c → R a c)
    (huniq : ∀ (i j : Nat) (x y : Oper) (t : Tmp), l[i]? = some x → l[j]? = some y → x.dst = some t → y.dst = some t → i = j)
    {i : Nat} {o : Oper} (hi : l[i]? = some o) (hd : ∀ e ∈ depsS o, listed[e]? = some true) {v : Value} (hΦ : Φ i v w') (hR : R w w') :
    StInv n Φ R l σ0 w0 (listed.setIfInBounds i true) (putS σ o.dst v) w' := by
  have hil : i < listed.size := by rw [h.size]; exact (List.getElem?_eq_some_iff.1 hi).1
  have hget : ∀ j, (listed.setIfInBounds i true)[j]? = if i = j then some true else listed[j]? := by
    intro j; rw [Array.getElem?_setIfInBounds]
    by_cases e : i = j
    · rw [if_pos e, if_pos e, if_pos (by omega)]
    · rw [if_neg e, if_neg e]
  refine ⟨by simp [h.size], htr _ _ _ h.reach hR, ?_, ?_, ?_⟩
  · intro j x t hx hj hdst
    rw [hget] at hj
    by_cases e : i = j
    · subst e
      rw [hi] at hx; obtain rfl := Option.some.inj hx
      rw [hdst]; simp only [putS, upd_same]; exact hΦ
    · rw [if_neg e] at hj
      have hne : putS σ o.dst v t = σ t := by
        cases ho : o.dst with
        | none => rfl
        | some u =>
          simp only [putS]
          refine upd_ne _ _ _ _ fun e' => e (huniq i j o x t hi hx (by rw [ho, e']) hdst)
      rw [hne]
      exact hstab _ _ _ _ hR (h.done j x t hx hj hdst)
  · intro t ht
    have hne : putS σ o.dst v t = σ t := by
      cases ho : o.dst with
      | none => rfl
      | some u => exact upd_ne _ _ _ _ fun e' => ht i o hi (by rw [hget, if_pos rfl]) (by rw [ho, e'])
    rw [hne]
    refine h.old t fun j x hx hj => ht j x hx ?_
    rw [hget]; split
    · rfl
    · exact hj
  · intro j x hx hj e he
    rw [hget] at hj ⊢
    split
    · rfl
    · by_cases e' : i = j
      · subst e'
        rw [hi] at hx; obtain rfl := Option.some.inj hx
        exact hd e he
      · rw [if_neg e'] at hj
        exact h.closed j x hx hj e he
/-- How many are listed. -/
def cntT (listed : Array Bool) : Nat := listed.toList.count true
theorem count_set : ∀ (m : List Bool) (i : Nat), m[i]? = some false → (m.set i true).count true = m.count true + 1
  | [], i, h => by simp at h
  | x :: m, 0, h => by simp at h; subst h; simp
  | x :: m, i + 1, h => by
    have := count_set m i (by simpa using h)
    simp only [List.set_cons_succ, List.count_cons, this]; omega
theorem cnt_next {listed : Array Bool} {i : Nat} (h : listed[i]? = some false) : cntT (listed.setIfInBounds i true) = cntT listed + 1 := by
  unfold cntT
  rw [Array.toList_setIfInBounds]
  exact count_set _ _ (by simpa using h)
theorem cnt_full {listed : Array Bool} (h : cntT listed = listed.size) (i : Nat) : listed[i]? ≠ some false := by
  intro hf
  unfold cntT at h
  have := List.count_eq_length.1 (by rw [h]; simp)
  have hm : false ∈ listed.toList := Array.mem_def.1 (Array.mem_of_getElem? hf)
  have := this _ hm
  simp at this
theorem all_listed {l : List Oper} {listed : Array Bool} (hs : listed.size = l.length) (hlt : ∀ (i : Nat) (o : Oper), l[i]? = some o → ∀ e ∈ depsS o, e < i)
    (hr : Region.ready .any l.toArray listed = []) : ∀ i, i < l.length → listed[i]? = some true := by
  intro i
  induction i using Nat.strongRecOn with
  | _ i ih =>
    intro hi
    cases hb : listed[i]? with
    | none => have := Array.getElem?_eq_none_iff.1 hb; omega
    | some b =>
      cases b with
      | true => rfl
      | false =>
        have : i ∈ Region.ready .any l.toArray listed := (ready_iff l listed hs i).2 ⟨l[i], List.getElem?_eq_getElem hi, hb, fun e he => by
          have h1 := hlt i _ (List.getElem?_eq_getElem hi) e he
          exact ih e h1 (by omega)⟩
        rw [hr] at this; simp at this
/-- What is known behind the region: each slot by its operation, all other slots as they were. -/
def StEnd (Φ : Nat → Value → World → Prop) (l : List Oper) (σ0 σ : Env) (w : World) : Prop :=
  (∀ (j : Nat) (o : Oper) (t : Tmp), l[j]? = some o → o.dst = some t → Φ j (σ t) w) ∧ ∀ t, (∀ o ∈ l, o.dst ≠ some t) → σ t = σ0 t
theorem wpAny_stable {P : Program} {n : Nat} {Φ : Nat → Value → World → Prop} {R : World → World → Prop} {l : List Oper} {σ0 : Env} {w0 : World} {Q : Exit → Env → World → Prop}
    (hB : stabB n l = true) (hstab : ∀ i v w w', R w w' → Φ i v w → Φ i v w') (hrf : ∀ a, R a a) (htr : ∀ a b c, R a b → R b c → R a c)
    (hobl : oblS P Φ R l σ0 w0 l 0) (hend : ∀ σ w, R w0 w → StEnd Φ l σ0 σ w → Q .normal σ w) :
    ∀ (fuel : Nat) (listed : Array Bool) (a : Act) (σ : Env) (w : World), Fr n a σ → StInv n Φ R l σ0 w0 listed σ w → cntT listed + fuel = l.length → wpAny P .any l.toArray (frQ n Q) fuel listed a w := by
  simp only [stabB, Bool.and_eq_true] at hB
  obtain ⟨⟨hB1, hB2⟩, hB3⟩ := hB
  have hok : ∀ (i : Nat) (o : Oper), l[i]? = some o → okOp l i o = true := by
    intro i o ho
    have := List.all_eq_true.1 hB2 i (List.mem_range.2 (List.getElem?_eq_some_iff.1 ho).1)
    rw [ho] at this; exact this
  have hlt : ∀ (i : Nat) (o : Oper), l[i]? = some o → ∀ e ∈ depsS o, e < i := by
    intro i o ho e he
    have := hok i o ho
    simp only [okOp, Bool.and_eq_true] at this
    simpa using List.all_eq_true.1 this.1 e he
  have huniq : ∀ (i j : Nat) (x y : Oper) (t : Tmp), l[i]? = some x → l[j]? = some y → x.dst = some t → y.dst = some t → i = j := by
    intro i j x y t hx hy h1 h2
    have := List.all_eq_true.1 (List.all_eq_true.1 hB3 i (List.mem_range.2 (List.getElem?_eq_some_iff.1 hx).1)) j (List.mem_range.2 (List.getElem?_eq_some_iff.1 hy).1)
    rw [hx, hy] at this
    simpa [h1, h2] using this
  have endQ : ∀ (listed : Array Bool) (a : Act) (σ : Env) (w : World), Fr n a σ → StInv n Φ R l σ0 w0 listed σ w → Region.ready .any l.toArray listed = [] → frQ n Q .normal a w := by
    intro listed a σ w hf hi hr
    have hall := all_listed hi.size hlt hr
    refine ⟨σ, hf, hend σ w hi.reach ⟨fun j o t ho hd => hi.done j o t ho (hall j (List.getElem?_eq_some_iff.1 ho).1) hd, fun t ht => hi.old t fun j o ho _ => ht o (List.mem_of_getElem? ho)⟩⟩
  intro fuel
  induction fuel with
  | zero =>
    intro listed a σ w hf hi hc
    have hr : Region.ready .any l.toArray listed = [] := by
      cases hx : Region.ready .any l.toArray listed with
      | nil => rfl
      | cons i r =>
        obtain ⟨o, _, h2, _⟩ := (ready_iff l listed hi.size i).1 (by rw [hx]; simp)
        exact absurd h2 (cnt_full (by rw [hi.size]; omega) i)
    exact ⟨hr, endQ listed a σ w hf hi hr⟩
  | succ fuel ih =>
    intro listed a σ w hf hi hc
    refine ⟨endQ listed a σ w hf hi, fun i hri => ?_⟩
    obtain ⟨o, ho, hl, hd⟩ := (ready_iff l listed hi.size i).1 hri
    have hfacts := facts_of hi ho hl hd (looksS l o) (by have := hok i o ho; simp only [okOp, Bool.and_eq_true] at this; exact this.2)
    obtain ⟨h1, h2⟩ := oblS_get l 0 hobl i o ho σ w hi.reach hfacts
    rw [Nat.zero_add] at h1 h2
    have hdst : ∀ t, o.dst = some t → t < n := dsts_of hB1 o (List.mem_of_getElem? ho)
    have hcn : cntT (listed.setIfInBounds i true) + fuel = l.length := by rw [cnt_next hl]; omega
    unfold wpOp
    rw [List.getElem?_toArray, ho]
    simp only []
    rw [show Region.wanted o (yielded l.toArray a.tmps) = wantS σ (stripO l.toArray o).g by rw [want_eq l.toArray o a, hf.get]]
    split
    · rename_i hw
      refine .inl ?_
      have h1 := h1 hw
      unfold Oper.wp
      rw [show execOp a.eval o = execOp (evalS σ) (stripO l.toArray o).o by rw [hf.eval]; rfl]
      generalize (execOp (evalS σ) (stripO l.toArray o).o).run P w = r at *
      cases r with
      | ok nx w' =>
        cases nx <;> simp only [stepS] at h1 <;> simp only [Oper.upon]
        · exact ih _ _ _ _ (hf.put _ _ hdst) (hi.next hstab htr huniq ho hd h1.1 h1.2) hcn
        · exact ih _ _ _ _ (hf.put _ _ hdst) (hi.next hstab htr huniq ho hd h1.1 h1.2) hcn
        · exact h1.mono fun e w'' => by
            rintro ⟨v, rfl, h⟩
            exact ih _ _ _ _ (hf.put _ _ hdst) (hi.next hstab htr huniq ho hd h.1 h.2) hcn
      | halt x w' => simp only [stepS] at h1
    · rename_i hw
      exact ih _ _ _ _ (hf.put _ _ hdst) (hi.next hstab htr huniq ho hd (h2 (by simpa using hw)) (hrf w)) hcn
/-- THE RULE: a region that draws. Φ i: what the value of operation i is, in every world that is reached; R: how worlds grow. -/
theorem wE_stable {P : Program} {n : Nat} {Q : Exit → Env → World → Prop} {σ : Env} {w : World} {id : Nat} {l : List Oper} (Φ : Nat → Value → World → Prop) (R : World → World → Prop)
    (hm : P.follows .mixedOrders = true) (hB : stabB n l = true) (hstab : ∀ i v w w', R w w' → Φ i v w → Φ i v w') (hrf : ∀ a, R a a) (htr : ∀ a b c, R a b → R b c → R a c)
    (hobl : oblS P Φ R l σ w.drew l 0) (hend : ∀ σ' w', R w.drew w' → StEnd Φ l σ σ' w' → Q .normal σ' w') : wE P n (.region id l.toArray true) Q σ w := by
  intro a ha
  refine wp_region_any hm ?_
  refine wpAny_stable hB hstab hrf htr hobl hend _ _ a σ _ ha ⟨by simp, hrf _, ?_, fun _ _ => rfl, ?_⟩ ?_
  · intro j o t _ h; simp [Array.getElem?_replicate] at h
  · intro j o _ h; simp [Array.getElem?_replicate] at h
  · simp [cntT, List.count_replicate]
/-! ### A region that draws its order and whose operations leave the world alone but for draws: one walk, in the text's order -/
def quietU (P : Program) (w0 : World) (n : Nat) (v : Value) (r : Result Next) : Prop := Oper.quietUpon P (fun w' => ∃ m, w' = w0.drewN m) (w0.drewN n) v r
theorem quietU_value (P : Program) (w0 w' : World) (n : Nat) (v u : Value) : quietU P w0 n v (.ok (.value u) w') = (w' = w0.drewN n ∧ u = v) := rfl
theorem quietU_enter (P : Program) (w0 w' : World) (n : Nat) (v : Value) (f : FuncId) (args : Array Value) : quietU P w0 n v (.ok (.enter f args) w') = (w' = w0.drewN n ∧ Calls P f args (w0.drewN n) (fun e w'' => e = .returned v ∧ ∃ m, w'' = w0.drewN m)) := rfl
def qS (P : Program) (w0 : World) (Q : Env → Prop) : List SOp → Env → Prop
  | [], σ => Q σ
  | s :: rest, σ => (wantS σ s.g = true → ∃ v, (∀ n, quietU P w0 n v ((execOp (evalS σ) s.o).run P (w0.drewN n))) ∧ qS P w0 Q rest (putS σ s.o.dst v)) ∧
      (wantS σ s.g = false → qS P w0 Q rest (putS σ s.o.dst undef))
theorem wpQuiet_of_qS {P : Program} {ops : Array Oper} {w0 : World} {Q : Exit → Env → World → Prop} (n : Nat) :
    ∀ (l : List Oper) (a : Act) (σ : Env), (∀ o ∈ l, ∀ t, o.dst = some t → t < n) → Fr n a σ →
      qS P w0 (fun σ' => ∀ m, Q .normal σ' (w0.drewN m)) (l.map (stripO ops)) σ → wpQuiet P ops (fun w' => ∃ n, w' = w0.drewN n) (fun a' => ∀ w', (∃ n, w' = w0.drewN n) → frQ n Q .normal a' w') l a
  | [], a, σ, _, hf, h => by rintro w' ⟨m, rfl⟩; exact ⟨σ, hf, h m⟩
  | o :: l, a, σ, ho, hf, h => by
    obtain ⟨h1, h2⟩ := h
    have hlt : ∀ t, o.dst = some t → t < n := ho o (by simp)
    have ih := fun a σ => wpQuiet_of_qS (P := P) (ops := ops) (w0 := w0) (Q := Q) n l a σ (fun o ho' => ho o (by simp [ho']))
    unfold wpQuiet
    rw [show Region.wanted o (yielded ops a.tmps) = wantS σ (stripO ops o).g by rw [want_eq ops o a, hf.get]]
    split
    · rename_i hw
      obtain ⟨v, hv, hr⟩ := h1 hw
      refine ⟨v, ?_, ih _ _ (hf.put _ _ hlt) hr⟩
      rintro w' ⟨m, rfl⟩
      unfold Oper.quietAt
      rw [show execOp a.eval o = execOp (evalS σ) (stripO ops o).o by rw [hf.eval]; rfl]
      exact hv m
    · rename_i hw
      exact ih _ _ (hf.put _ _ hlt) (h2 (by simpa using hw))
section
variable {P : Program} {w0 : World} {Q : Env → Prop} {rest : List SOp} {σ : Env} {t : Tmp} {b : Bool} {d : Tmp} {op : Op} {ty : TypeId} {p : String} {af : Array Edge} {gd : Option (Nat × Bool)}
theorem qS_nil (h : Q σ) : qS P w0 Q [] σ := h
theorem qS_step (h : ∀ K : Value → Prop, Hid (∀ v, qS P w0 Q rest (upd σ d v) → K v) → ∃ v, (∀ n, quietU P w0 n v ((execOp (evalS σ) ⟨some d, op, ty, p, af, gd⟩).run P (w0.drewN n))) ∧ K v) : qS P w0 Q (⟨⟨some d, op, ty, p, af, gd⟩, none⟩ :: rest) σ :=
  ⟨fun _ => h (fun v => qS P w0 Q rest (upd σ d v)) (fun _ h => h), fun h => by simp [wantS] at h⟩
theorem qS_skip (hb : (boolS (σ t) == some b) = false) (h : qS P w0 Q rest (upd σ d undef)) : qS P w0 Q (⟨⟨some d, op, ty, p, af, gd⟩, some (some t, b)⟩ :: rest) σ :=
  ⟨fun h => by simp only [wantS] at h; rw [hb] at h; simp at h, fun _ => h⟩
theorem qS_want {o : Oper} (hb : (boolS (σ t) == some b) = true) (h : qS P w0 Q (⟨o, none⟩ :: rest) σ) : qS P w0 Q (⟨o, some (some t, b)⟩ :: rest) σ :=
  ⟨fun _ => h.1 rfl, fun h => by simp only [wantS] at h; rw [hb] at h; simp at h⟩
theorem qS_split (h : (boolS (σ t) == some b) = true → qS P w0 Q (⟨⟨some d, op, ty, p, af, gd⟩, none⟩ :: rest) σ) (h' : (boolS (σ t) == some b) = false → qS P w0 Q rest (upd σ d undef)) : qS P w0 Q (⟨⟨some d, op, ty, p, af, gd⟩, some (some t, b)⟩ :: rest) σ := by
  cases hb : (boolS (σ t) == some b)
  · exact qS_skip hb (h' hb)
  · exact qS_want hb (h hb)
end
theorem wE_quiet {P : Program} {n : Nat} {Q : Exit → Env → World → Prop} {σ : Env} {w : World} {id : Nat} {l : List Oper} (hm : P.follows .mixedOrders = true) (hB : Region.lexB .any l.toArray = true) (hd : dstsB n l = true)
    (h : qS P w (fun σ' => ∀ m, Q .normal σ' (w.drewN m)) (l.map (stripO l.toArray)) σ) : wE P n (.region id l.toArray true) Q σ w :=
  fun a ha => wp_region_quiet_lit hm hB (wpQuiet_of_qS n l a σ (dsts_of hd) ha h)
/-! ### The rule for a region that draws, with predicates in a list and the sources in a table -/
/-- Worlds grow: what lay there lies there as it was. -/
def Grow (w w' : World) : Prop := Below w.heap.size w w'
theorem Grow.refl (w : World) : Grow w w := Below.refl _ _
theorem Grow.trans {a b c : World} (h : Grow a b) (k : Grow b c) : Grow a c := Below.trans h (Below.mono k h.size)
theorem Grow.drew (w : World) : Grow w w.drew := (Below.refl _ _).drew
theorem Grow.drewN (w : World) (n : Nat) : Grow w (w.drewN n) := ⟨rfl, rfl, rfl, Nat.le_refl _, fun _ _ => rfl⟩
theorem Grow.alloc (w : World) (o : Obj) : Grow w (w.alloc o) := (Below.refl _ _).alloc (Nat.le_refl _) _
/-- A predicate of a value in a world that stays while worlds grow. -/
structure SP where
  p : Value → World → Prop
  st : ∀ v w w', Grow w w' → p v w → p v w'
def SP.any : SP := ⟨fun _ _ => True, fun _ _ _ _ _ => trivial⟩
def SP.val (V : Value) : SP := ⟨fun v _ => v = V, fun _ _ _ _ h => h⟩
theorem SP.any_p (v : Value) (w : World) : SP.any.p v w = True := rfl
theorem SP.val_p (V v : Value) (w : World) : (SP.val V).p v w = (v = V) := rfl
def SP.at (L : List SP) (i : Nat) (v : Value) (w : World) : Prop := (L.getD i SP.any).p v w
abbrev Tab := List (List (Tmp × Option Nat))
def tabOf (l : List Oper) : Tab := l.map fun o => (looksS l o).map fun t => (t, srcS l o t)
def factsT (L : List SP) (σ0 σ : Env) (w : World) : List (Tmp × Option Nat) → Prop
  | [] => True
  | (t, some j) :: ts => (L.getD j SP.any).p (σ t) w ∧ factsT L σ0 σ w ts
  | (t, none) :: ts => σ t = σ0 t ∧ factsT L σ0 σ w ts
def oneT (P : Program) (L : List SP) (σ0 : Env) (w0 : World) (s : SOp) (ts : List (Tmp × Option Nat)) (i : SP) : Prop :=
  ∀ σ w, Grow w0 w → factsT L σ0 σ w ts →
      (wantS σ s.g = true → stepS P (fun v w' => i.p v w' ∧ Grow w w') ((execOp (evalS σ) s.o).run P w)) ∧ (wantS σ s.g = false → i.p undef w)
def oblT (P : Program) (L : List SP) (σ0 : Env) (w0 : World) : List SOp → Tab → Nat → Prop
  | s :: rest, ts :: tab, i => oneT P L σ0 w0 s ts (L.getD i SP.any) ∧ oblT P L σ0 w0 rest tab (i + 1)
  | _, _, _ => True
theorem facts_T {L : List SP} {l : List Oper} {σ0 σ : Env} {w : World} {o : Oper} : ∀ (ts : List Tmp), factsS (SP.at L) l σ0 σ w o ts → factsT L σ0 σ w (ts.map fun t => (t, srcS l o t))
  | [], _ => trivial
  | t :: ts, h => by
    obtain ⟨h1, h2⟩ := h
    simp only [List.map_cons]
    cases hs : srcS l o t with
    | none => rw [hs] at h1; exact ⟨h1, facts_T ts h2⟩
    | some j => rw [hs] at h1; exact ⟨h1, facts_T ts h2⟩
theorem obl_T {P : Program} {L : List SP} {l : List Oper} {σ0 : Env} {w0 : World} : ∀ (m : List Oper) (i : Nat), oblT P L σ0 w0 (m.map (stripO l.toArray)) (m.map fun o => (looksS l o).map fun t => (t, srcS l o t)) i → oblS P (SP.at L) Grow l σ0 w0 m i
  | [], _, _ => trivial
  | o :: m, i, h => by
    simp only [List.map_cons, oblT] at h
    exact ⟨fun σ w hR hf => h.1 σ w hR (facts_T _ hf), obl_T m (i + 1) h.2⟩
def freeB (l : List Oper) (t : Tmp) : Bool := l.all fun o => o.dst != some t
/-- What is known behind the region. -/
structure TEnd (L : List SP) (l : List Oper) (σ0 σ : Env) (w : World) : Prop where
  at_ : ∀ (j : Nat) (t : Tmp), ((l[j]?).bind (·.dst)) = some t → (L.getD j SP.any).p (σ t) w
  old : ∀ t, freeB l t = true → σ t = σ0 t
theorem wE_draw {P : Program} {n : Nat} {Q : Exit → Env → World → Prop} {σ : Env} {w : World} {id : Nat} {l : List Oper} (L : List SP) (tab : Tab)
    (hm : P.follows .mixedOrders = true) (hB : stabB n l = true) (hT : tabOf l = tab)
    (hobl : oblT P L σ w.drew (l.map (stripO l.toArray)) tab 0) (hend : ∀ σ' w', Grow w w' → TEnd L l σ σ' w' → Q .normal σ' w') : wE P n (.region id l.toArray true) Q σ w := by
  subst hT
  refine wE_stable (SP.at L) Grow hm hB (fun i v w w' h => (L.getD i SP.any).st v w w' h) Grow.refl (fun _ _ _ => Grow.trans) (obl_T l 0 hobl) ?_
  rintro σ' w' hR ⟨h1, h2⟩
  refine hend σ' w' ((Grow.drew w).trans hR) ⟨fun j t ht => ?_, fun t ht => h2 t fun o ho => ?_⟩
  · cases hx : l[j]? with
    | none => rw [hx] at ht; simp at ht
    | some o => rw [hx] at ht; exact h1 j o t hx ht
  · have := List.all_eq_true.1 ht o ho
    simpa using this
theorem oneT_plain {P : Program} {L : List SP} {σ0 : Env} {w0 : World} {o : Oper} {ts : List (Tmp × Option Nat)} {i : SP} (h : ∀ σ w, Grow w0 w → factsT L σ0 σ w ts → stepS P (fun v w' => i.p v w' ∧ Grow w w') ((execOp (evalS σ) o).run P w)) : oneT P L σ0 w0 ⟨o, none⟩ ts i :=
  fun σ w hR hf => ⟨fun _ => h σ w hR hf, fun h => by simp [wantS] at h⟩
end Go.Proofs.YtnnppmcbgfadpaaGreatDoor
