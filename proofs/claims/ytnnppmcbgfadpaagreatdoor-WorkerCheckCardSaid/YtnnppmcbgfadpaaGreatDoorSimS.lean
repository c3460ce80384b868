/- The machine's steps in the pattern and in each world that fits: what is held against what. -/
import Derived.Test.YtnnppmcbgfadpaaGreatDoorSimR
import Derived.AtR
import Derived.RangeFuncIn
import Derived.Orders
namespace Go.Proofs.YtnnppmcbgfadpaaGreatDoor
open Go.RowKit
inductive RO (ρ : Ren) : Option Nat → Option Nat → Prop
  | none : RO ρ none none
  | some {l : Nat} {L : Loc} (h : ρ l = some L) : RO ρ (some l) (some L.blk)
theorem RO.mono {ρ ρ' : Ren} (hle : ρ.le ρ') {a b : Option Nat} (h : RO ρ a b) : RO ρ' a b := by
  cases h with
  | none => exact .none
  | some h => exact .some (hle _ _ h)
inductive IR (ρ : Ren) : PI → Item → Prop
  | code (c : Code) : IR ρ (.code c) (.code c)
  | inBlock (id : Nat) : IR ρ (.inBlock id) (.inBlock id)
  | inLoop (c : Code) : IR ρ (.inLoop c) (.inLoop c)
  | inScope (c : Code) : IR ρ (.inScope c) (.inScope c)
  | inRegion (ops : Array Oper) (i : Nat) {l : List Oper} {m : List Nat} (hl : l = ops.toList.drop i) (hm : m = (List.range ops.size).drop i) : IR ρ (.inRegion ops l) (.inRegion ops m)
  | inRange {l : Nat} {L : Loc} (h : ρ l = some L) : IR ρ (.inRange l) (.inRangeFunc L.blk)
  | endRange {l : Nat} {L : Loc} (h : ρ l = some L) : IR ρ (.endRange l) (.endRangeFunc L.blk)
  | beginRound : IR ρ .beginRound .beginRound
theorem IR.mono {ρ ρ' : Ren} (hle : ρ.le ρ') {a : PI} {b : Item} (h : IR ρ a b) : IR ρ' a b := by
  cases h with
  | code c => exact .code c
  | inBlock id => exact .inBlock id
  | inLoop c => exact .inLoop c
  | inScope c => exact .inScope c
  | inRegion ops i hl hm => exact .inRegion ops i hl hm
  | inRange h => exact .inRange (hle _ _ h)
  | endRange h => exact .endRange (hle _ _ h)
  | beginRound => exact .beginRound
inductive IRs (ρ : Ren) : List PI → List Item → Prop
  | nil : IRs ρ [] []
  | cons {a : PI} {b : Item} {l : List PI} {m : List Item} (h : IR ρ a b) (hl : IRs ρ l m) : IRs ρ (a :: l) (b :: m)
theorem IRs.mono {ρ ρ' : Ren} (hle : ρ.le ρ') {a : List PI} {b : List Item} (h : IRs ρ a b) : IRs ρ' a b := by
  induction h with
  | nil => exact .nil
  | cons h _ ih => exact .cons (h.mono hle) ih
theorem exit_rel {ρ : Ren} (id : Nat) {l : List PI} {m : List Item} (h : IRs ρ l m) : (∀ k, pexitTo id l = some k → ∃ k', exitTo id m = some k' ∧ IRs ρ k k') ∧ (pexitTo id l = none → exitTo id m = none) := by
  induction h with
  | nil => exact ⟨fun k hk => by simp [pexitTo] at hk, fun _ => rfl⟩
  | @cons a b l m h hl ih =>
    cases h with
    | inBlock id' =>
      simp only [pexitTo, exitTo]
      split
      · exact ⟨fun k hk => by cases hk; exact ⟨m, rfl, hl⟩, fun hk => by cases hk⟩
      · exact ih
    | _ => simpa only [pexitTo, exitTo] using ih
inductive DsR (ρ : Ren) : List Deferred → List Deferred → Prop
  | nil : DsR ρ [] []
  | cons {a b : Deferred} {l m : List Deferred} (h : DfR ρ a b) (hl : DsR ρ l m) : DsR ρ (a :: l) (b :: m)
theorem DsR.mono {ρ ρ' : Ren} (hle : ρ.le ρ') {a b : List Deferred} (h : DsR ρ a b) : DsR ρ' a b := by
  induction h with
  | nil => exact .nil
  | cons h _ ih => exact .cons ⟨h.target.mono hle, h.args.mono hle⟩ ih
structure FB (ρ : Ren) (pf : PF) (b : Frame) : Prop where
  fn : b.fn = pf.fn
  kind : b.kind = pf.kind
  round : RO ρ pf.roundOf b.roundOf
theorem FB.mono {ρ ρ' : Ren} (hle : ρ.le ρ') {pf : PF} {b : Frame} (h : FB ρ pf b) : FB ρ' pf b := ⟨h.fn, h.kind, h.round.mono hle⟩
/-- The static facts of a drawn region. -/
structure DrawOk (n : Nat) (ops : List Oper) (plan : List (Option Nat × Nat × Nat)) : Prop where
  len : plan.length = ops.length
  op : ∀ i, i < ops.length → opOk n ops plan i = true
/-- How far a drawn region has come. -/
structure DrawSt (ρ : Ren) (ops : List Oper) (plan : List (Option Nat × Nat × Nat)) (k : Nat) (vals : List (Nat × Value)) (tmps : List Value) (tm : Array Value) (listed : Array Bool) : Prop where
  ok : DrawOk tmps.length ops plan
  size : listed.size = ops.length
  kle : k ≤ effN plan
  closed : ∀ (j : Nat) (o : Oper), ops[j]? = some o → listed[j]? = some true → ∀ e ∈ depsP o, listed[e]? = some true
  eff : ∀ (j e lo hi : Nat), plan[j]? = some (some e, lo, hi) → (listed[j]? = some true ↔ e < k)
  tsize : tm.size = tmps.length
  done : ∀ (j : Nat) (o : Oper), ops[j]? = some o → listed[j]? = some true → ∃ v, valOf vals j = some v ∧ ∀ t, o.dst = some t → ∃ v', tm[t]? = some v' ∧ VR ρ v v'
  old : ∀ t : Nat, (∀ (j : Nat) (o : Oper), ops[j]? = some o → listed[j]? = some true → o.dst ≠ some t) → ∀ v v', tmps[t]? = some v → tm[t]? = some v' → VR ρ v v'
theorem DrawSt.mono {ρ ρ' : Ren} (hle : ρ.le ρ') {ops : List Oper} {plan : List (Option Nat × Nat × Nat)} {k : Nat} {vals : List (Nat × Value)} {tmps : List Value} {tm : Array Value} {listed : Array Bool} (h : DrawSt ρ ops plan k vals tmps tm listed) : DrawSt ρ' ops plan k vals tmps tm listed :=
  ⟨h.ok, h.size, h.kle, h.closed, h.eff, h.tsize, fun j o a b => by
    obtain ⟨v, h1, h2⟩ := h.done j o a b
    exact ⟨v, h1, fun t ht => by obtain ⟨v', h3, h4⟩ := h2 t ht; exact ⟨v', h3, h4.mono hle⟩⟩, fun t ht v v' a b => (h.old t ht v v' a b).mono hle⟩
/-- All that may be read at this stage reads as it is noted. -/
def Settled (P : Program) (ops : List Oper) (plan : List (Option Nat × Nat × Nat)) (tmps : List Value) (w : PW) (k : Nat) (vals : List (Nat × Value)) : Prop :=
  ∀ (i : Nat) (o : Oper) (lo hi : Nat), ops[i]? = some o → plan[i]? = some (none, lo, hi) → lo ≤ k → k ≤ hi → ∃ v, readOne P ops tmps vals w o = some v ∧ valOf vals i = some v
def unlisted (listed : Array Bool) : Nat := (listed.toList.filter (!·)).length
/-- The body of a frame that waits for a value, or runs undrawn. -/
inductive BodyW (ρ : Ren) : List Value → List PI → Array Value → List Item → Prop
  | plain {tmps : List Value} {todo : List PI} {tm : Array Value} {items : List Item} (ha : AR ρ tmps.toArray tm) (hi : IRs ρ todo items) : BodyW ρ tmps todo tm items
  | draw {tmps : List Value} {ops : List Oper} {plan : List (Option Nat × Nat × Nat)} {k : Nat} {vals : List (Nat × Value)} {rest : List PI} {tm : Array Value} {listed : Array Bool} {items : List Item} {i fuel t : Nat} {o : Oper}
      (hs : DrawSt ρ ops plan k vals tmps tm listed) (hi : IRs ρ rest items) (he : effAt ops plan k = some (i, o)) (hl : listed[i]? = some false) (hd : ∀ e ∈ depsP o, listed[e]? = some true) (hf : fuel + 1 = unlisted listed) :
      BodyW ρ tmps (.draw ops plan k vals :: rest) tm (.inRegion ops.toArray (i :: Region.linearise.go .any ops.toArray fuel t (listed.setIfInBounds i true) []) :: items)
inductive BodyA (P : Program) (ρ : Ren) (pw : PW) : List Value → List PI → Array Value → List Item → Prop
  | plain {tmps : List Value} {todo : List PI} {tm : Array Value} {items : List Item} (ha : AR ρ tmps.toArray tm) (hi : IRs ρ todo items) : BodyA P ρ pw tmps todo tm items
  | draw {tmps : List Value} {ops : List Oper} {plan : List (Option Nat × Nat × Nat)} {k : Nat} {vals : List (Nat × Value)} {rest : List PI} {tm : Array Value} {listed : Array Bool} {items : List Item} {fuel t : Nat}
      (hs : DrawSt ρ ops plan k vals tmps tm listed) (hset : Settled P ops plan tmps pw k vals) (hi : IRs ρ rest items) (hf : fuel = unlisted listed) :
      BodyA P ρ pw tmps (.draw ops plan k vals :: rest) tm (.inRegion ops.toArray (Region.linearise.go .any ops.toArray fuel t listed []) :: items)
inductive FmR (B : List Value → List PI → Array Value → List Item → Prop) (ρ : Ren) : PF → Frame → Prop
  | run {pf : PF} {b : Frame} {tm : Array Value} {df : List Deferred} {todo : List Item} (hb : FB ρ pf b) (hret : pf.ret = false) (ht : B pf.tmps pf.todo tm todo) (hd : DsR ρ pf.defers df) : FmR B ρ pf (b.atR ⟨tm, df⟩ todo)
  | ret {pf : PF} {b : Frame} {tm : Array Value} {df : List Deferred} {todo : List Item} (hb : FB ρ pf b) (hret : pf.ret = true) (ht : AR ρ pf.tmps.toArray tm) (hd : DsR ρ pf.defers df) : FmR B ρ pf { b.atR ⟨tm, df⟩ todo with mode := .returning }
theorem BodyW.mono {ρ ρ' : Ren} (hle : ρ.le ρ') {tmps : List Value} {todo : List PI} {tm : Array Value} {items : List Item} (h : BodyW ρ tmps todo tm items) : BodyW ρ' tmps todo tm items := by
  cases h with
  | plain ha hi => exact .plain (ha.mono hle) (hi.mono hle)
  | draw hs hi he hl hd hf => exact .draw (hs.mono hle) (hi.mono hle) he hl hd hf
abbrev FRw (ρ : Ren) : PF → Frame → Prop := FmR (BodyW ρ) ρ
abbrev FRa (P : Program) (ρ : Ren) (pw : PW) : PF → Frame → Prop := FmR (BodyA P ρ pw) ρ
theorem FRw.mono {ρ ρ' : Ren} (hle : ρ.le ρ') {pf : PF} {fr : Frame} (h : FRw ρ pf fr) : FRw ρ' pf fr := by
  cases h with
  | run hb hret ht hd => exact .run (hb.mono hle) hret (ht.mono hle) (hd.mono hle)
  | ret hb hret ht hd => exact .ret (hb.mono hle) hret (ht.mono hle) (hd.mono hle)
inductive FRs (ρ : Ren) : List PF → List Frame → Prop
  | nil : FRs ρ [] []
  | cons {a : PF} {b : Frame} {l : List PF} {m : List Frame} (h : FRw ρ a b) (hl : FRs ρ l m) : FRs ρ (a :: l) (b :: m)
theorem FRs.mono {ρ ρ' : Ren} (hle : ρ.le ρ') {a : List PF} {b : List Frame} (h : FRs ρ a b) : FRs ρ' a b := by
  induction h with
  | nil => exact .nil
  | cons h _ ih => exact .cons (h.mono hle) ih
structure CR (P : Program) (w0 : World) (ρ : Ren) (c : PC) (fr : Frame) (cs : List Frame) (w : World) : Prop where
  fr : FRa P ρ c.w c.fr fr
  cs : FRs ρ c.cs cs
  wr : ∃ W, Rel c.w W ∧ HR P w0 ρ W w
/-- Where a step of the pattern leads, the machine comes. -/
def Goes (P : Program) (w0 : World) (ρ : Ren) (c' : PC) (fr : Frame) (cs : List Frame) (w : World) : Prop :=
  ∃ ρ' fr' cs' w', ρ.le ρ' ∧ (∀ base, Steps P (lone fr (cs ++ base) w) (lone fr' (cs' ++ base) w')) ∧ CR P w0 ρ' c' fr' cs' w'
section
variable {P : Program} {w0 : World} {ρ : Ren} {W w : World} {pw pw' : PW}
theorem AR_getD {a a' : Array Value} (h : AR ρ a a') (t : Nat) : VR ρ (a.getD t undef) (a'.getD t undef) := by
  rw [Array.getD_eq_getD_getElem?, Array.getD_eq_getD_getElem?]
  cases hv : a[t]? with
  | none => rw [h.none hv]; exact .tuple rfl fun i v v' hv => by simp at hv
  | some v => obtain ⟨v', h1, h2⟩ := h.some hv; rw [h1]; exact h2
theorem func_VR (f : FuncId) : VR ρ (.func (.func f) #[] #[]) (.func (.func f) #[] #[]) :=
  .func _ (fun l e => by cases e) rfl rfl (fun i v v' h => by simp at h) (fun i v v' h => by simp at h)
theorem pev_rel {tmps : List Value} {tm : Array Value} {df : List Deferred} (ha : AR ρ tmps.toArray tm) (x : Operand) (hx : okArg x = true) : VR ρ (pev tmps x) ((⟨tm, df⟩ : Act).eval x) := by
  cases x with
  | tmp t =>
    have := AR_getD ha t
    rw [Array.getD_eq_getD_getElem?, List.getElem?_toArray] at this
    show VR ρ (tmps.getD t undef) (tm.getD t undef)
    rw [List.getD_eq_getElem?_getD]
    exact this
  | const v => exact plain_VR ρ 3 v hx
  | func f => exact func_VR f
  | global g => cases hx
theorem setD_AR {tmps : List Value} {tm : Array Value} (ha : AR ρ tmps.toArray tm) (d : Option Tmp) {v v' : Value} (hv : VR ρ v v') (df : List Deferred) : AR ρ (setD tmps d v).toArray ((⟨tm, df⟩ : Act).put d v').tmps := by
  cases d with
  | none => exact ha
  | some d =>
    show AR ρ (tmps.set d v).toArray (tm.setIfInBounds d v')
    have := ha.set d hv
    rwa [← List.setIfInBounds_toArray] 
end
end Go.Proofs.YtnnppmcbgfadpaaGreatDoor
