/- Each operation of the pattern stands for the operation in a world that fits: what is plain, calls, the operations one by one. -/
import Derived.Test.YtnnppmcbgfadpaaGreatDoorSimL
namespace Go.Proofs.YtnnppmcbgfadpaaGreatDoor
open Go.RowKit
theorem map_pair {α : Type} {ev ev' : Operand → Value} {l : Array (α × Operand)} (h : ∀ x ∈ (l.toList.map (·.2)), ev x = ev' x) : l.map (fun (i, x) => (i, ev x)) = l.map (fun (i, x) => (i, ev' x)) := by
  apply Array.map_congr_left
  rintro ⟨i, x⟩ hx
  have : ev x = ev' x := h x (List.mem_map.2 ⟨(i, x), Array.mem_toList_iff.2 hx, rfl⟩)
  simp [this]
theorem map_ops {ev ev' : Operand → Value} {l : Array Operand} (h : ∀ x ∈ l.toList, ev x = ev' x) : l.map ev = l.map ev' :=
  Array.map_congr_left fun x hx => h x (Array.mem_toList_iff.2 hx)
theorem opt_ops {ev ev' : Operand → Value} {l : Option Operand} (h : ∀ x ∈ l.toArray.toList, ev x = ev' x) : l.map ev = l.map ev' := by
  cases l with
  | none => rfl
  | some x => simp only [Option.map_some]; rw [h x (by simp)]
theorem resolve_congr {ev ev' : Operand → Value} {c : Call} {t : TypeId} (h : ∀ x ∈ c.operands.toList, ev x = ev' x) : resolve ev c t = resolve ev' c t := by
  obtain ⟨callee, args, ts⟩ := c
  have ha : args.map ev = args.map ev' := map_ops fun x hx => h x (by unfold Call.operands; cases callee <;> simp [hx, Array.mem_toList_iff.1 hx])
  unfold resolve
  simp only [ha]
  cases callee with
  | value f => simp only [h f (by simp [Call.operands])]
  | invoke r m => simp only [h r (by simp [Call.operands])]
  | builtin b => rfl
/-- The operations that the pattern knows. -/
def known : Op → Bool
  | .select .. | .send .. | .recv .. | .go _ => false
  | _ => true
theorem execOp_congr {ev ev' : Operand → Value} {o : Oper} (hk : known o.op = true) (h : ∀ x ∈ o.op.operands.toList, ev x = ev' x) : execOp ev o = execOp ev' o := by
  obtain ⟨dst, op, ty, pos, after, guard⟩ := o
  simp only at h hk
  unfold execOp
  cases op with
  | select | send | recv | go => cases hk
  | build t ps => simp only [Op.operands] at h; simp only [map_pair h]
  | buildSlice t n ps => simp only [Op.operands] at h; simp only [map_pair h]
  | makeFunc fn first cap =>
    simp only [Op.operands, Array.toList_append, List.mem_append] at h
    simp only [map_ops fun x hx => h x (.inl hx), map_ops fun x hx => h x (.inr hx)]
  | makeMap t r => simp only [Op.operands] at h; simp only [opt_ops h]
  | slice t x lo hi mx =>
    simp only [Op.operands, Array.toList_append, List.mem_append] at h
    simp only [h x (.inl (.inl (.inl (by simp)))), opt_ops fun x hx => h x (.inl (.inl (.inr hx))), opt_ops fun x hx => h x (.inl (.inr hx)), opt_ops fun x hx => h x (.inr hx)]
  | call c => simp only [Op.operands] at h; simp only [resolve_congr h]
  | defer c => simp only [Op.operands] at h; simp only [resolve_congr h]
  | _ =>
    simp only [Op.operands, List.mem_cons, List.not_mem_nil, or_false, forall_eq_or_imp, forall_eq] at h
    simp only [h]
/-- What an operation hands on. -/
inductive TR (ρ : Ren) : Target → Target → Prop
  | fn (g : FuncId) {c c' : Array Value} (h : AR ρ c c') : TR ρ (.fn (.func g) c) (.fn (.func g) c')
  | coll {r : Nat} {L : Loc} (h : ρ r = some L) : TR ρ (.collected r) (.collected L.blk)
theorem TR.mono {ρ ρ' : Ren} (hle : ρ.le ρ') {t t' : Target} (h : TR ρ t t') : TR ρ' t t' := by
  cases h with
  | fn g h => exact .fn g (h.mono hle)
  | coll h => exact .coll (hle _ _ h)
structure DfR (ρ : Ren) (d d' : Deferred) : Prop where
  target : TR ρ d.target d'.target
  args : AR ρ d.args d'.args
inductive NR (ρ : Ren) : Next → Next → Prop
  | value {v v' : Value} (h : VR ρ v v') : NR ρ (.value v) (.value v')
  | skip : NR ρ .skip .skip
  | enter (f : FuncId) {a a' : Array Value} (h : AR ρ a a') : NR ρ (.enter f a) (.enter f a')
  | round {l : Nat} {L : Loc} (h : ρ l = some L) (f : FuncId) {t t' : Array Value} (ht : AR ρ t t') (a b : Code) : NR ρ (.round l f t a b) (.round L.blk f t' a b)
  | defer {d d' : Deferred} (h : DfR ρ d d') : NR ρ (.defer d) (.defer d')
  | recover : NR ρ .recover .recover
section
variable {P : Program} {w0 : World} {q : Bool} {ρ : Ren} {W w : World} {pw pw' : PW}
theorem simV {m m' : Sem Value} (h : Sim P w0 q ρ VR m m') : Sim P w0 q ρ NR (do pure (.value (← m))) (do pure (.value (← m'))) :=
  sim_bind h fun _ _ _ _ hv => sim_pure fun _ hle => .value (hv.mono hle)
theorem simU {α : Type} {m m' : Sem Unit} {R : Ren → Unit → Unit → Prop} (h : Sim P w0 q ρ R m m') : Sim P w0 q ρ NR (do m; pure .skip) (do m'; pure .skip) :=
  sim_bind h fun _ _ _ _ _ => sim_pure fun _ _ => .skip
/-- What is asked of an operation: the same, up to where the blocks lie. -/
def Good (P : Program) (w0 : World) (ρ : Ren) (p : Bool) (nx : Next) (pw' : PW) (w : World) (m' : Sem Next) : Prop :=
  ∃ ρ' nx' w' W', ρ.le ρ' ∧ m'.run P w = .ok nx' w' ∧ NR ρ' nx nx' ∧ Rel pw' W' ∧ HR P w0 ρ' W' w' ∧ (p = true → ρ' = ρ ∧ w' = w)
theorem good_sim {p : Bool} {m m' : Sem Next} {nx : Next} (hs : Sim P w0 p ρ NR m m') (h : runP P m pw = some (nx, pw')) (hrel : Rel pw W) (hr : HR P w0 ρ W w) : Good P w0 ρ p nx pw' w m' := by
  obtain ⟨W', h1, h2⟩ := runP_run _ _ _ _ _ h hrel
  obtain ⟨ρ2, a', w', x1, x2, x3, x4, x5⟩ := hs ρ (Ren.le_refl _) W w hr nx W' h1
  exact ⟨ρ2, a', w', W', x1, x2, x3, h2, x4, fun hp => ⟨(x5 hp).1, (x5 hp).2.2⟩⟩
theorem good_same {p : Bool} {m' : Sem Next} {v v' : Value} (hrun : m'.run P w = .ok (.value v') w) (hv : VR ρ v v') (hrel : Rel pw W) (hr : HR P w0 ρ W w) : Good P w0 ρ p (.value v) pw w m' :=
  ⟨ρ, _, w, W, Ren.le_refl _, hrun, .value hv, hrel, hr, fun _ => ⟨rfl, rfl⟩⟩
end
end Go.Proofs.YtnnppmcbgfadpaaGreatDoor
