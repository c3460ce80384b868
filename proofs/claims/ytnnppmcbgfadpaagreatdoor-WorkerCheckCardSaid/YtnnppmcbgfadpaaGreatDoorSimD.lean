/- The operations of the model in a pattern and in what fits it. -/
import Derived.Test.YtnnppmcbgfadpaaGreatDoorSimC
namespace Go.Proofs.YtnnppmcbgfadpaaGreatDoor
open Go.RowKit
/-- The zero values hold no address. -/
def ZeroPlain (P : Program) (t : TypeId) : Prop := ∀ i v, P.info? t = some i → i.zero = some v → plainV 3 v = true
theorem plain_eq {ρ : Ren} : ∀ (n : Nat) (v v' : Value), plainV n v = true → VR ρ v v' → v' = v := by
  have arr : ∀ (n : Nat), (∀ (v v' : Value), plainV n v = true → VR ρ v v' → v' = v) → ∀ (cs cs' : Array Value), cs.toList.all (plainV n) = true → cs.size = cs'.size → (∀ (i : Nat) (v v' : Value), cs[i]? = some v → cs'[i]? = some v' → VR ρ v v') → cs' = cs := by
    intro n ih cs cs' h hs hg
    refine Array.ext hs.symm fun i h1 h2 => ?_
    refine ih _ _ ?_ (hg i _ _ (Array.getElem?_eq_getElem h2) (Array.getElem?_eq_getElem h1))
    exact List.all_eq_true.1 h _ (Array.mem_toList_iff.2 (Array.getElem_mem h2))
  intro n
  induction n with
  | zero =>
    intro v v' h hv
    unfold plainV at h
    split at h <;> first | (cases h; done) | (rename_i heq; cases heq; done) | (cases hv; rfl)
  | succ n ih =>
    intro v v' h hv
    unfold plainV at h
    split at h
    all_goals first
      | (rename_i heq; cases heq; simp only [Bool.and_eq_true] at h; cases hv with | func fn hy hf hc h1 h2 => rw [arr n ih _ _ h.1 hf h1, arr n ih _ _ h.2 hc h2])
      | (rename_i heq; cases heq; cases hv with | iface t hv => rw [ih _ _ h hv])
      | (rename_i heq; cases heq; cases hv with | agg hs hg => rw [arr n ih _ _ h hs hg])
      | (rename_i heq; cases heq; cases hv with | tuple hs hg => rw [arr n ih _ _ h hs hg])
      | (cases h; done)
      | (cases hv; rfl)
/-- A run that looks at the program alone. -/
def quick (P : Program) {α : Type} : Sem α → Option α
  | .pure a => some a
  | .program k => quick P (k P)
  | .mark _ k => quick P k
  | _ => none
theorem quick_run {P : Program} {α : Type} : ∀ (m : Sem α) (a : α), quick P m = some a → ∀ w, m.run P w = .ok a w
  | .pure b, a, h, w => by simp only [quick, Option.some.injEq] at h; subst h; rfl
  | .program k, a, h, w => by simp only [quick] at h; exact quick_run (k P) a h w
  | .mark _ k, a, h, w => by simp only [quick] at h; exact quick_run k a h w
  | .load .., a, h, w | .store .., a, h, w | .new .., a, h, w | .shape .., a, h, w | .freeze .., a, h, w | .frozen .., a, h, w | .getObj .., a, h, w | .setObj .., a, h, w | .choose .., a, h, w | .sys .., a, h, w
  | .halt .., a, h, w => by simp [quick] at h
section
variable {P : Program} {w0 : World} {q : Bool} {ρ : Ren} {W w : World}
theorem sim_quick {α : Type} {m : Sem α} {a : α} (h : quick P m = some a) : Sim P w0 q ρ (fun _ x x' => x = a ∧ x' = a) m m := by
  intro ρ1 h1 W w hr b W' e
  rw [quick_run m a h W] at e
  cases e
  exact ⟨ρ1, a, w, Ren.le_refl _, quick_run m a h w, ⟨rfl, rfl⟩, hr, fun _ => ⟨rfl, rfl, rfl⟩⟩
theorem sim_zeroValue {t : TypeId} (hz : ZeroPlain P t) : Sim P w0 q ρ (fun _ v v' => v = v' ∧ plainV 3 v = true) (zeroValue t) (zeroValue t) := by
  unfold zeroValue
  refine sim_bind (sim_fixed (fixed_typeInfo t)) fun ρ1 i i' hle hi => ?_
  obtain ⟨rfl, hrun⟩ := hi
  cases hzz : i.zero with
  | none => exact sim_halt
  | some v =>
    refine sim_pure fun _ _ => ⟨rfl, hz i v ?_ hzz⟩
    have := hrun default
    unfold typeInfo at this
    simp only [Sem.run_bind] at this
    have e : (program.run P (default : World)) = .ok P default := rfl
    rw [e, Result.andThen_ok] at this
    cases hinfo : P.info? t with
    | none => rw [hinfo] at this; cases this
    | some j => rw [hinfo] at this; cases this; rfl
theorem plain_refl {v : Value} (h : plainV 3 v = true) (ρ : Ren) : VR ρ v v := plain_VR ρ 3 v h
theorem sim_alloc {t : TypeId} (hz : ZeroPlain P t) : Sim P w0 false ρ VR (Instr.alloc t true (.tuple #[])) (Instr.alloc t true (.tuple #[])) := by
  unfold Instr.alloc
  refine sim_bind (sim_zeroValue hz) fun ρ1 v v' hle hv => ?_
  obtain ⟨rfl, hp⟩ := hv
  refine sim_bind (sim_newVar t (plain_refl hp ρ1)) fun ρ2 a a' hle2 ha => ?_
  refine sim_pure fun ρ3 hle3 => ?_
  obtain ⟨b, o, L, h1, rfl, rfl⟩ := ha
  exact .ptr (hle3 _ _ h1)
theorem DR.ptr {a a' : Addr} (h : DR ρ a a') : VR ρ (.pointer (some a)) (.pointer (some a')) := by
  obtain ⟨b, o, L, h1, rfl, rfl⟩ := h; exact .ptr h1
theorem sim_box (t : TypeId) {v v' : Value} (hv : VR ρ v v') : Sim P w0 false ρ VR (Instr.box t v) (Instr.box t v') := by
  unfold Instr.box
  exact sim_bind (sim_newVar t hv) fun ρ2 a a' hle2 ha => sim_pure fun ρ3 hle3 => (ha.mono hle3).ptr
theorem sim_sureAddr {v v' : Value} (hv : VR ρ v v') : Sim P w0 q ρ DR (Instr.sureAddr v) (Instr.sureAddr v') := by
  cases hv with
  | ptr h => exact sim_pure fun ρ1 hle => ⟨_, _, _, hle _ _ h, rfl, rfl⟩
  | _ => exact sim_halt
theorem sim_loadAt (t : TypeId) {v v' : Value} (hv : VR ρ v v') : Sim P w0 q ρ VR (Instr.loadAt t v) (Instr.loadAt t v') :=
  sim_bind (sim_sureAddr hv) fun _ _ _ _ ha => sim_loadVar ha t
theorem sim_storeAt (t : TypeId) {v v' x x' : Value} (hv : VR ρ v v') (hx : VR ρ x x') : Sim P w0 false ρ (fun _ _ _ => True) (Instr.storeAt t v x) (Instr.storeAt t v' x') :=
  sim_bind (sim_sureAddr hv) fun _ _ _ hle ha => sim_storeVar ha t (hx.mono hle)
theorem sim_makeInterface (t : TypeId) {v v' : Value} (hv : VR ρ v v') : Sim P w0 q ρ VR (Instr.makeInterface t v) (Instr.makeInterface t v') := by
  unfold Instr.makeInterface
  refine sim_bind (sim_fixed (fixed_underlying t)) fun ρ1 d d' hle hd => ?_
  obtain ⟨rfl, _⟩ := hd
  split
  · exact sim_halt
  · exact sim_pure fun ρ2 hle2 => .iface _ ((hv.mono hle).mono hle2)
theorem sim_extract {v v' : Value} (hv : VR ρ v v') (i : Nat) : Sim P w0 q ρ VR (Instr.extract v i) (Instr.extract v' i) := by
  unfold Instr.extract
  cases hv with
  | tuple hs h =>
    rename_i cs cs'
    have ha : AR ρ cs cs' := ⟨hs, h⟩
    simp only []
    cases hc : cs[i]? with
    | none => exact sim_halt
    | some x =>
      obtain ⟨x', hx', hv⟩ := ha.some hc
      rw [hx']
      exact sim_pure fun ρ1 hle => hv.mono hle
  | _ => exact sim_halt
theorem sim_asAgg {v v' : Value} (hv : VR ρ v v') : Sim P w0 q ρ AR (asAgg v) (asAgg v') := by
  cases hv with
  | agg hs h => exact sim_pure fun ρ1 hle => AR.mono hle ⟨hs, h⟩
  | _ => exact sim_halt
theorem sim_part (t : TypeId) {cs cs' : Array Value} (h : AR ρ cs cs') (o : Nat) : Sim P w0 q ρ VR (part t cs o) (part t cs' o) := by
  unfold part
  refine sim_bind (sim_fixed (fixed_isAgg t)) fun ρ1 x x' hle hx => ?_
  obtain ⟨rfl, _⟩ := hx
  cases x with
  | true =>
    refine sim_bind (sim_fixed (fixed_sizeOf t)) fun ρ2 n n' hle2 hn => ?_
    obtain ⟨rfl, _⟩ := hn
    refine sim_pure fun ρ3 hle3 => ?_
    have := (((h.mono hle).mono hle2).mono hle3).extract o (o + n)
    exact .agg this.size this.get
  | false =>
    simp only [Bool.false_eq_true, if_false]
    cases hc : cs[o]? with
    | none => exact sim_halt
    | some y =>
      obtain ⟨y', hy', hv⟩ := (h.mono hle).some hc
      rw [hy']
      exact sim_pure fun ρ2 hle2 => hv.mono hle2
theorem sim_field (t : TypeId) {v v' : Value} (hv : VR ρ v v') (i : Nat) : Sim P w0 q ρ VR (Instr.field t v i) (Instr.field t v' i) := by
  unfold Instr.field
  refine sim_bind (sim_fixed (fixed_underlying t)) fun ρ1 d d' hle hd => ?_
  obtain ⟨rfl, _⟩ := hd
  split
  · split
    · exact sim_bind (sim_asAgg (hv.mono hle)) fun ρ2 c c' hle2 hc => sim_part _ hc _
    · exact sim_halt
  · exact sim_halt
/-- A field that takes room. -/
def FieldRoom (P : Program) (t : TypeId) (i : Nat) : Prop := ∀ fs f n, (∀ w, (underlying t).run P w = .ok (.struct fs) w) → fs[i]? = some f → (∀ w, (sizeOf f.type).run P w = .ok n w) → n ≠ 0
theorem sim_fieldAt (t : TypeId) {v v' : Value} (hv : VR ρ v v') (i : Nat) (hnz : FieldRoom P t i) : Sim P w0 q ρ VR (Instr.fieldAt t v i) (Instr.fieldAt t v' i) := by
  unfold Instr.fieldAt
  refine sim_bind (sim_fixed (fixed_underlying t)) fun ρ1 d d' hle hd => ?_
  obtain ⟨rfl, hrun⟩ := hd
  split
  · rename_i fs
    split
    · rename_i f hf
      refine sim_bind (sim_sureAddr (hv.mono hle)) fun ρ2 a a' hle2 ha => ?_
      unfold fieldPlace
      refine sim_bind (RA := DR) ?_ fun ρ3 a a' hle3 ha => sim_pure fun ρ4 hle4 => (ha.mono hle4).ptr
      refine sim_bind (sim_fixed (fixed_sizeOf _)) fun ρ3 n n' hle3 hn => ?_
      obtain ⟨rfl, hrun2⟩ := hn
      split
      · rename_i h0; exact (hnz fs f n hrun hf hrun2 h0).elim
      · exact sim_pure fun ρ4 hle4 => ((ha.mono hle3).mono hle4).add _
    · exact sim_halt
  · exact sim_halt
theorem sim_asIntOf {v v' : Value} (hv : VR ρ v v') : Sim P w0 q ρ (fun _ x x' => x = x') (asIntOf v) (asIntOf v') := by
  cases hv with
  | int k n => exact sim_pure fun _ _ => rfl
  | ptr h => exact sim_halt
  | _ => exact sim_halt
theorem sim_panic {α α' : Type} {R : Ren → α → α' → Prop} {m' : Sem α'} (e : RuntimeError) : Sim P w0 q ρ R (runtimePanic e) m' := by
  intro ρ1 h1 W w hr a W' h
  exfalso
  revert h
  unfold runtimePanic
  rw [Sem.run_bind]
  have e0 : (program.run P W) = .ok P W := rfl
  rw [e0, Result.andThen_ok]
  cases e <;> simp only [] <;> try (intro h; cases h; done)
  all_goals
    intro h
    simp only [Sem.run_bind] at h
    revert h
    cases (elemOf _).run P W <;> intro h <;> simp only [Result.andThen_ok, Result.andThen_halt] at h <;> first | (cases h; done) | skip
    all_goals
      revert h
      generalize (newVar _ _).run P _ = r
      intro h
      cases r <;> simp only [Result.andThen_ok, Result.andThen_halt] at h <;> cases h
theorem sim_bounds {α α' : Type} {R : Ren → α → α' → Prop} {m' : Sem α'} (k : IntKind) (x y : Int) (c : BoundsCode) : Sim P w0 q ρ R (boundsPanic k x y c) m' := by
  intro ρ1 h1 W w hr a W' h
  exfalso
  have key : ∀ (b : Bool) (W1 : World), (runtimePanic (.bounds (IntKind.i64.wrap x) y b c) : Sem α).run P W1 ≠ .ok a W' := by
    intro b W1 h; unfold runtimePanic at h; cases h
  unfold boundsPanic at h
  dsimp only at h
  split at h
  · rw [Sem.run_bind] at h
    generalize Sem.run P _ W = r at h
    cases r with
    | halt _ _ => cases h
    | ok b W1 => exact key b W1 h
  · exact key _ _ h
theorem sim_index (t : TypeId) {v v' x x' : Value} (hv : VR ρ v v') (hx : VR ρ x x') : Sim P w0 q ρ VR (Instr.index t v x) (Instr.index t v' x') := by
  unfold Instr.index
  refine sim_bind (sim_asIntOf hx) fun ρ1 ki ki' hle hk => ?_
  subst hk
  obtain ⟨k, i⟩ := ki
  refine sim_bind (sim_fixed (fixed_underlying t)) fun ρ2 d d' hle2 hd => ?_
  obtain ⟨rfl, _⟩ := hd
  have hv2 := (hv.mono hle).mono hle2
  cases hv2 with
  | agg hs h =>
    cases d <;> first | exact sim_halt | skip
    simp only []
    split
    · refine sim_bind (sim_fixed (fixed_sizeOf _)) fun ρ3 n n' hle3 hn => ?_
      obtain ⟨rfl, _⟩ := hn
      exact sim_part _ (AR.mono hle3 ⟨hs, h⟩) _
    · exact sim_bounds _ _ _ _
  | string s =>
    cases d <;> first | exact sim_halt | skip
    simp only []
    split
    · exact sim_pure fun _ _ => .int _ _
    · exact sim_bounds _ _ _ _
  | _ => cases d <;> exact sim_halt
def idxTail (t : TypeId) (k : IntKind) (i : Int) (y : Option Addr × Nat × TypeId) : Sem Value := do
  let tiny := y.2.1 ≤ 1 && (match ← underlying t with | .array .. => true | _ => false)
  match y.1 with
  | some a =>
    if 0 ≤ i ∧ i < (y.2.1 : Int) then pure (.pointer (some (a.add (i.toNat * (← sizeOf y.2.2)))))
    else if tiny then unsupported (.noEntry "op/indexAddr.an index out of range at an array of length 0 or 1 (ledger 616)")
    else boundsPanic k i y.2.1 .index
  | none => boundsPanic k i 0 .index
theorem sim_idxTail (t : TypeId) (k : IntKind) (i : Int) {base base' : Option Addr} {len : Nat} {elem : TypeId} (hb : len ≠ 0 → ∃ a a', base = some a ∧ base' = some a' ∧ DR ρ a a') :
    Sim P w0 q ρ VR (idxTail t k i (base, len, elem)) (idxTail t k i (base', len, elem)) := by
  unfold idxTail
  refine sim_bind (sim_fixed (fixed_underlying t)) fun ρ4 d2 d2' hle4 hd2 => ?_
  obtain ⟨rfl, _⟩ := hd2
  dsimp only
  by_cases hin : 0 ≤ i ∧ i < (len : Int)
  · obtain ⟨a, a', rfl, rfl, ha⟩ := hb (by omega)
    simp only [if_pos hin]
    refine sim_bind (sim_fixed (fixed_sizeOf _)) fun ρ5 n n' hle5 hn => ?_
    obtain ⟨rfl, _⟩ := hn
    exact sim_pure fun ρ6 hle6 => ((((ha.mono hle4).mono hle5).mono hle6).add _).ptr
  · cases base with
    | none => exact sim_bounds _ _ _ _
    | some a =>
      simp only [if_neg hin]
      repeat' split
      all_goals first | exact sim_halt | exact sim_bounds _ _ _ _
theorem sim_indexAt (t : TypeId) {v v' x x' : Value} (hv : VR ρ v v') (hx : VR ρ x x') : Sim P w0 q ρ VR (Instr.indexAt t v x) (Instr.indexAt t v' x') := by
  unfold Instr.indexAt
  refine sim_bind (sim_asIntOf hx) fun ρ1 ki ki' hle hk => ?_
  subst hk
  obtain ⟨k, i⟩ := ki
  refine sim_bind (sim_fixed (fixed_underlying t)) fun ρ2 d d' hle2 hd => ?_
  obtain ⟨rfl, hrun⟩ := hd
  have hv2 := (hv.mono hle).mono hle2
  cases d with
  | array n e => exact sim_bind (sim_sureAddr hv2) fun ρ3 a a' hle3 ha => sim_idxTail t k i (base := some a) (base' := some a') fun _ => ⟨a, a', rfl, rfl, ha⟩
  | slice e =>
    cases hv2 with
    | snil => exact sim_idxTail t k i (base := none) (base' := none) (elem := e) fun h => (h rfl).elim
    | sfresh a h hs => exact sim_idxTail t k i (base := some _) (base' := some _) fun h => (h rfl).elim
    | sempty a c h hs => exact sim_idxTail t k i (base := some _) (base' := some _) fun h => (h rfl).elim
    | slice h hs hn hc hcc => exact sim_idxTail t k i (base := some _) (base' := some _) fun _ => ⟨_, _, rfl, rfl, _, _, _, h, rfl, rfl⟩
    | _ => exact sim_halt
  | _ => exact sim_halt
theorem sim_sliceBound {x x' : Value} (hx : VR ρ x x') {y y' : Nat} (hy : y ≤ y') (c c' : BoundsCode) : Sim P w0 q ρ (fun _ n n' => n = n' ∧ n ≤ y) (Instr.sliceBound x y c) (Instr.sliceBound x' y' c') := by
  unfold Instr.sliceBound
  refine sim_bind (sim_asIntOf hx) fun ρ1 ki ki' hle hk => ?_
  subst hk
  obtain ⟨k, i⟩ := ki
  dsimp only
  by_cases hin : 0 ≤ i ∧ i ≤ (y : Int)
  · rw [if_pos hin, if_pos (by omega)]
    exact sim_pure fun _ _ => ⟨rfl, by omega⟩
  · rw [if_neg hin]; exact sim_bounds _ _ _ _
/-- Bounds that may be left out. -/
inductive VRo (ρ : Ren) : Option Value → Option Value → Prop
  | none : VRo ρ none none
  | some {v v' : Value} (h : VR ρ v v') : VRo ρ (some v) (some v')
theorem VRo.mono {ρ ρ' : Ren} (hle : ρ.le ρ') {v v' : Option Value} (h : VRo ρ v v') : VRo ρ' v v' := by
  cases h with
  | none => exact .none
  | some h => exact .some (h.mono hle)
def BR (c c' : Nat) (x x' : Nat × Nat × Nat) : Prop := x.1 = x'.1 ∧ x.2.1 = x'.2.1 ∧ x.1 ≤ x.2.1 ∧ x.2.1 ≤ x.2.2 ∧ x.2.2 ≤ c ∧ (x.2.2 = x'.2.2 ∨ (x.2.2 = c ∧ x'.2.2 = c'))
def sbLow (lo : Option Value) (h m : Nat) (cd : BoundsCode) : Sem (Nat × Nat × Nat) := match lo with
  | some v => Instr.sliceBound v h cd >>= fun l => pure (l, h, m)
  | none => pure (0, h, m)
theorem sim_low {ρ : Ren} {lo lo' : Option Value} (h1 : VRo ρ lo lo') (cd cd' : BoundsCode) {c c' h m m' : Nat} (hh : h ≤ m) (hm : m ≤ c) (hmm : m = m' ∨ (m = c ∧ m' = c')) :
    Sim P w0 q ρ (fun _ x x' => BR c c' x x') (sbLow lo h m cd) (sbLow lo' h m' cd') := by
  cases h1 with
  | none => exact sim_pure fun _ _ => ⟨rfl, rfl, Nat.zero_le _, hh, hm, hmm⟩
  | some hv =>
    refine sim_bind (sim_sliceBound hv (Nat.le_refl h) cd cd') fun ρ1 a a' _ ha => ?_
    obtain ⟨rfl, hl⟩ := ha
    exact sim_pure fun _ _ => ⟨rfl, rfl, hl, hh, hm, hmm⟩
theorem sb_none (s : Bool) (len c : Nat) (lo : Option Value) : Instr.sliceBounds s len c lo none none = sbLow lo len c .sliceB := by cases lo <;> rfl
theorem sb_high (s : Bool) (len c : Nat) (lo : Option Value) (v : Value) : Instr.sliceBounds s len c lo (some v) none = Instr.sliceBound v c (if s then .sliceAcap else .sliceAlen) >>= fun h => sbLow lo h c .sliceB := by cases lo <;> rfl
theorem sb_max (s : Bool) (len c : Nat) (lo : Option Value) (v m : Value) : Instr.sliceBounds s len c lo (some v) (some m) = Instr.sliceBound m c (if s then .slice3Acap else .slice3Alen) >>= fun m => Instr.sliceBound v m .slice3B >>= fun h => sbLow lo h m .slice3C := by cases lo <;> rfl
theorem sb_bad (s : Bool) (len c : Nat) (lo : Option Value) (m : Value) : Instr.sliceBounds s len c lo none (some m) = Instr.sliceBound m c (if s then .slice3Acap else .slice3Alen) >>= fun _ => stuck "Slice: max without high" := by cases lo <;> rfl
theorem sim_sliceBounds (s : Bool) {len c c' : Nat} (hlen : len ≤ c) (hcc : c ≤ c') {lo lo' hi hi' mx mx' : Option Value} (h1 : VRo ρ lo lo') (h2 : VRo ρ hi hi') (h3 : VRo ρ mx mx') :
    Sim P w0 q ρ (fun _ x x' => BR c c' x x') (Instr.sliceBounds s len c lo hi mx) (Instr.sliceBounds s len c' lo' hi' mx') := by
  cases h3 with
  | none =>
    cases h2 with
    | none => rw [sb_none, sb_none]; exact sim_low h1 _ _ hlen (Nat.le_refl _) (.inr ⟨rfl, rfl⟩)
    | some hv =>
      rw [sb_high, sb_high]
      refine sim_bind (sim_sliceBound hv hcc _ _) fun ρ1 a a' hle ha => ?_
      obtain ⟨rfl, hl⟩ := ha
      exact sim_low (h1.mono hle) _ _ hl (Nat.le_refl _) (.inr ⟨rfl, rfl⟩)
  | some hm =>
    cases h2 with
    | none =>
      rw [sb_bad, sb_bad]
      exact sim_bind (sim_sliceBound hm hcc _ _) fun ρ1 m m' hle ha => sim_halt
    | some hv =>
      rw [sb_max, sb_max]
      refine sim_bind (sim_sliceBound hm hcc _ _) fun ρ1 m m' hle ha => ?_
      obtain ⟨rfl, hmc⟩ := ha
      refine sim_bind (sim_sliceBound (hv.mono hle) (Nat.le_refl m) _ _) fun ρ2 a a' hle2 ha => ?_
      obtain ⟨rfl, hl⟩ := ha
      exact sim_low ((h1.mono hle).mono hle2) _ _ hl hmc (.inl rfl)
theorem add_plain (b o n : Nat) : (⟨b, o, none⟩ : Addr).add n = ⟨b, o + n, none⟩ := by
  unfold Addr.add; split
  · rename_i h; subst h; rfl
  · rfl
/-- The slice's block bears elements of the slice's own size. -/
def SizeFits (P : Program) (ρ : Ren) (t : TypeId) (v : Value) : Prop := ∀ b o n c L e z, v = .slice (some ⟨b, o, none⟩) n c → ρ b = some L → (∀ w, (underlying t).run P w = .ok (.slice e) w) → (∀ w, (sizeOf e).run P w = .ok z w) → z = L.z
theorem VR.slice_loc {ρ : Ren} {b o n c : Nat} {v' : Value} (h : VR ρ (.slice (some ⟨b, o, none⟩) n c) v') : ∃ L, ρ b = some L := by
  cases h <;> exact ⟨_, by assumption⟩
theorem sim_slice (t : TypeId) {v v' : Value} (hv : VR ρ v v') {lo lo' hi hi' mx mx' : Option Value} (h1 : VRo ρ lo lo') (h2 : VRo ρ hi hi') (h3 : VRo ρ mx mx')
    (hfit : SizeFits P ρ t v) (hnp : ∀ a, v ≠ .pointer a) : Sim P w0 q ρ VR (Instr.slice t v lo hi mx) (Instr.slice t v' lo' hi' mx') := by
  unfold Instr.slice
  refine sim_bind (sim_fixed (fixed_underlying t)) fun ρ1 d d' hle hd => ?_
  obtain ⟨rfl, hrun⟩ := hd
  have h1' := h1.mono hle
  have h2' := h2.mono hle
  have h3' := h3.mono hle
  have hv' := hv.mono hle
  cases d with
  | string =>
    cases hv' with
    | string s =>
      dsimp only
      cases h3' with
      | some _ => exact sim_halt
      | none =>
        refine sim_bind (sim_sliceBounds false (Nat.le_refl _) (Nat.le_refl _) h1' h2' .none) fun ρ2 x x' hle2 hx => ?_
        obtain ⟨e1, e2, _⟩ := hx
        obtain ⟨l, h, m⟩ := x
        obtain ⟨l', h', m'⟩ := x'
        simp only [] at e1 e2
        subst e1; subst e2
        exact sim_pure fun _ _ => .string _
    | _ => exact sim_halt
  | slice e =>
    cases hv' with
    | snil =>
      refine sim_bind (sim_sliceBounds true (Nat.le_refl _) (Nat.le_refl _) h1' h2' h3') fun ρ2 x x' hle2 hx => ?_
      obtain ⟨l, h, m⟩ := x
      obtain ⟨l', h', m'⟩ := x'
      simp only [BR] at hx
      refine sim_bind (sim_fixed (fixed_sizeOf e)) fun ρ3 z z' hle3 hz => ?_
      obtain ⟨rfl, _⟩ := hz
      obtain ⟨rfl, rfl, e3, e4, e5, e6⟩ := hx
      obtain rfl : m = 0 := by omega
      obtain rfl : h = 0 := by omega
      obtain rfl : l = 0 := by omega
      obtain rfl : m' = 0 := by omega
      exact sim_pure fun _ _ => .snil
    | sfresh a hb hs =>
      refine sim_bind (sim_sliceBounds true (Nat.le_refl _) (Nat.le_refl _) h1' h2' h3') fun ρ2 x x' hle2 hx => ?_
      obtain ⟨l, h, m⟩ := x
      obtain ⟨l', h', m'⟩ := x'
      simp only [BR] at hx
      refine sim_bind (sim_fixed (fixed_sizeOf e)) fun ρ3 z z' hle3 hz => ?_
      obtain ⟨rfl, _⟩ := hz
      obtain ⟨rfl, rfl, e3, e4, e5, e6⟩ := hx
      obtain rfl : m = 0 := by omega
      obtain rfl : h = 0 := by omega
      obtain rfl : l = 0 := by omega
      obtain rfl : m' = 0 := by omega
      exact sim_pure fun ρ4 hle4 => .sfresh a (hle4 _ _ (hle3 _ _ (hle2 _ _ hb))) hs
    | sempty a c' hb hs =>
      refine sim_bind (sim_sliceBounds true (Nat.le_refl _) (Nat.zero_le c') h1' h2' h3') fun ρ2 x x' hle2 hx => ?_
      obtain ⟨l, h, m⟩ := x
      obtain ⟨l', h', m'⟩ := x'
      simp only [BR] at hx
      refine sim_bind (sim_fixed (fixed_sizeOf e)) fun ρ3 z z' hle3 hz => ?_
      obtain ⟨rfl, _⟩ := hz
      obtain ⟨rfl, rfl, e3, e4, e5, e6⟩ := hx
      obtain rfl : m = 0 := by omega
      obtain rfl : h = 0 := by omega
      obtain rfl : l = 0 := by omega
      refine sim_pure fun ρ4 hle4 => ?_
      have hb4 := hle4 _ _ (hle3 _ _ (hle2 _ _ hb))
      by_cases hm : m' = 0
      · rw [if_pos rfl, if_pos hm]; exact .sempty _ _ hb4 hs
      · rw [if_pos rfl, if_neg hm]; exact .sempty _ _ hb4 hs
    | slice hb hs hn hc hcc =>
      rename_i b o n c c' L
      refine sim_bind (sim_sliceBounds true hn (by omega) h1' h2' h3') fun ρ2 x x' hle2 hx => ?_
      obtain ⟨l, h, m⟩ := x
      obtain ⟨l', h', m'⟩ := x'
      simp only [BR] at hx
      refine sim_bind (sim_fixed (fixed_sizeOf e)) fun ρ3 z z' hle3 hz => ?_
      obtain ⟨rfl, hzrun⟩ := hz
      obtain ⟨rfl, rfl, e3, e4, e5, e6⟩ := hx
      refine sim_pure fun ρ4 hle4 => ?_
      have hb4 := hle4 _ _ (hle3 _ _ (hle2 _ _ hb))
      by_cases hm : m = l
      · subst hm
        obtain rfl : h = m := by omega
        rw [if_pos rfl, Nat.sub_self]
        by_cases hm' : m' = h
        · rw [if_pos hm']; exact .sempty _ _ hb4 hs
        · rw [if_neg hm']; exact .sempty _ _ hb4 hs
      · rw [if_neg hm, if_neg (by omega)]
        simp only [Option.map_some, add_plain]
        have hzz : z = L.z := hfit b o n c L e z rfl ?_ ?_ hzrun
        · rw [Nat.add_assoc L.off]
          refine .slice hb4 hs (by omega) (by omega) ?_
          rcases e6 with rfl | ⟨rfl, rfl⟩
          · exact .inl rfl
          · rcases hcc with rfl | ⟨hlt, hroom⟩
            · exact .inl rfl
            · right
              refine ⟨by omega, ?_⟩
              rw [hzz]
              have hle' : l * L.z + (m' - l) * L.z = m' * L.z := by rw [← Nat.add_mul]; congr 1; omega
              omega
        · obtain ⟨M, hM⟩ := hv.slice_loc
          have := hle _ _ hM
          rw [hb] at this; rw [hM, this]
        · exact hrun
    | _ => exact sim_halt
  | pointer e =>
    cases hv' with
    | pnil => exact (hnp _ rfl).elim
    | ptr _ => exact (hnp _ rfl).elim
    | _ => exact sim_halt
  | _ => cases hv' <;> exact sim_halt
end
end Go.Proofs.YtnnppmcbgfadpaaGreatDoor
