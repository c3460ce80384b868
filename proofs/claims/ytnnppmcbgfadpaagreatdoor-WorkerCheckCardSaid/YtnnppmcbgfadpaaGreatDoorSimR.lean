/- Each operation of the pattern stands for the operation in a world that fits: all of them. -/
import Derived.Test.YtnnppmcbgfadpaaGreatDoorSimQ
namespace Go.Proofs.YtnnppmcbgfadpaaGreatDoor
open Go.RowKit
section
variable {P : Program} {w0 : World} {q : Bool} {ρ : Ren} {W w : World} {pw pw' : PW}
theorem good_V {p : Bool} {m m' : Sem Value} {nx : Next} (hs : Sim P w0 p ρ VR m m') (h : pV (runP P m pw) = some (nx, pw')) (hrel : Rel pw W) (hr : HR P w0 ρ W w) : Good P w0 ρ p nx pw' w (do pure (.value (← m'))) := by
  unfold pV at h
  split at h
  · rename_i v pw1 hrun
    cases h
    obtain ⟨W', h1, h2⟩ := runP_run _ _ _ _ _ hrun hrel
    obtain ⟨ρ2, a', w', x1, x2, x3, x4, x5⟩ := hs ρ (Ren.le_refl _) W w hr v W' h1
    exact ⟨ρ2, .value a', w', W', x1, by rw [Sem.run_bind, x2]; rfl, .value x3, h2, x4, fun hp => ⟨(x5 hp).1, (x5 hp).2.2⟩⟩
  · cases h
theorem good_U {m m' : Sem Unit} {nx : Next} {R : Ren → Unit → Unit → Prop} (hs : Sim P w0 false ρ R m m') (h : pU (runP P m pw) = some (nx, pw')) (hrel : Rel pw W) (hr : HR P w0 ρ W w) : Good P w0 ρ false nx pw' w (do m'; pure .skip) := by
  unfold pU at h
  split at h
  · rename_i v pw1 hrun
    cases h
    obtain ⟨W', h1, h2⟩ := runP_run _ _ _ _ _ hrun hrel
    obtain ⟨ρ2, a', w', x1, x2, x3, x4, x5⟩ := hs ρ (Ren.le_refl _) W w hr v W' h1
    exact ⟨ρ2, .skip, w', W', x1, by rw [Sem.run_bind, x2]; rfl, .skip, h2, x4, fun hp => by cases hp⟩
  · cases h
theorem pIf_some {b : Bool} {r : Option (Next × PW)} {x : Next × PW} (h : pIf b r = some x) : b = true ∧ r = some x := by
  cases b
  · cases h
  · exact ⟨rfl, h⟩
theorem AR_map {ev ev' : Operand → Value} {l : Array Operand} (h : ∀ x ∈ l.toList, VR ρ (ev x) (ev' x)) : AR ρ (l.map ev) (l.map ev') := by
  refine ⟨by simp, fun i v v' hv hv' => ?_⟩
  rw [Array.getElem?_map] at hv hv'
  cases hx : l[i]? with
  | none => rw [hx] at hv; cases hv
  | some x =>
    rw [hx] at hv hv'
    cases hv; cases hv'
    exact h x (Array.mem_toList_iff.2 (Array.mem_of_getElem? hx))
theorem PR_map {ev ev' : Operand → Value} : ∀ (l : List (Nat × Operand)), (∀ x ∈ l.map (·.2), VR ρ (ev x) (ev' x)) → PR ρ (l.map fun (i, x) => (i, ev x)) (l.map fun (i, x) => (i, ev' x))
  | [], _ => .nil
  | (i, x) :: l, h => by
    have hx : VR ρ (ev x) (ev' x) := h x (by simp)
    have ht := PR_map l fun y hy => h y (by simp only [List.map_cons, List.mem_cons]; exact .inr hy)
    exact .cons i hx ht
theorem VRo_map {ev ev' : Operand → Value} {l : Option Operand} (h : ∀ x ∈ l.toArray.toList, VR ρ (ev x) (ev' x)) : VRo ρ (l.map ev) (l.map ev') := by
  cases l with
  | none => exact .none
  | some x => exact .some (h x (by simp))
theorem keyV_eq {k k' : Value} (h : keyV k = true) (hv : VR ρ k k') : k' = k ∧ isKey k = true := by
  cases k <;> first | (cases h; done) | (cases hv; exact ⟨rfl, rfl⟩)
theorem call_args {c : Call} {ev ev' : Operand → Value} (h : ∀ x ∈ (Op.call c).operands.toList, VR ρ (ev x) (ev' x)) : AR ρ (c.args.map ev) (c.args.map ev') :=
  AR_map fun x hx => h x (by simp only [Op.operands, Call.operands, Array.toList_append, List.mem_append]; exact .inr hx)
theorem pBuiltin_rel (hF : Facts P) {b : Builtin} {ts : Array TypeId} {t : TypeId} {args args' : Array Value} {nx : Next} {cs : Array Bool} {p : Bool} (hp : p = true → b = .len ∨ b = .unsafeSliceData) (ha : AR ρ args args') (h : pBuiltin P b ts t args pw = some (nx, pw')) (hrel : Rel pw W) (hr : HR P w0 ρ W w) :
    Good P w0 ρ p nx pw' w (builtin b ts t cs args') := by
  unfold pBuiltin at h
  split at h
  · exact good_V (sim_len t ha) h hrel hr
  · have hp' : p = false := by
      cases p
      · rfl
      · rcases hp rfl with h | h <;> cases h
    subst hp'
    unfold pV at h
    split at h
    · rename_i v pw1 happ
      cases h
      obtain ⟨ρ', v', w', W', g1, g2, g3, g4, g5⟩ := append_rel (ty := t) ha happ hrel hr
      exact ⟨ρ', .value v', w', W', g1, by show ((Builtin.append_ ts t args' >>= fun v => pure (Next.value v)).run P w) = _; rw [Sem.run_bind, g2]; rfl, .value g3, g4, g5, fun hp => by cases hp⟩
    · cases h
  · have hp' : p = false := by
      cases p
      · rfl
      · rcases hp rfl with h | h <;> cases h
    subst hp'
    unfold pV at h
    split at h
    · rename_i v pw1 happ
      cases h
      obtain ⟨v', w', W', g2, g3, g4, g5⟩ := patString_rel (ty := t) ha happ hrel hr
      exact ⟨ρ, .value v', w', W', Ren.le_refl _, by show ((Builtin.unsafeString_ ts t args' >>= fun v => pure (Next.value v)).run P w) = _; rw [Sem.run_bind, g2]; rfl, .value g3, g4, g5, fun hp => by cases hp⟩
    · cases h
  · unfold pData at h
    split at h
    · rename_i n c hargs
      cases h
      have e : args = #[.slice none n c] := by rw [← hargs]
      subst e
      obtain ⟨a', rfl, hv⟩ := AR_one ha
      cases hv
      exact good_same (v' := .pointer none) (by show ((Builtin.unsafeSliceData_ ts t _ >>= fun v => pure (Next.value v)).run P w) = _; rw [Sem.run_bind, Lib.run_unsafeSliceData_nil]; rfl) .pnil hrel hr
    · rename_i a n c hargs
      split at h
      · cases h
      · rename_i hc
        cases h
        have e : args = #[.slice (some a) n c] := by rw [← hargs]
        subst e
        obtain ⟨a', rfl, hv⟩ := AR_one ha
        cases hv with
        | sfresh => exact (hc rfl).elim
        | sempty => exact (hc rfl).elim
        | slice hL hs hn hc' hcc =>
          refine good_same (v' := .pointer (some _)) ?_ (.ptr hL) hrel hr
          show ((Builtin.unsafeSliceData_ ts t _ >>= fun v => pure (Next.value v)).run P w) = _
          rw [Sem.run_bind, Lib.run_unsafeSliceData_row _ _ _ _ _ _ (by rcases hcc with rfl | ⟨h, _⟩ <;> omega)]; rfl
    · cases h
  · have hp' : p = false := by
      cases p
      · rfl
      · rcases hp rfl with h | h <;> cases h
    subst hp'
    cases h
    exact ⟨ρ, .recover, w, W, Ren.le_refl _, rfl, .recover, hrel, hr, fun hp => by cases hp⟩
  · cases h
/-- An operation, whatever its place. -/
theorem pslow_rel (hF : Facts P) {ev ev' : Operand → Value} {op : Op} {ty : TypeId} {nx : Next} (hev : ∀ x ∈ op.operands.toList, VR ρ (ev x) (ev' x)) (h : pslow P ev op ty pw = some (nx, pw')) (hrel : Rel pw W) (hr : HR P w0 ρ W w)
    (dst : Option Tmp) (pos : String) (after : Array Edge) (guard : Option (Nat × Bool)) : Good P w0 ρ (pureOp op) nx pw' w (execOp ev' ⟨dst, op, ty, pos, after, guard⟩) := by
  have hoff : ∀ v : Value, ∀ b o L, v = .pointer (some ⟨b, o, none⟩) → ρ b = some L → L.off = 0 := fun _ b _ L _ hL => hr.off0 b L hL
  cases op with
  | move x => cases h; exact good_same (v' := ev' x) rfl (hev x (by simp [Op.operands])) hrel hr
  | assign x => cases h; exact good_same (v' := ev' x) rfl (hev x (by simp [Op.operands])) hrel hr
  | pick c a b =>
    have hc := hev c (by simp [Op.operands])
    have ha := hev a (by simp [Op.operands])
    have hb := hev b (by simp [Op.operands])
    simp only [pslow, pPick] at h
    have key : ∀ v', VR ρ (ev c) v' → Good P w0 ρ true nx pw' w (asBool v' >>= fun t => pure (Next.value (if t then ev' a else ev' b))) := by
      intro v' hc
      generalize ev c = vc at h hc
      cases hc with
      | bool t =>
        cases t with
        | true => cases h; exact good_same (v' := ev' a) rfl ha hrel hr
        | false => cases h; exact good_same (v' := ev' b) rfl hb hrel hr
      | _ => cases h
    exact key _ hc
  | alloc t =>
    obtain ⟨h1, h2⟩ := pIf_some h
    exact good_V (sim_alloc (zeroOk_of h1)) h2 hrel hr
  | box t x => exact good_V (sim_box t (hev x (by simp [Op.operands]))) h hrel hr
  | build t ps =>
    obtain ⟨h1, h2⟩ := pIf_some h
    exact good_V (sim_build (zeroOk_of h1) (by rw [Array.toList_map, Array.toList_map]; exact PR_map ps.toList fun x hx => hev x (by simpa [Op.operands] using hx))) h2 hrel hr
  | buildSlice t n ps =>
    obtain ⟨h1, h2⟩ := pIf_some h
    exact good_V (sim_buildSlice (elemZero_of h1) n (by rw [Array.toList_map, Array.toList_map]; exact PR_map ps.toList fun x hx => hev x (by simpa [Op.operands] using hx)) (elemRoom_of h1)) h2 hrel hr
  | load t a => exact good_V (sim_loadAt t (hev a (by simp [Op.operands]))) h hrel hr
  | store t a x => exact good_U (sim_storeAt t (hev a (by simp [Op.operands])) (hev x (by simp [Op.operands]))) h hrel hr
  | nilCheck x =>
    have hx := hev x (by simp [Op.operands])
    simp only [pslow, pNil] at h
    split at h
    · rename_i a he
      cases h
      rw [he] at hx ⊢
      generalize hv : ev' x = v' at hx
      cases hx with
      | ptr hL => exact good_same (by simp only [execOp, hv]; rfl) (.ptr hL) hrel hr
    · rename_i g a c he
      cases h
      rw [he] at hx ⊢
      generalize hv : ev' x = v' at hx
      cases hx with
      | func _ hy h1 h2 h3 h4 => exact good_same (by simp only [execOp, hv]; rfl) (.func _ hy h1 h2 h3 h4) hrel hr
    · cases h
  | binOp op t x y yt => exact pBin_rel (hev x (by simp [Op.operands])) (hev y (by simp [Op.operands])) h hrel hr
  | unOp op t x =>
    have hx := hev x (by simp [Op.operands])
    simp only [pslow, pUn] at h
    split at h
    · rename_i hp
      show Good P w0 ρ _ nx pw' w (do pure (Next.value (← Op.unary op (ev' x))))
      rw [plain_eq 3 _ _ hp hx]
      exact pQuick_rel h hrel hr
    · cases h
  | convert s d x => exact pConv_rel (hev x (by simp [Op.operands])) h hrel hr
  | makeInterface t x => exact good_V (sim_makeInterface t (hev x (by simp [Op.operands]))) h hrel hr
  | makeFunc fn a c =>
    simp only [Op.operands, Array.toList_append, List.mem_append] at hev
    have h1 : AR ρ (a.map ev) (a.map ev') := AR_map fun x hx => hev x (.inl hx)
    have h2 : AR ρ (c.map ev) (c.map ev') := AR_map fun x hx => hev x (.inr hx)
    obtain ⟨hy, h⟩ := pIf_some h
    have hy : ∀ l, fn ≠ .yield l := by rintro l rfl; cases hy
    exact good_V (sim_pure fun ρ1 hle => .func fn hy h1.size h2.size (h1.mono hle).get (h2.mono hle).get) h hrel hr
  | makeMap t r => exact good_V (sim_makeMap t (VRo_map fun x hx => hev x (by simpa [Op.operands] using hx))) h hrel hr
  | makeSlice t l c =>
    obtain ⟨h1, h2⟩ := pIf_some h
    exact good_V (sim_makeSlice (elemZero_of h1) (hev l (by simp [Op.operands])) (hev c (by simp [Op.operands])) (elemRoom_of h1)) h2 hrel hr
  | slice t x lo hi mx =>
    obtain ⟨h1, h2⟩ := pIf_some h
    obtain ⟨f1, f2⟩ := sizeFits_of h1 hrel hr
    simp only [Op.operands, Array.toList_append, List.mem_append] at hev
    exact good_V (sim_sliceAt t (hev x (.inl (.inl (.inl (by simp))))) (VRo_map fun x hx => hev x (.inl (.inl (.inr hx)))) (VRo_map fun x hx => hev x (.inl (.inr hx))) (VRo_map fun x hx => hev x (.inr hx)) f1 f2) h2 hrel hr
  | fieldAddr t x i =>
    obtain ⟨h1, h2⟩ := pIf_some h
    exact good_V (sim_fieldAt t (hev x (by simp [Op.operands])) i (fieldRoom_of h1)) h2 hrel hr
  | field t x i => exact good_V (sim_field t (hev x (by simp [Op.operands])) i) h hrel hr
  | indexAddr t x i => exact good_V (sim_indexAt t (hev x (by simp [Op.operands])) (hev i (by simp [Op.operands]))) h hrel hr
  | index t x i => exact good_V (sim_index t (hev x (by simp [Op.operands])) (hev i (by simp [Op.operands]))) h hrel hr
  | lookup t x k ok =>
    obtain ⟨h1, h2⟩ := pIf_some h
    simp only [Bool.and_eq_true] at h1
    obtain ⟨e, hk⟩ := keyV_eq h1.2 (hev k (by simp [Op.operands]))
    have := good_V (p := pureOp (.lookup t x k ok)) (sim_lookup (mapZero_of h1.1) (keyOk_of h1.1) (hev x (by simp [Op.operands])) hk ok) h2 hrel hr
    rw [← e] at this
    exact this
  | mapUpdate t m k x =>
    obtain ⟨h1, h2⟩ := pIf_some h
    simp only [Bool.and_eq_true] at h1
    obtain ⟨e, hk⟩ := keyV_eq h1.2 (hev k (by simp [Op.operands]))
    have := good_U (sim_mapUpdate t (keyOk_of h1.1) (hev m (by simp [Op.operands])) hk (hev x (by simp [Op.operands]))) h2 hrel hr
    rw [← e] at this
    exact this
  | insert t m k x =>
    obtain ⟨h1, h2⟩ := pIf_some h
    simp only [Bool.and_eq_true] at h1
    obtain ⟨e, hk⟩ := keyV_eq h1.2 (hev k (by simp [Op.operands]))
    have := good_U (sim_mapUpdate t (keyOk_of h1.1) (hev m (by simp [Op.operands])) hk (hev x (by simp [Op.operands]))) h2 hrel hr
    rw [← e] at this
    exact this
  | range t x => exact good_V (sim_rangeMap t (hev x (by simp [Op.operands]))) h hrel hr
  | next it s =>
    cases s with
    | true => exact good_V (sim_nextString ty (hev it (by simp [Op.operands])) (hoff _)) h hrel hr
    | false =>
      simp only [pslow, pV] at h
      split at h
      · rename_i v pw1 hrun
        cases h
        obtain ⟨ρ', v', w', W', g1, g2, g3, g4, g5⟩ := nextMap_rel (hev it (by simp [Op.operands])) hrun hrel hr
        exact ⟨ρ', .value v', w', W', g1, by show ((Instr.next (ev' it) false ty >>= fun v => pure (Next.value v)).run P w) = _; rw [Sem.run_bind, g2]; rfl, .value g3, g4, g5, fun hp => by cases hp⟩
      · cases h
  | entry it => exact good_V (sim_entry (hev it (by simp [Op.operands])) (hoff _)) h hrel hr
  | extract t i => exact good_V (sim_extract (hev t (by simp [Op.operands])) i) h hrel hr
  | call c =>
    have ha := call_args hev
    obtain ⟨callee, args, ts⟩ := c
    cases callee with
    | value f => exact pcall_rel hF (hev f (by simp [Op.operands, Call.operands])) ha h hrel hr
    | invoke r m => cases h
    | builtin b =>
      refine pBuiltin_rel hF (fun hp => ?_) ha h hrel hr
      cases b <;> first | (cases hp; done) | exact .inl rfl | exact .inr rfl
  | defer c =>
    have ha : AR ρ (c.args.map ev) (c.args.map ev') := call_args (c := c) hev
    obtain ⟨callee, args, ts⟩ := c
    cases callee with
    | value f =>
      have hf := hev f (by simp [Op.operands, Call.operands])
      simp only [pslow, pDefer] at h
      split at h
      · rename_i g first cap he
        cases h
        rw [he] at hf
        generalize hv : ev' f = v' at hf
        cases hf with
        | func _ hy h1 h2 h3 h4 =>
          rename_i first' cap'
          refine ⟨ρ, .defer { target := .fn (.func g) cap', args := first' ++ args.map ev' }, w, W, Ren.le_refl _, ?_, .defer ⟨.fn g ⟨h2, h4⟩, (⟨h1, h3⟩ : AR ρ first first').append ha⟩, hrel, hr, fun hp => by cases hp⟩
          show ((Deferred.ofValue (ev' f) (args.map ev') >>= fun d => pure (Next.defer d)).run P w) = _
          rw [hv]; rfl
      · cases h
    | invoke r m => cases h
    | builtin b => cases h
  | _ => cases h
theorem pexec_rel (hF : Facts P) {ev ev' : Operand → Value} {o : Oper} {nx : Next} (hev : ∀ x ∈ o.op.operands.toList, okArg x = true → VR ρ (ev x) (ev' x)) (h : pexec P ev o pw = some (nx, pw')) (hrel : Rel pw W) (hr : HR P w0 ρ W w) :
    Good P w0 ρ (pureOp o.op) nx pw' w (execOp ev' o) := by
  obtain ⟨h1, h2⟩ := pIf_some h
  exact pslow_rel hF (fun x hx => hev x hx (List.all_eq_true.1 h1 x hx)) h2 hrel hr o.dst o.pos o.after o.guard
end
end Go.Proofs.YtnnppmcbgfadpaaGreatDoor
