/- Maps and iterators over strings in a pattern and in what fits it. -/
import Derived.Test.YtnnppmcbgfadpaaGreatDoorSimF
namespace Go.Proofs.YtnnppmcbgfadpaaGreatDoor
open Go.RowKit
theorem ba_eq {a b : ByteArray} (h : (a == b) = true) : a = b := by
  cases a; cases b
  have h : ByteArray.beq _ _ = true := h
  unfold ByteArray.beq at h
  simpa using h
theorem ba_refl (a : ByteArray) : (a == a) = true := by
  show ByteArray.beq a a = true
  unfold ByteArray.beq
  simp
theorem ER.get {ρ : Ren} {l l' : List MapEntry} (h : ER ρ l l') : ∀ (i : Nat) (x : MapEntry), l[i]? = some x → isKey x.key = true := by
  induction h with
  | nil => intro i x hx; simp at hx
  | cons hk hi hb hv _ ih =>
    intro i x hx
    cases i with
    | zero => simp at hx; subst hx; exact hi
    | succ i => exact ih i x (by simpa using hx)
theorem ER.push {ρ : Ren} {l l' : List MapEntry} (h : ER ρ l l') {k v v' : Value} (b : Nat) (hk : isKey k = true) (hv : VR ρ v v') : ER ρ (l ++ [⟨k, v, b⟩]) (l' ++ [⟨k, v', b⟩]) := by
  induction h with
  | nil => exact .cons rfl hk rfl hv .nil
  | cons h1 h2 h3 h4 _ ih => exact .cons h1 h2 h3 h4 ih
theorem ER.put {ρ : Ren} {l l' : List MapEntry} (h : ER ρ l l') {k v v' : Value} (hk : isKey k = true) (hv : VR ρ v v') : ∀ i : Nat, ER ρ (l.modify i fun e => { e with key := k, val := v }) (l'.modify i fun e => { e with key := k, val := v' }) := by
  induction h with
  | nil => intro i; cases i <;> exact .nil
  | cons h1 h2 h3 h4 hl ih =>
    intro i
    cases i with
    | zero => exact .cons rfl hk h3 hv hl
    | succ i => exact .cons h1 h2 h3 h4 (ih i)
section
variable {P : Program} {w0 : World} {q : Bool} {ρ : Ren} {W w : World}
/-- What a search yields: nothing in both, or the same place in both. -/
def FR (ρ : Ren) (k : Value) (l : List MapEntry) (i0 : Nat) (r r' : Option (Nat × Value)) : Prop :=
  (r = none ∧ r' = none) ∨ ∃ j v v' x, r = some (i0 + j, v) ∧ r' = some (i0 + j, v') ∧ VR ρ v v' ∧ l[j]? = some x ∧ x.key = k
theorem FR.step {k : Value} {x : MapEntry} {l : List MapEntry} {i0 : Nat} {r r' : Option (Nat × Value)} (h : FR ρ k l (i0 + 1) r r') : FR ρ k (x :: l) i0 r r' := by
  rcases h with h | ⟨j, v, v', y, h1, h2, h3, h4, h5⟩
  · exact .inl h
  · exact .inr ⟨j + 1, v, v', y, by rw [h1]; congr 2; omega, by rw [h2]; congr 2; omega, h3, by simpa using h4, h5⟩
theorem sameNow_key {d : TypeDesc} {k y : Value} (h : Instr.sameNow d k y = some true) : y = k := by
  unfold Instr.sameNow at h
  split at h
  · split at h
    · rename_i hk; subst hk; simp only [Option.some.injEq, beq_iff_eq] at h; rw [h]
    · cases h
  · simp only [Option.some.injEq] at h; rw [ba_eq h]
  · simp only [Option.some.injEq, beq_iff_eq] at h; rw [h]
  · cases h
theorem findNow_rel (d : TypeDesc) (k : Value) {l l' : List MapEntry} (h : ER ρ l l') : ∀ i : Nat, (Instr.findNow d k l i = none ∧ Instr.findNow d k l' i = none) ∨ ∃ r r', Instr.findNow d k l i = some r ∧ Instr.findNow d k l' i = some r' ∧ FR ρ k l i r r' := by
  induction h with
  | nil => intro i; exact .inr ⟨none, none, rfl, rfl, .inl ⟨rfl, rfl⟩⟩
  | cons h1 h2 h3 h4 hl ih =>
    rename_i x x' l l'
    intro i
    unfold Instr.findNow
    rw [h1]
    cases hs : Instr.sameNow d k x.key with
    | none => exact .inl ⟨rfl, rfl⟩
    | some b =>
      cases b with
      | true => exact .inr ⟨_, _, rfl, rfl, .inr ⟨0, _, _, x, rfl, rfl, h4, rfl, sameNow_key hs⟩⟩
      | false =>
        rcases ih (i + 1) with h | ⟨r, r', e1, e2, e3⟩
        · exact .inl h
        · exact .inr ⟨r, r', e1, e2, e3.step⟩
/-- The map type's keys are strings or whole numbers. -/
def KeyOk (P : Program) (t : TypeId) : Prop := ∀ kt et, (∀ w, (underlying t).run P w = .ok (.map kt et) w) → ∃ d, (∀ w, (underlying kt).run P w = .ok d w) ∧ (d = .string ∨ ∃ k, d = .int k)
theorem run_eqKey {kt : TypeId} {d : TypeDesc} (hd : ∀ w, (underlying kt).run P w = .ok d w) (hdd : d = .string ∨ ∃ j, d = .int j) {k y : Value} (hk : isKey k = true) (hy : isKey y = true) :
    (∃ h, ∀ w, (Op.equal kt k y).run P w = .halt h w) ∨ ∃ b : Bool, (∀ w, (Op.equal kt k y).run P w = .ok b w) ∧ (b = true → y = k) := by
  unfold Op.equal Op.maxDepth
  unfold Op.equalIn
  simp only [Sem.run_bind, hd, Result.andThen_ok]
  cases k <;> (try cases hk) <;> cases y <;> (try cases hy) <;> rcases hdd with rfl | ⟨j, rfl⟩ <;> dsimp only
  all_goals first
    | exact .inl ⟨_, fun w => rfl⟩
    | exact .inr ⟨_, fun w => rfl, fun h => by rw [ba_eq h]⟩
    | (split
       · rename_i he; subst he; exact .inr ⟨_, fun w => rfl, fun h => by simp only [beq_iff_eq] at h; rw [h]⟩
       · exact .inl ⟨_, fun w => rfl⟩)
theorem sim_findAsking {kt : TypeId} {d : TypeDesc} (hd : ∀ w, (underlying kt).run P w = .ok d w) (hdd : d = .string ∨ ∃ j, d = .int j) {k : Value} (hk : isKey k = true) {l l' : List MapEntry} (h : ER ρ l l') :
    ∀ i : Nat, Sim P w0 q ρ (fun ρ1 r r' => FR ρ1 k l i r r') (Instr.findAsking kt k l i) (Instr.findAsking kt k l' i) := by
  induction h with
  | nil => intro i; exact sim_pure fun _ _ => .inl ⟨rfl, rfl⟩
  | cons h1 h2 h3 h4 hl ih =>
    rename_i x x' l l'
    intro i
    unfold Instr.findAsking
    rw [h1]
    rcases run_eqKey hd hdd hk h2 with ⟨y, hy⟩ | ⟨b, hb, hbk⟩
    · intro ρ1 hle W w hr a W' e
      rw [Sem.run_bind, hy W] at e; cases e
    · refine sim_bind (sim_fixed (.inl ⟨b, hb⟩)) fun ρ1 c c' hle hc => ?_
      obtain ⟨rfl, hrun⟩ := hc
      have hbc : b = c := by have := (hb default).symm.trans (hrun default); cases this; rfl
      subst hbc
      cases b with
      | true => exact sim_pure fun ρ2 hle2 => .inr ⟨0, _, _, x, rfl, rfl, (h4.mono hle).mono hle2, rfl, hbk rfl⟩
      | false => exact (Sim.mono (fun ρ2 a a' _ h => h.step) (ih (i + 1))).up hle
theorem sim_findKey {kt : TypeId} {d : TypeDesc} (hd : ∀ w, (underlying kt).run P w = .ok d w) (hdd : d = .string ∨ ∃ j, d = .int j) {k : Value} (hk : isKey k = true) {l l' : List MapEntry} (h : ER ρ l l') :
    Sim P w0 q ρ (fun ρ1 r r' => FR ρ1 k l 0 r r') (Instr.findKey kt k l) (Instr.findKey kt k l') := by
  unfold Instr.findKey
  refine sim_bind (sim_fixed (fixed_underlying kt)) fun ρ1 c c' hle hc => ?_
  obtain ⟨rfl, _⟩ := hc
  rcases findNow_rel (ρ := ρ1) c k (h.mono hle) 0 with ⟨e1, e2⟩ | ⟨r, r', e1, e2, e3⟩
  · rw [e1, e2]; exact sim_findAsking hd hdd hk (h.mono hle) 0
  · rw [e1, e2]
    refine sim_pure fun ρ2 hle2 => ?_
    rcases e3 with h | ⟨j, v, v', x, h1, h2, h3, h4, h5⟩
    · exact .inl h
    · exact .inr ⟨j, v, v', x, h1, h2, h3.mono hle2, h4, h5⟩
theorem fixed_checkKey {kt : TypeId} {d : TypeDesc} (hd : ∀ w, (underlying kt).run P w = .ok d w) (hdd : d = .string ∨ ∃ j, d = .int j) (b : Bool) (k : Value) : ∀ w, (Instr.checkKey b 10000 kt k).run P w = .ok () w := by
  intro w
  unfold Instr.checkKey
  simp only [Sem.run_bind, hd, Result.andThen_ok]
  rcases hdd with rfl | ⟨j, rfl⟩ <;> rfl
theorem sameBits_key {k : Value} (hk : isKey k = true) : Instr.sameBits 10000 k k = true := by
  cases k <;> (try cases hk)
  · simp [Instr.sameBits]
  · exact ba_refl _
theorem sim_mapUpdate (t : TypeId) (hko : KeyOk P t) {m m' k v v' : Value} (hm : VR ρ m m') (hk : isKey k = true) (hv : VR ρ v v') : Sim P w0 false ρ (fun _ _ _ => True) (Instr.mapUpdate t m k v) (Instr.mapUpdate t m' k v') := by
  unfold Instr.mapUpdate
  refine sim_bind (sim_fixed (fixed_underlying t)) fun ρ1 d d' hle hd => ?_
  obtain ⟨rfl, hrun⟩ := hd
  cases d with
  | map kt et =>
    obtain ⟨d, hd, hdd⟩ := hko kt et hrun
    cases hm with
    | mnil => exact sim_panic _
    | map hL =>
      rename_i b L
      refine sim_bind (sim_getObj (hle _ _ hL)) fun ρ2 o o' hle2 ho => ?_
      cases ho with
      | map c he =>
        rename_i es es'
        refine sim_bind (sim_fixed (.inl ⟨(), fixed_checkKey hd hdd false k⟩)) fun ρ3 _ _ hle3 _ => ?_
        refine sim_bind (sim_findKey hd hdd hk (he.mono hle3)) fun ρ4 r r' hle4 hr => ?_
        have hL4 := hle4 _ _ (hle3 _ _ (hle2 _ _ (hle _ _ hL)))
        have he4 := (he.mono hle3).mono hle4
        have hv4 := (((hv.mono hle).mono hle2).mono hle3).mono hle4
        rcases hr with ⟨rfl, rfl⟩ | ⟨j, u, u', x, rfl, rfl, _, hx, hxk⟩
        · refine sim_setObj hL4 rfl (.map _ ?_)
          rw [Array.toList_push, Array.toList_push]
          exact he4.push c hk hv4
        · dsimp only
          have hold : ∀ (fs fs' : Array MapEntry), ER ρ4 fs.toList fs'.toList → (fs.toList)[j]? = some x → ((fs[0 + j]?).map (·.key)).getD k = k ∧ ((fs'[0 + j]?).map (·.key)).getD k = k := by
            intro fs fs' hE hx
            have key : ∀ (l l' : List MapEntry), ER ρ4 l l' → ∀ j : Nat, l[j]? = some x → ∃ x' : MapEntry, l'[j]? = some x' ∧ x'.key = x.key := by
              intro l l' hE
              induction hE with
              | nil => intro j h; simp at h
              | cons h1 h2 h3 h4 _ ih =>
                intro j h
                cases j with
                | zero => simp at h; subst h; exact ⟨_, rfl, h1⟩
                | succ j => exact ih j (by simpa using h)
            obtain ⟨x', hx', hk'⟩ := key _ _ hE j hx
            rw [Nat.zero_add]
            rw [Array.getElem?_toList] at hx hx'
            rw [hx, hx']
            exact ⟨hxk, by simp [hk', hxk]⟩
          obtain ⟨o1, o2⟩ := hold es es' he4 hx
          rw [o1, o2]
          unfold Instr.keyThatStays
          rw [if_pos (sameBits_key hk)]
          refine sim_setObj hL4 rfl (.map _ ?_)
          rw [Array.toList_modify, Array.toList_modify]
          exact he4.put hk hv4 _
      | _ => exact sim_halt
    | _ => exact sim_halt
  | _ => exact sim_halt
def lookTail (kt et : TypeId) (k : Value) (ok : Bool) (es : Array MapEntry) : Sem Value :=
  Instr.checkKey es.isEmpty 10000 kt k >>= fun _ => Instr.findKey kt k es.toList >>= fun r => match r with
    | some (_, v) => pure (if ok then .tuple #[v, .bool true] else v)
    | none => zeroValue et >>= fun z => pure (if ok then .tuple #[z, .bool false] else z)
theorem pair_VR {v v' : Value} (hv : VR ρ v v') (ok b : Bool) : VR ρ (if ok then .tuple #[v, .bool b] else v) (if ok then .tuple #[v', .bool b] else v') := by
  cases ok
  · exact hv
  · have : AR ρ #[v, .bool b] #[v', .bool b] := ((AR.nil ρ).push hv).push (.bool b)
    exact .tuple this.size this.get
theorem sim_lookTail {kt et : TypeId} (hz : ZeroPlain P et) {d : TypeDesc} (hd : ∀ w, (underlying kt).run P w = .ok d w) (hdd : d = .string ∨ ∃ j, d = .int j) {k : Value} (hk : isKey k = true) (ok : Bool) {es es' : Array MapEntry} (he : ER ρ es.toList es'.toList) :
    Sim P w0 q ρ VR (lookTail kt et k ok es) (lookTail kt et k ok es') := by
  unfold lookTail
  have hem : es.isEmpty = es'.isEmpty := by
    rw [← Array.isEmpty_toList, ← Array.isEmpty_toList]
    have : ∀ l l' : List MapEntry, ER ρ l l' → l.isEmpty = l'.isEmpty := by intro l l' h; cases h <;> rfl
    exact this _ _ he
  rw [hem]
  refine sim_bind (sim_fixed (.inl ⟨(), fixed_checkKey hd hdd _ k⟩)) fun ρ3 _ _ hle3 _ => ?_
  refine sim_bind (sim_findKey hd hdd hk (he.mono hle3)) fun ρ4 r r' hle4 hr => ?_
  rcases hr with ⟨rfl, rfl⟩ | ⟨j, u, u', x, rfl, rfl, hu, hx, hxk⟩
  · refine sim_bind (sim_zeroValue hz) fun ρ5 z z' hle5 hzz => ?_
    obtain ⟨rfl, hp⟩ := hzz
    exact sim_pure fun ρ6 hle6 => pair_VR (plain_refl hp ρ6) ok false
  · exact sim_pure fun ρ6 hle6 => pair_VR (hu.mono hle6) ok true
theorem sim_lookup {t : TypeId} (hz : ∀ kt et, (∀ w, (underlying t).run P w = .ok (.map kt et) w) → ZeroPlain P et) (hko : KeyOk P t) {m m' k : Value} (hm : VR ρ m m') (hk : isKey k = true) (ok : Bool) : Sim P w0 q ρ VR (Instr.lookup t m k ok) (Instr.lookup t m' k ok) := by
  unfold Instr.lookup
  refine sim_bind (sim_fixed (fixed_underlying t)) fun ρ1 d d' hle hd => ?_
  obtain ⟨rfl, hrun⟩ := hd
  cases d with
  | map kt et =>
    obtain ⟨d, hd, hdd⟩ := hko kt et hrun
    cases hm with
    | mnil => exact sim_lookTail (hz kt et hrun) hd hdd hk ok (es := #[]) (es' := #[]) .nil
    | map hL =>
      refine sim_bind (sim_getObj (hle _ _ hL)) fun ρ2 o o' hle2 ho => ?_
      cases ho with
      | map c he => exact sim_lookTail (hz kt et hrun) hd hdd hk ok he
      | _ => exact sim_halt
    | _ => exact sim_halt
  | _ => exact sim_halt
/-- A range over a string. -/
theorem sim_rangeString (t : TypeId) (s : ByteArray) : Sim P w0 false ρ VR (Instr.range t (.string s)) (Instr.range t (.string s)) := by
  unfold Instr.range
  refine sim_bind (sim_fixed (fixed_underlying t)) fun ρ1 d d' hle hd => ?_
  obtain ⟨rfl, hrun⟩ := hd
  cases d with
  | string =>
    refine sim_bind (RA := fun _ a a' => a = .stringIter s 0 ∧ a' = .stringIter s 0) (sim_pure fun _ _ => ⟨rfl, rfl⟩) fun ρ2 o o' _ ho => ?_
    obtain ⟨rfl, rfl⟩ := ho
    refine sim_bind (sim_newObj rfl fun ρ' L _ => .str s 0) fun ρ2 a a' hle2 ha => ?_
    obtain ⟨L, h1, rfl, h0⟩ := ha
    refine sim_pure fun ρ3 hle3 => ?_
    have := VR.ptr (o := 0) (hle3 _ _ h1)
    rw [h0] at this
    exact this
  | _ => exact sim_halt
theorem sim_nextString (t : TypeId) {v v' : Value} (hv : VR ρ v v') (hoff : ∀ b o L, v = .pointer (some ⟨b, o, none⟩) → ρ b = some L → L.off = 0) : Sim P w0 false ρ VR (Instr.next v true t) (Instr.next v' true t) := by
  unfold Instr.next
  cases hv with
  | ptr hL =>
    rename_i b o L
    have h0 := hoff b o L rfl hL
    rw [h0]
    cases o with
    | succ o => exact sim_halt
    | zero =>
      refine sim_bind (sim_getObj hL) fun ρ2 o o' hle2 ho => ?_
      cases ho with
      | str s n =>
        dsimp only
        split
        · refine sim_bind (sim_setObj (hle2 _ _ hL) rfl (.str s _)) fun ρ3 _ _ hle3 _ => ?_
          refine sim_pure fun ρ4 hle4 => ?_
          have : AR ρ4 #[.bool true, goInt n, .int .i32 (Utf8.decode s n).1] #[.bool true, goInt n, .int .i32 (Utf8.decode s n).1] := (((AR.nil ρ4).push (.bool true)).push (.int _ _)).push (.int _ _)
          exact .tuple this.size this.get
        · refine sim_pure fun ρ4 hle4 => ?_
          have : AR ρ4 #[.bool false] #[.bool false] := (AR.nil ρ4).push (.bool false)
          exact .tuple this.size this.get
      | _ => exact sim_halt
  | _ => exact sim_halt
theorem sim_len {ts : Array TypeId} (t : TypeId) {a a' : Array Value} (ha : AR ρ a a') : Sim P w0 q ρ VR (Builtin.len_ ts t a) (Builtin.len_ ts t a') := by
  unfold Builtin.len_
  cases hx : a[0]? with
  | none => rw [ha.none hx]; cases ts[0]? <;> exact sim_halt
  | some x =>
    obtain ⟨x', hx', hv⟩ := ha.some hx
    rw [hx']
    cases ts[0]? with
    | none => exact sim_halt
    | some u =>
      refine sim_bind (sim_fixed (fixed_underlying u)) fun ρ1 d d' hle hd => ?_
      obtain ⟨rfl, hrun⟩ := hd
      have hv1 := hv.mono hle
      cases d with
      | string => cases hv1 <;> first | exact sim_halt | exact sim_pure fun _ _ => .int _ _
      | array n e => exact sim_pure fun _ _ => .int _ _
      | pointer e =>
        refine sim_bind (sim_fixed (fixed_underlying e)) fun ρ2 d d' hle2 hd => ?_
        obtain ⟨rfl, hrun⟩ := hd
        cases d <;> first | exact sim_halt | exact sim_pure fun _ _ => .int _ _
      | slice e => cases hv1 <;> first | exact sim_halt | exact sim_pure fun _ _ => .int _ _
      | map kt et =>
        cases hv1 with
        | mnil => exact sim_pure fun _ _ => .int _ _
        | map hL =>
          refine sim_bind (sim_getObj hL) fun ρ2 o o' hle2 ho => ?_
          cases ho with
          | map c he =>
            rename_i es es'
            have hs : es.size = es'.size := by
              have : ∀ l l' : List MapEntry, ER ρ2 l l' → l.length = l'.length := by
                intro l l' h
                induction h with
                | nil => rfl
                | cons _ _ _ _ _ ih => simp [ih]
              simpa using this _ _ he
            dsimp only
            rw [hs]
            exact sim_pure fun _ _ => .int _ _
          | _ => exact sim_halt
        | _ => exact sim_halt
      | chan _ _ => cases hv1 <;> exact sim_halt
      | _ => exact sim_halt
end
end Go.Proofs.YtnnppmcbgfadpaaGreatDoor
