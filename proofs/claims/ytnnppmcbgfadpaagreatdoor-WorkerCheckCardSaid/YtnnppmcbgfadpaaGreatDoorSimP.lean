/- Operations: unsafe.String, the next entry of a map. -/
import Derived.Test.YtnnppmcbgfadpaaGreatDoorSimO
import Derived.Lib.UnsafeStr
namespace Go.Proofs.YtnnppmcbgfadpaaGreatDoor
open Go.RowKit
section
variable {P : Program} {w0 : World} {q : Bool} {ρ : Ren} {W w : World} {pw pw' : PW}
theorem sim_loadBytes : ∀ (n : Nat) {ρ : Ren} {a a' : Addr} (acc : ByteArray), DR ρ a a' → Sim P w0 q ρ (fun _ x x' => x = x') (loadBytes a acc n) (loadBytes a' acc n)
  | 0, _, _, _, acc, _ => sim_pure fun _ _ => rfl
  | n + 1, ρ, a, a', acc, h => by
    unfold loadBytes
    refine sim_bind (sim_load' h) fun ρ1 v v' hle hv => ?_
    cases hv with
    | int k b => cases k <;> first | exact sim_halt | exact sim_loadBytes n _ ((h.mono hle).add 1)
    | _ => exact sim_halt
theorem patString_rel {ts : Array TypeId} {ty : TypeId} {args args' : Array Value} (ha : AR ρ args args') {v : Value} (h : patString P ts args pw = some (v, pw')) (hrel : Rel pw W) (hr : HR P w0 ρ W w) :
    ∃ v' w' W', (Builtin.unsafeString_ ts ty args').run P w = .ok v' w' ∧ VR ρ v v' ∧ Rel pw' W' ∧ HR P w0 ρ W' w' := by
  unfold patString at h
  split at h
  · rename_i p n t it hargs ht
    have he : args = #[.pointer p, .int .i64 n] := by rw [← hargs]
    have ht' : ts = #[t, it] := by rw [← ht]
    subst he; subst ht'
    obtain ⟨p', x', rfl, hp, hx⟩ := AR_two ha
    cases hx
    split at h
    · rename_i hn
      subst hn
      cases h
      refine ⟨.string .empty, w, W, ?_, .string _, hrel, hr⟩
      cases hp <;> exact Lib.run_unsafeString_none _ _ _ _ _
    · rename_i hn
      split at h
      · rename_i a u hu
        split at h
        · rename_i row e fz hb
          split at h
          · rename_i hc
            obtain ⟨h1, h2, rfl, h4, h5, h6⟩ := hc
            split at h
            · rename_i s pw1 hrun
              cases h
              obtain ⟨b, o, sp⟩ := a
              simp only at h1 h2 hb
              subst h1; subst h2
              cases hp with
              | ptr hL =>
                rename_i L
                have hbW : W.heap[b]? = some (.cells row e (0, 0)) := by rw [hrel.get, hb]
                obtain ⟨o', ho', hor⟩ := hr.get hbW rfl hL
                have h0 := hr.off0 b L hL
                obtain ⟨W', r1, r2⟩ := runP_run _ _ _ _ _ hrun hrel
                obtain ⟨ρ2, s', w', x1, x2, x3, x4, x5⟩ := sim_loadBytes (P := P) (w0 := w0) (q := true) row.size (ρ := ρ) (a := ⟨b, 0, none⟩) (a' := ⟨L.blk, L.off + 0, none⟩) .empty ⟨_, _, _, hL, rfl, rfl⟩ ρ (Ren.le_refl _) W w hr s W' r1
                obtain ⟨e1, e2, e3⟩ := x5 rfl
                subst e1; subst e3; subst x3
                cases hor with
                | cells g1 g2 g3 g4 g5 g6 g7 =>
                  rename_i c' fz'
                  have hfz := g7 rfl
                  obtain ⟨lo, hi⟩ := fz'
                  simp only at hfz
                  subst hfz
                  have h4' : (row.size : Int) = n := h4
                  have hnt : n.toNat = row.size := by omega
                  have hpos : 0 < row.size := by omega
                  have hlies : liesAt P P.depth e (c'.size / P.cellsOf e) (L.off + 0) u row.size = true := by
                    rw [h0]; exact liesAt_mono _ _ _ _ _ _ _ (Nat.div_le_div_right (by omega)) h6
                  have hva : (variablesAt ⟨L.blk, L.off + 0, none⟩ u row.size).run P w' = .ok true w' := by
                    rw [variablesAt_run (a := ⟨L.blk, L.off + 0, none⟩) ho', hlies]
                  have hel : (elemOf t).run P w' = .ok u w' := by
                    unfold elemOf; rw [Sem.run_bind, run_underlying hu]; rfl
                  have hblt : L.blk < w'.heap.size := (Array.getElem?_eq_some_iff.1 ho').1
                  refine ⟨.string s, w'.freeze ⟨L.blk, L.off + 0, none⟩ row.size, { W with heap := W.heap.setIfInBounds b (.cells row e (0, row.size)) }, ?_, .string _, hrel.set (PW.get_lt hb) _, ?_⟩
                  · have hfr : ∀ (w : World), (freeze ⟨L.blk, L.off + 0, none⟩ row.size).run P w = .ok () (w.freeze ⟨L.blk, L.off + 0, none⟩ row.size) := fun _ => rfl
                    have hmax : ¬ (n > IntKind.i64.max) := by have : IntKind.i64.max = 9223372036854775807 := rfl; omega
                    have has : ∀ w, (asInt (.int .i64 n)).run P w = .ok n w := fun _ => rfl
                    have hdef : ∀ a : Addr, Builtin.unsafeString_ #[t, it] ty #[.pointer (some a), .int .i64 n] =
                        (do
                          let n ← asInt (.int .i64 n)
                          if n < 0 then runtimePanic (.error "unsafe.String: len out of range")
                          if n > IntKind.i64.max then unsupported (.unsafePointer "String: a length above the largest int")
                          if n = 0 then pure (.string .empty)
                          else if ← variablesAt a (← elemOf t) n.toNat then do
                            let s ← loadBytes a .empty n.toNat
                            freeze a n.toNat
                            pure (.string s)
                          else unsupported (.unsafePointer "String: not so many bytes at ptr")) := fun _ => rfl
                    rw [hdef]
                    simp only [Sem.run_bind, has, Result.andThen_ok]
                    rw [if_neg (by omega), if_neg hmax, if_neg hn]
                    simp only [Sem.run_bind, hel, hnt, hva, Result.andThen_ok, if_true, x2, hfr]
                    rfl
                  · have hW' : w'.freeze ⟨L.blk, L.off + 0, none⟩ row.size = { w' with heap := w'.heap.modify L.blk fun
                        | .cells c elem (lo, hi) => .cells c elem (if lo == hi then (L.off + 0, L.off + 0 + row.size) else (min lo (L.off + 0), max hi (L.off + 0 + row.size)))
                        | o => o } := by
                      unfold World.freeze; rw [if_neg (by omega)]; rfl
                    rw [hW']
                    refine hr.update (b := b) (L := L) (o := .cells row e (0, 0)) (o2 := .cells row e (0, row.size)) (o2' := .cells c' e (L.off + 0, L.off + 0 + row.size)) hbW rfl ?_ hL ?_ ?_ ?_ ?_ ?_ ?_ ?_ rfl rfl rfl ?_
                    · show (((0 : Nat) == 0) && decide (row.size ≤ 0)) = false
                      simp only [beq_self_eq_true, Bool.true_and, decide_eq_false_iff_not]; omega
                    · simp
                    · have hlt : b < W.heap.size := (Array.getElem?_eq_some_iff.1 hbW).1
                      simp [hlt]
                    · intro i hi; simp only [Array.getElem?_setIfInBounds, if_neg (fun e : b = i => hi e.symm)]
                    · simp [liveO]
                    · simp
                    · simp only [getElem?_modify', if_true, ho', Option.map_some, beq_self_eq_true]
                    · intro i hi; simp only [getElem?_modify', if_neg (fun e : L.blk = i => hi e.symm)]
                    · refine .cells g1 g2 g3 g4 g5 (fun k k1 k2 => ?_) (fun hh => ?_)
                      · simp only at k1 k2 ⊢; omega
                      · simp only [Prod.mk.injEq, true_and] at hh; omega
            · cases h
          · cases h
        · cases h
      · cases h
  · cases h
theorem runP_bind {α β : Type} : ∀ (m : Sem α) (f : α → Sem β) (pw : PW), runP P (m >>= f) pw = match runP P m pw with
    | some (a, pw1) => runP P (f a) pw1
    | none => none := by
  intro m f
  show ∀ pw, runP P (m.bind f) pw = _
  induction m with
  | pure a => intro pw; rfl
  | halt h => intro pw; rfl
  | load md a k ih => intro pw; simp only [Sem.bind, runP]; cases pw.cell a <;> simp [ih]
  | store md a v k ih => intro pw; simp only [Sem.bind, runP]; split <;> simp [ih]
  | new o k ih => intro pw; simp only [Sem.bind, runP]; split <;> simp [ih]
  | shape r k ih => intro pw; simp only [Sem.bind, runP, ih]
  | freeze a n k ih => intro pw; rfl
  | frozen a k ih => intro pw; simp only [Sem.bind, runP, ih]
  | getObj r k ih => intro pw; simp only [Sem.bind, runP]; split <;> simp [ih]
  | setObj r o k ih => intro pw; simp only [Sem.bind, runP]; split <;> simp [ih]
  | choose q k ih => intro pw; simp only [Sem.bind, runP]; split <;> simp [ih]
  | sys c k ih => intro pw; rfl
  | program k ih => intro pw; simp only [Sem.bind, runP, ih]
  | mark m k ih => intro pw; simp only [Sem.bind, runP, ih]
theorem runP_getObj {r : Nat} {o : Obj} (h : runP P (getObj r) pw = some (o, pw')) : pw' = pw ∧ pw.get r = some o ∧ ∀ c e fz, o ≠ .cells c e fz := by
  unfold getObj at h
  simp only [runP] at h
  cases hg : pw.get r with
  | none => rw [hg] at h; cases h
  | some x =>
    rw [hg] at h
    cases x <;> first | (cases h; done) | (simp only [Option.some.injEq, Prod.mk.injEq] at h; obtain ⟨rfl, rfl⟩ := h; exact ⟨rfl, rfl, fun _ _ _ e => by cases e⟩)
inductive OE (ρ : Ren) : List (Option MapEntry) → List (Option MapEntry) → Prop
  | nil : OE ρ [] []
  | none {l l' : List (Option MapEntry)} (hl : OE ρ l l') : OE ρ (.none :: l) (.none :: l')
  | some {x x' : MapEntry} {l l' : List (Option MapEntry)} (hk : x'.key = x.key) (hi : isKey x.key = true) (hb : x'.born = x.born) (hv : VR ρ x.val x'.val) (hl : OE ρ l l') : OE ρ (.some x :: l) (.some x' :: l')
theorem OE.of {l l' : List MapEntry} (h : ER ρ l l') : OE ρ (l.map Option.some) (l'.map Option.some) := by
  induction h with
  | nil => exact .nil
  | cons hk hi hb hv hl ih => exact .some hk hi hb hv ih
theorem OE.length {l l' : List (Option MapEntry)} (h : OE ρ l l') : l.length = l'.length := by
  induction h with
  | nil => rfl
  | none _ ih => simp [ih]
  | some _ _ _ _ _ ih => simp [ih]
theorem OE.get {l l' : List (Option MapEntry)} (h : OE ρ l l') : ∀ i : Nat, (l[i]? = Option.none ∧ l'[i]? = Option.none) ∨ (l[i]? = Option.some Option.none ∧ l'[i]? = Option.some Option.none) ∨
    ∃ x x' : MapEntry, l[i]? = Option.some (Option.some x) ∧ l'[i]? = Option.some (Option.some x') ∧ x'.key = x.key ∧ isKey x.key = true ∧ x'.born = x.born ∧ VR ρ x.val x'.val := by
  induction h with
  | nil => intro i; exact .inl ⟨by simp, by simp⟩
  | none hl ih =>
    intro i
    cases i with
    | zero => exact .inr (.inl ⟨rfl, rfl⟩)
    | succ i => simpa using ih i
  | @some x x' l l' hk hi hb hv hl ih =>
    intro i
    cases i with
    | zero => exact .inr (.inr ⟨x, x', rfl, rfl, hk, hi, hb, hv⟩)
    | succ i => simpa using ih i
def candE (es : Array MapEntry) (since : Nat) (seen : Array Nat) : Array (Option MapEntry) :=
  (if (Array.filter (fun x => decide (x.born < since)) (Array.filter (fun e => !seen.contains e.born) es)).isEmpty = true then #[Option.none] else #[]) ++
    Array.map Option.some (Array.filter (fun x => decide (x.born < since)) (Array.filter (fun e => !seen.contains e.born) es) ++ Array.filter (fun x => decide (x.born ≥ since)) (Array.filter (fun e => !seen.contains e.born) es))
theorem candE_rel {es es' : Array MapEntry} (he : ER ρ es.toList es'.toList) (since : Nat) (seen : Array Nat) : OE ρ (candE es since seen).toList (candE es' since seen).toList := by
  have h1 := he.filter (fun n => !seen.contains n)
  have h2 := h1.filter (fun n => decide (n < since))
  have h3 := h1.filter (fun n => decide (n ≥ since))
  have key : ∀ es : Array MapEntry, (candE es since seen).toList = (if ((es.toList.filter (fun e => !seen.contains e.born)).filter (fun x => decide (x.born < since))).isEmpty = true then [Option.none] else []) ++
      ((es.toList.filter (fun e => !seen.contains e.born)).filter (fun x => decide (x.born < since)) ++ (es.toList.filter (fun e => !seen.contains e.born)).filter (fun x => decide (x.born ≥ since))).map Option.some := by
    intro es
    unfold candE
    rw [Array.toList_append, Array.toList_map, Array.toList_append, Array.toList_filter, Array.toList_filter, Array.toList_filter, ← Array.isEmpty_toList, Array.toList_filter, Array.toList_filter]
    split <;> rfl
  rw [key, key]
  have hlen := h2.len
  have hemp : ((es.toList.filter (fun e => !seen.contains e.born)).filter (fun x => decide (x.born < since))).isEmpty = ((es'.toList.filter (fun e => !seen.contains e.born)).filter (fun x => decide (x.born < since))).isEmpty := by
    generalize (es.toList.filter (fun e => !seen.contains e.born)).filter (fun x => decide (x.born < since)) = A at hlen ⊢
    generalize (es'.toList.filter (fun e => !seen.contains e.born)).filter (fun x => decide (x.born < since)) = B at hlen ⊢
    cases A <;> cases B <;> simp at hlen ⊢
  rw [hemp]
  have := OE.of (h2.app h3)
  split
  · exact .none this
  · exact this
theorem next_off {it : Value} {t : TypeId} {b o : Nat} {nx : Value × PW} (h : runP P (Instr.next (.pointer (some ⟨b, o, none⟩)) false t) pw = some nx) : o = 0 := by
  cases o with
  | zero => rfl
  | succ o => unfold Instr.next at h; cases h
theorem nextMap_rel {t : TypeId} {it it' v : Value} (hv : VR ρ it it') (h : runP P (Instr.next it false t) pw = some (v, pw')) (hrel : Rel pw W) (hr : HR P w0 ρ W w) :
    ∃ ρ' v' w' W', ρ.le ρ' ∧ (Instr.next it' false t).run P w = .ok v' w' ∧ VR ρ' v v' ∧ Rel pw' W' ∧ HR P w0 ρ' W' w' := by
  cases hv with
  | ptr hL =>
    rename_i b o L
    have ho := next_off (it := .pointer none) h
    subst ho
    have h0 := hr.off0 b L hL
    rw [h0]
    unfold Instr.next at h ⊢
    simp only [runP_bind] at h
    cases hg : runP P (getObj b) pw with
    | none => rw [hg] at h; cases h
    | some x =>
      obtain ⟨ob, pw1⟩ := x
      rw [hg] at h
      obtain ⟨rfl, hgb, hnc⟩ := runP_getObj hg
      have hbW : W.heap[b]? = some ob := by rw [hrel.get, hgb]
      obtain ⟨o', ho', hor⟩ := hr.get hbW (hr.live hbW hnc) hL
      have hgo := getObj_run (P := P) ho' (hor.notCells hnc)
      simp only [Sem.run_bind, Nat.add_zero, hgo, Result.andThen_ok]
      cases hor with
      | mapIterNone a c d =>
        cases h
        refine ⟨ρ, _, w, W, Ren.le_refl _, rfl, ?_, hrel, hr⟩
        have : AR ρ #[.bool false] #[.bool false] := (AR.nil ρ).push (.bool false)
        exact .tuple this.size this.get
      | mapIter hm since seen last =>
        rename_i m M
        simp only at h
        cases hg2 : runP P (getObj m) pw1 with
        | none => rw [runP_bind, hg2] at h; cases h
        | some x =>
          obtain ⟨om, pw2⟩ := x
          rw [runP_bind, hg2] at h
          obtain ⟨rfl, hgm, hncm⟩ := runP_getObj hg2
          have hmW : W.heap[m]? = some om := by rw [hrel.get, hgm]
          obtain ⟨om', hom', horm⟩ := hr.get hmW (hr.live hmW hncm) hm
          have hgo2 := getObj_run (P := P) hom' (horm.notCells hncm)
          simp only [Sem.run_bind, hgo2, Result.andThen_ok]
          cases horm with
          | map clock he =>
            rename_i es es'
            simp only at h ⊢
            have hcond : (!seen.isEmpty && !es.isEmpty && es.all fun x => decide (x.born ≥ last)) = (!seen.isEmpty && !es'.isEmpty && es'.all fun x => decide (x.born ≥ last)) := by
              have h1 := he.allb (fun n => decide (n ≥ last))
              have h2 : es.size = es'.size := by simpa using he.len
              have hemp : es.isEmpty = es'.isEmpty := by
                rw [Bool.eq_iff_iff, Array.isEmpty_iff_size_eq_zero, Array.isEmpty_iff_size_eq_zero]; omega
              have hall : (es.all fun x => decide (x.born ≥ last)) = es'.all fun x => decide (x.born ≥ last) := by
                rw [← Array.all_toList, ← Array.all_toList]; exact h1
              rw [hemp, hall]
            rw [hcond] at h
            split at h
            · cases h
            · rename_i hc
              rw [if_neg hc]
              have hc1 := candE_rel he since seen
              change runP P (choose (.mapNext (candE es since seen).size) >>= fun k => match (candE es since seen)[k]? with
                | some (some e) => do
                  setObj b (Obj.mapIter (some m) since (seen.push e.born) clock)
                  pure (Value.tuple #[Value.bool true, e.key, e.val])
                | some none => pure (Value.tuple #[Value.bool false])
                | none => stuck "Next: no such candidate") pw2 = _ at h
              change ∃ ρ' v' w' W', ρ.le ρ' ∧ (choose (.mapNext (candE es' since seen).size) >>= fun k => match (candE es' since seen)[k]? with
                | some (some e) => do
                  setObj L.blk (Obj.mapIter (some M.blk) since (seen.push e.born) clock)
                  pure (Value.tuple #[Value.bool true, e.key, e.val])
                | some none => pure (Value.tuple #[Value.bool false])
                | none => stuck "Next: no such candidate").run P w = _ ∧ _
              generalize candE es since seen = A at h hc1
              generalize candE es' since seen = B at hc1 ⊢
              have hsz : A.size = B.size := by simpa using hc1.length
              have hg0 := hc1.get 0
              simp only [Array.getElem?_toList] at hg0
              by_cases hf : A.size ≤ 1
              · have hr1 : runP P (choose (.mapNext A.size)) pw2 = some (0, pw2) := by
                  show (if (Question.mapNext A.size).forced = true then _ else _) = _
                  rw [if_pos (by simp [Question.forced, hf])]; rfl
                have hr2 : (choose (.mapNext B.size)).run P w = .ok 0 w := by
                  show (if (Question.mapNext B.size).forced = true then _ else _) = _
                  rw [if_pos (by simp [Question.forced]; omega)]; rfl
                rw [runP_bind, hr1] at h
                rw [Sem.run_bind, hr2, Result.andThen_ok]
                simp only at h
                rcases hg0 with ⟨k1, k2⟩ | ⟨k1, k2⟩ | ⟨x, x', k1, k2, k3, k4, k5, k6⟩
                · rw [k1] at h; cases h
                · rw [k1] at h; cases h
                  rw [k2]
                  refine ⟨ρ, _, w, W, Ren.le_refl _, rfl, ?_, hrel, hr⟩
                  have : AR ρ #[.bool false] #[.bool false] := (AR.nil ρ).push (.bool false)
                  exact .tuple this.size this.get
                · rw [k1] at h
                  rw [k2]
                  simp only [k3, k5]
                  have hlo : liveO (.mapIter (some m) since (seen.push x.born) clock) = true := rfl
                  have hsim := sim_setObj (P := P) (w0 := w0) hL hlo (OR.mapIter (P := P) (L := L) hm since (seen.push x.born) clock)
                  rw [runP_bind] at h
                  cases hst : runP P (setObj b (Obj.mapIter (some m) since (seen.push x.born) clock)) pw2 with
                  | none => rw [hst] at h; cases h
                  | some y =>
                    obtain ⟨u, pw3⟩ := y
                    rw [hst] at h
                    cases h
                    obtain ⟨W1, r1, r2⟩ := runP_run _ _ _ _ _ hst hrel
                    obtain ⟨ρ2, u', w1, x1, x2, x3, x4, x5⟩ := hsim ρ (Ren.le_refl _) W w hr u W1 r1
                    refine ⟨ρ2, Value.tuple #[Value.bool true, x.key, x'.val], w1, W1, x1, ?_, ?_, r2, x4⟩
                    · rw [Sem.run_bind, x2]; rfl
                    · have : AR ρ2 #[.bool true, x.key, x.val] #[.bool true, x.key, x'.val] := (((AR.nil ρ2).push (.bool true)).push (key_VR k4 ρ2)).push (k6.mono x1)
                      exact .tuple this.size this.get
              · rw [runP_bind] at h
                have : runP P (choose (.mapNext A.size)) pw2 = none := by
                  show (if (Question.mapNext A.size).forced = true then _ else _) = _
                  rw [if_neg (by simp [Question.forced]; omega)]
                rw [this] at h; cases h
          | _ => cases h
      | _ => cases h
  | _ => cases h
end
end Go.Proofs.YtnnppmcbgfadpaaGreatDoor
