/- The program's Line. -/
import Derived.Test.YtglekdhdogjnoaaGreatDoorPrgG
import Derived.Test.YtglekdhdogjnoaaGreatDoorPrgH
import Derived.Test.YtglekdhdogjnoaaGreatDoorPrgJ
import Derived.Test.YtglekdhdogjnoaaGreatDoorLineLaw
import Derived.Test.YtglekdhdogjnoaaGreatDoorEnvC
namespace Go.Proofs.YtglekdhdogjnoaaGreatDoor
open Go.RowKit
set_option linter.unusedSimpArgs false
def MapIn (v : Value) (w : World) : Prop := ∃ b, v = .map (some b) ∧ w.heap[b]? = some (.map formsE 8)
theorem MapIn.st {base : Nat} {Zc : Array Value} {T : TypeId} {V : Obj} : ∀ (v : Value) (w w' : World), GrowZ base (.cells Zc T (0, 0)) V w w' → MapIn v w → MapIn v w' := by
  rintro v w w' h ⟨b, rfl, hb⟩
  exact ⟨b, rfl, h.keep hb (.inl (by simp))⟩
def formA (s : ByteArray) (f g : Nat) : Array Value := #[.string s, .func (.func f) #[] #[], .func (.func g) #[] #[]]
theorem formA_ok (s : ByteArray) (f g : Nat) : (formA s f g).size = 3 ∧ (formA s f g).all (·.oneCell') = true := by simp [formA, Value.oneCell']
def formC (k : Int) : Array Value :=
  if k = 1 then formA ⟨#[115, 117, 98, 109, 105, 116]⟩ 28 32 else if k = 2 then formA ⟨#[97, 112, 112, 114, 111, 118, 101]⟩ 65 66 else if k = 3 then formA ⟨#[116, 105, 99, 107]⟩ 36 37 else if k = 4 then formA ⟨#[99, 117, 116]⟩ 38 40 else if k = 5 then formA ⟨#[112, 111, 119, 101, 114]⟩ 67 68 else if k = 6 then formA ⟨#[119, 111, 114, 107, 101, 114]⟩ 43 44 else if k = 7 then formA ⟨#[114, 111, 108, 108, 98, 97, 99, 107]⟩ 65 66 else if k = 8 then formA ⟨#[114, 117, 110]⟩ 67 68 else #[.string ⟨#[]⟩, .nilFunc, .nilFunc]
theorem formC_eq (k : Int) : (formOf k).1 = .agg (formC k) ∧ (formC k).size = 3 ∧ (formC k).all (·.oneCell') = true := by
  unfold formOf formC
  by_cases h0 : k = 1
  · simp only [h0, if_true, if_false, Int.reduceEq]; exact ⟨rfl, formA_ok _ _ _⟩
  by_cases h1 : k = 2
  · simp only [h1, if_true, if_false, Int.reduceEq]; exact ⟨rfl, formA_ok _ _ _⟩
  by_cases h2 : k = 3
  · simp only [h2, if_true, if_false, Int.reduceEq]; exact ⟨rfl, formA_ok _ _ _⟩
  by_cases h3 : k = 4
  · simp only [h3, if_true, if_false, Int.reduceEq]; exact ⟨rfl, formA_ok _ _ _⟩
  by_cases h4 : k = 5
  · simp only [h4, if_true, if_false, Int.reduceEq]; exact ⟨rfl, formA_ok _ _ _⟩
  by_cases h5 : k = 6
  · simp only [h5, if_true, if_false, Int.reduceEq]; exact ⟨rfl, formA_ok _ _ _⟩
  by_cases h6 : k = 7
  · simp only [h6, if_true, if_false, Int.reduceEq]; exact ⟨rfl, formA_ok _ _ _⟩
  by_cases h7 : k = 8
  · simp only [h7, if_true, if_false, Int.reduceEq]; exact ⟨rfl, formA_ok _ _ _⟩
  simp only [h0, h1, h2, h3, h4, h5, h6, h7, if_false]
  exact ⟨trivial, rfl, by simp [Value.oneCell']⟩
theorem formC_none (k : Int) (h : k < 1 ∨ 8 < k) : (formOf k).2 = false := by
  simp only [formOf]
  rw [if_neg (by omega), if_neg (by omega), if_neg (by omega), if_neg (by omega), if_neg (by omega), if_neg (by omega), if_neg (by omega), if_neg (by omega)]
theorem form_cases (A : PAct) (hk : 1 ≤ A.kind ∧ A.kind ≤ 8) (hs : Small A) : ∃ f g, formOf A.kind = (formV (S (wordL A.kind)) f g, true) ∧ Writes f A (wordsOf A) (badOf A) ∧ ∀ args w, (callFunc f args).run Tryz.prog w = .ok (.enter f args) w := by
  have hw : A.who.size ≤ 2000 := Nat.le_trans hs.who (by omega)
  have h : A.kind = 1 ∨ A.kind = 2 ∨ A.kind = 3 ∨ A.kind = 4 ∨ A.kind = 5 ∨ A.kind = 6 ∨ A.kind = 7 ∨ A.kind = 8 := by omega
  rcases h with h | h | h | h | h | h | h | h
  · refine ⟨28, 32, by rw [h]; rfl, ?_, fun _ _ => by simp [go_sem]⟩
    have e := write_submit A hw (Nat.le_trans hs.nfiles (by omega)) hs.files
    unfold wordsOf badOf
    simp only [h, Int.reduceEq, or_false, false_or, or_true, true_or, if_true, if_false]
    exact e
  · refine ⟨65, 66, by rw [h]; rfl, ?_, fun _ _ => by simp [go_sem]⟩
    have e := write_person A hw
    unfold wordsOf badOf
    simp only [h, Int.reduceEq, or_false, false_or, or_true, true_or, if_true, if_false]
    exact e
  · refine ⟨36, 37, by rw [h]; rfl, ?_, fun _ _ => by simp [go_sem]⟩
    have e := write_tick A
    unfold wordsOf badOf
    simp only [h, Int.reduceEq, or_false, false_or, or_true, true_or, if_true, if_false]
    exact e
  · refine ⟨38, 40, by rw [h]; rfl, ?_, fun _ _ => by simp [go_sem]⟩
    have e := write_cut A hs.npicks
    unfold wordsOf badOf
    simp only [h, Int.reduceEq, or_false, false_or, or_true, true_or, if_true, if_false]
    exact e
  · refine ⟨67, 68, by rw [h]; rfl, ?_, fun _ _ => by simp [go_sem]⟩
    have e := write_count A
    unfold wordsOf badOf
    simp only [h, Int.reduceEq, or_false, false_or, or_true, true_or, if_true, if_false]
    exact e
  · refine ⟨43, 44, by rw [h]; rfl, ?_, fun _ _ => by simp [go_sem]⟩
    have e := write_worker A hw
    unfold wordsOf badOf
    simp only [h, Int.reduceEq, or_false, false_or, or_true, true_or, if_true, if_false]
    exact e
  · refine ⟨65, 66, by rw [h]; rfl, ?_, fun _ _ => by simp [go_sem]⟩
    have e := write_person A hw
    unfold wordsOf badOf
    simp only [h, Int.reduceEq, or_false, false_or, or_true, true_or, if_true, if_false]
    exact e
  · refine ⟨67, 68, by rw [h]; rfl, ?_, fun _ _ => by simp [go_sem]⟩
    have e := write_count A
    unfold wordsOf badOf
    simp only [h, Int.reduceEq, or_false, false_or, or_true, true_or, if_true, if_false]
    exact e
theorem aside_files {w w' : World} {pw : Nat} {vf : Value} {fs : List File} (h : FilesAt w vf fs) (hp : w.heap.size ≤ pw) (hp' : pw < w'.heap.size) (hr : rowOf w' pw = none) : Aside w' pw vf := by
  intro b o n c e
  obtain ⟨a, c', rfl, h2, h3⟩ := h
  simp only [Value.slice.injEq] at e
  obtain ⟨rfl, rfl, _⟩ := e
  rcases h3 with h3 | ⟨b', o', e, hc⟩
  · left; rw [h3]; rfl
  · simp only [Option.some.injEq, Addr.mk.injEq] at e
    obtain ⟨rfl, rfl, _⟩ := e
    cases fs with
    | nil => left; rfl
    | cons f fs =>
      right
      have := World.block_lt_of_cell? w _ (hc 0 f rfl).1
      simp only at this
      exact ⟨by omega, by omega, by rw [hr]; simp⟩
theorem aside_ints {w w' : World} {pw : Nat} {vf : Value} {fs : List Int} (h : IntsAt w vf fs) (hp : w.heap.size ≤ pw) (hp' : pw < w'.heap.size) (hr : rowOf w' pw = none) : Aside w' pw vf := by
  intro b o n c e
  obtain ⟨a, c', rfl, h2, -, h3⟩ := h
  simp only [Value.slice.injEq] at e
  obtain ⟨rfl, rfl, _⟩ := e
  rcases h3 with h3 | ⟨b', o', e, hc⟩
  · left; rw [h3]; rfl
  · simp only [Option.some.injEq, Addr.mk.injEq] at e
    obtain ⟨rfl, rfl, _⟩ := e
    cases fs with
    | nil => left; rfl
    | cons f fs =>
      right
      have := World.block_lt_of_cell? w _ (hc 0 f rfl)
      simp only at this
      exact ⟨by omega, by omega, by rw [hr]; simp⟩
abbrev formZ : Obj := .cells #[.string ⟨#[]⟩, .nilFunc, .nilFunc] 52 (0, 0)
theorem look_in {w : World} {b : Nat} (h : w.heap[b]? = some (.map formsE 8)) (k : Int) : (Instr.lookup 47 (.map (some b)) (.int .i64 k) true).run Tryz.prog w = .ok (.tuple #[(formOf k).1, .bool (formOf k).2]) w :=
  look_forms (w0 := w) (b := b) (c := 8) ⟨Below.refl _ _, h⟩ k
theorem WStep.below {pw : Nat} {w w' : World} {xs : List ByteArray} {o t : Bool} {v : Value} (s : WStep pw w w') (h : WrAt w pw xs o t v) : Below pw w w' :=
  ⟨s.os, s.tape, s.output, s.size, fun k hk => s.block k (Nat.lt_trans hk h.lt) (by omega) (fun e => by have := h.row_ge k e; omega)⟩
theorem BoxAt.below {w w' : World} {b pw : Nat} {A : PAct} {vf vp : Value} (h : BoxAt w b A vf vp) (k : Below pw w w') (hl : b < pw) : BoxAt w' b A vf vp := by
  have e : ∀ i, w'.cell? ⟨b, i, none⟩ = w.cell? ⟨b, i, none⟩ := fun i => k.cell hl
  unfold BoxAt at *
  simp only [e]
  exact h
theorem wline_form (xs : List ByteArray) (o t : Bool) : ∃ s n, wlineR xs o t = .tuple #[.string s, .int .i64 n] := by
  unfold wlineR
  repeat' split
  all_goals exact ⟨_, _, rfl⟩
theorem size56 : (Tryz.prog.info? 52).map (·.size) = some 3 := by kernel_rfl
theorem ment_at {w : World} {A : PAct} {vf vp : Value} (h : ActAt w A vf vp) : ActAt w (mentP A) (mentF A vf) (mentV A vp) := by
  have z : I64 0 := ⟨by omega, by omega⟩
  have e1 : FilesAt w (.slice none 0 0) [] := ⟨none, 0, rfl, by simp, .inl rfl⟩
  have e2 : IntsAt w (.slice none 0 0) [] := ⟨none, 0, rfl, by simp, by simp, .inl rfl⟩
  unfold mentP mentF mentV
  by_cases h1 : A.kind = 1
  · simp only [h1, if_true, show ¬ ((1 : Int) = 4) by omega, if_false]
    exact ⟨h.files, e2, by rw [← h1]; exact h.kind, z, h.priority, h.at_, z⟩
  by_cases h2 : A.kind = 2 ∨ A.kind = 7
  · rw [if_neg h1, if_pos h2, if_neg h1, if_neg (by omega)]
    exact ⟨e1, e2, h.kind, h.change, z, z, z⟩
  by_cases h4 : A.kind = 4
  · rw [if_neg h1, if_neg h2, if_pos h4, if_neg h1, if_pos h4]
    exact ⟨e1, h.picks, h.kind, z, z, z, z⟩
  by_cases h5 : A.kind = 5 ∨ A.kind = 8
  · rw [if_neg h1, if_neg h2, if_neg h4, if_pos h5, if_neg h1, if_neg h4]
    exact ⟨e1, e2, h.kind, z, z, z, h.count⟩
  by_cases h6 : A.kind = 6
  · rw [if_neg h1, if_neg h2, if_neg h4, if_neg h5, if_pos h6, if_neg h1, if_neg h4]
    exact ⟨e1, e2, h.kind, z, z, h.at_, h.count⟩
  · rw [if_neg h1, if_neg h2, if_neg h4, if_neg h5, if_neg h6, if_neg h1, if_neg h4]
    exact ⟨e1, e2, h.kind, z, z, z, z⟩
theorem ba_empty_iff (b : ByteArray) : b.toList.isEmpty = decide (b = ⟨#[]⟩) := by
  rw [Bool.eq_iff_iff, List.isEmpty_iff, decide_eq_true_eq, ByteArray.toList_eq]
  constructor
  · intro h; rw [← S_of b, h]; rfl
  · rintro rfl; rfl
theorem same_ment (A : PAct) (hk : 1 ≤ A.kind ∧ A.kind ≤ 8) : sameB A (mentP A) = !xB A := by
  have len0 : ∀ {α : Type} (l : List α), decide (0 < l.length) = !decide (l = []) := by
    intro α l; cases l <;> simp
  have hf : decide (0 < A.files.length) = !decide (A.files = []) := len0 _
  have hp : decide (0 < A.picks.length) = !decide (A.picks = []) := len0 _
  have h : A.kind = 1 ∨ A.kind = 2 ∨ A.kind = 3 ∨ A.kind = 4 ∨ A.kind = 5 ∨ A.kind = 6 ∨ A.kind = 7 ∨ A.kind = 8 := by omega
  unfold sameB xB extraB extra1 extra2 extra3 extra4 extra5 extra6 extra7 mentP
  rw [ba_empty_iff, hf, hp]
  rcases h with h | h | h | h | h | h | h | h
  all_goals
    simp only [h, Int.reduceEq, or_false, false_or, or_true, true_or, if_true, if_false, bne_self_eq_false, Int.reduceBNe, Bool.and_true, Bool.and_false, Bool.or_false, Bool.false_or, Bool.not_or, Bool.not_and, Bool.not_not, beq_self_eq_true, Bool.true_and, decide_true, bne, Int.reduceBEq, Bool.or_true, Bool.not_false, Bool.not_true]
set_option maxHeartbeats 4000000 in
set_option maxRecDepth 100000 in
theorem line_any (A : PAct) (vf vp : Value) (w : World) (hA : ActAt w A vf vp) (hs : Small A) (ht : Tab10 w) :
    Calls Tryz.prog 8 #[actV A vf vp] w fun e w' => e = .returned (lineR A) ∧ Grow w w' := by
  obtain ⟨hbel, hbox, hsz⟩ := box_facts w A vf vp
  have HA := Lib.hid (hA.keep (Keeps.of_below hbel))
  have HT := Lib.hid (ht.grow hbel)
  have HR : Hid (∀ v, v = progR A → Ending.returned v = .returned (lineR A)) := fun v h => by rw [h, progR_eq A hs]
  have HS := Lib.hid hs
  clear hA ht hs
  unfold actV at *
  refine calls_of_wE Tryz.func8 rfl Tryz.ntmps8 (by simp) ?_
  repeat' (first | with_reducible (first | refine wE_seq (fun K hK => ?_) | refine wE_block ?_ | refine wE_skip ?_ | refine wE_ret ?_ | refine wE_exit ?_) | simp only [thenE, blockE, ↓reduceIte, Nat.reduceEqDiff] | ((with_reducible refine hK.out _ _ ?_); clear hK K) | ((with_reducible refine wE_if ?_ (fun hc => ?_) (fun hc => ?_)); (focus (simp [lk, upd, envOf, *]; done)); all_goals (simp [lk, upd, envOf, *] at hc <;> try (exfalso; omega))) | (clear hK; clear K))
  ((with_reducible refine wE_region ?_ ?_); (kernel_rfl); simp only [ls, stripO])
  repeat' (first | ((with_reducible refine wS_step (fun K hK => ?_)); simp [go_sem, lk, upd, envOf, stepS_value, stepS_skip, stepS_enter, ↓IntWalk.iteOmega, *]; (try go_ints); refine hK.out _ _ ?_; clear hK K) | ((with_reducible refine wS_unit (fun K hK => ?_)); simp [go_sem, lk, upd, envOf, stepS_value, stepS_skip, stepS_enter, ↓IntWalk.iteOmega, *]; (try go_ints); refine hK.out _ _ ?_; clear hK K) | ((with_reducible refine wS_skip ?_ ?_); (focus (simp [lk, upd, envOf, *]; done))) | ((with_reducible refine wS_want ?_ ?_); (focus (simp [lk, upd, envOf, *]; done))) | ((with_reducible refine wS_split (fun hc => ?_) (fun hc => ?_)) <;> simp [lk, upd, envOf, *] at hc <;> try (exfalso; omega)) | with_reducible refine wS_nil ?_)
  repeat' (first | with_reducible (first | refine wE_seq (fun K hK => ?_) | refine wE_block ?_ | refine wE_skip ?_ | refine wE_ret ?_ | refine wE_exit ?_) | simp only [thenE, blockE, ↓reduceIte, Nat.reduceEqDiff] | ((with_reducible refine hK.out _ _ ?_); clear hK K) | ((with_reducible refine wE_if ?_ (fun hc => ?_) (fun hc => ?_)); (focus (simp [lk, upd, envOf, *]; done)); all_goals (simp [lk, upd, envOf, *] at hc <;> try (exfalso; omega))) | (clear hK; clear K))
  generalize w.alloc (.cells #[.int .i64 A.kind, .string A.who, .int .i64 A.change, .int .i64 A.priority, .int .i64 A.at_, .int .i64 A.count, vf, vp] 26) = w0 at *
  have HB := Lib.hid hbel
  have HC := Lib.hid hbox
  clear hbel hbox
  have HSZ := Lib.hid hsz
  clear hsz
  have HCX : Hid (∀ w', GrowZ w0.heap.size formZ (.cells (formC A.kind) 52 (0, 0)) w0.drew w' → BoxAt w' w.heap.size A vf vp) := fun w' h => HC.out.keep (Keeps.of_below (by have := h.below (Nat.le_refl _); exact (Grow.drew w0).trans this))
  have hF := formC_eq A.kind
  obtain ⟨hF1, hF2, hF3⟩ := hF
  have HF1 := Lib.hid hF1
  have HF2 := Lib.hid hF2
  have HF3 := Lib.hid hF3
  clear hF1 hF2 hF3
  refine wE_drawE (R := GrowZ w0.heap.size formZ (.cells (formC A.kind) 52 (0, 0))) [SPE.of 8 MapIn MapIn.st, SPE.val 9 (.pointer (some ⟨w.heap.size, 0, none⟩)), SPE.val 10 (.int .i64 A.kind), SPE.val 11 (.tuple #[.agg (formC A.kind), .bool (formOf A.kind).2]), SPE.val 7 (.tuple #[.agg (formC A.kind), .bool (formOf A.kind).2]), SPE.val 12 (.agg (formC A.kind)), SPE.val 13 (.bool (formOf A.kind).2), SPE.of 4 (OwnZ w0.heap.size formZ (.cells (formC A.kind) 52 (0, 0))) OwnZ.st, SPE.of 4 (FullZ w0.heap.size (.cells (formC A.kind) 52 (0, 0))) FullZ.st, SPE.val 5 (.bool (formOf A.kind).2)] [[8], [9], [10], [11], [7], [12], [13], [4], [4], [5]] [([], []), ([], [1]), ([1], []), ([0, 2], []), ([3], []), ([4], []), ([4], []), ([], []), ([7, 5], []), ([6, 8], [])] (by kernel_rfl) (by kernel_rfl) rfl GrowZ.refl (fun _ _ _ => GrowZ.trans) ?_ ?_
  · simp only [ls, stripO, oblE, Nat.zero_add, Nat.reduceAdd]
    refine ⟨?_, ?_, ?_, ?_, ?_, ?_, ?_, ?_, ?_, ?_, trivial⟩
    · refine oneE_plain (fun σ w' hR hf => ?_); simp only [factsE, getP_succ, getP_zero, SPE.val_p, SPE.of_p, SPE.any_p, and_true, true_and] at hf; obtain ⟨c0, c1, c2, c3, c4, c5, c6, c7⟩ := HCX.out w' hR; simp [go_sem, lk, upd, envOf, stepS_value, stepS_skip, stepS_enter, ↓IntWalk.iteOmega, putS, getP_succ, getP_zero, SPE.val_p, SPE.of_p, SPE.any_p, hf, *]; (try go_ints); refine (forms_any _).mono ?_; rintro e w'' ⟨rfl, hm⟩; exact ⟨_, rfl, ⟨_, rfl, hm.map⟩, GrowZ.grow hm.below⟩
    · refine oneE_plain (fun σ w' hR hf => ?_); simp only [factsE, getP_succ, getP_zero, SPE.val_p, SPE.of_p, SPE.any_p, and_true, true_and] at hf; obtain ⟨c0, c1, c2, c3, c4, c5, c6, c7⟩ := HCX.out w' hR; simp [go_sem, lk, upd, envOf, stepS_value, stepS_skip, stepS_enter, ↓IntWalk.iteOmega, putS, getP_succ, getP_zero, SPE.val_p, SPE.of_p, SPE.any_p, GrowZ.refl, hf, *]
    · refine oneE_plain (fun σ w' hR hf => ?_); simp only [factsE, getP_succ, getP_zero, SPE.val_p, SPE.of_p, SPE.any_p, and_true, true_and] at hf; obtain ⟨c0, c1, c2, c3, c4, c5, c6, c7⟩ := HCX.out w' hR; simp [go_sem, lk, upd, envOf, stepS_value, stepS_skip, stepS_enter, ↓IntWalk.iteOmega, putS, getP_succ, getP_zero, SPE.val_p, SPE.of_p, SPE.any_p, GrowZ.refl, hf, *]
    · refine oneE_plain (fun σ w' hR hf => ?_); simp only [factsE, getP_succ, getP_zero, SPE.val_p, SPE.of_p, SPE.any_p, and_true, true_and] at hf; obtain ⟨c0, c1, c2, c3, c4, c5, c6, c7⟩ := HCX.out w' hR; simp [go_sem, lk, upd, envOf, stepS_value, stepS_skip, stepS_enter, ↓IntWalk.iteOmega, putS, getP_succ, getP_zero, SPE.val_p, SPE.of_p, SPE.any_p, hf, *]; (try go_ints); obtain ⟨⟨b, hb, hm⟩, -⟩ := hf; rw [hb, look_in hm, HF1.out]; exact ⟨rfl, GrowZ.refl _⟩
    · refine oneE_plain (fun σ w' hR hf => ?_); simp only [factsE, getP_succ, getP_zero, SPE.val_p, SPE.of_p, SPE.any_p, and_true, true_and] at hf; obtain ⟨c0, c1, c2, c3, c4, c5, c6, c7⟩ := HCX.out w' hR; simp [go_sem, lk, upd, envOf, stepS_value, stepS_skip, stepS_enter, ↓IntWalk.iteOmega, putS, getP_succ, getP_zero, SPE.val_p, SPE.of_p, SPE.any_p, GrowZ.refl, hf, *]
    · refine oneE_plain (fun σ w' hR hf => ?_); simp only [factsE, getP_succ, getP_zero, SPE.val_p, SPE.of_p, SPE.any_p, and_true, true_and] at hf; obtain ⟨c0, c1, c2, c3, c4, c5, c6, c7⟩ := HCX.out w' hR; simp [go_sem, lk, upd, envOf, stepS_value, stepS_skip, stepS_enter, ↓IntWalk.iteOmega, putS, getP_succ, getP_zero, SPE.val_p, SPE.of_p, SPE.any_p, GrowZ.refl, hf, *]
    · refine oneE_plain (fun σ w' hR hf => ?_); simp only [factsE, getP_succ, getP_zero, SPE.val_p, SPE.of_p, SPE.any_p, and_true, true_and] at hf; obtain ⟨c0, c1, c2, c3, c4, c5, c6, c7⟩ := HCX.out w' hR; simp [go_sem, lk, upd, envOf, stepS_value, stepS_skip, stepS_enter, ↓IntWalk.iteOmega, putS, getP_succ, getP_zero, SPE.val_p, SPE.of_p, SPE.any_p, GrowZ.refl, hf, *]
    · refine oneE_plain (fun σ w' hR hf => ?_); simp only [factsE, getP_succ, getP_zero, SPE.val_p, SPE.of_p, SPE.any_p, and_true, true_and] at hf; obtain ⟨c0, c1, c2, c3, c4, c5, c6, c7⟩ := HCX.out w' hR; simp [go_sem, lk, upd, envOf, stepS_value, stepS_skip, stepS_enter, ↓IntWalk.iteOmega, putS, getP_succ, getP_zero, SPE.val_p, SPE.of_p, SPE.any_p, hf, *]; (try go_ints); exact ⟨OwnZ.new hR.size, GrowZ.grow (Grow.alloc _ _)⟩
    · refine oneE_plain (fun σ w' hR hf => ?_); simp only [factsE, getP_succ, getP_zero, SPE.val_p, SPE.of_p, SPE.any_p, and_true, true_and] at hf; obtain ⟨c0, c1, c2, c3, c4, c5, c6, c7⟩ := HCX.out w' hR; exact step_store_full hf.1 hf.2 (by rw [HF2.out]; exact size56) (by rw [HF2.out]; rfl) HF3.out (fun _ h1 h2 => ⟨h1, h2⟩)
    · refine oneE_plain (fun σ w' hR hf => ?_); simp only [factsE, getP_succ, getP_zero, SPE.val_p, SPE.of_p, SPE.any_p, and_true, true_and] at hf; obtain ⟨c0, c1, c2, c3, c4, c5, c6, c7⟩ := HCX.out w' hR; simp [go_sem, lk, upd, envOf, stepS_value, stepS_skip, stepS_enter, ↓IntWalk.iteOmega, putS, getP_succ, getP_zero, SPE.val_p, SPE.of_p, SPE.any_p, GrowZ.refl, hf, *]
  intro σ' w2 hg hE
  have e1 := hE.old 1 (by kernel_rfl)
  have e4 := hE.at_ 8 rfl
  have e5 := hE.at_ 9 rfl
  simp only [getP_succ, getP_zero, SPE.val_p, SPE.of_p] at e4 e5
  simp [upd] at e1
  obtain ⟨p, e4, hp1, hp2⟩ := e4
  clear hE
  have hs0 : w.heap.size < w0.heap.size := by have := HSZ.out; omega
  have hg2 : Grow w0 w2 := (Grow.drew w0).trans (hg.below (Nat.le_refl _))
  have HB2 := Lib.hid (HB.out.trans (hg2.mono (by omega)))
  have HC2 := Lib.hid (HC.out.keep (Keeps.of_below hg2))
  have HA2 := Lib.hid (HA.out.keep (Keeps.of_below hg2))
  have HT2 := Lib.hid (HT.out.grow hg2)
  have HP := Lib.hid hp2
  have hs2 : w0.heap.size ≤ w2.heap.size := hg2.size
  have hpl : p < w2.heap.size := (Array.getElem?_eq_some_iff.1 hp2).1
  clear hg hg2 hp2 HCX
  by_cases hk : A.kind < 1 ∨ 8 < A.kind
  · have t5 := formC_none A.kind hk
    have HP9 := Lib.hid (show progR A = .tuple #[.string ⟨#[]⟩, .int .i64 9] by rw [progR, if_pos hk])
    clear hk
    rw [t5] at e5
    repeat' (first | with_reducible (first | refine wE_seq (fun K hK => ?_) | refine wE_block ?_ | refine wE_skip ?_ | refine wE_ret ?_ | refine wE_exit ?_) | ((with_reducible refine wE_region ?_ ?_); (kernel_rfl); simp only [ls, stripO]) | ((with_reducible refine wS_step (fun K hK => ?_)); simp [go_sem, lk, upd, envOf, stepS_value, stepS_skip, stepS_enter, ↓IntWalk.iteOmega, *]; (try go_ints); refine hK.out _ _ ?_; clear hK K) | ((with_reducible refine wS_unit (fun K hK => ?_)); simp [go_sem, lk, upd, envOf, stepS_value, stepS_skip, stepS_enter, ↓IntWalk.iteOmega, *]; (try go_ints); refine hK.out _ _ ?_; clear hK K) | ((with_reducible refine wS_skip ?_ ?_); (focus (simp [lk, upd, envOf, *]; done))) | ((with_reducible refine wS_want ?_ ?_); (focus (simp [lk, upd, envOf, *]; done))) | ((with_reducible refine wS_split (fun hc => ?_) (fun hc => ?_)) <;> simp [lk, upd, envOf, *] at hc <;> try (exfalso; omega)) | with_reducible refine wS_nil ?_ | simp only [thenE, blockE, ↓reduceIte, Nat.reduceEqDiff] | ((with_reducible refine hK.out _ _ ?_); clear hK K) | ((with_reducible refine wE_if ?_ (fun hc => ?_) (fun hc => ?_)); (focus (simp [lk, upd, envOf, *]; done)); all_goals (simp [lk, upd, envOf, *] at hc <;> try (exfalso; omega))) | (clear hK; clear K))
    exact endE_tmp2 rfl ⟨HR.out _ (by rw [HP9.out]; simp [upd]), HB2.out⟩
  obtain ⟨f, g, hform, hwr, hcf⟩ := form_cases A (by omega) HS.out
  have t5 : (formOf A.kind).2 = true := by rw [hform]
  have HFC := Lib.hid (show formC A.kind = formA (S (wordL A.kind)) f g by
    have := HF1.out
    rw [hform] at this
    simpa [formV, formA] using this.symm)
  have HWR := Lib.hid hwr
  have HSM := Lib.hid (same_ment A (by omega))
  have HPK := Lib.hid (show progR A = if xB A then .tuple #[.string ⟨#[]⟩, .int .i64 1] else wlineR (S (wordL A.kind) :: wordsOf A) (badOf A) false by rw [progR, if_neg hk])
  have HXK := Lib.hid (show xB A = true ∨ xB A = false by cases xB A <;> simp)
  clear hform hwr hk
  rw [t5] at e5
  have HCX : Hid (∀ w', Grow w2.drew w' → BoxAt w' w.heap.size A vf vp ∧ ActAt w' A vf vp) := fun w' h => ⟨HC2.out.keep (Keeps.of_below ((Grow.drew w2).trans h)), HA2.out.keep (Keeps.of_below ((Grow.drew w2).trans h))⟩
  clear t5
  repeat' (first | with_reducible (first | refine wE_seq (fun K hK => ?_) | refine wE_block ?_ | refine wE_skip ?_ | refine wE_ret ?_ | refine wE_exit ?_) | ((with_reducible refine wE_region ?_ ?_); (kernel_rfl); simp only [ls, stripO]) | ((with_reducible refine wS_step (fun K hK => ?_)); simp [go_sem, lk, upd, envOf, stepS_value, stepS_skip, stepS_enter, ↓IntWalk.iteOmega, *]; (try go_ints); refine hK.out _ _ ?_; clear hK K) | ((with_reducible refine wS_unit (fun K hK => ?_)); simp [go_sem, lk, upd, envOf, stepS_value, stepS_skip, stepS_enter, ↓IntWalk.iteOmega, *]; (try go_ints); refine hK.out _ _ ?_; clear hK K) | ((with_reducible refine wS_skip ?_ ?_); (focus (simp [lk, upd, envOf, *]; done))) | ((with_reducible refine wS_want ?_ ?_); (focus (simp [lk, upd, envOf, *]; done))) | ((with_reducible refine wS_split (fun hc => ?_) (fun hc => ?_)) <;> simp [lk, upd, envOf, *] at hc <;> try (exfalso; omega)) | with_reducible refine wS_nil ?_ | simp only [thenE, blockE, ↓reduceIte, Nat.reduceEqDiff] | ((with_reducible refine hK.out _ _ ?_); clear hK K) | ((with_reducible refine wE_if ?_ (fun hc => ?_) (fun hc => ?_)); (focus (simp [lk, upd, envOf, *]; done)); all_goals (simp [lk, upd, envOf, *] at hc <;> try (exfalso; omega))) | (clear hK; clear K))
  refine wE_drawE (R := Grow) [SPE.val 16 (actV A vf vp), SPE.val 17 (actV A vf vp), SPE.val 18 (actV (mentP A) (mentF A vf) (mentV A vp)), SPE.val 19 (.bool (!xB A)), SPE.val 20 (.bool (xB A))] [[16], [17], [18], [19], [20]] [([], [1]), ([], [1]), ([1], []), ([0, 2], []), ([3], [])] (by kernel_rfl) (by kernel_rfl) rfl Grow.refl (fun _ _ _ => Grow.trans) ?_ ?_
  · simp only [ls, stripO, oblE, Nat.zero_add, Nat.reduceAdd]
    refine ⟨?_, ?_, ?_, ?_, ?_, trivial⟩
    · refine oneE_plain (fun σ w' hR hf => ?_); simp only [factsE, getP_succ, getP_zero, SPE.val_p, SPE.of_p, SPE.any_p, and_true, true_and] at hf; obtain ⟨⟨c0, c1, c2, c3, c4, c5, c6, c7⟩, ha⟩ := HCX.out w' hR; have HA' := Lib.hid ha; clear ha; simp [go_sem, lk, upd, envOf, stepS_value, stepS_skip, stepS_enter, ↓IntWalk.iteOmega, putS, getP_succ, getP_zero, SPE.val_p, SPE.of_p, SPE.any_p, hf, *]; (try go_ints); exact ⟨rfl, Grow.refl _⟩
    · refine oneE_plain (fun σ w' hR hf => ?_); simp only [factsE, getP_succ, getP_zero, SPE.val_p, SPE.of_p, SPE.any_p, and_true, true_and] at hf; obtain ⟨⟨c0, c1, c2, c3, c4, c5, c6, c7⟩, ha⟩ := HCX.out w' hR; have HA' := Lib.hid ha; clear ha; simp [go_sem, lk, upd, envOf, stepS_value, stepS_skip, stepS_enter, ↓IntWalk.iteOmega, putS, getP_succ, getP_zero, SPE.val_p, SPE.of_p, SPE.any_p, hf, *]; (try go_ints); exact ⟨rfl, Grow.refl _⟩
    · refine oneE_plain (fun σ w' hR hf => ?_); simp only [factsE, getP_succ, getP_zero, SPE.val_p, SPE.of_p, SPE.any_p, and_true, true_and] at hf; obtain ⟨⟨c0, c1, c2, c3, c4, c5, c6, c7⟩, ha⟩ := HCX.out w' hR; have HA' := Lib.hid ha; clear ha; simp [go_sem, lk, upd, envOf, stepS_value, stepS_skip, stepS_enter, ↓IntWalk.iteOmega, putS, getP_succ, getP_zero, SPE.val_p, SPE.of_p, SPE.any_p, hf, *]; (try go_ints); refine (mentioned_any A vf vp _ HA'.out.files HA'.out.picks).mono ?_; rintro e w'' ⟨rfl, hm⟩; exact ⟨_, rfl, rfl, hm⟩
    · refine oneE_plain (fun σ w' hR hf => ?_); simp only [factsE, getP_succ, getP_zero, SPE.val_p, SPE.of_p, SPE.any_p, and_true, true_and] at hf; obtain ⟨⟨c0, c1, c2, c3, c4, c5, c6, c7⟩, ha⟩ := HCX.out w' hR; have HA' := Lib.hid ha; clear ha; simp [go_sem, lk, upd, envOf, stepS_value, stepS_skip, stepS_enter, ↓IntWalk.iteOmega, putS, getP_succ, getP_zero, SPE.val_p, SPE.of_p, SPE.any_p, hf, *]; (try go_ints); refine (same_any A (mentP A) vf vp _ _ _ HA'.out (ment_at HA'.out) (Nat.le_trans HS.out.nfiles (by omega)) (Nat.le_trans HS.out.npicks (by omega))).mono ?_; rintro e w'' ⟨rfl, hm⟩; exact ⟨_, rfl, by rw [HSM.out], hm⟩
    · refine oneE_plain (fun σ w' hR hf => ?_); simp only [factsE, getP_succ, getP_zero, SPE.val_p, SPE.of_p, SPE.any_p, and_true, true_and] at hf; obtain ⟨⟨c0, c1, c2, c3, c4, c5, c6, c7⟩, ha⟩ := HCX.out w' hR; have HA' := Lib.hid ha; clear ha; simp [go_sem, lk, upd, envOf, stepS_value, stepS_skip, stepS_enter, ↓IntWalk.iteOmega, putS, getP_succ, getP_zero, SPE.val_p, SPE.of_p, SPE.any_p, Grow.refl, hf, *]
  intro σ'' w3 hg3 hE
  have d1 := hE.old 1 (by kernel_rfl)
  have d4 := hE.old 4 (by kernel_rfl)
  have d20 := hE.at_ 4 rfl
  simp only [getP_succ, getP_zero, SPE.val_p, SPE.of_p] at d20
  simp [upd, *] at d1 d4
  clear hE
  have hg3' : Grow w2 w3 := (Grow.drew w2).trans hg3
  have HB3 := Lib.hid (HB2.out.trans (hg3'.mono (by omega)))
  have HC3 := Lib.hid (HC2.out.keep (Keeps.of_below hg3'))
  have HA3 := Lib.hid (HA2.out.keep (Keeps.of_below hg3'))
  have HT3 := Lib.hid (HT2.out.grow hg3')
  have HP3 := Lib.hid (show w3.heap[p]? = some (.cells (formA (S (wordL A.kind)) f g) 52 (0, 0)) by rw [hg3'.block p hpl, HP.out, HFC.out])
  have hs3 : w2.heap.size ≤ w3.heap.size := hg3'.size
  clear hg3 hg3' e1 e4 e5 HCX
  rcases HXK.out with hx | hx
  · have HP1 := Lib.hid (show progR A = .tuple #[.string ⟨#[]⟩, .int .i64 1] by rw [HPK.out, hx]; rfl)
    rw [hx] at d20
    clear hx
    repeat' (first | with_reducible (first | refine wE_seq (fun K hK => ?_) | refine wE_block ?_ | refine wE_skip ?_ | refine wE_ret ?_ | refine wE_exit ?_) | ((with_reducible refine wE_region ?_ ?_); (kernel_rfl); simp only [ls, stripO]) | ((with_reducible refine wS_step (fun K hK => ?_)); simp [go_sem, lk, upd, envOf, stepS_value, stepS_skip, stepS_enter, ↓IntWalk.iteOmega, *]; (try go_ints); refine hK.out _ _ ?_; clear hK K) | ((with_reducible refine wS_unit (fun K hK => ?_)); simp [go_sem, lk, upd, envOf, stepS_value, stepS_skip, stepS_enter, ↓IntWalk.iteOmega, *]; (try go_ints); refine hK.out _ _ ?_; clear hK K) | ((with_reducible refine wS_skip ?_ ?_); (focus (simp [lk, upd, envOf, *]; done))) | ((with_reducible refine wS_want ?_ ?_); (focus (simp [lk, upd, envOf, *]; done))) | ((with_reducible refine wS_split (fun hc => ?_) (fun hc => ?_)) <;> simp [lk, upd, envOf, *] at hc <;> try (exfalso; omega)) | with_reducible refine wS_nil ?_ | simp only [thenE, blockE, ↓reduceIte, Nat.reduceEqDiff] | ((with_reducible refine hK.out _ _ ?_); clear hK K) | ((with_reducible refine wE_if ?_ (fun hc => ?_) (fun hc => ?_)); (focus (simp [lk, upd, envOf, *]; done)); all_goals (simp [lk, upd, envOf, *] at hc <;> try (exfalso; omega))) | (clear hK; clear K))
    exact endE_tmp2 rfl ⟨HR.out _ (by rw [HP1.out]; simp [upd]), HB3.out⟩
  have HP1 := Lib.hid (show progR A = wlineR (S (wordL A.kind) :: wordsOf A) (badOf A) false by rw [HPK.out, hx]; rfl)
  rw [hx] at d20
  clear hx
  repeat' (first | with_reducible (first | refine wE_seq (fun K hK => ?_) | refine wE_block ?_ | refine wE_skip ?_ | refine wE_ret ?_ | refine wE_exit ?_) | simp only [thenE, blockE, ↓reduceIte, Nat.reduceEqDiff] | ((with_reducible refine hK.out _ _ ?_); clear hK K) | ((with_reducible refine wE_if ?_ (fun hc => ?_) (fun hc => ?_)); (focus (simp [lk, upd, envOf, *]; done)); all_goals (simp [lk, upd, envOf, *] at hc <;> try (exfalso; omega))) | (clear hK; clear K))
  ((with_reducible refine wE_region ?_ ?_); (kernel_rfl); simp only [ls, stripO])
  repeat' (first | ((with_reducible refine wS_step (fun K hK => ?_)); simp [go_sem, lk, upd, envOf, stepS_value, stepS_skip, stepS_enter, ↓IntWalk.iteOmega, *]; (try go_ints); refine hK.out _ _ ?_; clear hK K) | ((with_reducible refine wS_unit (fun K hK => ?_)); simp [go_sem, lk, upd, envOf, stepS_value, stepS_skip, stepS_enter, ↓IntWalk.iteOmega, *]; (try go_ints); refine hK.out _ _ ?_; clear hK K) | ((with_reducible refine wS_skip ?_ ?_); (focus (simp [lk, upd, envOf, *]; done))) | ((with_reducible refine wS_want ?_ ?_); (focus (simp [lk, upd, envOf, *]; done))) | ((with_reducible refine wS_split (fun hc => ?_) (fun hc => ?_)) <;> simp [lk, upd, envOf, *] at hc <;> try (exfalso; omega)) | with_reducible refine wS_nil ?_)
  repeat' (first | with_reducible (first | refine wE_seq (fun K hK => ?_) | refine wE_block ?_ | refine wE_skip ?_ | refine wE_ret ?_ | refine wE_exit ?_) | simp only [thenE, blockE, ↓reduceIte, Nat.reduceEqDiff] | ((with_reducible refine hK.out _ _ ?_); clear hK K) | ((with_reducible refine wE_if ?_ (fun hc => ?_) (fun hc => ?_)); (focus (simp [lk, upd, envOf, *]; done)); all_goals (simp [lk, upd, envOf, *] at hc <;> try (exfalso; omega))) | (clear hK; clear K))
  have hg4 := Grow.alloc w3 (.cells #[.slice none 0 0, .bool false, .bool false] 66)
  have hW4 : WrAt (w3.alloc (.cells #[.slice none 0 0, .bool false, .bool false] 66)) w3.heap.size [] false false (.slice none 0 0) := ⟨heap_alloc_new w3 _, World.ownsRow_nil _ _ _ _⟩
  generalize w3.alloc (.cells #[.slice none 0 0, .bool false, .bool false] 66) = w4 at *
  have HX4 : Hid (Wctx w4 w3.heap.size [] false false (.slice none 0 0) A vf vp) := ⟨hW4, HT3.out.grow hg4, HA3.out.keep (Keeps.of_below hg4), aside_files HA3.out.files (Nat.le_refl _) hW4.lt (by rw [hW4.rowOf]; rfl), aside_ints HA3.out.picks (Nat.le_refl _) hW4.lt (by rw [hW4.rowOf]; rfl)⟩
  have HB4 := Lib.hid hg4
  have HP4 := Lib.hid (show w4.heap[p]? = some (.cells (formA (S (wordL A.kind)) f g) 52 (0, 0)) by rw [hg4.block p (by omega)]; exact HP3.out)
  have cp0 : w4.cell? ⟨p, 0, none⟩ = some (.string (S (wordL A.kind))) := by rw [cell_of_row w4 p 0 _ _ _ HP4.out]; rfl
  have hpw1 : 1 < w3.heap.size := HT3.out.size
  have HC4 := Lib.hid (HC3.out.keep (Keeps.of_below hg4))
  clear hg4 hW4
  repeat' (first | with_reducible (first | refine wE_seq (fun K hK => ?_) | refine wE_block ?_ | refine wE_skip ?_ | refine wE_ret ?_ | refine wE_exit ?_) | ((with_reducible refine wE_region ?_ ?_); (kernel_rfl); simp only [ls, stripO]) | ((with_reducible refine wS_step (fun K hK => ?_)); simp [go_sem, lk, upd, envOf, stepS_value, stepS_skip, stepS_enter, ↓IntWalk.iteOmega, *]; (try go_ints); refine hK.out _ _ ?_; clear hK K) | ((with_reducible refine wS_unit (fun K hK => ?_)); simp [go_sem, lk, upd, envOf, stepS_value, stepS_skip, stepS_enter, ↓IntWalk.iteOmega, *]; (try go_ints); refine hK.out _ _ ?_; clear hK K) | ((with_reducible refine wS_skip ?_ ?_); (focus (simp [lk, upd, envOf, *]; done))) | ((with_reducible refine wS_want ?_ ?_); (focus (simp [lk, upd, envOf, *]; done))) | ((with_reducible refine wS_split (fun hc => ?_) (fun hc => ?_)) <;> simp [lk, upd, envOf, *] at hc <;> try (exfalso; omega)) | with_reducible refine wS_nil ?_ | simp only [thenE, blockE, ↓reduceIte, Nat.reduceEqDiff] | ((with_reducible refine hK.out _ _ ?_); clear hK K) | ((with_reducible refine wE_if ?_ (fun hc => ?_) (fun hc => ?_)); (focus (simp [lk, upd, envOf, *]; done)); all_goals (simp [lk, upd, envOf, *] at hc <;> try (exfalso; omega))) | (clear hK; clear K))
  (with_reducible refine wS_step (fun K hK => ?_)); simp [go_sem, lk, upd, envOf, stepS_value, stepS_skip, stepS_enter, ↓IntWalk.iteOmega, *]; (try go_ints); refine (word_w w3.heap.size [] false false _ _ _ HX4.out.wr (by simp)).mono ?_; rintro e w5 ⟨rfl, v5, hw5, hst5⟩; refine ⟨_, rfl, hK.out _ _ ?_⟩; clear hK K
  have HB5 := Lib.hid (hst5.below HX4.out.wr)
  have HX5 := Lib.hid (HX4.out.step hpw1 hst5 hw5)
  have hC5 := HC4.out.below HB5.out (by omega)
  have HP5 := Lib.hid (show w5.heap[p]? = some (.cells (formA (S (wordL A.kind)) f g) 52 (0, 0)) by rw [HB5.out.block p (by omega)]; exact HP4.out)
  have cp1 : w5.cell? ⟨p, 1, none⟩ = some (.func (.func f) #[] #[]) := by rw [cell_of_row w5 p 1 _ _ _ HP5.out]; rfl
  obtain ⟨c0, c1, c2, c3, c4, c5, c6, c7⟩ := hC5
  clear hw5 hst5 cp0
  repeat' (first | with_reducible (first | refine wE_seq (fun K hK => ?_) | refine wE_block ?_ | refine wE_skip ?_ | refine wE_ret ?_ | refine wE_exit ?_) | ((with_reducible refine wE_region ?_ ?_); (kernel_rfl); simp only [ls, stripO]) | ((with_reducible refine wS_step (fun K hK => ?_)); simp [go_sem, lk, upd, envOf, stepS_value, stepS_skip, stepS_enter, ↓IntWalk.iteOmega, *]; (try go_ints); refine hK.out _ _ ?_; clear hK K) | ((with_reducible refine wS_unit (fun K hK => ?_)); simp [go_sem, lk, upd, envOf, stepS_value, stepS_skip, stepS_enter, ↓IntWalk.iteOmega, *]; (try go_ints); refine hK.out _ _ ?_; clear hK K) | ((with_reducible refine wS_skip ?_ ?_); (focus (simp [lk, upd, envOf, *]; done))) | ((with_reducible refine wS_want ?_ ?_); (focus (simp [lk, upd, envOf, *]; done))) | ((with_reducible refine wS_split (fun hc => ?_) (fun hc => ?_)) <;> simp [lk, upd, envOf, *] at hc <;> try (exfalso; omega)) | with_reducible refine wS_nil ?_ | simp only [thenE, blockE, ↓reduceIte, Nat.reduceEqDiff] | ((with_reducible refine hK.out _ _ ?_); clear hK K) | ((with_reducible refine wE_if ?_ (fun hc => ?_) (fun hc => ?_)); (focus (simp [lk, upd, envOf, *]; done)); all_goals (simp [lk, upd, envOf, *] at hc <;> try (exfalso; omega))) | (clear hK; clear K))
  (with_reducible refine wS_step (fun K hK => ?_)); simp [go_sem, lk, upd, envOf, stepS_value, stepS_skip, stepS_enter, ↓IntWalk.iteOmega, *]; (try go_ints); refine (HWR.out vf vp w3.heap.size _ false false v5 _ HX5.out hpw1 (by simp)).mono ?_; rintro e w6 ⟨rfl, v6, hw6, hst6⟩; refine ⟨_, rfl, hK.out _ _ ?_⟩; clear hK K
  have HB6 := Lib.hid (hst6.below HX5.out.wr)
  have HW6 := Lib.hid hw6
  clear hw6 hst6 c0 c1 c2 c3 c4 c5 c6 c7 cp1
  have HLN := Lib.hid (joinS_len A HS.out (by obtain ⟨_, _, _, _, h, _⟩ := HA.out.picks; exact h) HA.out.change HA.out.priority HA.out.at_ HA.out.count)
  have HWL := Lib.hid (wordsOf_len A HS.out)
  obtain ⟨rs, rn, hwl⟩ := wline_form (S (wordL A.kind) :: wordsOf A) (badOf A) false
  have HLW := Lib.hid (line_w w3.heap.size _ _ _ v6 w6 HW6.out (by simp) (by have := HWL.out; simp; omega) (by simpa using HLN.out))
  simp only [List.nil_append, List.cons_append, Bool.false_or] at HLW
  rw [hwl] at HLW
  have HP2 := Lib.hid (HP1.out.trans hwl)
  clear hwl
  repeat' (first | with_reducible (first | refine wE_seq (fun K hK => ?_) | refine wE_block ?_ | refine wE_skip ?_ | refine wE_ret ?_ | refine wE_exit ?_) | ((with_reducible refine wE_region ?_ ?_); (kernel_rfl); simp only [ls, stripO]) | ((with_reducible refine wS_step (fun K hK => ?_)); simp [go_sem, lk, upd, envOf, stepS_value, stepS_skip, stepS_enter, ↓IntWalk.iteOmega, *]; (try go_ints); refine hK.out _ _ ?_; clear hK K) | ((with_reducible refine wS_unit (fun K hK => ?_)); simp [go_sem, lk, upd, envOf, stepS_value, stepS_skip, stepS_enter, ↓IntWalk.iteOmega, *]; (try go_ints); refine hK.out _ _ ?_; clear hK K) | ((with_reducible refine wS_skip ?_ ?_); (focus (simp [lk, upd, envOf, *]; done))) | ((with_reducible refine wS_want ?_ ?_); (focus (simp [lk, upd, envOf, *]; done))) | ((with_reducible refine wS_split (fun hc => ?_) (fun hc => ?_)) <;> simp [lk, upd, envOf, *] at hc <;> try (exfalso; omega)) | with_reducible refine wS_nil ?_ | simp only [thenE, blockE, ↓reduceIte, Nat.reduceEqDiff] | ((with_reducible refine hK.out _ _ ?_); clear hK K) | ((with_reducible refine wE_if ?_ (fun hc => ?_) (fun hc => ?_)); (focus (simp [lk, upd, envOf, *]; done)); all_goals (simp [lk, upd, envOf, *] at hc <;> try (exfalso; omega))) | (clear hK; clear K))
  (with_reducible refine wS_step (fun K hK => ?_)); simp [go_sem, lk, upd, envOf, stepS_value, stepS_skip, stepS_enter, ↓IntWalk.iteOmega, *]; (try go_ints); refine (HLW.out).mono ?_; rintro e w7 ⟨rfl, hg7⟩; refine ⟨_, rfl, hK.out _ _ ?_⟩; clear hK K
  have HB7 := Lib.hid (Below.trans HB3.out (Below.mono (Below.trans HB4.out (Below.trans HB5.out (Below.trans HB6.out (Below.mono hg7 (by have := HB6.out.size; have := HB5.out.size; have := HB4.out.size; omega))))) (by omega)))
  clear hg7
  repeat' (first | with_reducible (first | refine wE_seq (fun K hK => ?_) | refine wE_block ?_ | refine wE_skip ?_ | refine wE_ret ?_ | refine wE_exit ?_) | ((with_reducible refine wE_region ?_ ?_); (kernel_rfl); simp only [ls, stripO]) | ((with_reducible refine wS_step (fun K hK => ?_)); simp [go_sem, lk, upd, envOf, stepS_value, stepS_skip, stepS_enter, ↓IntWalk.iteOmega, *]; (try go_ints); refine hK.out _ _ ?_; clear hK K) | ((with_reducible refine wS_unit (fun K hK => ?_)); simp [go_sem, lk, upd, envOf, stepS_value, stepS_skip, stepS_enter, ↓IntWalk.iteOmega, *]; (try go_ints); refine hK.out _ _ ?_; clear hK K) | ((with_reducible refine wS_skip ?_ ?_); (focus (simp [lk, upd, envOf, *]; done))) | ((with_reducible refine wS_want ?_ ?_); (focus (simp [lk, upd, envOf, *]; done))) | ((with_reducible refine wS_split (fun hc => ?_) (fun hc => ?_)) <;> simp [lk, upd, envOf, *] at hc <;> try (exfalso; omega)) | with_reducible refine wS_nil ?_ | simp only [thenE, blockE, ↓reduceIte, Nat.reduceEqDiff] | ((with_reducible refine hK.out _ _ ?_); clear hK K) | ((with_reducible refine wE_if ?_ (fun hc => ?_) (fun hc => ?_)); (focus (simp [lk, upd, envOf, *]; done)); all_goals (simp [lk, upd, envOf, *] at hc <;> try (exfalso; omega))) | (clear hK; clear K))
  exact endE_tmp2 rfl ⟨HR.out _ (by rw [HP2.out]; simp [upd]), HB7.out⟩
end Go.Proofs.YtglekdhdogjnoaaGreatDoor
