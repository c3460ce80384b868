import Derived.Test.YtglekdhdogjnoaaGreatDoorPrgE
import Derived.Laws.EntriesVeiled
namespace Go.Proofs.YtglekdhdogjnoaaGreatDoor
open Go.RowKit
set_option linter.unusedSimpArgs false
theorem endE_cell {P : Program} {n : Nat} {σ : Env} {w : World} {fn : Func} {R : Ending → World → Prop} {t : Tmp} {ty : TypeId} {p : Addr} {v : Value} (h : fn.results = #[.cell t ty]) (hp : σ t = .pointer (some p)) (hl : (loadVar ty p).run P w = .ok v w) (hR : R (.returned v) w) : endE P n fn R .ret σ w := by
  intro a ha
  refine ⟨v, ?_, hR⟩
  have e : a.tmps.getD t undef = .pointer (some p) := (congrFun ha.get t).trans hp
  have e' : a.tmps[t]?.getD undef = .pointer (some p) := by rw [← e, Array.getD_eq_getD_getElem?]
  simp [results, h, e, e', asAddr, Result.andThen, Sem.run_bind, hl]
set_option maxHeartbeats 1000000 in
theorem person_form (s : ByteArray) (w : World) :
    Calls Tryz.prog 35 #[.string s] w fun e w' => e = .returned (.agg #[.string s, .func (.func 65) #[] #[], .func (.func 66) #[] #[]]) ∧ Grow w w' := by
  refine calls_of_wE Tryz.func35 rfl Tryz.ntmps35 (by simp) ?_
  repeat' (first | with_reducible (first | refine wE_seq (fun K hK => ?_) | refine wE_block ?_ | refine wE_skip ?_ | refine wE_ret ?_ | refine wE_exit ?_) | ((with_reducible refine wE_region ?_ ?_); (kernel_rfl); simp only [ls, stripO]) | ((with_reducible refine wS_step (fun K hK => ?_)); simp [go_sem, lk, upd, envOf, stepS_value, stepS_skip, stepS_enter, ↓IntWalk.iteOmega, *]; (try go_ints); refine hK.out _ _ ?_; clear hK K) | ((with_reducible refine wS_unit (fun K hK => ?_)); simp [go_sem, lk, upd, envOf, stepS_value, stepS_skip, stepS_enter, ↓IntWalk.iteOmega, *]; (try go_ints); refine hK.out _ _ ?_; clear hK K) | ((with_reducible refine wS_skip ?_ ?_); (focus (simp [lk, upd, envOf, *]; done))) | ((with_reducible refine wS_want ?_ ?_); (focus (simp [lk, upd, envOf, *]; done))) | ((with_reducible refine wS_split (fun hc => ?_) (fun hc => ?_)) <;> simp [lk, upd, envOf, *] at hc <;> try (exfalso; omega)) | with_reducible refine wS_nil ?_ | simp only [thenE, blockE, ↓reduceIte, Nat.reduceEqDiff] | ((with_reducible refine hK.out _ _ ?_); clear hK K) | ((with_reducible refine wE_if ?_ (fun hc => ?_) (fun hc => ?_)); (focus (simp [lk, upd, envOf, *]; done)); all_goals (simp [lk, upd, envOf, *] at hc <;> try (exfalso; omega))) | (clear hK; clear K))
  refine endE_cell rfl (by simp [upd]; rfl) ?_ ⟨rfl, Grow.alloc _ _⟩
  simp [go_sem]
set_option maxHeartbeats 1000000 in
theorem count_form (s : ByteArray) (w : World) :
    Calls Tryz.prog 42 #[.string s] w fun e w' => e = .returned (.agg #[.string s, .func (.func 67) #[] #[], .func (.func 68) #[] #[]]) ∧ Grow w w' := by
  refine calls_of_wE Tryz.func42 rfl Tryz.ntmps42 (by simp) ?_
  repeat' (first | with_reducible (first | refine wE_seq (fun K hK => ?_) | refine wE_block ?_ | refine wE_skip ?_ | refine wE_ret ?_ | refine wE_exit ?_) | ((with_reducible refine wE_region ?_ ?_); (kernel_rfl); simp only [ls, stripO]) | ((with_reducible refine wS_step (fun K hK => ?_)); simp [go_sem, lk, upd, envOf, stepS_value, stepS_skip, stepS_enter, ↓IntWalk.iteOmega, *]; (try go_ints); refine hK.out _ _ ?_; clear hK K) | ((with_reducible refine wS_unit (fun K hK => ?_)); simp [go_sem, lk, upd, envOf, stepS_value, stepS_skip, stepS_enter, ↓IntWalk.iteOmega, *]; (try go_ints); refine hK.out _ _ ?_; clear hK K) | ((with_reducible refine wS_skip ?_ ?_); (focus (simp [lk, upd, envOf, *]; done))) | ((with_reducible refine wS_want ?_ ?_); (focus (simp [lk, upd, envOf, *]; done))) | ((with_reducible refine wS_split (fun hc => ?_) (fun hc => ?_)) <;> simp [lk, upd, envOf, *] at hc <;> try (exfalso; omega)) | with_reducible refine wS_nil ?_ | simp only [thenE, blockE, ↓reduceIte, Nat.reduceEqDiff] | ((with_reducible refine hK.out _ _ ?_); clear hK K) | ((with_reducible refine wE_if ?_ (fun hc => ?_) (fun hc => ?_)); (focus (simp [lk, upd, envOf, *]; done)); all_goals (simp [lk, upd, envOf, *] at hc <;> try (exfalso; omega))) | (clear hK; clear K))
  refine endE_cell rfl (by simp [upd]; rfl) ?_ ⟨rfl, Grow.alloc _ _⟩
  simp [go_sem]
/-- Only the block b has turned. -/
structure Only (b : Nat) (w w' : World) : Prop where
  os : w'.os = w.os
  tape : w'.tape = w.tape
  output : w'.output = w.output
  size : w'.heap.size = w.heap.size
  block : ∀ k, k ≠ b → w'.heap[k]? = w.heap[k]?
theorem run_insert (w : World) (b : Nat) (es : Array MapEntry) (c : Nat) (k : Int) (v : Value) (hm : w.heap[b]? = some (.map es c)) (hf : Instr.findNow (.int .i64) (.int .i64 k) es.toList 0 = some none) :
    ∃ w', (Instr.mapUpdate 47 (.map (some b)) (.int .i64 k) v).run Tryz.prog w = .ok () w' ∧ w'.heap[b]? = some (.map (es.push ⟨.int .i64 k, v, c⟩) (c + 1)) ∧ Only b w w' := by
  have hlt := (Array.getElem?_eq_some_iff.1 hm).1
  refine ⟨{ w with heap := w.heap.setIfInBounds b (.map (es.push ⟨.int .i64 k, v, c⟩) (c + 1)) }, ?_, ?_, ⟨rfl, rfl, rfl, by simp, fun j hj => ?_⟩⟩
  · have hk := MapKept.run_findKey (P := Tryz.prog) (w := w) (kt := 3) (d := .int .i64) (k := .int .i64 k) (l := es.toList) (a := none) Tryz.underlying3 hf
    have hck := MapKept.run_checkKey (P := Tryz.prog) (w := w) (kt := 3) (d := .int .i64) (k := .int .i64 k) Tryz.underlying3 (by simp [MapKept.IsKey]) false 9999
    unfold Instr.mapUpdate
    simp only [Sem.run_bind, run_underlying Tryz.underlying47, Result.andThen, MapKept.run_getObj_map hm, hck, hk, MapKept.run_setObj_map _ hm]
  · simp [hlt]
  · simp [Ne.symm hj]
theorem Only.refl (b : Nat) (w : World) : Only b w w := ⟨rfl, rfl, rfl, rfl, fun _ _ => rfl⟩
/-- A new map grows beside what was there. -/
structure MapAt (w0 w : World) (b : Nat) (es : Array MapEntry) (c : Nat) : Prop where
  below : Below b w0 w
  map : w.heap[b]? = some (.map es c)
theorem MapAt.insert {w0 w : World} {b : Nat} {es : Array MapEntry} {c : Nat} (h : MapAt w0 w b es c) (k : Int) (v : Value) (hf : Instr.findNow (.int .i64) (.int .i64 k) es.toList 0 = some none) :
    ∃ w', (Instr.mapUpdate 47 (.map (some b)) (.int .i64 k) v).run Tryz.prog w = .ok () w' ∧ MapAt w0 w' b (es.push ⟨.int .i64 k, v, c⟩) (c + 1) := by
  obtain ⟨w', h1, h2, h3⟩ := run_insert w b es c k v h.map hf
  exact ⟨w', h1, h.below.trans ⟨h3.os, h3.tape, h3.output, Nat.le_of_eq h3.size.symm, fun j hj => h3.block j (by omega)⟩, h2⟩
theorem MapAt.grow {w0 w w' : World} {b : Nat} {es : Array MapEntry} {c : Nat} (h : MapAt w0 w b es c) (g : Grow w w') : MapAt w0 w' b es c := by
  have hlt := (Array.getElem?_eq_some_iff.1 h.map).1
  exact ⟨h.below.trans (Below.mono g (by omega)), by rw [g.block b hlt]; exact h.map⟩
theorem wS_insert {P : Program} {Q : Env → World → Prop} {rest : List SOp} {σ : Env} {w w' : World} {m kk vv : Operand} {mt ty : TypeId} {p : String} {af : Array Edge} {gd : Option (Nat × Bool)} (vm vk v : Value)
    (hm : evalS σ m = vm) (hk : evalS σ kk = vk) (hv : evalS σ vv = v) (hrun : (Instr.mapUpdate mt vm vk v).run P w = .ok () w') (k : wS P Q rest σ w') :
    wS P Q (⟨⟨none, .insert mt m kk vv, ty, p, af, gd⟩, none⟩ :: rest) σ w := by
  refine wS_unit (fun K hK => ?_)
  simp [execOp, hm, hk, hv, hrun, Result.andThen, stepS]
  exact hK.out _ _ k
def formV (s : ByteArray) (f g : Nat) : Value := .agg #[.string s, .func (.func f) #[] #[], .func (.func g) #[] #[]]
def formsE : Array MapEntry := #[⟨.int .i64 1, formV ⟨#[115, 117, 98, 109, 105, 116]⟩ 28 32, 0⟩, ⟨.int .i64 2, formV ⟨#[97, 112, 112, 114, 111, 118, 101]⟩ 65 66, 1⟩, ⟨.int .i64 3, formV ⟨#[116, 105, 99, 107]⟩ 36 37, 2⟩, ⟨.int .i64 4, formV ⟨#[99, 117, 116]⟩ 38 40, 3⟩,
  ⟨.int .i64 5, formV ⟨#[112, 111, 119, 101, 114]⟩ 67 68, 4⟩, ⟨.int .i64 6, formV ⟨#[119, 111, 114, 107, 101, 114]⟩ 43 44, 5⟩, ⟨.int .i64 7, formV ⟨#[114, 111, 108, 108, 98, 97, 99, 107]⟩ 65 66, 6⟩, ⟨.int .i64 8, formV ⟨#[114, 117, 110]⟩ 67 68, 7⟩]
set_option maxRecDepth 100000 in
set_option maxHeartbeats 4000000 in
theorem forms_any (w : World) :
    Calls Tryz.prog 12 #[] w fun e w' => e = .returned (.map (some w.heap.size)) ∧ MapAt w w' w.heap.size formsE 8 := by
  refine calls_of_wE Tryz.func12 rfl Tryz.ntmps12 (by simp) ?_
  repeat' (first | with_reducible (first | refine wE_seq (fun K hK => ?_) | refine wE_block ?_ | refine wE_skip ?_ | refine wE_ret ?_ | refine wE_exit ?_) | ((with_reducible refine wE_region ?_ ?_); (kernel_rfl); simp only [ls, stripO]) | ((with_reducible refine wS_step (fun K hK => ?_)); simp [go_sem, lk, upd, envOf, stepS_value, stepS_skip, stepS_enter, ↓IntWalk.iteOmega, *]; (try go_ints); refine hK.out _ _ ?_; clear hK K) | ((with_reducible refine wS_unit (fun K hK => ?_)); simp [go_sem, lk, upd, envOf, stepS_value, stepS_skip, stepS_enter, ↓IntWalk.iteOmega, *]; (try go_ints); refine hK.out _ _ ?_; clear hK K) | ((with_reducible refine wS_skip ?_ ?_); (focus (simp [lk, upd, envOf, *]; done))) | ((with_reducible refine wS_want ?_ ?_); (focus (simp [lk, upd, envOf, *]; done))) | ((with_reducible refine wS_split (fun hc => ?_) (fun hc => ?_)) <;> simp [lk, upd, envOf, *] at hc <;> try (exfalso; omega)) | with_reducible refine wS_nil ?_ | simp only [thenE, blockE, ↓reduceIte, Nat.reduceEqDiff] | ((with_reducible refine hK.out _ _ ?_); clear hK K) | ((with_reducible refine wE_if ?_ (fun hc => ?_) (fun hc => ?_)); (focus (simp [lk, upd, envOf, *]; done)); all_goals (simp [lk, upd, envOf, *] at hc <;> try (exfalso; omega))) | (clear hK; clear K))
  have hM0 : MapAt w (w.alloc (.map #[] 0)) w.heap.size #[] 0 := ⟨(Below.refl _ _).alloc (Nat.le_refl _) _, heap_alloc_new w _⟩
  generalize w.alloc (.map #[] 0) = v0 at *
  have HM0 := Lib.hid hM0
  clear hM0
  have HG1 := HM0
  obtain ⟨v1, hr1, hm1⟩ := HG1.out.insert 1 (formV ⟨#[115, 117, 98, 109, 105, 116]⟩ 28 32) rfl
  have HR1 := Lib.hid hr1
  have HM1 := Lib.hid hm1
  clear hr1 hm1
  refine wS_insert (.map (some w.heap.size)) (.int .i64 1) (formV ⟨#[115, 117, 98, 109, 105, 116]⟩ 28 32) ?_ ?_ ?_ HR1.out ?_
  · simp [evalS_tmp, upd]
  · simp [evalS_const]
  · simp [evalS_tmp, upd, formV]
  repeat' (first | with_reducible (first | refine wE_seq (fun K hK => ?_) | refine wE_block ?_ | refine wE_skip ?_ | refine wE_ret ?_ | refine wE_exit ?_) | ((with_reducible refine wE_region ?_ ?_); (kernel_rfl); simp only [ls, stripO]) | ((with_reducible refine wS_step (fun K hK => ?_)); simp [go_sem, lk, upd, envOf, stepS_value, stepS_skip, stepS_enter, ↓IntWalk.iteOmega, *]; (try go_ints); refine hK.out _ _ ?_; clear hK K) | ((with_reducible refine wS_unit (fun K hK => ?_)); simp [go_sem, lk, upd, envOf, stepS_value, stepS_skip, stepS_enter, ↓IntWalk.iteOmega, *]; (try go_ints); refine hK.out _ _ ?_; clear hK K) | ((with_reducible refine wS_skip ?_ ?_); (focus (simp [lk, upd, envOf, *]; done))) | ((with_reducible refine wS_want ?_ ?_); (focus (simp [lk, upd, envOf, *]; done))) | ((with_reducible refine wS_split (fun hc => ?_) (fun hc => ?_)) <;> simp [lk, upd, envOf, *] at hc <;> try (exfalso; omega)) | with_reducible refine wS_nil ?_ | simp only [thenE, blockE, ↓reduceIte, Nat.reduceEqDiff] | ((with_reducible refine hK.out _ _ ?_); clear hK K) | ((with_reducible refine wE_if ?_ (fun hc => ?_) (fun hc => ?_)); (focus (simp [lk, upd, envOf, *]; done)); all_goals (simp [lk, upd, envOf, *] at hc <;> try (exfalso; omega))) | (clear hK; clear K))
  (with_reducible refine wS_step (fun K hK => ?_)); simp [go_sem, lk, upd, envOf, stepS_value, stepS_skip, stepS_enter, ↓IntWalk.iteOmega, *]; (try go_ints); refine (person_form _ _).mono ?_; rintro e u2 ⟨rfl, hg2⟩; refine ⟨_, rfl, hK.out _ _ ?_⟩; clear hK K
  have HG2 := Lib.hid (HM1.out.grow hg2)
  clear hg2
  obtain ⟨v2, hr2, hm2⟩ := HG2.out.insert 2 (formV ⟨#[97, 112, 112, 114, 111, 118, 101]⟩ 65 66) rfl
  have HR2 := Lib.hid hr2
  have HM2 := Lib.hid hm2
  clear hr2 hm2
  refine wS_insert (.map (some w.heap.size)) (.int .i64 2) (formV ⟨#[97, 112, 112, 114, 111, 118, 101]⟩ 65 66) ?_ ?_ ?_ HR2.out ?_
  · simp [evalS_tmp, upd]
  · simp [evalS_const]
  · simp [evalS_tmp, upd, formV]
  repeat' (first | with_reducible (first | refine wE_seq (fun K hK => ?_) | refine wE_block ?_ | refine wE_skip ?_ | refine wE_ret ?_ | refine wE_exit ?_) | ((with_reducible refine wE_region ?_ ?_); (kernel_rfl); simp only [ls, stripO]) | ((with_reducible refine wS_step (fun K hK => ?_)); simp [go_sem, lk, upd, envOf, stepS_value, stepS_skip, stepS_enter, ↓IntWalk.iteOmega, *]; (try go_ints); refine hK.out _ _ ?_; clear hK K) | ((with_reducible refine wS_unit (fun K hK => ?_)); simp [go_sem, lk, upd, envOf, stepS_value, stepS_skip, stepS_enter, ↓IntWalk.iteOmega, *]; (try go_ints); refine hK.out _ _ ?_; clear hK K) | ((with_reducible refine wS_skip ?_ ?_); (focus (simp [lk, upd, envOf, *]; done))) | ((with_reducible refine wS_want ?_ ?_); (focus (simp [lk, upd, envOf, *]; done))) | ((with_reducible refine wS_split (fun hc => ?_) (fun hc => ?_)) <;> simp [lk, upd, envOf, *] at hc <;> try (exfalso; omega)) | with_reducible refine wS_nil ?_ | simp only [thenE, blockE, ↓reduceIte, Nat.reduceEqDiff] | ((with_reducible refine hK.out _ _ ?_); clear hK K) | ((with_reducible refine wE_if ?_ (fun hc => ?_) (fun hc => ?_)); (focus (simp [lk, upd, envOf, *]; done)); all_goals (simp [lk, upd, envOf, *] at hc <;> try (exfalso; omega))) | (clear hK; clear K))
  have HG3 := HM2
  obtain ⟨v3, hr3, hm3⟩ := HG3.out.insert 3 (formV ⟨#[116, 105, 99, 107]⟩ 36 37) rfl
  have HR3 := Lib.hid hr3
  have HM3 := Lib.hid hm3
  clear hr3 hm3
  refine wS_insert (.map (some w.heap.size)) (.int .i64 3) (formV ⟨#[116, 105, 99, 107]⟩ 36 37) ?_ ?_ ?_ HR3.out ?_
  · simp [evalS_tmp, upd]
  · simp [evalS_const]
  · simp [evalS_tmp, upd, formV]
  repeat' (first | with_reducible (first | refine wE_seq (fun K hK => ?_) | refine wE_block ?_ | refine wE_skip ?_ | refine wE_ret ?_ | refine wE_exit ?_) | ((with_reducible refine wE_region ?_ ?_); (kernel_rfl); simp only [ls, stripO]) | ((with_reducible refine wS_step (fun K hK => ?_)); simp [go_sem, lk, upd, envOf, stepS_value, stepS_skip, stepS_enter, ↓IntWalk.iteOmega, *]; (try go_ints); refine hK.out _ _ ?_; clear hK K) | ((with_reducible refine wS_unit (fun K hK => ?_)); simp [go_sem, lk, upd, envOf, stepS_value, stepS_skip, stepS_enter, ↓IntWalk.iteOmega, *]; (try go_ints); refine hK.out _ _ ?_; clear hK K) | ((with_reducible refine wS_skip ?_ ?_); (focus (simp [lk, upd, envOf, *]; done))) | ((with_reducible refine wS_want ?_ ?_); (focus (simp [lk, upd, envOf, *]; done))) | ((with_reducible refine wS_split (fun hc => ?_) (fun hc => ?_)) <;> simp [lk, upd, envOf, *] at hc <;> try (exfalso; omega)) | with_reducible refine wS_nil ?_ | simp only [thenE, blockE, ↓reduceIte, Nat.reduceEqDiff] | ((with_reducible refine hK.out _ _ ?_); clear hK K) | ((with_reducible refine wE_if ?_ (fun hc => ?_) (fun hc => ?_)); (focus (simp [lk, upd, envOf, *]; done)); all_goals (simp [lk, upd, envOf, *] at hc <;> try (exfalso; omega))) | (clear hK; clear K))
  have HG4 := HM3
  obtain ⟨v4, hr4, hm4⟩ := HG4.out.insert 4 (formV ⟨#[99, 117, 116]⟩ 38 40) rfl
  have HR4 := Lib.hid hr4
  have HM4 := Lib.hid hm4
  clear hr4 hm4
  refine wS_insert (.map (some w.heap.size)) (.int .i64 4) (formV ⟨#[99, 117, 116]⟩ 38 40) ?_ ?_ ?_ HR4.out ?_
  · simp [evalS_tmp, upd]
  · simp [evalS_const]
  · simp [evalS_tmp, upd, formV]
  repeat' (first | with_reducible (first | refine wE_seq (fun K hK => ?_) | refine wE_block ?_ | refine wE_skip ?_ | refine wE_ret ?_ | refine wE_exit ?_) | ((with_reducible refine wE_region ?_ ?_); (kernel_rfl); simp only [ls, stripO]) | ((with_reducible refine wS_step (fun K hK => ?_)); simp [go_sem, lk, upd, envOf, stepS_value, stepS_skip, stepS_enter, ↓IntWalk.iteOmega, *]; (try go_ints); refine hK.out _ _ ?_; clear hK K) | ((with_reducible refine wS_unit (fun K hK => ?_)); simp [go_sem, lk, upd, envOf, stepS_value, stepS_skip, stepS_enter, ↓IntWalk.iteOmega, *]; (try go_ints); refine hK.out _ _ ?_; clear hK K) | ((with_reducible refine wS_skip ?_ ?_); (focus (simp [lk, upd, envOf, *]; done))) | ((with_reducible refine wS_want ?_ ?_); (focus (simp [lk, upd, envOf, *]; done))) | ((with_reducible refine wS_split (fun hc => ?_) (fun hc => ?_)) <;> simp [lk, upd, envOf, *] at hc <;> try (exfalso; omega)) | with_reducible refine wS_nil ?_ | simp only [thenE, blockE, ↓reduceIte, Nat.reduceEqDiff] | ((with_reducible refine hK.out _ _ ?_); clear hK K) | ((with_reducible refine wE_if ?_ (fun hc => ?_) (fun hc => ?_)); (focus (simp [lk, upd, envOf, *]; done)); all_goals (simp [lk, upd, envOf, *] at hc <;> try (exfalso; omega))) | (clear hK; clear K))
  (with_reducible refine wS_step (fun K hK => ?_)); simp [go_sem, lk, upd, envOf, stepS_value, stepS_skip, stepS_enter, ↓IntWalk.iteOmega, *]; (try go_ints); refine (count_form _ _).mono ?_; rintro e u5 ⟨rfl, hg5⟩; refine ⟨_, rfl, hK.out _ _ ?_⟩; clear hK K
  have HG5 := Lib.hid (HM4.out.grow hg5)
  clear hg5
  obtain ⟨v5, hr5, hm5⟩ := HG5.out.insert 5 (formV ⟨#[112, 111, 119, 101, 114]⟩ 67 68) rfl
  have HR5 := Lib.hid hr5
  have HM5 := Lib.hid hm5
  clear hr5 hm5
  refine wS_insert (.map (some w.heap.size)) (.int .i64 5) (formV ⟨#[112, 111, 119, 101, 114]⟩ 67 68) ?_ ?_ ?_ HR5.out ?_
  · simp [evalS_tmp, upd]
  · simp [evalS_const]
  · simp [evalS_tmp, upd, formV]
  repeat' (first | with_reducible (first | refine wE_seq (fun K hK => ?_) | refine wE_block ?_ | refine wE_skip ?_ | refine wE_ret ?_ | refine wE_exit ?_) | ((with_reducible refine wE_region ?_ ?_); (kernel_rfl); simp only [ls, stripO]) | ((with_reducible refine wS_step (fun K hK => ?_)); simp [go_sem, lk, upd, envOf, stepS_value, stepS_skip, stepS_enter, ↓IntWalk.iteOmega, *]; (try go_ints); refine hK.out _ _ ?_; clear hK K) | ((with_reducible refine wS_unit (fun K hK => ?_)); simp [go_sem, lk, upd, envOf, stepS_value, stepS_skip, stepS_enter, ↓IntWalk.iteOmega, *]; (try go_ints); refine hK.out _ _ ?_; clear hK K) | ((with_reducible refine wS_skip ?_ ?_); (focus (simp [lk, upd, envOf, *]; done))) | ((with_reducible refine wS_want ?_ ?_); (focus (simp [lk, upd, envOf, *]; done))) | ((with_reducible refine wS_split (fun hc => ?_) (fun hc => ?_)) <;> simp [lk, upd, envOf, *] at hc <;> try (exfalso; omega)) | with_reducible refine wS_nil ?_ | simp only [thenE, blockE, ↓reduceIte, Nat.reduceEqDiff] | ((with_reducible refine hK.out _ _ ?_); clear hK K) | ((with_reducible refine wE_if ?_ (fun hc => ?_) (fun hc => ?_)); (focus (simp [lk, upd, envOf, *]; done)); all_goals (simp [lk, upd, envOf, *] at hc <;> try (exfalso; omega))) | (clear hK; clear K))
  have HG6 := HM5
  obtain ⟨v6, hr6, hm6⟩ := HG6.out.insert 6 (formV ⟨#[119, 111, 114, 107, 101, 114]⟩ 43 44) rfl
  have HR6 := Lib.hid hr6
  have HM6 := Lib.hid hm6
  clear hr6 hm6
  refine wS_insert (.map (some w.heap.size)) (.int .i64 6) (formV ⟨#[119, 111, 114, 107, 101, 114]⟩ 43 44) ?_ ?_ ?_ HR6.out ?_
  · simp [evalS_tmp, upd]
  · simp [evalS_const]
  · simp [evalS_tmp, upd, formV]
  repeat' (first | with_reducible (first | refine wE_seq (fun K hK => ?_) | refine wE_block ?_ | refine wE_skip ?_ | refine wE_ret ?_ | refine wE_exit ?_) | ((with_reducible refine wE_region ?_ ?_); (kernel_rfl); simp only [ls, stripO]) | ((with_reducible refine wS_step (fun K hK => ?_)); simp [go_sem, lk, upd, envOf, stepS_value, stepS_skip, stepS_enter, ↓IntWalk.iteOmega, *]; (try go_ints); refine hK.out _ _ ?_; clear hK K) | ((with_reducible refine wS_unit (fun K hK => ?_)); simp [go_sem, lk, upd, envOf, stepS_value, stepS_skip, stepS_enter, ↓IntWalk.iteOmega, *]; (try go_ints); refine hK.out _ _ ?_; clear hK K) | ((with_reducible refine wS_skip ?_ ?_); (focus (simp [lk, upd, envOf, *]; done))) | ((with_reducible refine wS_want ?_ ?_); (focus (simp [lk, upd, envOf, *]; done))) | ((with_reducible refine wS_split (fun hc => ?_) (fun hc => ?_)) <;> simp [lk, upd, envOf, *] at hc <;> try (exfalso; omega)) | with_reducible refine wS_nil ?_ | simp only [thenE, blockE, ↓reduceIte, Nat.reduceEqDiff] | ((with_reducible refine hK.out _ _ ?_); clear hK K) | ((with_reducible refine wE_if ?_ (fun hc => ?_) (fun hc => ?_)); (focus (simp [lk, upd, envOf, *]; done)); all_goals (simp [lk, upd, envOf, *] at hc <;> try (exfalso; omega))) | (clear hK; clear K))
  (with_reducible refine wS_step (fun K hK => ?_)); simp [go_sem, lk, upd, envOf, stepS_value, stepS_skip, stepS_enter, ↓IntWalk.iteOmega, *]; (try go_ints); refine (person_form _ _).mono ?_; rintro e u7 ⟨rfl, hg7⟩; refine ⟨_, rfl, hK.out _ _ ?_⟩; clear hK K
  have HG7 := Lib.hid (HM6.out.grow hg7)
  clear hg7
  obtain ⟨v7, hr7, hm7⟩ := HG7.out.insert 7 (formV ⟨#[114, 111, 108, 108, 98, 97, 99, 107]⟩ 65 66) rfl
  have HR7 := Lib.hid hr7
  have HM7 := Lib.hid hm7
  clear hr7 hm7
  refine wS_insert (.map (some w.heap.size)) (.int .i64 7) (formV ⟨#[114, 111, 108, 108, 98, 97, 99, 107]⟩ 65 66) ?_ ?_ ?_ HR7.out ?_
  · simp [evalS_tmp, upd]
  · simp [evalS_const]
  · simp [evalS_tmp, upd, formV]
  repeat' (first | with_reducible (first | refine wE_seq (fun K hK => ?_) | refine wE_block ?_ | refine wE_skip ?_ | refine wE_ret ?_ | refine wE_exit ?_) | ((with_reducible refine wE_region ?_ ?_); (kernel_rfl); simp only [ls, stripO]) | ((with_reducible refine wS_step (fun K hK => ?_)); simp [go_sem, lk, upd, envOf, stepS_value, stepS_skip, stepS_enter, ↓IntWalk.iteOmega, *]; (try go_ints); refine hK.out _ _ ?_; clear hK K) | ((with_reducible refine wS_unit (fun K hK => ?_)); simp [go_sem, lk, upd, envOf, stepS_value, stepS_skip, stepS_enter, ↓IntWalk.iteOmega, *]; (try go_ints); refine hK.out _ _ ?_; clear hK K) | ((with_reducible refine wS_skip ?_ ?_); (focus (simp [lk, upd, envOf, *]; done))) | ((with_reducible refine wS_want ?_ ?_); (focus (simp [lk, upd, envOf, *]; done))) | ((with_reducible refine wS_split (fun hc => ?_) (fun hc => ?_)) <;> simp [lk, upd, envOf, *] at hc <;> try (exfalso; omega)) | with_reducible refine wS_nil ?_ | simp only [thenE, blockE, ↓reduceIte, Nat.reduceEqDiff] | ((with_reducible refine hK.out _ _ ?_); clear hK K) | ((with_reducible refine wE_if ?_ (fun hc => ?_) (fun hc => ?_)); (focus (simp [lk, upd, envOf, *]; done)); all_goals (simp [lk, upd, envOf, *] at hc <;> try (exfalso; omega))) | (clear hK; clear K))
  (with_reducible refine wS_step (fun K hK => ?_)); simp [go_sem, lk, upd, envOf, stepS_value, stepS_skip, stepS_enter, ↓IntWalk.iteOmega, *]; (try go_ints); refine (count_form _ _).mono ?_; rintro e u8 ⟨rfl, hg8⟩; refine ⟨_, rfl, hK.out _ _ ?_⟩; clear hK K
  have HG8 := Lib.hid (HM7.out.grow hg8)
  clear hg8
  obtain ⟨v8, hr8, hm8⟩ := HG8.out.insert 8 (formV ⟨#[114, 117, 110]⟩ 67 68) rfl
  have HR8 := Lib.hid hr8
  have HM8 := Lib.hid hm8
  clear hr8 hm8
  refine wS_insert (.map (some w.heap.size)) (.int .i64 8) (formV ⟨#[114, 117, 110]⟩ 67 68) ?_ ?_ ?_ HR8.out ?_
  · simp [evalS_tmp, upd]
  · simp [evalS_const]
  · simp [evalS_tmp, upd, formV]
  repeat' (first | with_reducible (first | refine wE_seq (fun K hK => ?_) | refine wE_block ?_ | refine wE_skip ?_ | refine wE_ret ?_ | refine wE_exit ?_) | ((with_reducible refine wE_region ?_ ?_); (kernel_rfl); simp only [ls, stripO]) | ((with_reducible refine wS_step (fun K hK => ?_)); simp [go_sem, lk, upd, envOf, stepS_value, stepS_skip, stepS_enter, ↓IntWalk.iteOmega, *]; (try go_ints); refine hK.out _ _ ?_; clear hK K) | ((with_reducible refine wS_unit (fun K hK => ?_)); simp [go_sem, lk, upd, envOf, stepS_value, stepS_skip, stepS_enter, ↓IntWalk.iteOmega, *]; (try go_ints); refine hK.out _ _ ?_; clear hK K) | ((with_reducible refine wS_skip ?_ ?_); (focus (simp [lk, upd, envOf, *]; done))) | ((with_reducible refine wS_want ?_ ?_); (focus (simp [lk, upd, envOf, *]; done))) | ((with_reducible refine wS_split (fun hc => ?_) (fun hc => ?_)) <;> simp [lk, upd, envOf, *] at hc <;> try (exfalso; omega)) | with_reducible refine wS_nil ?_ | simp only [thenE, blockE, ↓reduceIte, Nat.reduceEqDiff] | ((with_reducible refine hK.out _ _ ?_); clear hK K) | ((with_reducible refine wE_if ?_ (fun hc => ?_) (fun hc => ?_)); (focus (simp [lk, upd, envOf, *]; done)); all_goals (simp [lk, upd, envOf, *] at hc <;> try (exfalso; omega))) | (clear hK; clear K))
  exact endE_tmp rfl ⟨by simp [upd], HM8.out⟩
end Go.Proofs.YtglekdhdogjnoaaGreatDoor
