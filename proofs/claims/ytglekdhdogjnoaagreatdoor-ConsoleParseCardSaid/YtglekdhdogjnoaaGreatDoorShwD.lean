/- The program's Show. -/
import Derived.Test.YtglekdhdogjnoaaGreatDoorShwC
namespace Go.Proofs.YtglekdhdogjnoaaGreatDoor
open Go.RowKit
set_option linter.unusedSimpArgs false
/-- The outcome's own block. -/
def OBox (w : World) (b : Nat) (O : POut) (ve : Value) : Prop := w.cell? ⟨b, 0, none⟩ = some (.int .i64 O.err) ∧ w.cell? ⟨b, 1, none⟩ = some (.int .i64 O.id) ∧ w.cell? ⟨b, 2, none⟩ = some ve
theorem OBox.below {w w' : World} {b m : Nat} {O : POut} {ve : Value} (h : OBox w b O ve) (k : Below m w w') (hl : b < m) : OBox w' b O ve := by
  have e : ∀ i, w'.cell? ⟨b, i, none⟩ = w.cell? ⟨b, i, none⟩ := fun i => k.cell hl
  unfold OBox at *
  simp only [e]
  exact h
/-- What holds all along: the boxes, the table, the arguments' own data. -/
structure ShCtx (w : World) (A : PAct) (vf vp : Value) (O : POut) (ve : Value) (w' : World) : Prop where
  below : Below w.heap.size w w'
  box : BoxAt w' w.heap.size A vf vp
  obox : OBox w' (w.heap.size + 1) O ve
  tab : Tab10 w'
  size : w.heap.size + 4 ≤ w'.heap.size
theorem ShCtx.step {w w1 w2 : World} {A : PAct} {vf vp : Value} {O : POut} {ve : Value} (h : ShCtx w A vf vp O ve w1) (hw : 1 < w.heap.size) (b : Below (w.heap.size + 1 + 1) w1 w2) : ShCtx w A vf vp O ve w2 :=
  ⟨h.below.trans (b.mono (by omega)), h.box.below b (by omega), h.obox.below b (by omega), h.tab.of_block (b.block 1 (by omega)), Nat.le_trans h.size b.size⟩
/-- The words and all that holds. -/
structure ShAt (w : World) (A : PAct) (vf vp : Value) (O : POut) (ve : Value) (xs : List ByteArray) (w' : World) (v : Value) : Prop where
  ctx : ShCtx w A vf vp O ve w'
  wd : WdAt w' (w.heap.size + 1 + 1) (w.heap.size + 1 + 1 + 1) xs v
theorem ShAt.grow {w w1 w2 : World} {A : PAct} {vf vp : Value} {O : POut} {ve : Value} {xs : List ByteArray} {v : Value} (h : ShAt w A vf vp O ve xs w1 v) (hw : 1 < w.heap.size) (g : Grow w1 w2) : ShAt w A vf vp O ve xs w2 v :=
  ⟨h.ctx.step hw (Below.mono g (by have := h.ctx.size; omega)), h.wd.grow g⟩
theorem ShAt.done {w w1 w2 : World} {A : PAct} {vf vp : Value} {O : POut} {ve : Value} {xs ys : List ByteArray} {v v' : Value} (h : ShAt w A vf vp O ve xs w1 v) (hw : 1 < w.heap.size) (d : WdAt w2 (w.heap.size + 1 + 1) (w.heap.size + 1 + 1 + 1) ys v') (s : WStep (w.heap.size + 1 + 1 + 1) w1 w2) : ShAt w A vf vp O ve ys w2 v' :=
  ⟨h.ctx.step hw (h.wd.below s (by omega)), d⟩
theorem two_new (W : World) (m : Nat) (a b : Obj) (h : W.heap.size = m) : ((W.alloc a).alloc b).heap[m]? = some a ∧ ((W.alloc a).alloc b).heap[m + 1]? = some b := by
  subst h
  constructor
  · rw [Below.heap_alloc _ _ _ (by simp)]; exact heap_alloc_new W a
  · have := heap_alloc_new (W.alloc a) b
    rw [show (W.alloc a).heap.size = W.heap.size + 1 by simp] at this
    exact this
theorem sh_start (w : World) (A : PAct) (vf vp : Value) (O : POut) (ve : Value) (ht : Tab10 w) :
    ShAt w A vf vp O ve [⟨#[105, 110, 112, 117, 116]⟩] ((((w.alloc (.cells #[.int .i64 A.kind, .string A.who, .int .i64 A.change, .int .i64 A.priority, .int .i64 A.at_, .int .i64 A.count, vf, vp] 26)).alloc (.cells #[.int .i64 O.err, .int .i64 O.id, ve] 39)).alloc (.cells #[.string ⟨#[105, 110, 112, 117, 116]⟩] 9)).alloc (.cells #[.slice (some ⟨w.heap.size + 1 + 1, 0, none⟩) 1 1] 64)) (.slice (some ⟨w.heap.size + 1 + 1, 0, none⟩) 1 1) := by
  have hg : Grow w ((((w.alloc (.cells #[.int .i64 A.kind, .string A.who, .int .i64 A.change, .int .i64 A.priority, .int .i64 A.at_, .int .i64 A.count, vf, vp] 26)).alloc (.cells #[.int .i64 O.err, .int .i64 O.id, ve] 39)).alloc (.cells #[.string ⟨#[105, 110, 112, 117, 116]⟩] 9)).alloc (.cells #[.slice (some ⟨w.heap.size + 1 + 1, 0, none⟩) 1 1] 64)) :=
    (((Grow.alloc w _).trans (Grow.alloc _ _)).trans (Grow.alloc _ _)).trans (Grow.alloc _ _)
  refine ⟨⟨hg, ?_, ?_, ht.grow hg, by simp⟩, ⟨?_, ⟨rfl, .inr ⟨w.heap.size + 1 + 1, 1, #[.string ⟨#[105, 110, 112, 117, 116]⟩], rfl, Nat.le_refl _, ?_, by simp, by unfold maxLen; omega, rfl, rfl⟩⟩, by simp [Value.ownBlock], rfl⟩⟩
  · refine ⟨?_, ?_, ?_, ?_, ?_, ?_, ?_, ?_⟩ <;> simp [go_sem]
  · refine ⟨?_, ?_, ?_⟩ <;> simp [go_sem]
  · exact (two_new _ (w.heap.size + 1 + 1) _ _ (by simp)).2
  · exact (two_new _ (w.heap.size + 1 + 1) _ _ (by simp)).1
theorem sh_first {w w1 : World} {A : PAct} {vf vp : Value} {O : POut} {ve : Value} {s : ByteArray} (h : ShAt w A vf vp O ve [s] w1 (.slice (some ⟨w.heap.size + 1 + 1, 0, none⟩) 1 1)) (hw : 1 < w.heap.size) (s' : ByteArray) :
    ShAt w A vf vp O ve [s'] (w1.setCell ⟨w.heap.size + 1 + 1, 0, none⟩ (.string s')) (.slice (some ⟨w.heap.size + 1 + 1, 0, none⟩) 1 1) := by
  obtain ⟨h1, h2⟩ := World.ownsRow.stored (g := w.heap.size + 1 + 1) (n := 1) (cap := 1) h.wd.own 0 (.string s')
  refine ⟨h.ctx.step hw ⟨rfl, rfl, rfl, by simp [World.setCell], fun k hk => heap_setCell_other _ _ _ _ (by simp only [ne_eq]; omega)⟩, ⟨?_, h1, h.wd.ne, rfl⟩⟩
  rw [heap_setCell_other _ _ _ _ (by simp only [ne_eq]; omega)]
  exact h.wd.cell
def wpre (xs : List Int) : List ByteArray := if xs = [] then [] else [S wWith]
theorem wpre_len (xs : List Int) : (wpre xs).length ≤ 1 := by unfold wpre; split <;> simp
theorem wpre_words (xs : List Int) : (withWords xs).map S = wpre xs ++ xs.map itoaS := by
  unfold withWords wpre
  split
  · rename_i h; simp [h]
  · simp [itoaS]
abbrev inS : ByteArray := ⟨#[105, 110, 112, 117, 116]⟩
set_option maxHeartbeats 4000000 in
set_option maxRecDepth 100000 in
theorem show_any (A : PAct) (vf vp : Value) (O : POut) (ve : Value) (w : World) (hO : OutAt w O ve) (hs : SmallO O) (ht : Tab10 w) :
    Calls Tryz.prog 9 #[actV A vf vp, outV O ve] w fun e w' => e = .returned (.string (S (showL (wordL A.kind) O))) ∧ Grow w w' := by
  have hX := sh_start w A vf vp O ve ht
  have hw1 : 1 < w.heap.size := ht.size
  have HO := Lib.hid hO
  have HS := Lib.hid hs
  have HWL := Lib.hid (fun k => wds_len A O k hs)
  clear hO hs ht
  unfold actV outV
  refine calls_of_wE Tryz.func9 rfl Tryz.ntmps9 (by simp) ?_
  repeat' (first | with_reducible (first | refine wE_seq (fun K hK => ?_) | refine wE_block ?_ | refine wE_skip ?_ | refine wE_ret ?_ | refine wE_exit ?_) | simp only [thenE, blockE, ↓reduceIte, Nat.reduceEqDiff] | ((with_reducible refine hK.out _ _ ?_); clear hK K) | ((with_reducible refine wE_if ?_ (fun hc => ?_) (fun hc => ?_)); (focus (simp [lk, upd, envOf, *]; done)); all_goals (simp [lk, upd, envOf, *] at hc <;> try (exfalso; omega))) | (clear hK; clear K))
  ((with_reducible refine wE_region ?_ ?_); (kernel_rfl); simp only [ls, stripO])
  repeat' (first | ((with_reducible refine wS_step (fun K hK => ?_)); simp [go_sem, lk, upd, envOf, stepS_value, stepS_skip, stepS_enter, ↓IntWalk.iteOmega, *]; (try go_ints); refine hK.out _ _ ?_; clear hK K) | ((with_reducible refine wS_unit (fun K hK => ?_)); simp [go_sem, lk, upd, envOf, stepS_value, stepS_skip, stepS_enter, ↓IntWalk.iteOmega, *]; (try go_ints); refine hK.out _ _ ?_; clear hK K) | ((with_reducible refine wS_skip ?_ ?_); (focus (simp [lk, upd, envOf, *]; done))) | ((with_reducible refine wS_want ?_ ?_); (focus (simp [lk, upd, envOf, *]; done))) | ((with_reducible refine wS_split (fun hc => ?_) (fun hc => ?_)) <;> simp [lk, upd, envOf, *] at hc <;> try (exfalso; omega)) | with_reducible refine wS_nil ?_)
  repeat' (first | with_reducible (first | refine wE_seq (fun K hK => ?_) | refine wE_block ?_ | refine wE_skip ?_ | refine wE_ret ?_ | refine wE_exit ?_) | simp only [thenE, blockE, ↓reduceIte, Nat.reduceEqDiff] | ((with_reducible refine hK.out _ _ ?_); clear hK K) | ((with_reducible refine wE_if ?_ (fun hc => ?_) (fun hc => ?_)); (focus (simp [lk, upd, envOf, *]; done)); all_goals (simp [lk, upd, envOf, *] at hc <;> try (exfalso; omega))) | (clear hK; clear K))
  ((with_reducible refine wE_region ?_ ?_); (kernel_rfl); simp only [ls, stripO])
  repeat' (first | ((with_reducible refine wS_step (fun K hK => ?_)); simp [go_sem, lk, upd, envOf, stepS_value, stepS_skip, stepS_enter, ↓IntWalk.iteOmega, *]; (try go_ints); refine hK.out _ _ ?_; clear hK K) | ((with_reducible refine wS_unit (fun K hK => ?_)); simp [go_sem, lk, upd, envOf, stepS_value, stepS_skip, stepS_enter, ↓IntWalk.iteOmega, *]; (try go_ints); refine hK.out _ _ ?_; clear hK K) | ((with_reducible refine wS_skip ?_ ?_); (focus (simp [lk, upd, envOf, *]; done))) | ((with_reducible refine wS_want ?_ ?_); (focus (simp [lk, upd, envOf, *]; done))) | ((with_reducible refine wS_split (fun hc => ?_) (fun hc => ?_)) <;> simp [lk, upd, envOf, *] at hc <;> try (exfalso; omega)) | with_reducible refine wS_nil ?_)
  repeat' (first | with_reducible (first | refine wE_seq (fun K hK => ?_) | refine wE_block ?_ | refine wE_skip ?_ | refine wE_ret ?_ | refine wE_exit ?_) | simp only [thenE, blockE, ↓reduceIte, Nat.reduceEqDiff] | ((with_reducible refine hK.out _ _ ?_); clear hK K) | ((with_reducible refine wE_if ?_ (fun hc => ?_) (fun hc => ?_)); (focus (simp [lk, upd, envOf, *]; done)); all_goals (simp [lk, upd, envOf, *] at hc <;> try (exfalso; omega))) | (clear hK; clear K))
  generalize (((w.alloc (.cells #[.int .i64 A.kind, .string A.who, .int .i64 A.change, .int .i64 A.priority, .int .i64 A.at_, .int .i64 A.count, vf, vp] 26)).alloc (.cells #[.int .i64 O.err, .int .i64 O.id, ve] 39)).alloc (.cells #[.string ⟨#[105, 110, 112, 117, 116]⟩] 9)).alloc (.cells #[.slice (some ⟨w.heap.size + 1 + 1, 0, none⟩) 1 1] 64) = w0 at *
  have HX := Lib.hid hX
  clear hX
  have HCX : Hid (∀ w', GrowZ w0.heap.size formZ (.cells (formC A.kind) 52 (0, 0)) w0.drew w' → BoxAt w' w.heap.size A vf vp) := fun w' h => HX.out.ctx.box.keep (Keeps.of_below (by have := h.below (Nat.le_refl _); exact (Grow.drew w0).trans this))
  have hF := formC_eq A.kind
  obtain ⟨hF1, hF2, hF3⟩ := hF
  have HF1 := Lib.hid hF1
  have HF2 := Lib.hid hF2
  have HF3 := Lib.hid hF3
  clear hF1 hF2 hF3
  refine wE_drawE (R := GrowZ w0.heap.size formZ (.cells (formC A.kind) 52 (0, 0))) [SPE.of 15 MapIn MapIn.st, SPE.val 16 (.pointer (some ⟨w.heap.size, 0, none⟩)), SPE.val 17 (.int .i64 A.kind), SPE.val 18 (.tuple #[.agg (formC A.kind), .bool (formOf A.kind).2]), SPE.val 14 (.tuple #[.agg (formC A.kind), .bool (formOf A.kind).2]), SPE.val 19 (.agg (formC A.kind)), SPE.val 20 (.bool (formOf A.kind).2), SPE.of 6 (OwnZ w0.heap.size formZ (.cells (formC A.kind) 52 (0, 0))) OwnZ.st, SPE.of 6 (FullZ w0.heap.size (.cells (formC A.kind) 52 (0, 0))) FullZ.st, SPE.val 7 (.bool (formOf A.kind).2)] [[15], [16], [17], [18], [14], [19], [20], [6], [6], [7]] [([], []), ([], [2]), ([1], []), ([0, 2], []), ([3], []), ([4], []), ([4], []), ([], []), ([7, 5], []), ([6, 8], [])] (by kernel_rfl) (by kernel_rfl) rfl GrowZ.refl (fun _ _ _ => GrowZ.trans) ?_ ?_
  · simp only [ls, stripO, oblE, Nat.zero_add, Nat.reduceAdd]
    refine ⟨?_, ?_, ?_, ?_, ?_, ?_, ?_, ?_, ?_, ?_, trivial⟩
    · refine oneE_plain (fun σ w' hR hf => ?_); simp only [factsE, getP_succ, getP_zero, SPE.val_p, SPE.of_p, SPE.any_p, and_true, true_and] at hf; obtain ⟨c0, c1, c2, c3, c4, c5, c6, c7⟩ := HCX.out w' hR; simp [go_sem, lk, upd, envOf, stepS_value, stepS_skip, stepS_enter, ↓IntWalk.iteOmega, putS, getP_succ, getP_zero, SPE.val_p, SPE.of_p, SPE.any_p, hf, *]; (try go_ints); refine (forms_any _).mono ?_; rintro e w'' ⟨rfl, hm⟩; exact ⟨_, rfl, ⟨_, rfl, hm.map⟩, GrowZ.grow hm.below⟩
    · refine oneE_plain (fun σ w' hR hf => ?_); simp only [factsE, getP_succ, getP_zero, SPE.val_p, SPE.of_p, SPE.any_p, and_true, true_and] at hf; obtain ⟨c0, c1, c2, c3, c4, c5, c6, c7⟩ := HCX.out w' hR; simp [go_sem, lk, upd, envOf, stepS_value, stepS_skip, stepS_enter, ↓IntWalk.iteOmega, putS, getP_succ, getP_zero, SPE.val_p, SPE.of_p, SPE.any_p, GrowZ.refl, hf, *]
    · refine oneE_plain (fun σ w' hR hf => ?_); simp only [factsE, getP_succ, getP_zero, SPE.val_p, SPE.of_p, SPE.any_p, and_true, true_and] at hf; obtain ⟨c0, c1, c2, c3, c4, c5, c6, c7⟩ := HCX.out w' hR; simp [go_sem, lk, upd, envOf, stepS_value, stepS_skip, stepS_enter, ↓IntWalk.iteOmega, putS, getP_succ, getP_zero, SPE.val_p, SPE.of_p, SPE.any_p, GrowZ.refl, hf, *]
    · refine oneE_plain (fun σ w' hR hf => ?_); simp only [factsE, getP_succ, getP_zero, SPE.val_p, SPE.of_p, SPE.any_p, and_true, true_and] at hf; obtain ⟨c0, c1, c2, c3, c4, c5, c6, c7⟩ := HCX.out w' hR; simp [go_sem, lk, upd, envOf, stepS_value, stepS_skip, stepS_enter, ↓IntWalk.iteOmega, putS, getP_succ, getP_zero, SPE.val_p, SPE.of_p, SPE.any_p, hf, *]; (try go_ints); obtain ⟨⟨b, hb, hm⟩, -⟩ := hf; rw [hb, look_in hm, HF1.out]; exact ⟨rfl, GrowZ.refl _⟩
    · refine oneE_plain (fun σ w' hR hf => ?_); simp only [factsE, getP_succ, getP_zero, SPE.val_p, SPE.of_p, SPE.any_p, and_true, true_and] at hf; obtain ⟨c0, c1, c2, c3, c4, c5, c6, c7⟩ := HCX.out w' hR; simp [go_sem, lk, upd, envOf, stepS_value, stepS_skip, stepS_enter, ↓IntWalk.iteOmega, putS, getP_succ, getP_zero, SPE.val_p, SPE.of_p, SPE.any_p, GrowZ.refl, hf, *]
    · refine oneE_plain (fun σ w' hR hf => ?_); simp only [factsE, getP_succ, getP_zero, SPE.val_p, SPE.of_p, SPE.any_p, and_true, true_and] at hf; obtain ⟨c0, c1, c2, c3, c4, c5, c6, c7⟩ := HCX.out w' hR; simp [go_sem, lk, upd, envOf, stepS_value, stepS_skip, stepS_enter, ↓IntWalk.iteOmega, putS, getP_succ, getP_zero, SPE.val_p, SPE.of_p, SPE.any_p, GrowZ.refl, hf, *]
    · refine oneE_plain (fun σ w' hR hf => ?_); simp only [factsE, getP_succ, getP_zero, SPE.val_p, SPE.of_p, SPE.any_p, and_true, true_and] at hf; obtain ⟨c0, c1, c2, c3, c4, c5, c6, c7⟩ := HCX.out w' hR; simp [go_sem, lk, upd, envOf, stepS_value, stepS_skip, stepS_enter, ↓IntWalk.iteOmega, putS, getP_succ, getP_zero, SPE.val_p, SPE.of_p, SPE.any_p, GrowZ.refl, hf, *]
    · refine oneE_plain (fun σ w' hR hf => ?_); simp only [factsE, getP_succ, getP_zero, SPE.val_p, SPE.of_p, SPE.any_p, and_true, true_and] at hf; obtain ⟨c0, c1, c2, c3, c4, c5, c6, c7⟩ := HCX.out w' hR; simp [go_sem, lk, upd, envOf, stepS_value, stepS_skip, stepS_enter, ↓IntWalk.iteOmega, putS, getP_succ, getP_zero, SPE.val_p, SPE.of_p, SPE.any_p, hf, *]; (try go_ints); exact ⟨OwnZ.new hR.size, GrowZ.grow (Grow.alloc _ _)⟩
    · refine oneE_plain (fun σ w' hR hf => ?_); simp only [factsE, getP_succ, getP_zero, SPE.val_p, SPE.of_p, SPE.any_p, and_true, true_and] at hf; obtain ⟨c0, c1, c2, c3, c4, c5, c6, c7⟩ := HCX.out w' hR; exact step_store_full hf.1 hf.2 (by rw [HF2.out]; exact size56) (by rw [HF2.out]; rfl) HF3.out (fun _ h1 h2 => ⟨h1, h2⟩)
    · refine oneE_plain (fun σ w' hR hf => ?_); simp only [factsE, getP_succ, getP_zero, SPE.val_p, SPE.of_p, SPE.any_p, and_true, true_and] at hf; obtain ⟨c0, c1, c2, c3, c4, c5, c6, c7⟩ := HCX.out w' hR; simp [go_sem, lk, upd, envOf, stepS_value, stepS_skip, stepS_enter, ↓IntWalk.iteOmega, putS, getP_succ, getP_zero, SPE.val_p, SPE.of_p, SPE.any_p, GrowZ.refl, hf, *]
  intro σ' w2 hg hE
  have e3 := hE.old 3 (by kernel_rfl)
  have e5 := hE.old 5 (by kernel_rfl)
  have e6 := hE.at_ 8 rfl
  have e7 := hE.at_ 9 rfl
  simp only [getP_succ, getP_zero, SPE.val_p, SPE.of_p] at e6 e7
  simp [upd] at e3 e5
  obtain ⟨p, e6, hp1, hp2⟩ := e6
  clear hE
  have hg2 : Grow w0 w2 := (Grow.drew w0).trans (hg.below (Nat.le_refl _))
  have HX2 := Lib.hid (HX.out.grow hw1 hg2)
  have HP := Lib.hid hp2
  clear hg hg2 hp2 HCX
  rename_i K1 hK1
  have rest : ∀ (σ : Env) (w3 : World) (v3 : Value), ShAt w A vf vp O ve [S (wordL A.kind)] w3 v3 → σ 3 = .pointer (some ⟨w.heap.size + 1, 0, none⟩) → σ 5 = .pointer (some ⟨w.heap.size + 1 + 1 + 1, 0, none⟩) → K1 σ w3 := by
    clear e3 e5 e6 e7 HX2 HP hK K HF1 HF2 HF3 HX hp1
    clear σ' w2 w0
    intro σ w3 v3 hX e3 e5
    refine hK1.out _ _ ?_
    clear hK1 K1
    have HX := Lib.hid hX
    obtain ⟨o0, o1, o2⟩ := hX.ctx.obox
    clear hX
    have HERR := Lib.hid HO.out.err
    have HID := Lib.hid HO.out.id
    repeat' (first | with_reducible (first | refine wE_seq (fun K hK => ?_) | refine wE_block ?_ | refine wE_skip ?_ | refine wE_ret ?_ | refine wE_exit ?_) | simp only [thenE, blockE, ↓reduceIte, Nat.reduceEqDiff] | ((with_reducible refine hK.out _ _ ?_); clear hK K) | ((with_reducible refine wE_if ?_ (fun hc => ?_) (fun hc => ?_)); (focus (simp [lk, upd, envOf, *]; done)); all_goals (simp [lk, upd, envOf, *] at hc <;> try (exfalso; omega))) | (clear hK; clear K))
    ((with_reducible refine wE_region ?_ ?_); (kernel_rfl); simp only [ls, stripO])
    repeat' (first | ((with_reducible refine wS_step (fun K hK => ?_)); simp [go_sem, lk, upd, envOf, stepS_value, stepS_skip, stepS_enter, ↓IntWalk.iteOmega, *]; (try go_ints); refine hK.out _ _ ?_; clear hK K) | ((with_reducible refine wS_unit (fun K hK => ?_)); simp [go_sem, lk, upd, envOf, stepS_value, stepS_skip, stepS_enter, ↓IntWalk.iteOmega, *]; (try go_ints); refine hK.out _ _ ?_; clear hK K) | ((with_reducible refine wS_skip ?_ ?_); (focus (simp [lk, upd, envOf, *]; done))) | ((with_reducible refine wS_want ?_ ?_); (focus (simp [lk, upd, envOf, *]; done))) | ((with_reducible refine wS_split (fun hc => ?_) (fun hc => ?_)) <;> simp [lk, upd, envOf, *] at hc <;> try (exfalso; omega)) | with_reducible refine wS_nil ?_)
    repeat' (first | with_reducible (first | refine wE_seq (fun K hK => ?_) | refine wE_block ?_ | refine wE_skip ?_ | refine wE_ret ?_ | refine wE_exit ?_) | simp only [thenE, blockE, ↓reduceIte, Nat.reduceEqDiff] | ((with_reducible refine hK.out _ _ ?_); clear hK K) | ((with_reducible refine wE_if ?_ (fun hc => ?_) (fun hc => ?_)); (focus (simp [lk, upd, envOf, *]; done)); all_goals (simp [lk, upd, envOf, *] at hc <;> try (exfalso; omega))) | (clear hK; clear K))
    rename_i K1 hK1
    have rest2 : ∀ (σ : Env) (w4 : World) (v4 : Value), ShAt w A vf vp O ve (S (wordL A.kind) :: (errWords O.err).map S) w4 v4 → σ 3 = .pointer (some ⟨w.heap.size + 1, 0, none⟩) → σ 5 = .pointer (some ⟨w.heap.size + 1 + 1 + 1, 0, none⟩) → σ 8 = .func (.func 21) #[] #[.pointer (some ⟨w.heap.size + 1 + 1 + 1, 0, none⟩)] → K1 σ w4 := by
      clear e3 e5 HX o0 o1 o2 hK K
      clear σ w3
      intro σ w4 v4 hX e3 e5 e8
      refine hK1.out _ _ ?_
      clear hK1 K1
      have HX := Lib.hid hX
      obtain ⟨o0, o1, o2⟩ := hX.ctx.obox
      clear hX
      repeat' (first | with_reducible (first | refine wE_seq (fun K hK => ?_) | refine wE_block ?_ | refine wE_skip ?_ | refine wE_ret ?_ | refine wE_exit ?_) | simp only [thenE, blockE, ↓reduceIte, Nat.reduceEqDiff] | ((with_reducible refine hK.out _ _ ?_); clear hK K) | ((with_reducible refine wE_if ?_ (fun hc => ?_) (fun hc => ?_)); (focus (simp [lk, upd, envOf, *]; done)); all_goals (simp [lk, upd, envOf, *] at hc <;> try (exfalso; omega))) | (clear hK; clear K))
      rename_i K1 hK1
      have rest3 : ∀ (σ : Env) (w5 : World) (v5 : Value), ShAt w A vf vp O ve (wds A O 0) w5 v5 → σ 3 = .pointer (some ⟨w.heap.size + 1, 0, none⟩) → σ 5 = .pointer (some ⟨w.heap.size + 1 + 1 + 1, 0, none⟩) → σ 8 = .func (.func 21) #[] #[.pointer (some ⟨w.heap.size + 1 + 1 + 1, 0, none⟩)] → K1 σ w5 := by
        clear e3 e5 e8 HX o0 o1 o2 hK K
        clear σ w4
        intro σ w4 v4 hX e3 e5 e8
        refine hK1.out _ _ ?_
        clear hK1 K1
        have HX := Lib.hid hX
        obtain ⟨o0, o1, o2⟩ := hX.ctx.obox
        clear hX
        obtain ⟨ae, ce, rfl, -, hev⟩ := HO.out.events
        have HEV := Lib.hid hev
        clear hev
        repeat' (first | with_reducible (first | refine wE_seq (fun K hK => ?_) | refine wE_block ?_ | refine wE_skip ?_ | refine wE_ret ?_ | refine wE_exit ?_) | ((with_reducible refine wE_region ?_ ?_); (kernel_rfl); simp only [ls, stripO]) | ((with_reducible refine wS_step (fun K hK => ?_)); simp [go_sem, lk, upd, envOf, stepS_value, stepS_skip, stepS_enter, ↓IntWalk.iteOmega, *]; (try go_ints); refine hK.out _ _ ?_; clear hK K) | ((with_reducible refine wS_unit (fun K hK => ?_)); simp [go_sem, lk, upd, envOf, stepS_value, stepS_skip, stepS_enter, ↓IntWalk.iteOmega, *]; (try go_ints); refine hK.out _ _ ?_; clear hK K) | ((with_reducible refine wS_skip ?_ ?_); (focus (simp [lk, upd, envOf, *]; done))) | ((with_reducible refine wS_want ?_ ?_); (focus (simp [lk, upd, envOf, *]; done))) | ((with_reducible refine wS_split (fun hc => ?_) (fun hc => ?_)) <;> simp [lk, upd, envOf, *] at hc <;> try (exfalso; omega)) | with_reducible refine wS_nil ?_ | simp only [thenE, blockE, ↓reduceIte, Nat.reduceEqDiff] | ((with_reducible refine hK.out _ _ ?_); clear hK K) | ((with_reducible refine wE_if ?_ (fun hc => ?_) (fun hc => ?_)); (focus (simp [lk, upd, envOf, *]; done)); all_goals (simp [lk, upd, envOf, *] at hc <;> try (exfalso; omega))) | (clear hK; clear K))
        refine wE_loop (fun (k : Nat) σ w' => k ≤ O.events.length ∧ σ 5 = .pointer (some ⟨w.heap.size + 1 + 1 + 1, 0, none⟩) ∧ σ 8 = .func (.func 21) #[] #[.pointer (some ⟨w.heap.size + 1 + 1 + 1, 0, none⟩)] ∧ σ 51 = .slice ae O.events.length ce ∧ σ 52 = .int .i64 O.events.length ∧ σ 53 = .int .i64 k ∧ ∃ v', ShAt w A vf vp O (.slice ae O.events.length ce) (wds A O k) w' v') (fun k => O.events.length - k) 0 ?_ ?_
        · exact ⟨by omega, by simp [upd, *], by simp [upd, *], by simp [upd, *], by simp [upd, *], by simp [upd, *], v4, HX.out⟩
        clear e3 e5 e8 HX o0 o1 o2
        clear σ w4
        rintro k σ w4 ⟨hk, e5, e8, e51, e52, e53, v4, hX⟩
        have HX := Lib.hid hX
        clear hX
        by_cases hlt : k < O.events.length
        · obtain ⟨x, hx⟩ : ∃ x, O.events[k]? = some x := ⟨_, List.getElem?_eq_getElem hlt⟩
          rcases HEV.out with h | ⟨b, o, rfl, hcell⟩
          · rw [h] at hlt; simp at hlt
          obtain ⟨q1, q2, i1, i2, vw, q3, hiw⟩ := (hcell k x hx).keep (Keeps.of_below HX.out.ctx.below)
          have HI1 := Lib.hid i1
          have HI2 := Lib.hid i2
          have HIW0 := Lib.hid (show IntsAt w vw x.with_ by
            obtain ⟨_, _, _, _, vw', q3', h'⟩ := hcell k x hx
            have e := Keeps.of_below HX.out.ctx.below _ _ q3'
            rw [q3] at e
            obtain rfl := Option.some.inj e
            exact h')
          obtain ⟨aw, cw, rfl, -, -, hcw⟩ := hiw
          have HWS := Lib.hid (wds_succ A O k x hx)
          have HMX := Lib.hid (HS.out.m x (List.mem_of_getElem? hx))
          have HLK := Lib.hid (HWL.out k)
          clear hcw hx hcell i1 i2
          repeat' (first | with_reducible (first | refine wE_seq (fun K hK => ?_) | refine wE_block ?_ | refine wE_skip ?_ | refine wE_ret ?_ | refine wE_exit ?_) | simp only [thenE, blockE, ↓reduceIte, Nat.reduceEqDiff] | ((with_reducible refine hK.out _ _ ?_); clear hK K) | ((with_reducible refine wE_if ?_ (fun hc => ?_) (fun hc => ?_)); (focus (simp [lk, upd, envOf, *]; done)); all_goals (simp [lk, upd, envOf, *] at hc <;> try (exfalso; omega))) | (clear hK; clear K))
          ((with_reducible refine wE_region ?_ ?_); (kernel_rfl); simp only [ls, stripO])
          repeat' (first | ((with_reducible refine wS_step (fun K hK => ?_)); simp [go_sem, lk, upd, envOf, stepS_value, stepS_skip, stepS_enter, ↓IntWalk.iteOmega, *]; (try go_ints); refine hK.out _ _ ?_; clear hK K) | ((with_reducible refine wS_unit (fun K hK => ?_)); simp [go_sem, lk, upd, envOf, stepS_value, stepS_skip, stepS_enter, ↓IntWalk.iteOmega, *]; (try go_ints); refine hK.out _ _ ?_; clear hK K) | ((with_reducible refine wS_skip ?_ ?_); (focus (simp [lk, upd, envOf, *]; done))) | ((with_reducible refine wS_want ?_ ?_); (focus (simp [lk, upd, envOf, *]; done))) | ((with_reducible refine wS_split (fun hc => ?_) (fun hc => ?_)) <;> simp [lk, upd, envOf, *] at hc <;> try (exfalso; omega)) | with_reducible refine wS_nil ?_)
          repeat' (first | with_reducible (first | refine wE_seq (fun K hK => ?_) | refine wE_block ?_ | refine wE_skip ?_ | refine wE_ret ?_ | refine wE_exit ?_) | simp only [thenE, blockE, ↓reduceIte, Nat.reduceEqDiff] | ((with_reducible refine hK.out _ _ ?_); clear hK K) | ((with_reducible refine wE_if ?_ (fun hc => ?_) (fun hc => ?_)); (focus (simp [lk, upd, envOf, *]; done)); all_goals (simp [lk, upd, envOf, *] at hc <;> try (exfalso; omega))) | (clear hK; clear K))
          ((with_reducible refine wE_region ?_ ?_); (kernel_rfl); simp only [ls, stripO])
          repeat' (first | ((with_reducible refine wS_step (fun K hK => ?_)); simp [go_sem, lk, upd, envOf, stepS_value, stepS_skip, stepS_enter, ↓IntWalk.iteOmega, *]; (try go_ints); refine hK.out _ _ ?_; clear hK K) | ((with_reducible refine wS_unit (fun K hK => ?_)); simp [go_sem, lk, upd, envOf, stepS_value, stepS_skip, stepS_enter, ↓IntWalk.iteOmega, *]; (try go_ints); refine hK.out _ _ ?_; clear hK K) | ((with_reducible refine wS_skip ?_ ?_); (focus (simp [lk, upd, envOf, *]; done))) | ((with_reducible refine wS_want ?_ ?_); (focus (simp [lk, upd, envOf, *]; done))) | ((with_reducible refine wS_split (fun hc => ?_) (fun hc => ?_)) <;> simp [lk, upd, envOf, *] at hc <;> try (exfalso; omega)) | with_reducible refine wS_nil ?_)
          repeat' (first | with_reducible (first | refine wE_seq (fun K hK => ?_) | refine wE_block ?_ | refine wE_skip ?_ | refine wE_ret ?_ | refine wE_exit ?_) | simp only [thenE, blockE, ↓reduceIte, Nat.reduceEqDiff] | ((with_reducible refine hK.out _ _ ?_); clear hK K) | ((with_reducible refine wE_if ?_ (fun hc => ?_) (fun hc => ?_)); (focus (simp [lk, upd, envOf, *]; done)); all_goals (simp [lk, upd, envOf, *] at hc <;> try (exfalso; omega))) | (clear hK; clear K))
          have hBn := boxE_new HX.out.wd #[.int .i64 x.kind, .int .i64 x.change, .slice aw x.with_.length cw] 71
          have hXn := HX.out.grow hw1 (Grow.alloc w4 (.cells #[.int .i64 x.kind, .int .i64 x.change, .slice aw x.with_.length cw] 71))
          generalize w4.alloc (.cells #[.int .i64 x.kind, .int .i64 x.change, .slice aw x.with_.length cw] 71) = wa at *
          generalize w4.heap.size = xb at *
          have HXa := Lib.hid hXn
          have HBa := Lib.hid hBn
          clear hBn hXn q1 q2 q3
          refine wE_chain [VP.val 57 (v4), VP.val 58 (.pointer (some ⟨xb, 0, none⟩)), VP.val 59 (.int .i64 x.kind), VP.val 60 (.string (S (evWordL x.kind))), VP.any, VP.any, VP.any] [WP.of (Grow wa), WP.of (Grow wa), WP.at 61 (NewS wa (S (evWordL x.kind))), WP.at 62 (AppS wa (w.heap.size + 1 + 1) (w.heap.size + 1 + 1 + 1) (wds A O k) (S (evWordL x.kind)) v4), WP.of (DoneS wa (w.heap.size + 1 + 1) (w.heap.size + 1 + 1 + 1) (wds A O k) (S (evWordL x.kind)))] [3, 4, 5, 6] [[57], [58], [59], [60], [], [], []] [([], [5], 0, 2), ([], [10], 0, 3), ([1], [], 0, 0), ([2], [], 0, 0), ([3], [], 1, 1), ([0, 4], [], 2, 2), ([5], [5], 3, 3)] (by kernel_rfl) (by kernel_rfl) rfl (Grow.drew wa) ?_ ?_
          · simp only [ls, stripO, oblC, Nat.zero_add, Nat.reduceAdd]
            refine ⟨?_, ?_, ?_, ?_, ?_, ?_, ?_, trivial⟩
            · refine ⟨?_, ?_, ?_, trivial⟩ <;> (intro σ w' hW hf; simp only [factsC, getV_succ, getV_zero, VP.val_p, VP.of_p, VP.any_p, and_true, true_and] at hf; simp only [getW_succ, getW_zero, WP.of_p, WP.at_p] at hW; skip; refine quietC_plain ?_; have one := HXa.out.wd.one; have hc := (HXa.out.wd.grow (by first | exact hW | exact NewS.grow hW)).c; simp [go_sem, lk, upd, envOf, stepS_value, stepS_skip, stepS_enter, ↓IntWalk.iteOmega, putS, getV_succ, getV_zero, VP.val_p, VP.of_p, VP.any_p, getW_succ, getW_zero, WP.of_p, WP.at_p, hf, *])
            · refine ⟨?_, ?_, ?_, ?_, trivial⟩ <;> (intro σ w' hW hf; simp only [factsC, getV_succ, getV_zero, VP.val_p, VP.of_p, VP.any_p, and_true, true_and] at hf; simp only [getW_succ, getW_zero, WP.of_p, WP.at_p] at hW; skip; refine quietC_plain ?_; simp [go_sem, lk, upd, envOf, stepS_value, stepS_skip, stepS_enter, ↓IntWalk.iteOmega, putS, getV_succ, getV_zero, VP.val_p, VP.of_p, VP.any_p, getW_succ, getW_zero, WP.of_p, WP.at_p, hf, *])
            · refine ⟨?_, trivial⟩ <;> (intro σ w' hW hf; simp only [factsC, getV_succ, getV_zero, VP.val_p, VP.of_p, VP.any_p, and_true, true_and] at hf; simp only [getW_succ, getW_zero, WP.of_p, WP.at_p] at hW; skip; refine quietC_plain ?_; have hc : w'.cell? ⟨xb, 0, none⟩ = some (.int .i64 x.kind) := Keeps.of_below hW _ _ (by rw [cell_of_row wa xb 0 _ _ _ HBa.out.heap]; rfl); simp [go_sem, lk, upd, envOf, stepS_value, stepS_skip, stepS_enter, ↓IntWalk.iteOmega, putS, getV_succ, getV_zero, VP.val_p, VP.of_p, VP.any_p, getW_succ, getW_zero, WP.of_p, WP.at_p, hf, *])
            · show ∀ σ w, _ → _ → quietC _ _ _ _ _ _; intro σ w' hW hf; simp only [factsC, getV_succ, getV_zero, VP.val_p, VP.of_p, VP.any_p, and_true, true_and] at hf; simp only [getW_succ, getW_zero, WP.of_p, WP.at_p] at hW; skip; refine quietC_plain ?_; simp [go_sem, lk, upd, envOf, stepS_value, stepS_skip, stepS_enter, ↓IntWalk.iteOmega, putS, getV_succ, getV_zero, VP.val_p, VP.of_p, VP.any_p, getW_succ, getW_zero, WP.of_p, WP.at_p, hf, *]; (try go_ints); refine (eventWord_any x.kind _ HI1.out (HXa.out.ctx.tab.grow hW)).mono ?_; rintro e w'' ⟨rfl, hg⟩; exact ⟨_, rfl, rfl, hW.trans hg⟩
            · show ∀ σ w, _ → _ → quietC _ _ _ _ _ _; intro σ w' hW hf; simp only [factsC, getV_succ, getV_zero, VP.val_p, VP.of_p, VP.any_p, and_true, true_and] at hf; simp only [getW_succ, getW_zero, WP.of_p, WP.at_p] at hW; skip; refine quietC_plain ?_; simp [go_sem, lk, upd, envOf, stepS_value, stepS_skip, stepS_enter, ↓IntWalk.iteOmega, putS, getV_succ, getV_zero, VP.val_p, VP.of_p, VP.any_p, getW_succ, getW_zero, WP.of_p, WP.at_p, hf, *]; (try go_ints); exact ⟨_, hW, rfl, rfl⟩
            · show ∀ σ w, _ → _ → quietC _ _ _ _ _ _; intro σ w' hW hf; simp only [factsC, getV_succ, getV_zero, VP.val_p, VP.of_p, VP.any_p, and_true, true_and] at hf; simp only [getW_succ, getW_zero, WP.of_p, WP.at_p] at hW; skip; refine quietC_plain ?_; obtain ⟨w1, hg, rfl, h6⟩ := hW; obtain ⟨v', w2, ha⟩ := app_wd (HXa.out.wd.grow hg) (S (evWordL x.kind)) (by have := HLK.out; omega) (Nat.le_trans (by have := HXa.out.ctx.size; omega) hg.size); exact step_append hf h6 ha.run ⟨trivial, w1, hg, ha⟩
            · show ∀ σ w, _ → _ → quietC _ _ _ _ _ _; intro σ w' hW hf; simp only [factsC, getV_succ, getV_zero, VP.val_p, VP.of_p, VP.any_p, and_true, true_and] at hf; simp only [getW_succ, getW_zero, WP.of_p, WP.at_p] at hW; skip; refine quietC_plain ?_; obtain ⟨w1, hg, ha⟩ := hW; obtain ⟨g, cap, h7⟩ := ha.form; have hc := ha.cell; have hz := ha.frozen; have HD := Lib.hid ha.wd; have HSS := Lib.hid ((WStep.grow HXa.out.wd.lt hg).trans ha.step); rw [h7] at HD HSS; clear ha hg; simp [go_sem, lk, upd, envOf, stepS_value, stepS_skip, stepS_enter, ↓IntWalk.iteOmega, putS, getV_succ, getV_zero, VP.val_p, VP.of_p, VP.any_p, getW_succ, getW_zero, WP.of_p, WP.at_p, hf, *]; exact ⟨_, HD.out, HSS.out⟩
          intro σ' w5 hW hE
          simp only [List.length_cons, List.length_nil, Nat.reduceAdd, getW_succ, getW_zero, WP.of_p] at hW
          obtain ⟨v5, hd5, hs5⟩ := hW
          have d5 := hE.old 5 (by kernel_rfl)
          have d8 := hE.old 8 (by kernel_rfl)
          have d10 := hE.old 10 (by kernel_rfl)
          have d51 := hE.old 51 (by kernel_rfl)
          have d52 := hE.old 52 (by kernel_rfl)
          have d53 := hE.old 53 (by kernel_rfl)
          simp [upd, *] at d5 d8 d10 d51 d52 d53
          clear hE
          have HX5 := Lib.hid (HXa.out.done hw1 hd5 hs5)
          have HB5 := Lib.hid (HBa.out.step hs5)
          have cx : w5.cell? ⟨xb, 1, none⟩ = some (.int .i64 x.change) := by rw [cell_of_row w5 xb 1 _ _ _ HB5.out.heap]; rfl
          clear hd5 hs5 HXa HBa HX e5 e8 e51 e52 e53
          repeat' (first | with_reducible (first | refine wE_seq (fun K hK => ?_) | refine wE_block ?_ | refine wE_skip ?_ | refine wE_ret ?_ | refine wE_exit ?_) | ((with_reducible refine wE_region ?_ ?_); (kernel_rfl); simp only [ls, stripO]) | ((with_reducible refine wS_step (fun K hK => ?_)); simp [go_sem, lk, upd, envOf, stepS_value, stepS_skip, stepS_enter, ↓IntWalk.iteOmega, *]; (try go_ints); refine hK.out _ _ ?_; clear hK K) | ((with_reducible refine wS_unit (fun K hK => ?_)); simp [go_sem, lk, upd, envOf, stepS_value, stepS_skip, stepS_enter, ↓IntWalk.iteOmega, *]; (try go_ints); refine hK.out _ _ ?_; clear hK K) | ((with_reducible refine wS_skip ?_ ?_); (focus (simp [lk, upd, envOf, *]; done))) | ((with_reducible refine wS_want ?_ ?_); (focus (simp [lk, upd, envOf, *]; done))) | ((with_reducible refine wS_split (fun hc => ?_) (fun hc => ?_)) <;> simp [lk, upd, envOf, *] at hc <;> try (exfalso; omega)) | with_reducible refine wS_nil ?_ | simp only [thenE, blockE, ↓reduceIte, Nat.reduceEqDiff] | ((with_reducible refine hK.out _ _ ?_); clear hK K) | ((with_reducible refine wE_if ?_ (fun hc => ?_) (fun hc => ?_)); (focus (simp [lk, upd, envOf, *]; done)); all_goals (simp [lk, upd, envOf, *] at hc <;> try (exfalso; omega))) | (clear hK; clear K))
          (with_reducible refine wS_step (fun K hK => ?_)); simp [go_sem, lk, upd, envOf, stepS_value, stepS_skip, stepS_enter, ↓IntWalk.iteOmega, *]; (try go_ints); refine (show1_w (w.heap.size + 1 + 1) (w.heap.size + 1 + 1 + 1) _ v5 x.change _ HX5.out.wd HX5.out.ctx.tab HI2.out (by have := HLK.out; simp; omega) (by have := HX5.out.ctx.size; omega)).mono ?_; rintro e w6 ⟨rfl, v6, hd6, hs6⟩; refine ⟨_, rfl, hK.out _ _ ?_⟩; clear hK K
          have HX6 := Lib.hid (HX5.out.done hw1 hd6 hs6)
          have HB6 := Lib.hid (HB5.out.step hs6)
          have cy : w6.cell? ⟨xb, 2, none⟩ = some (.slice aw x.with_.length cw) := by rw [cell_of_row w6 xb 2 _ _ _ HB6.out.heap]; rfl
          clear hd6 hs6 HX5 HB5 cx
          repeat' (first | ((with_reducible refine wS_step (fun K hK => ?_)); simp [go_sem, lk, upd, envOf, stepS_value, stepS_skip, stepS_enter, ↓IntWalk.iteOmega, *]; (try go_ints); refine hK.out _ _ ?_; clear hK K) | ((with_reducible refine wS_unit (fun K hK => ?_)); simp [go_sem, lk, upd, envOf, stepS_value, stepS_skip, stepS_enter, ↓IntWalk.iteOmega, *]; (try go_ints); refine hK.out _ _ ?_; clear hK K) | ((with_reducible refine wS_skip ?_ ?_); (focus (simp [lk, upd, envOf, *]; done))) | ((with_reducible refine wS_want ?_ ?_); (focus (simp [lk, upd, envOf, *]; done))) | ((with_reducible refine wS_split (fun hc => ?_) (fun hc => ?_)) <;> simp [lk, upd, envOf, *] at hc <;> try (exfalso; omega)) | with_reducible refine wS_nil ?_)
          repeat' (first | with_reducible (first | refine wE_seq (fun K hK => ?_) | refine wE_block ?_ | refine wE_skip ?_ | refine wE_ret ?_ | refine wE_exit ?_) | simp only [thenE, blockE, ↓reduceIte, Nat.reduceEqDiff] | ((with_reducible refine hK.out _ _ ?_); clear hK K) | ((with_reducible refine wE_if ?_ (fun hc => ?_) (fun hc => ?_)); (focus (simp [lk, upd, envOf, *]; done)); all_goals (simp [lk, upd, envOf, *] at hc <;> try (exfalso; omega))) | (clear hK; clear K))
          rename_i K1 hK1
          have hpre : (wpre x.with_).length ≤ 1 := wpre_len _
          have hmx : x.with_.length ≤ 20 := HMX.out
          have hne : O.events.length ≤ 20 := HS.out.n
          have rest : ∀ (σ : Env) (w7 : World) (v7 : Value), ShAt w A vf vp O (.slice (some ⟨b, o, none⟩) O.events.length ce) (wds A O k ++ [S (evWordL x.kind)] ++ [itoaS x.change] ++ wpre x.with_) w7 v7 → BoxE w7 (w.heap.size + 1 + 1 + 1) xb (.cells #[.int .i64 x.kind, .int .i64 x.change, .slice aw x.with_.length cw] 71 (0, 0)) → σ 5 = .pointer (some ⟨w.heap.size + 1 + 1 + 1, 0, none⟩) → σ 8 = .func (.func 21) #[] #[.pointer (some ⟨w.heap.size + 1 + 1 + 1, 0, none⟩)] → σ 10 = .pointer (some ⟨xb, 0, none⟩) → σ 51 = .slice (some ⟨b, o, none⟩) O.events.length ce → σ 52 = .int .i64 O.events.length → σ 53 = .int .i64 k → K1 σ w7 := by
            clear d5 d8 d10 d51 d52 d53 HX6 HB6 cy hK K
            clear w6 w5 wa v6 v5 σ' σ
            intro σ w7 v7 hX hB d5 d8 d10 d51 d52 d53
            refine hK1.out _ _ ?_
            clear hK1 K1
            have HX := Lib.hid hX
            have cy : w7.cell? ⟨xb, 2, none⟩ = some (.slice aw x.with_.length cw) := by rw [cell_of_row w7 xb 2 _ _ _ hB.heap]; rfl
            clear hX hB
            repeat' (first | with_reducible (first | refine wE_seq (fun K hK => ?_) | refine wE_block ?_ | refine wE_skip ?_ | refine wE_ret ?_ | refine wE_exit ?_) | ((with_reducible refine wE_region ?_ ?_); (kernel_rfl); simp only [ls, stripO]) | ((with_reducible refine wS_step (fun K hK => ?_)); simp [go_sem, lk, upd, envOf, stepS_value, stepS_skip, stepS_enter, ↓IntWalk.iteOmega, *]; (try go_ints); refine hK.out _ _ ?_; clear hK K) | ((with_reducible refine wS_unit (fun K hK => ?_)); simp [go_sem, lk, upd, envOf, stepS_value, stepS_skip, stepS_enter, ↓IntWalk.iteOmega, *]; (try go_ints); refine hK.out _ _ ?_; clear hK K) | ((with_reducible refine wS_skip ?_ ?_); (focus (simp [lk, upd, envOf, *]; done))) | ((with_reducible refine wS_want ?_ ?_); (focus (simp [lk, upd, envOf, *]; done))) | ((with_reducible refine wS_split (fun hc => ?_) (fun hc => ?_)) <;> simp [lk, upd, envOf, *] at hc <;> try (exfalso; omega)) | with_reducible refine wS_nil ?_ | simp only [thenE, blockE, ↓reduceIte, Nat.reduceEqDiff] | ((with_reducible refine hK.out _ _ ?_); clear hK K) | ((with_reducible refine wE_if ?_ (fun hc => ?_) (fun hc => ?_)); (focus (simp [lk, upd, envOf, *]; done)); all_goals (simp [lk, upd, envOf, *] at hc <;> try (exfalso; omega))) | (clear hK; clear K))
            refine wE_loop (fun (j : Nat) σ w' => j ≤ x.with_.length ∧ σ 5 = .pointer (some ⟨w.heap.size + 1 + 1 + 1, 0, none⟩) ∧ σ 8 = .func (.func 21) #[] #[.pointer (some ⟨w.heap.size + 1 + 1 + 1, 0, none⟩)] ∧ σ 51 = .slice (some ⟨b, o, none⟩) O.events.length ce ∧ σ 52 = .int .i64 O.events.length ∧ σ 53 = .int .i64 k ∧ σ 75 = .slice aw x.with_.length cw ∧ σ 76 = .int .i64 x.with_.length ∧ σ 77 = .int .i64 j ∧ ∃ v', ShAt w A vf vp O (.slice (some ⟨b, o, none⟩) O.events.length ce) (wds A O k ++ [S (evWordL x.kind)] ++ [itoaS x.change] ++ wpre x.with_ ++ (x.with_.take j).map itoaS) w' v') (fun j => x.with_.length - j) 0 ?_ ?_
            · exact ⟨by omega, by simp [upd, *], by simp [upd, *], by simp [upd, *], by simp [upd, *], by simp [upd, *], by simp [upd, *], by simp [upd, *], by simp [upd, *], v7, by simpa using HX.out⟩
            clear d5 d8 d10 d51 d52 d53 HX cy
            clear w7 v7 σ
            rintro j σ w7 ⟨hj, d5, d8, d51, d52, d53, d75, d76, d77, v7, hX⟩
            have HX := Lib.hid hX
            clear hX
            by_cases hjl : j < x.with_.length
            · obtain ⟨y, hy⟩ : ∃ y, x.with_[j]? = some y := ⟨_, List.getElem?_eq_getElem hjl⟩
              obtain ⟨aw', cw', hsl, -, hiy, hcy⟩ := HIW0.out
              simp only [Value.slice.injEq] at hsl
              obtain ⟨rfl, -, rfl⟩ := hsl
              have HIY := Lib.hid (hiy y (List.mem_of_getElem? hy))
              rcases hcy with h | ⟨bw, ow, rfl, hcell⟩
              · rw [h] at hjl; simp at hjl
              have cyy := Keeps.of_below HX.out.ctx.below _ _ (hcell j y hy)
              have HMS := Lib.hid (map_take_succ itoaS x.with_ j y hy)
              clear hcell hy hiy
              repeat' (first | with_reducible (first | refine wE_seq (fun K hK => ?_) | refine wE_block ?_ | refine wE_skip ?_ | refine wE_ret ?_ | refine wE_exit ?_) | ((with_reducible refine wE_region ?_ ?_); (kernel_rfl); simp only [ls, stripO]) | ((with_reducible refine wS_step (fun K hK => ?_)); simp [go_sem, lk, upd, envOf, stepS_value, stepS_skip, stepS_enter, ↓IntWalk.iteOmega, *]; (try go_ints); refine hK.out _ _ ?_; clear hK K) | ((with_reducible refine wS_unit (fun K hK => ?_)); simp [go_sem, lk, upd, envOf, stepS_value, stepS_skip, stepS_enter, ↓IntWalk.iteOmega, *]; (try go_ints); refine hK.out _ _ ?_; clear hK K) | ((with_reducible refine wS_skip ?_ ?_); (focus (simp [lk, upd, envOf, *]; done))) | ((with_reducible refine wS_want ?_ ?_); (focus (simp [lk, upd, envOf, *]; done))) | ((with_reducible refine wS_split (fun hc => ?_) (fun hc => ?_)) <;> simp [lk, upd, envOf, *] at hc <;> try (exfalso; omega)) | with_reducible refine wS_nil ?_ | simp only [thenE, blockE, ↓reduceIte, Nat.reduceEqDiff] | ((with_reducible refine hK.out _ _ ?_); clear hK K) | ((with_reducible refine wE_if ?_ (fun hc => ?_) (fun hc => ?_)); (focus (simp [lk, upd, envOf, *]; done)); all_goals (simp [lk, upd, envOf, *] at hc <;> try (exfalso; omega))) | (clear hK; clear K))
              (with_reducible refine wS_step (fun K hK => ?_)); simp [go_sem, lk, upd, envOf, stepS_value, stepS_skip, stepS_enter, ↓IntWalk.iteOmega, *]; (try go_ints); refine (show1_w (w.heap.size + 1 + 1) (w.heap.size + 1 + 1 + 1) _ v7 y _ HX.out.wd HX.out.ctx.tab HIY.out (by have := HLK.out; have := HMX.out; simp; omega) (by have := HX.out.ctx.size; omega)).mono ?_; rintro e w8 ⟨rfl, v8, hd8, hs8⟩; refine ⟨_, rfl, hK.out _ _ ?_⟩; clear hK K
              have HX8 := Lib.hid (HX.out.done hw1 hd8 hs8)
              clear hd8 hs8
              repeat' (first | with_reducible (first | refine wE_seq (fun K hK => ?_) | refine wE_block ?_ | refine wE_skip ?_ | refine wE_ret ?_ | refine wE_exit ?_) | ((with_reducible refine wE_region ?_ ?_); (kernel_rfl); simp only [ls, stripO]) | ((with_reducible refine wS_step (fun K hK => ?_)); simp [go_sem, lk, upd, envOf, stepS_value, stepS_skip, stepS_enter, ↓IntWalk.iteOmega, *]; (try go_ints); refine hK.out _ _ ?_; clear hK K) | ((with_reducible refine wS_unit (fun K hK => ?_)); simp [go_sem, lk, upd, envOf, stepS_value, stepS_skip, stepS_enter, ↓IntWalk.iteOmega, *]; (try go_ints); refine hK.out _ _ ?_; clear hK K) | ((with_reducible refine wS_skip ?_ ?_); (focus (simp [lk, upd, envOf, *]; done))) | ((with_reducible refine wS_want ?_ ?_); (focus (simp [lk, upd, envOf, *]; done))) | ((with_reducible refine wS_split (fun hc => ?_) (fun hc => ?_)) <;> simp [lk, upd, envOf, *] at hc <;> try (exfalso; omega)) | with_reducible refine wS_nil ?_ | simp only [thenE, blockE, ↓reduceIte, Nat.reduceEqDiff] | ((with_reducible refine hK.out _ _ ?_); clear hK K) | ((with_reducible refine wE_if ?_ (fun hc => ?_) (fun hc => ?_)); (focus (simp [lk, upd, envOf, *]; done)); all_goals (simp [lk, upd, envOf, *] at hc <;> try (exfalso; omega))) | (clear hK; clear K))
              exact ⟨j + 1, ⟨by omega, by simp [upd, *], by simp [upd, *], by simp [upd, *], by simp [upd, *], by simp [upd, *], by simp [upd, *], by simp [upd, *], by simp [upd, *], v8, by rw [HMS.out, ← List.append_assoc]; exact HX8.out⟩, by omega⟩
            · have HEQ := Lib.hid (show wds A O (k + 1) = wds A O k ++ [S (evWordL x.kind)] ++ [itoaS x.change] ++ wpre x.with_ ++ (x.with_.take j).map itoaS by
                rw [HWS.out, List.take_of_length_le (by omega), wpre_words]; simp [List.append_assoc])
              repeat' (first | with_reducible (first | refine wE_seq (fun K hK => ?_) | refine wE_block ?_ | refine wE_skip ?_ | refine wE_ret ?_ | refine wE_exit ?_) | ((with_reducible refine wE_region ?_ ?_); (kernel_rfl); simp only [ls, stripO]) | ((with_reducible refine wS_step (fun K hK => ?_)); simp [go_sem, lk, upd, envOf, stepS_value, stepS_skip, stepS_enter, ↓IntWalk.iteOmega, *]; (try go_ints); refine hK.out _ _ ?_; clear hK K) | ((with_reducible refine wS_unit (fun K hK => ?_)); simp [go_sem, lk, upd, envOf, stepS_value, stepS_skip, stepS_enter, ↓IntWalk.iteOmega, *]; (try go_ints); refine hK.out _ _ ?_; clear hK K) | ((with_reducible refine wS_skip ?_ ?_); (focus (simp [lk, upd, envOf, *]; done))) | ((with_reducible refine wS_want ?_ ?_); (focus (simp [lk, upd, envOf, *]; done))) | ((with_reducible refine wS_split (fun hc => ?_) (fun hc => ?_)) <;> simp [lk, upd, envOf, *] at hc <;> try (exfalso; omega)) | with_reducible refine wS_nil ?_ | simp only [thenE, blockE, ↓reduceIte, Nat.reduceEqDiff] | ((with_reducible refine hK.out _ _ ?_); clear hK K) | ((with_reducible refine wE_if ?_ (fun hc => ?_) (fun hc => ?_)); (focus (simp [lk, upd, envOf, *]; done)); all_goals (simp [lk, upd, envOf, *] at hc <;> try (exfalso; omega))) | (clear hK; clear K))
              exact ⟨k + 1, ⟨by omega, by simp [upd, *], by simp [upd, *], by simp [upd, *], by simp [upd, *], by simp [upd, *], v7, by rw [HEQ.out]; exact HX.out⟩, by omega⟩
          have HREST := Lib.hid rest
          clear rest
          by_cases h0 : x.with_ = []
          · have t0 : decide (0 < x.with_.length) = false := by rw [h0]; rfl
            have HWP := Lib.hid (show wpre x.with_ = [] by rw [wpre, if_pos h0])
            clear h0
            repeat' (first | with_reducible (first | refine wE_seq (fun K hK => ?_) | refine wE_block ?_ | refine wE_skip ?_ | refine wE_ret ?_ | refine wE_exit ?_) | ((with_reducible refine wE_region ?_ ?_); (kernel_rfl); simp only [ls, stripO]) | ((with_reducible refine wS_step (fun K hK => ?_)); simp [go_sem, lk, upd, envOf, stepS_value, stepS_skip, stepS_enter, ↓IntWalk.iteOmega, *]; (try go_ints); refine hK.out _ _ ?_; clear hK K) | ((with_reducible refine wS_unit (fun K hK => ?_)); simp [go_sem, lk, upd, envOf, stepS_value, stepS_skip, stepS_enter, ↓IntWalk.iteOmega, *]; (try go_ints); refine hK.out _ _ ?_; clear hK K) | ((with_reducible refine wS_skip ?_ ?_); (focus (simp [lk, upd, envOf, *]; done))) | ((with_reducible refine wS_want ?_ ?_); (focus (simp [lk, upd, envOf, *]; done))) | ((with_reducible refine wS_split (fun hc => ?_) (fun hc => ?_)) <;> simp [lk, upd, envOf, *] at hc <;> try (exfalso; omega)) | with_reducible refine wS_nil ?_ | simp only [thenE, blockE, ↓reduceIte, Nat.reduceEqDiff] | ((with_reducible refine hK.out _ _ ?_); clear hK K) | ((with_reducible refine wE_if ?_ (fun hc => ?_) (fun hc => ?_)); (focus (simp [lk, upd, envOf, *]; done)); all_goals (simp [lk, upd, envOf, *] at hc <;> try (exfalso; omega))) | (clear hK; clear K))
            exact HREST.out _ _ v6 (by rw [HWP.out, List.append_nil]; exact HX6.out) HB6.out (by simp [upd, *]) (by simp [upd, *]) (by simp [upd, *]) (by simp [upd, *]) (by simp [upd, *]) (by simp [upd, *])
          · have t0 : decide (0 < x.with_.length) = true := by rw [decide_eq_true_eq]; exact List.length_pos_iff.2 h0
            have HWP := Lib.hid (show wpre x.with_ = [⟨#[119, 105, 116, 104]⟩] by rw [wpre, if_neg h0]; rfl)
            clear h0
            repeat' (first | with_reducible (first | refine wE_seq (fun K hK => ?_) | refine wE_block ?_ | refine wE_skip ?_ | refine wE_ret ?_ | refine wE_exit ?_) | simp only [thenE, blockE, ↓reduceIte, Nat.reduceEqDiff] | ((with_reducible refine hK.out _ _ ?_); clear hK K) | ((with_reducible refine wE_if ?_ (fun hc => ?_) (fun hc => ?_)); (focus (simp [lk, upd, envOf, *]; done)); all_goals (simp [lk, upd, envOf, *] at hc <;> try (exfalso; omega))) | (clear hK; clear K))
            ((with_reducible refine wE_region ?_ ?_); (kernel_rfl); simp only [ls, stripO])
            repeat' (first | ((with_reducible refine wS_step (fun K hK => ?_)); simp [go_sem, lk, upd, envOf, stepS_value, stepS_skip, stepS_enter, ↓IntWalk.iteOmega, *]; (try go_ints); refine hK.out _ _ ?_; clear hK K) | ((with_reducible refine wS_unit (fun K hK => ?_)); simp [go_sem, lk, upd, envOf, stepS_value, stepS_skip, stepS_enter, ↓IntWalk.iteOmega, *]; (try go_ints); refine hK.out _ _ ?_; clear hK K) | ((with_reducible refine wS_skip ?_ ?_); (focus (simp [lk, upd, envOf, *]; done))) | ((with_reducible refine wS_want ?_ ?_); (focus (simp [lk, upd, envOf, *]; done))) | ((with_reducible refine wS_split (fun hc => ?_) (fun hc => ?_)) <;> simp [lk, upd, envOf, *] at hc <;> try (exfalso; omega)) | with_reducible refine wS_nil ?_)
            repeat' (first | with_reducible (first | refine wE_seq (fun K hK => ?_) | refine wE_block ?_ | refine wE_skip ?_ | refine wE_ret ?_ | refine wE_exit ?_) | simp only [thenE, blockE, ↓reduceIte, Nat.reduceEqDiff] | ((with_reducible refine hK.out _ _ ?_); clear hK K) | ((with_reducible refine wE_if ?_ (fun hc => ?_) (fun hc => ?_)); (focus (simp [lk, upd, envOf, *]; done)); all_goals (simp [lk, upd, envOf, *] at hc <;> try (exfalso; omega))) | (clear hK; clear K))
            ((with_reducible refine wE_region ?_ ?_); (kernel_rfl); simp only [ls, stripO])
            refine wS_word ⟨#[119, 105, 116, 104]⟩ HX6.out.wd (by have := HLK.out; simp; omega) (by have := HX6.out.ctx.size; omega) (by simp [upd, *]) (by simp [evalS_const]) (by decide) (by decide) (by decide) (by decide) ?_
            intro v7 w7 hd7 hs7
            have HX7 := Lib.hid (HX6.out.done hw1 hd7 hs7)
            have HB7 := Lib.hid (HB6.out.step hs7)
            clear hd7 hs7
            repeat' (first | with_reducible (first | refine wE_seq (fun K hK => ?_) | refine wE_block ?_ | refine wE_skip ?_ | refine wE_ret ?_ | refine wE_exit ?_) | ((with_reducible refine wE_region ?_ ?_); (kernel_rfl); simp only [ls, stripO]) | ((with_reducible refine wS_step (fun K hK => ?_)); simp [go_sem, lk, upd, envOf, stepS_value, stepS_skip, stepS_enter, ↓IntWalk.iteOmega, *]; (try go_ints); refine hK.out _ _ ?_; clear hK K) | ((with_reducible refine wS_unit (fun K hK => ?_)); simp [go_sem, lk, upd, envOf, stepS_value, stepS_skip, stepS_enter, ↓IntWalk.iteOmega, *]; (try go_ints); refine hK.out _ _ ?_; clear hK K) | ((with_reducible refine wS_skip ?_ ?_); (focus (simp [lk, upd, envOf, *]; done))) | ((with_reducible refine wS_want ?_ ?_); (focus (simp [lk, upd, envOf, *]; done))) | ((with_reducible refine wS_split (fun hc => ?_) (fun hc => ?_)) <;> simp [lk, upd, envOf, *] at hc <;> try (exfalso; omega)) | with_reducible refine wS_nil ?_ | simp only [thenE, blockE, ↓reduceIte, Nat.reduceEqDiff] | ((with_reducible refine hK.out _ _ ?_); clear hK K) | ((with_reducible refine wE_if ?_ (fun hc => ?_) (fun hc => ?_)); (focus (simp [lk, upd, envOf, *]; done)); all_goals (simp [lk, upd, envOf, *] at hc <;> try (exfalso; omega))) | (clear hK; clear K))
            exact HREST.out _ _ v7 (by rw [HWP.out]; exact HX7.out) HB7.out (by simp [upd, *]) (by simp [upd, *]) (by simp [upd, *]) (by simp [upd, *]) (by simp [upd, *]) (by simp [upd, *])
        · have HEQ := Lib.hid (wds_end A O k (by omega))
          have HJL := Lib.hid (showL_len (A := A) HO.out HS.out)
          have HJ : Hid (∀ (g cap : Nat), v4 = .slice (some ⟨g, 0, none⟩) (wds A O k).length cap → g < w4.heap.size → (wds A O k).length ≤ cap → Calls Tryz.prog 24 #[.slice (some ⟨g, 0, none⟩) (wds A O k).length cap, .string ⟨#[32]⟩] w4 fun e w' => e = .returned (.string (S (showL (wordL A.kind) O))) ∧ Grow w4 w') := by
            intro g cap hv hg hcap
            have hown := HX.out.wd.own
            rw [hv] at hown
            refine (Tryz.strings_Join g 0 cap (wds A O k) ⟨#[32]⟩ w4 (fun j x hj => by
              have := hown.cells (g := g) rfl j (.string x) (by simp [hj])
              rw [Addr.add_lit] at this; exact this) hg (by have := HWL.out k; omega) hcap (by
                have h1 := join_show A O
                have h2 := HJL.out
                rw [HEQ.out]
                have h3 : (joinS (S (wordL A.kind) :: (outWords O).map S)).length ≤ 140737488355328 := by rw [h1]; omega
                exact h3)).mono ?_
            rintro e w' ⟨rfl, hb⟩
            refine ⟨?_, hb⟩
            have h1 := join_show A O
            rw [← h1, HEQ.out]
            rfl
          have hform : ∃ g cap, v4 = .slice (some ⟨g, 0, none⟩) (wds A O k).length cap ∧ g < w4.heap.size ∧ (wds A O k).length ≤ cap := by
            rcases HX.out.wd.own.2 with ⟨_, hn⟩ | ⟨g, cap, cur, hv, _, hg, hnc, _⟩
            · rw [HEQ.out] at hn; simp at hn
            · exact ⟨g, cap, hv, (Array.getElem?_eq_some_iff.1 hg).1, hnc⟩
          obtain ⟨g, cap, hv, hg, hcap⟩ := hform
          have HJ2 := Lib.hid (HJ.out g cap hv hg hcap)
          have cwd : w4.cell? ⟨w.heap.size + 1 + 1 + 1, 0, none⟩ = some (.slice (some ⟨g, 0, none⟩) (wds A O k).length cap) := by rw [← hv]; exact HX.out.wd.c
          have HBW := Lib.hid HX.out.ctx.below
          clear HJ hv HX HEV
          repeat' (first | with_reducible (first | refine wE_seq (fun K hK => ?_) | refine wE_block ?_ | refine wE_skip ?_ | refine wE_ret ?_ | refine wE_exit ?_) | ((with_reducible refine wE_region ?_ ?_); (kernel_rfl); simp only [ls, stripO]) | ((with_reducible refine wS_step (fun K hK => ?_)); simp [go_sem, lk, upd, envOf, stepS_value, stepS_skip, stepS_enter, ↓IntWalk.iteOmega, *]; (try go_ints); refine hK.out _ _ ?_; clear hK K) | ((with_reducible refine wS_unit (fun K hK => ?_)); simp [go_sem, lk, upd, envOf, stepS_value, stepS_skip, stepS_enter, ↓IntWalk.iteOmega, *]; (try go_ints); refine hK.out _ _ ?_; clear hK K) | ((with_reducible refine wS_skip ?_ ?_); (focus (simp [lk, upd, envOf, *]; done))) | ((with_reducible refine wS_want ?_ ?_); (focus (simp [lk, upd, envOf, *]; done))) | ((with_reducible refine wS_split (fun hc => ?_) (fun hc => ?_)) <;> simp [lk, upd, envOf, *] at hc <;> try (exfalso; omega)) | with_reducible refine wS_nil ?_ | simp only [thenE, blockE, ↓reduceIte, Nat.reduceEqDiff] | ((with_reducible refine hK.out _ _ ?_); clear hK K) | ((with_reducible refine wE_if ?_ (fun hc => ?_) (fun hc => ?_)); (focus (simp [lk, upd, envOf, *]; done)); all_goals (simp [lk, upd, envOf, *] at hc <;> try (exfalso; omega))) | (clear hK; clear K))
          (with_reducible refine wS_step (fun K hK => ?_)); simp [go_sem, lk, upd, envOf, stepS_value, stepS_skip, stepS_enter, ↓IntWalk.iteOmega, *]; (try go_ints); refine (HJ2.out).mono ?_; rintro e w5 ⟨rfl, hg5⟩; refine ⟨_, rfl, hK.out _ _ ?_⟩; clear hK K
          have HG := Lib.hid (Below.trans HBW.out (Below.mono hg5 HBW.out.size))
          clear hg5
          repeat' (first | with_reducible (first | refine wE_seq (fun K hK => ?_) | refine wE_block ?_ | refine wE_skip ?_ | refine wE_ret ?_ | refine wE_exit ?_) | ((with_reducible refine wE_region ?_ ?_); (kernel_rfl); simp only [ls, stripO]) | ((with_reducible refine wS_step (fun K hK => ?_)); simp [go_sem, lk, upd, envOf, stepS_value, stepS_skip, stepS_enter, ↓IntWalk.iteOmega, *]; (try go_ints); refine hK.out _ _ ?_; clear hK K) | ((with_reducible refine wS_unit (fun K hK => ?_)); simp [go_sem, lk, upd, envOf, stepS_value, stepS_skip, stepS_enter, ↓IntWalk.iteOmega, *]; (try go_ints); refine hK.out _ _ ?_; clear hK K) | ((with_reducible refine wS_skip ?_ ?_); (focus (simp [lk, upd, envOf, *]; done))) | ((with_reducible refine wS_want ?_ ?_); (focus (simp [lk, upd, envOf, *]; done))) | ((with_reducible refine wS_split (fun hc => ?_) (fun hc => ?_)) <;> simp [lk, upd, envOf, *] at hc <;> try (exfalso; omega)) | with_reducible refine wS_nil ?_ | simp only [thenE, blockE, ↓reduceIte, Nat.reduceEqDiff] | ((with_reducible refine hK.out _ _ ?_); clear hK K) | ((with_reducible refine wE_if ?_ (fun hc => ?_) (fun hc => ?_)); (focus (simp [lk, upd, envOf, *]; done)); all_goals (simp [lk, upd, envOf, *] at hc <;> try (exfalso; omega))) | (clear hK; clear K))
          exact endE_tmp rfl ⟨by simp [upd], HG.out⟩
      have HREST := Lib.hid rest3
      clear rest3
      by_cases h0 : O.id = 0
      · have t0 : (O.id != 0) = false := by rw [h0]; rfl
        have HWD := Lib.hid (show wds A O 0 = S (wordL A.kind) :: (errWords O.err).map S by rw [wds_zero, idWords, if_pos h0, List.append_nil])
        clear h0
        repeat' (first | with_reducible (first | refine wE_seq (fun K hK => ?_) | refine wE_block ?_ | refine wE_skip ?_ | refine wE_ret ?_ | refine wE_exit ?_) | ((with_reducible refine wE_region ?_ ?_); (kernel_rfl); simp only [ls, stripO]) | ((with_reducible refine wS_step (fun K hK => ?_)); simp [go_sem, lk, upd, envOf, stepS_value, stepS_skip, stepS_enter, ↓IntWalk.iteOmega, *]; (try go_ints); refine hK.out _ _ ?_; clear hK K) | ((with_reducible refine wS_unit (fun K hK => ?_)); simp [go_sem, lk, upd, envOf, stepS_value, stepS_skip, stepS_enter, ↓IntWalk.iteOmega, *]; (try go_ints); refine hK.out _ _ ?_; clear hK K) | ((with_reducible refine wS_skip ?_ ?_); (focus (simp [lk, upd, envOf, *]; done))) | ((with_reducible refine wS_want ?_ ?_); (focus (simp [lk, upd, envOf, *]; done))) | ((with_reducible refine wS_split (fun hc => ?_) (fun hc => ?_)) <;> simp [lk, upd, envOf, *] at hc <;> try (exfalso; omega)) | with_reducible refine wS_nil ?_ | simp only [thenE, blockE, ↓reduceIte, Nat.reduceEqDiff] | ((with_reducible refine hK.out _ _ ?_); clear hK K) | ((with_reducible refine wE_if ?_ (fun hc => ?_) (fun hc => ?_)); (focus (simp [lk, upd, envOf, *]; done)); all_goals (simp [lk, upd, envOf, *] at hc <;> try (exfalso; omega))) | (clear hK; clear K))
        exact HREST.out _ _ v4 (by rw [HWD.out]; exact HX.out) (by simp [upd, *]) (by simp [upd, *]) (by simp [upd, *])
      · have t0 : (O.id != 0) = true := by rw [bne_iff_ne]; exact h0
        have HWD := Lib.hid (show wds A O 0 = S (wordL A.kind) :: (errWords O.err).map S ++ [⟨#[105, 100]⟩] ++ [itoaS O.id] by rw [wds_zero, idWords, if_neg h0]; simp [itoaS]; rfl)
        have hln : (S (wordL A.kind) :: (errWords O.err).map S).length ≤ 3 := by have := errWords_len O.err; simp; omega
        clear h0
        repeat' (first | with_reducible (first | refine wE_seq (fun K hK => ?_) | refine wE_block ?_ | refine wE_skip ?_ | refine wE_ret ?_ | refine wE_exit ?_) | simp only [thenE, blockE, ↓reduceIte, Nat.reduceEqDiff] | ((with_reducible refine hK.out _ _ ?_); clear hK K) | ((with_reducible refine wE_if ?_ (fun hc => ?_) (fun hc => ?_)); (focus (simp [lk, upd, envOf, *]; done)); all_goals (simp [lk, upd, envOf, *] at hc <;> try (exfalso; omega))) | (clear hK; clear K))
        ((with_reducible refine wE_region ?_ ?_); (kernel_rfl); simp only [ls, stripO])
        repeat' (first | ((with_reducible refine wS_step (fun K hK => ?_)); simp [go_sem, lk, upd, envOf, stepS_value, stepS_skip, stepS_enter, ↓IntWalk.iteOmega, *]; (try go_ints); refine hK.out _ _ ?_; clear hK K) | ((with_reducible refine wS_unit (fun K hK => ?_)); simp [go_sem, lk, upd, envOf, stepS_value, stepS_skip, stepS_enter, ↓IntWalk.iteOmega, *]; (try go_ints); refine hK.out _ _ ?_; clear hK K) | ((with_reducible refine wS_skip ?_ ?_); (focus (simp [lk, upd, envOf, *]; done))) | ((with_reducible refine wS_want ?_ ?_); (focus (simp [lk, upd, envOf, *]; done))) | ((with_reducible refine wS_split (fun hc => ?_) (fun hc => ?_)) <;> simp [lk, upd, envOf, *] at hc <;> try (exfalso; omega)) | with_reducible refine wS_nil ?_)
        repeat' (first | with_reducible (first | refine wE_seq (fun K hK => ?_) | refine wE_block ?_ | refine wE_skip ?_ | refine wE_ret ?_ | refine wE_exit ?_) | simp only [thenE, blockE, ↓reduceIte, Nat.reduceEqDiff] | ((with_reducible refine hK.out _ _ ?_); clear hK K) | ((with_reducible refine wE_if ?_ (fun hc => ?_) (fun hc => ?_)); (focus (simp [lk, upd, envOf, *]; done)); all_goals (simp [lk, upd, envOf, *] at hc <;> try (exfalso; omega))) | (clear hK; clear K))
        ((with_reducible refine wE_region ?_ ?_); (kernel_rfl); simp only [ls, stripO])
        refine wS_word ⟨#[105, 100]⟩ HX.out.wd (by omega) (by have := HX.out.ctx.size; omega) (by simp [upd, *]) (by simp [evalS_const]) (by decide) (by decide) (by decide) (by decide) ?_
        intro v5 w5 hd5 hs5
        have HX5 := Lib.hid (HX.out.done hw1 hd5 hs5)
        clear hd5 hs5 o0 o1 o2
        obtain ⟨o0, o1, o2⟩ := HX5.out.ctx.obox
        repeat' (first | with_reducible (first | refine wE_seq (fun K hK => ?_) | refine wE_block ?_ | refine wE_skip ?_ | refine wE_ret ?_ | refine wE_exit ?_) | ((with_reducible refine wE_region ?_ ?_); (kernel_rfl); simp only [ls, stripO]) | ((with_reducible refine wS_step (fun K hK => ?_)); simp [go_sem, lk, upd, envOf, stepS_value, stepS_skip, stepS_enter, ↓IntWalk.iteOmega, *]; (try go_ints); refine hK.out _ _ ?_; clear hK K) | ((with_reducible refine wS_unit (fun K hK => ?_)); simp [go_sem, lk, upd, envOf, stepS_value, stepS_skip, stepS_enter, ↓IntWalk.iteOmega, *]; (try go_ints); refine hK.out _ _ ?_; clear hK K) | ((with_reducible refine wS_skip ?_ ?_); (focus (simp [lk, upd, envOf, *]; done))) | ((with_reducible refine wS_want ?_ ?_); (focus (simp [lk, upd, envOf, *]; done))) | ((with_reducible refine wS_split (fun hc => ?_) (fun hc => ?_)) <;> simp [lk, upd, envOf, *] at hc <;> try (exfalso; omega)) | with_reducible refine wS_nil ?_ | simp only [thenE, blockE, ↓reduceIte, Nat.reduceEqDiff] | ((with_reducible refine hK.out _ _ ?_); clear hK K) | ((with_reducible refine wE_if ?_ (fun hc => ?_) (fun hc => ?_)); (focus (simp [lk, upd, envOf, *]; done)); all_goals (simp [lk, upd, envOf, *] at hc <;> try (exfalso; omega))) | (clear hK; clear K))
        (with_reducible refine wS_step (fun K hK => ?_)); simp [go_sem, lk, upd, envOf, stepS_value, stepS_skip, stepS_enter, ↓IntWalk.iteOmega, *]; (try go_ints); refine (show1_w (w.heap.size + 1 + 1) (w.heap.size + 1 + 1 + 1) _ v5 O.id _ HX5.out.wd HX5.out.ctx.tab HID.out (by simp at hln ⊢; omega) (by have := HX5.out.ctx.size; omega)).mono ?_; rintro e w6 ⟨rfl, v6, hd6, hs6⟩; refine ⟨_, rfl, hK.out _ _ ?_⟩; clear hK K
        have HX6 := Lib.hid (HX5.out.done hw1 hd6 hs6)
        clear hd6 hs6
        repeat' (first | with_reducible (first | refine wE_seq (fun K hK => ?_) | refine wE_block ?_ | refine wE_skip ?_ | refine wE_ret ?_ | refine wE_exit ?_) | ((with_reducible refine wE_region ?_ ?_); (kernel_rfl); simp only [ls, stripO]) | ((with_reducible refine wS_step (fun K hK => ?_)); simp [go_sem, lk, upd, envOf, stepS_value, stepS_skip, stepS_enter, ↓IntWalk.iteOmega, *]; (try go_ints); refine hK.out _ _ ?_; clear hK K) | ((with_reducible refine wS_unit (fun K hK => ?_)); simp [go_sem, lk, upd, envOf, stepS_value, stepS_skip, stepS_enter, ↓IntWalk.iteOmega, *]; (try go_ints); refine hK.out _ _ ?_; clear hK K) | ((with_reducible refine wS_skip ?_ ?_); (focus (simp [lk, upd, envOf, *]; done))) | ((with_reducible refine wS_want ?_ ?_); (focus (simp [lk, upd, envOf, *]; done))) | ((with_reducible refine wS_split (fun hc => ?_) (fun hc => ?_)) <;> simp [lk, upd, envOf, *] at hc <;> try (exfalso; omega)) | with_reducible refine wS_nil ?_ | simp only [thenE, blockE, ↓reduceIte, Nat.reduceEqDiff] | ((with_reducible refine hK.out _ _ ?_); clear hK K) | ((with_reducible refine wE_if ?_ (fun hc => ?_) (fun hc => ?_)); (focus (simp [lk, upd, envOf, *]; done)); all_goals (simp [lk, upd, envOf, *] at hc <;> try (exfalso; omega))) | (clear hK; clear K))
        exact HREST.out _ _ v6 (by rw [HWD.out]; exact HX6.out) (by simp [upd, *]) (by simp [upd, *]) (by simp [upd, *])
    have HREST := Lib.hid rest2
    clear rest2
    by_cases h0 : O.err = 0
    · have t0 : (O.err == 0) = true := by rw [h0]; rfl
      have HWD := Lib.hid (show S (wordL A.kind) :: (errWords O.err).map S = [S (wordL A.kind)] ++ [⟨#[111, 107]⟩] by rw [errWords, if_pos h0]; rfl)
      clear h0
      repeat' (first | with_reducible (first | refine wE_seq (fun K hK => ?_) | refine wE_block ?_ | refine wE_skip ?_ | refine wE_ret ?_ | refine wE_exit ?_) | simp only [thenE, blockE, ↓reduceIte, Nat.reduceEqDiff] | ((with_reducible refine hK.out _ _ ?_); clear hK K) | ((with_reducible refine wE_if ?_ (fun hc => ?_) (fun hc => ?_)); (focus (simp [lk, upd, envOf, *]; done)); all_goals (simp [lk, upd, envOf, *] at hc <;> try (exfalso; omega))) | (clear hK; clear K))
      ((with_reducible refine wE_region ?_ ?_); (kernel_rfl); simp only [ls, stripO])
      repeat' (first | ((with_reducible refine wS_step (fun K hK => ?_)); simp [go_sem, lk, upd, envOf, stepS_value, stepS_skip, stepS_enter, ↓IntWalk.iteOmega, *]; (try go_ints); refine hK.out _ _ ?_; clear hK K) | ((with_reducible refine wS_unit (fun K hK => ?_)); simp [go_sem, lk, upd, envOf, stepS_value, stepS_skip, stepS_enter, ↓IntWalk.iteOmega, *]; (try go_ints); refine hK.out _ _ ?_; clear hK K) | ((with_reducible refine wS_skip ?_ ?_); (focus (simp [lk, upd, envOf, *]; done))) | ((with_reducible refine wS_want ?_ ?_); (focus (simp [lk, upd, envOf, *]; done))) | ((with_reducible refine wS_split (fun hc => ?_) (fun hc => ?_)) <;> simp [lk, upd, envOf, *] at hc <;> try (exfalso; omega)) | with_reducible refine wS_nil ?_)
      repeat' (first | with_reducible (first | refine wE_seq (fun K hK => ?_) | refine wE_block ?_ | refine wE_skip ?_ | refine wE_ret ?_ | refine wE_exit ?_) | simp only [thenE, blockE, ↓reduceIte, Nat.reduceEqDiff] | ((with_reducible refine hK.out _ _ ?_); clear hK K) | ((with_reducible refine wE_if ?_ (fun hc => ?_) (fun hc => ?_)); (focus (simp [lk, upd, envOf, *]; done)); all_goals (simp [lk, upd, envOf, *] at hc <;> try (exfalso; omega))) | (clear hK; clear K))
      ((with_reducible refine wE_region ?_ ?_); (kernel_rfl); simp only [ls, stripO])
      refine wS_word ⟨#[111, 107]⟩ HX.out.wd (by simp) (by have := HX.out.ctx.size; omega) (by simp [upd, *]) (by simp [evalS_const]) (by decide) (by decide) (by decide) (by decide) ?_
      intro v5 w5 hd5 hs5
      have HX5 := Lib.hid (HX.out.done hw1 hd5 hs5)
      clear hd5 hs5
      repeat' (first | with_reducible (first | refine wE_seq (fun K hK => ?_) | refine wE_block ?_ | refine wE_skip ?_ | refine wE_ret ?_ | refine wE_exit ?_) | ((with_reducible refine wE_region ?_ ?_); (kernel_rfl); simp only [ls, stripO]) | ((with_reducible refine wS_step (fun K hK => ?_)); simp [go_sem, lk, upd, envOf, stepS_value, stepS_skip, stepS_enter, ↓IntWalk.iteOmega, *]; (try go_ints); refine hK.out _ _ ?_; clear hK K) | ((with_reducible refine wS_unit (fun K hK => ?_)); simp [go_sem, lk, upd, envOf, stepS_value, stepS_skip, stepS_enter, ↓IntWalk.iteOmega, *]; (try go_ints); refine hK.out _ _ ?_; clear hK K) | ((with_reducible refine wS_skip ?_ ?_); (focus (simp [lk, upd, envOf, *]; done))) | ((with_reducible refine wS_want ?_ ?_); (focus (simp [lk, upd, envOf, *]; done))) | ((with_reducible refine wS_split (fun hc => ?_) (fun hc => ?_)) <;> simp [lk, upd, envOf, *] at hc <;> try (exfalso; omega)) | with_reducible refine wS_nil ?_ | simp only [thenE, blockE, ↓reduceIte, Nat.reduceEqDiff] | ((with_reducible refine hK.out _ _ ?_); clear hK K) | ((with_reducible refine wE_if ?_ (fun hc => ?_) (fun hc => ?_)); (focus (simp [lk, upd, envOf, *]; done)); all_goals (simp [lk, upd, envOf, *] at hc <;> try (exfalso; omega))) | (clear hK; clear K))
      exact HREST.out _ _ v5 (by rw [HWD.out]; exact HX5.out) (by simp [upd, *]) (by simp [upd, *]) (by simp [upd, *])
    · have t0 : (O.err == 0) = false := by rw [beq_eq_false_iff_ne]; exact h0
      have HWD := Lib.hid (show S (wordL A.kind) :: (errWords O.err).map S = [S (wordL A.kind)] ++ [⟨#[101, 114, 114, 111, 114]⟩] ++ [itoaS O.err] by rw [errWords, if_neg h0]; rfl)
      clear h0
      repeat' (first | with_reducible (first | refine wE_seq (fun K hK => ?_) | refine wE_block ?_ | refine wE_skip ?_ | refine wE_ret ?_ | refine wE_exit ?_) | simp only [thenE, blockE, ↓reduceIte, Nat.reduceEqDiff] | ((with_reducible refine hK.out _ _ ?_); clear hK K) | ((with_reducible refine wE_if ?_ (fun hc => ?_) (fun hc => ?_)); (focus (simp [lk, upd, envOf, *]; done)); all_goals (simp [lk, upd, envOf, *] at hc <;> try (exfalso; omega))) | (clear hK; clear K))
      ((with_reducible refine wE_region ?_ ?_); (kernel_rfl); simp only [ls, stripO])
      repeat' (first | ((with_reducible refine wS_step (fun K hK => ?_)); simp [go_sem, lk, upd, envOf, stepS_value, stepS_skip, stepS_enter, ↓IntWalk.iteOmega, *]; (try go_ints); refine hK.out _ _ ?_; clear hK K) | ((with_reducible refine wS_unit (fun K hK => ?_)); simp [go_sem, lk, upd, envOf, stepS_value, stepS_skip, stepS_enter, ↓IntWalk.iteOmega, *]; (try go_ints); refine hK.out _ _ ?_; clear hK K) | ((with_reducible refine wS_skip ?_ ?_); (focus (simp [lk, upd, envOf, *]; done))) | ((with_reducible refine wS_want ?_ ?_); (focus (simp [lk, upd, envOf, *]; done))) | ((with_reducible refine wS_split (fun hc => ?_) (fun hc => ?_)) <;> simp [lk, upd, envOf, *] at hc <;> try (exfalso; omega)) | with_reducible refine wS_nil ?_)
      repeat' (first | with_reducible (first | refine wE_seq (fun K hK => ?_) | refine wE_block ?_ | refine wE_skip ?_ | refine wE_ret ?_ | refine wE_exit ?_) | simp only [thenE, blockE, ↓reduceIte, Nat.reduceEqDiff] | ((with_reducible refine hK.out _ _ ?_); clear hK K) | ((with_reducible refine wE_if ?_ (fun hc => ?_) (fun hc => ?_)); (focus (simp [lk, upd, envOf, *]; done)); all_goals (simp [lk, upd, envOf, *] at hc <;> try (exfalso; omega))) | (clear hK; clear K))
      ((with_reducible refine wE_region ?_ ?_); (kernel_rfl); simp only [ls, stripO])
      refine wS_word ⟨#[101, 114, 114, 111, 114]⟩ HX.out.wd (by simp) (by have := HX.out.ctx.size; omega) (by simp [upd, *]) (by simp [evalS_const]) (by decide) (by decide) (by decide) (by decide) ?_
      intro v5 w5 hd5 hs5
      have HX5 := Lib.hid (HX.out.done hw1 hd5 hs5)
      clear hd5 hs5 o0 o1 o2
      obtain ⟨o0, o1, o2⟩ := HX5.out.ctx.obox
      repeat' (first | with_reducible (first | refine wE_seq (fun K hK => ?_) | refine wE_block ?_ | refine wE_skip ?_ | refine wE_ret ?_ | refine wE_exit ?_) | ((with_reducible refine wE_region ?_ ?_); (kernel_rfl); simp only [ls, stripO]) | ((with_reducible refine wS_step (fun K hK => ?_)); simp [go_sem, lk, upd, envOf, stepS_value, stepS_skip, stepS_enter, ↓IntWalk.iteOmega, *]; (try go_ints); refine hK.out _ _ ?_; clear hK K) | ((with_reducible refine wS_unit (fun K hK => ?_)); simp [go_sem, lk, upd, envOf, stepS_value, stepS_skip, stepS_enter, ↓IntWalk.iteOmega, *]; (try go_ints); refine hK.out _ _ ?_; clear hK K) | ((with_reducible refine wS_skip ?_ ?_); (focus (simp [lk, upd, envOf, *]; done))) | ((with_reducible refine wS_want ?_ ?_); (focus (simp [lk, upd, envOf, *]; done))) | ((with_reducible refine wS_split (fun hc => ?_) (fun hc => ?_)) <;> simp [lk, upd, envOf, *] at hc <;> try (exfalso; omega)) | with_reducible refine wS_nil ?_ | simp only [thenE, blockE, ↓reduceIte, Nat.reduceEqDiff] | ((with_reducible refine hK.out _ _ ?_); clear hK K) | ((with_reducible refine wE_if ?_ (fun hc => ?_) (fun hc => ?_)); (focus (simp [lk, upd, envOf, *]; done)); all_goals (simp [lk, upd, envOf, *] at hc <;> try (exfalso; omega))) | (clear hK; clear K))
      (with_reducible refine wS_step (fun K hK => ?_)); simp [go_sem, lk, upd, envOf, stepS_value, stepS_skip, stepS_enter, ↓IntWalk.iteOmega, *]; (try go_ints); refine (show1_w (w.heap.size + 1 + 1) (w.heap.size + 1 + 1 + 1) _ v5 O.err _ HX5.out.wd HX5.out.ctx.tab HERR.out (by simp) (by have := HX5.out.ctx.size; omega)).mono ?_; rintro e w6 ⟨rfl, v6, hd6, hs6⟩; refine ⟨_, rfl, hK.out _ _ ?_⟩; clear hK K
      have HX6 := Lib.hid (HX5.out.done hw1 hd6 hs6)
      clear hd6 hs6
      repeat' (first | with_reducible (first | refine wE_seq (fun K hK => ?_) | refine wE_block ?_ | refine wE_skip ?_ | refine wE_ret ?_ | refine wE_exit ?_) | ((with_reducible refine wE_region ?_ ?_); (kernel_rfl); simp only [ls, stripO]) | ((with_reducible refine wS_step (fun K hK => ?_)); simp [go_sem, lk, upd, envOf, stepS_value, stepS_skip, stepS_enter, ↓IntWalk.iteOmega, *]; (try go_ints); refine hK.out _ _ ?_; clear hK K) | ((with_reducible refine wS_unit (fun K hK => ?_)); simp [go_sem, lk, upd, envOf, stepS_value, stepS_skip, stepS_enter, ↓IntWalk.iteOmega, *]; (try go_ints); refine hK.out _ _ ?_; clear hK K) | ((with_reducible refine wS_skip ?_ ?_); (focus (simp [lk, upd, envOf, *]; done))) | ((with_reducible refine wS_want ?_ ?_); (focus (simp [lk, upd, envOf, *]; done))) | ((with_reducible refine wS_split (fun hc => ?_) (fun hc => ?_)) <;> simp [lk, upd, envOf, *] at hc <;> try (exfalso; omega)) | with_reducible refine wS_nil ?_ | simp only [thenE, blockE, ↓reduceIte, Nat.reduceEqDiff] | ((with_reducible refine hK.out _ _ ?_); clear hK K) | ((with_reducible refine wE_if ?_ (fun hc => ?_) (fun hc => ?_)); (focus (simp [lk, upd, envOf, *]; done)); all_goals (simp [lk, upd, envOf, *] at hc <;> try (exfalso; omega))) | (clear hK; clear K))
      exact HREST.out _ _ v6 (by rw [HWD.out]; exact HX6.out) (by simp [upd, *]) (by simp [upd, *]) (by simp [upd, *])
  have HREST := Lib.hid rest
  clear rest
  by_cases hk : A.kind < 1 ∨ 8 < A.kind
  · have t5 := formC_none A.kind hk
    have HW := Lib.hid (show S (wordL A.kind) = inS by rw [wordL_out _ hk]; rfl)
    clear hk
    rw [t5] at e7
    repeat' (first | with_reducible (first | refine wE_seq (fun K hK => ?_) | refine wE_block ?_ | refine wE_skip ?_ | refine wE_ret ?_ | refine wE_exit ?_) | ((with_reducible refine wE_region ?_ ?_); (kernel_rfl); simp only [ls, stripO]) | ((with_reducible refine wS_step (fun K hK => ?_)); simp [go_sem, lk, upd, envOf, stepS_value, stepS_skip, stepS_enter, ↓IntWalk.iteOmega, *]; (try go_ints); refine hK.out _ _ ?_; clear hK K) | ((with_reducible refine wS_unit (fun K hK => ?_)); simp [go_sem, lk, upd, envOf, stepS_value, stepS_skip, stepS_enter, ↓IntWalk.iteOmega, *]; (try go_ints); refine hK.out _ _ ?_; clear hK K) | ((with_reducible refine wS_skip ?_ ?_); (focus (simp [lk, upd, envOf, *]; done))) | ((with_reducible refine wS_want ?_ ?_); (focus (simp [lk, upd, envOf, *]; done))) | ((with_reducible refine wS_split (fun hc => ?_) (fun hc => ?_)) <;> simp [lk, upd, envOf, *] at hc <;> try (exfalso; omega)) | with_reducible refine wS_nil ?_ | simp only [thenE, blockE, ↓reduceIte, Nat.reduceEqDiff] | ((with_reducible refine hK.out _ _ ?_); clear hK K) | ((with_reducible refine wE_if ?_ (fun hc => ?_) (fun hc => ?_)); (focus (simp [lk, upd, envOf, *]; done)); all_goals (simp [lk, upd, envOf, *] at hc <;> try (exfalso; omega))) | (clear hK; clear K))
    refine HREST.out _ _ (.slice (some ⟨w.heap.size + 1 + 1, 0, none⟩) 1 1) ?_ (by simp [upd, *]) (by simp [upd, *])
    rw [HW.out]
    exact HX2.out
  obtain ⟨f, g, hform⟩ : ∃ f g, formOf A.kind = (formV (S (wordL A.kind)) f g, true) := by
    have h : A.kind = 1 ∨ A.kind = 2 ∨ A.kind = 3 ∨ A.kind = 4 ∨ A.kind = 5 ∨ A.kind = 6 ∨ A.kind = 7 ∨ A.kind = 8 := by omega
    rcases h with h | h | h | h | h | h | h | h <;> rw [h] <;> exact ⟨_, _, rfl⟩
  have t5 : (formOf A.kind).2 = true := by rw [hform]
  have HFC := Lib.hid (show formC A.kind = formA (S (wordL A.kind)) f g by
    have := HF1.out
    rw [hform] at this
    simpa [formV, formA] using this.symm)
  clear hform hk
  rw [t5] at e7
  have cp0 : w2.cell? ⟨p, 0, none⟩ = some (.string (S (wordL A.kind))) := by rw [cell_of_row w2 p 0 _ _ _ HP.out, HFC.out]; rfl
  have cw := HX2.out.wd.c
  have cr : w2.cell? ⟨w.heap.size + 1 + 1, 0, none⟩ = some (.string inS) := HX2.out.wd.own.cells (g := w.heap.size + 1 + 1) rfl 0 (.string inS) rfl
  have fr : w2.frozen? ⟨w.heap.size + 1 + 1, 0, none⟩ = false := by
    rcases HX2.out.wd.own.2 with ⟨h, _⟩ | ⟨g, cap, cur, hv, _, hg, _⟩
    · simp at h
    · simp only [Value.slice.injEq, Option.some.injEq, Addr.mk.injEq] at hv
      obtain ⟨⟨rfl, _, _⟩, _, _⟩ := hv
      exact frozen_of_row w2 _ 0 _ _ hg
  repeat' (first | with_reducible (first | refine wE_seq (fun K hK => ?_) | refine wE_block ?_ | refine wE_skip ?_ | refine wE_ret ?_ | refine wE_exit ?_) | ((with_reducible refine wE_region ?_ ?_); (kernel_rfl); simp only [ls, stripO]) | ((with_reducible refine wS_step (fun K hK => ?_)); simp [go_sem, lk, upd, envOf, stepS_value, stepS_skip, stepS_enter, ↓IntWalk.iteOmega, *]; (try go_ints); refine hK.out _ _ ?_; clear hK K) | ((with_reducible refine wS_unit (fun K hK => ?_)); simp [go_sem, lk, upd, envOf, stepS_value, stepS_skip, stepS_enter, ↓IntWalk.iteOmega, *]; (try go_ints); refine hK.out _ _ ?_; clear hK K) | ((with_reducible refine wS_skip ?_ ?_); (focus (simp [lk, upd, envOf, *]; done))) | ((with_reducible refine wS_want ?_ ?_); (focus (simp [lk, upd, envOf, *]; done))) | ((with_reducible refine wS_split (fun hc => ?_) (fun hc => ?_)) <;> simp [lk, upd, envOf, *] at hc <;> try (exfalso; omega)) | with_reducible refine wS_nil ?_ | simp only [thenE, blockE, ↓reduceIte, Nat.reduceEqDiff] | ((with_reducible refine hK.out _ _ ?_); clear hK K) | ((with_reducible refine wE_if ?_ (fun hc => ?_) (fun hc => ?_)); (focus (simp [lk, upd, envOf, *]; done)); all_goals (simp [lk, upd, envOf, *] at hc <;> try (exfalso; omega))) | (clear hK; clear K))
  refine HREST.out _ _ (.slice (some ⟨w.heap.size + 1 + 1, 0, none⟩) 1 1) ?_ (by simp [upd, *]) (by simp [upd, *])
  exact sh_first HX2.out hw1 _
end Go.Proofs.YtglekdhdogjnoaaGreatDoor
