/- The program's Show: eventWord; outcomes in memory; one word more. -/
import Derived.Test.YtglekdhdogjnoaaGreatDoorShwA
namespace Go.Proofs.YtglekdhdogjnoaaGreatDoor
open Go.RowKit
set_option linter.unusedSimpArgs false
set_option maxHeartbeats 1000000 in
theorem eventWord_any (n : Int) (w : World) (hn : I64 n) (ht : Tab10 w) :
    Calls Tryz.prog 23 #[.int .i64 n] w fun e w' => e = .returned (.string (S (evWordL n))) ∧ Grow w w' := by
  have HT := Lib.hid ht
  have HN := Lib.hid hn
  clear ht hn
  by_cases k1 : n = 1
  · have HE := Lib.hid (show evWordL n = wLand by rw [evWordL, if_pos k1])
    have t1 : (n == 1) = true := by rw [k1]; rfl
    clear k1
    refine calls_of_wE Tryz.func23 rfl Tryz.ntmps23 (by simp) ?_
    repeat' (first | with_reducible (first | refine wE_seq (fun K hK => ?_) | refine wE_block ?_ | refine wE_skip ?_ | refine wE_ret ?_ | refine wE_exit ?_) | ((with_reducible refine wE_region ?_ ?_); (kernel_rfl); simp only [ls, stripO]) | ((with_reducible refine wS_step (fun K hK => ?_)); simp [go_sem, lk, upd, envOf, stepS_value, stepS_skip, stepS_enter, ↓IntWalk.iteOmega, *]; (try go_ints); refine hK.out _ _ ?_; clear hK K) | ((with_reducible refine wS_unit (fun K hK => ?_)); simp [go_sem, lk, upd, envOf, stepS_value, stepS_skip, stepS_enter, ↓IntWalk.iteOmega, *]; (try go_ints); refine hK.out _ _ ?_; clear hK K) | ((with_reducible refine wS_skip ?_ ?_); (focus (simp [lk, upd, envOf, *]; done))) | ((with_reducible refine wS_want ?_ ?_); (focus (simp [lk, upd, envOf, *]; done))) | ((with_reducible refine wS_split (fun hc => ?_) (fun hc => ?_)) <;> simp [lk, upd, envOf, *] at hc <;> try (exfalso; omega)) | with_reducible refine wS_nil ?_ | simp only [thenE, blockE, ↓reduceIte, Nat.reduceEqDiff] | ((with_reducible refine hK.out _ _ ?_); clear hK K) | ((with_reducible refine wE_if ?_ (fun hc => ?_) (fun hc => ?_)); (focus (simp [lk, upd, envOf, *]; done)); all_goals (simp [lk, upd, envOf, *] at hc <;> try (exfalso; omega))) | (clear hK; clear K))
    exact endE_tmp rfl ⟨ret_str (by rw [HE.out]; rfl), Grow.refl _⟩
  by_cases k2 : n = 2
  · have HE := Lib.hid (show evWordL n = wRefuse by rw [evWordL, if_neg k1, if_pos k2])
    have t1 : (n == 1) = false := by rw [k2]; rfl
    have t2 : (n == 2) = true := by rw [k2]; rfl
    clear k1 k2
    refine calls_of_wE Tryz.func23 rfl Tryz.ntmps23 (by simp) ?_
    repeat' (first | with_reducible (first | refine wE_seq (fun K hK => ?_) | refine wE_block ?_ | refine wE_skip ?_ | refine wE_ret ?_ | refine wE_exit ?_) | ((with_reducible refine wE_region ?_ ?_); (kernel_rfl); simp only [ls, stripO]) | ((with_reducible refine wS_step (fun K hK => ?_)); simp [go_sem, lk, upd, envOf, stepS_value, stepS_skip, stepS_enter, ↓IntWalk.iteOmega, *]; (try go_ints); refine hK.out _ _ ?_; clear hK K) | ((with_reducible refine wS_unit (fun K hK => ?_)); simp [go_sem, lk, upd, envOf, stepS_value, stepS_skip, stepS_enter, ↓IntWalk.iteOmega, *]; (try go_ints); refine hK.out _ _ ?_; clear hK K) | ((with_reducible refine wS_skip ?_ ?_); (focus (simp [lk, upd, envOf, *]; done))) | ((with_reducible refine wS_want ?_ ?_); (focus (simp [lk, upd, envOf, *]; done))) | ((with_reducible refine wS_split (fun hc => ?_) (fun hc => ?_)) <;> simp [lk, upd, envOf, *] at hc <;> try (exfalso; omega)) | with_reducible refine wS_nil ?_ | simp only [thenE, blockE, ↓reduceIte, Nat.reduceEqDiff] | ((with_reducible refine hK.out _ _ ?_); clear hK K) | ((with_reducible refine wE_if ?_ (fun hc => ?_) (fun hc => ?_)); (focus (simp [lk, upd, envOf, *]; done)); all_goals (simp [lk, upd, envOf, *] at hc <;> try (exfalso; omega))) | (clear hK; clear K))
    exact endE_tmp rfl ⟨ret_str (by rw [HE.out]; rfl), Grow.refl _⟩
  by_cases k3 : n = 3
  · have HE := Lib.hid (show evWordL n = wRollback by rw [evWordL, if_neg k1, if_neg k2, if_pos k3])
    have t1 : (n == 1) = false := by rw [k3]; rfl
    have t2 : (n == 2) = false := by rw [k3]; rfl
    have t3 : (n == 3) = true := by rw [k3]; rfl
    clear k1 k2 k3
    refine calls_of_wE Tryz.func23 rfl Tryz.ntmps23 (by simp) ?_
    repeat' (first | with_reducible (first | refine wE_seq (fun K hK => ?_) | refine wE_block ?_ | refine wE_skip ?_ | refine wE_ret ?_ | refine wE_exit ?_) | ((with_reducible refine wE_region ?_ ?_); (kernel_rfl); simp only [ls, stripO]) | ((with_reducible refine wS_step (fun K hK => ?_)); simp [go_sem, lk, upd, envOf, stepS_value, stepS_skip, stepS_enter, ↓IntWalk.iteOmega, *]; (try go_ints); refine hK.out _ _ ?_; clear hK K) | ((with_reducible refine wS_unit (fun K hK => ?_)); simp [go_sem, lk, upd, envOf, stepS_value, stepS_skip, stepS_enter, ↓IntWalk.iteOmega, *]; (try go_ints); refine hK.out _ _ ?_; clear hK K) | ((with_reducible refine wS_skip ?_ ?_); (focus (simp [lk, upd, envOf, *]; done))) | ((with_reducible refine wS_want ?_ ?_); (focus (simp [lk, upd, envOf, *]; done))) | ((with_reducible refine wS_split (fun hc => ?_) (fun hc => ?_)) <;> simp [lk, upd, envOf, *] at hc <;> try (exfalso; omega)) | with_reducible refine wS_nil ?_ | simp only [thenE, blockE, ↓reduceIte, Nat.reduceEqDiff] | ((with_reducible refine hK.out _ _ ?_); clear hK K) | ((with_reducible refine wE_if ?_ (fun hc => ?_) (fun hc => ?_)); (focus (simp [lk, upd, envOf, *]; done)); all_goals (simp [lk, upd, envOf, *] at hc <;> try (exfalso; omega))) | (clear hK; clear K))
    exact endE_tmp rfl ⟨ret_str (by rw [HE.out]; rfl), Grow.refl _⟩
  have HE := Lib.hid (show S (evWordL n) = (⟨#[101, 118, 101, 110, 116, 32]⟩ : ByteArray) ++ S (Lib.itoa n) by rw [evWordL, if_neg k1, if_neg k2, if_neg k3, S_lit_app])
  have t1 : (n == 1) = false := by rw [beq_eq_false_iff_ne]; exact k1
  have t2 : (n == 2) = false := by rw [beq_eq_false_iff_ne]; exact k2
  have t3 : (n == 3) = false := by rw [beq_eq_false_iff_ne]; exact k3
  have hz : (S (Lib.itoa n)).size ≤ 20 := by rw [S_size]; exact itoa_le n HN.out.1 HN.out.2
  clear k1 k2 k3
  refine calls_of_wE Tryz.func23 rfl Tryz.ntmps23 (by simp) ?_
  repeat' (first | with_reducible (first | refine wE_seq (fun K hK => ?_) | refine wE_block ?_ | refine wE_skip ?_ | refine wE_ret ?_ | refine wE_exit ?_) | ((with_reducible refine wE_region ?_ ?_); (kernel_rfl); simp only [ls, stripO]) | ((with_reducible refine wS_step (fun K hK => ?_)); simp [go_sem, lk, upd, envOf, stepS_value, stepS_skip, stepS_enter, ↓IntWalk.iteOmega, *]; (try go_ints); refine hK.out _ _ ?_; clear hK K) | ((with_reducible refine wS_unit (fun K hK => ?_)); simp [go_sem, lk, upd, envOf, stepS_value, stepS_skip, stepS_enter, ↓IntWalk.iteOmega, *]; (try go_ints); refine hK.out _ _ ?_; clear hK K) | ((with_reducible refine wS_skip ?_ ?_); (focus (simp [lk, upd, envOf, *]; done))) | ((with_reducible refine wS_want ?_ ?_); (focus (simp [lk, upd, envOf, *]; done))) | ((with_reducible refine wS_split (fun hc => ?_) (fun hc => ?_)) <;> simp [lk, upd, envOf, *] at hc <;> try (exfalso; omega)) | with_reducible refine wS_nil ?_ | simp only [thenE, blockE, ↓reduceIte, Nat.reduceEqDiff] | ((with_reducible refine hK.out _ _ ?_); clear hK K) | ((with_reducible refine wE_if ?_ (fun hc => ?_) (fun hc => ?_)); (focus (simp [lk, upd, envOf, *]; done)); all_goals (simp [lk, upd, envOf, *] at hc <;> try (exfalso; omega))) | (clear hK; clear K))
  (with_reducible refine wS_step (fun K hK => ?_)); simp [go_sem, lk, upd, envOf, stepS_value, stepS_skip, stepS_enter, ↓IntWalk.iteOmega, *]; (try go_ints); refine (itoa_g n _ HN.out HT.out).mono ?_; rintro e w1 ⟨rfl, hg⟩; refine ⟨_, rfl, hK.out _ _ ?_⟩; clear hK K
  have HG := Lib.hid hg
  clear hg
  repeat' (first | with_reducible (first | refine wE_seq (fun K hK => ?_) | refine wE_block ?_ | refine wE_skip ?_ | refine wE_ret ?_ | refine wE_exit ?_) | ((with_reducible refine wE_region ?_ ?_); (kernel_rfl); simp only [ls, stripO]) | ((with_reducible refine wS_step (fun K hK => ?_)); simp [go_sem, lk, upd, envOf, stepS_value, stepS_skip, stepS_enter, ↓IntWalk.iteOmega, *]; (try go_ints); refine hK.out _ _ ?_; clear hK K) | ((with_reducible refine wS_unit (fun K hK => ?_)); simp [go_sem, lk, upd, envOf, stepS_value, stepS_skip, stepS_enter, ↓IntWalk.iteOmega, *]; (try go_ints); refine hK.out _ _ ?_; clear hK K) | ((with_reducible refine wS_skip ?_ ?_); (focus (simp [lk, upd, envOf, *]; done))) | ((with_reducible refine wS_want ?_ ?_); (focus (simp [lk, upd, envOf, *]; done))) | ((with_reducible refine wS_split (fun hc => ?_) (fun hc => ?_)) <;> simp [lk, upd, envOf, *] at hc <;> try (exfalso; omega)) | with_reducible refine wS_nil ?_ | simp only [thenE, blockE, ↓reduceIte, Nat.reduceEqDiff] | ((with_reducible refine hK.out _ _ ?_); clear hK K) | ((with_reducible refine wE_if ?_ (fun hc => ?_) (fun hc => ?_)); (focus (simp [lk, upd, envOf, *]; done)); all_goals (simp [lk, upd, envOf, *] at hc <;> try (exfalso; omega))) | (clear hK; clear K))
  exact endE_tmp rfl ⟨ret_str (by rw [HE.out]), HG.out⟩
/-! ### Outcomes in memory -/
def evAt (w : World) (b o : Nat) (e : PEvent) : Prop :=
  w.cell? ⟨b, o, none⟩ = some (.int .i64 e.kind) ∧ w.cell? ⟨b, o + 1, none⟩ = some (.int .i64 e.change) ∧ I64 e.kind ∧ I64 e.change ∧ ∃ vw, w.cell? ⟨b, o + 2, none⟩ = some vw ∧ IntsAt w vw e.with_
def EventsAt (w : World) (v : Value) (es : List PEvent) : Prop :=
  ∃ a c, v = .slice a es.length c ∧ es.length ≤ c ∧ (es = [] ∨ ∃ b o, a = some ⟨b, o, none⟩ ∧ ∀ (j : Nat) (e : PEvent), es[j]? = some e → evAt w b (o + j * 3) e)
theorem evAt.keep {w w' : World} {b o : Nat} {e : PEvent} (h : evAt w b o e) (k : Keeps w w') : evAt w' b o e := by
  obtain ⟨h1, h2, h3, h4, vw, h5, h6⟩ := h
  exact ⟨k _ _ h1, k _ _ h2, h3, h4, vw, k _ _ h5, h6.keep k⟩
theorem EventsAt.keep {w w' : World} {v : Value} {es : List PEvent} (h : EventsAt w v es) (k : Keeps w w') : EventsAt w' v es := by
  obtain ⟨a, c, h1, h2, h3⟩ := h
  refine ⟨a, c, h1, h2, h3.imp id ?_⟩
  rintro ⟨b, o, ha, hc⟩
  exact ⟨b, o, ha, fun j f hj => (hc j f hj).keep k⟩
def outV (O : POut) (ve : Value) : Value := .agg #[.int .i64 O.err, .int .i64 O.id, ve]
structure OutAt (w : World) (O : POut) (ve : Value) : Prop where
  events : EventsAt w ve O.events
  err : I64 O.err
  id : I64 O.id
theorem OutAt.keep {w w' : World} {O : POut} {ve : Value} (h : OutAt w O ve) (k : Keeps w w') : OutAt w' O ve := ⟨h.events.keep k, h.err, h.id⟩
/-- Small enough for the statements. -/
structure SmallO (O : POut) : Prop where
  n : O.events.length ≤ 20
  m : ∀ e ∈ O.events, e.with_.length ≤ 20
/-! ### One word more -/
theorem wS_word {Q : Env → World → Prop} {rest : List SOp} {σ : Env} {w : World} {a b c p : Tmp} {x : Operand} {ty1 ty2 ty4 : TypeId} {p1 p2 p3 p4 : String} {e1 e2 e3 e4 : Array Edge} {g1 g2 g3 g4 : Option (Nat × Bool)} {base pw : Nat} {xs : List ByteArray} {v : Value} (s : ByteArray)
    (h : WdAt w base pw xs v) (hl : xs.length ≤ 100000) (hb : base ≤ w.heap.size) (hp : σ p = .pointer (some ⟨pw, 0, none⟩)) (hx : evalS (upd σ a v) x = .string s) (n1 : p ≠ a) (n2 : p ≠ b) (n3 : p ≠ c) (n4 : a ≠ b)
    (k : ∀ v' w', WdAt w' base pw (xs ++ [s]) v' → WStep pw w w' → wS Tryz.prog Q rest (upd (upd (upd σ a v) b (.slice (some ⟨w.heap.size, 0, none⟩) 1 1)) c v') w') :
    wS Tryz.prog Q (⟨⟨some a, .load 64 (.tmp p), ty1, p1, e1, g1⟩, none⟩ :: ⟨⟨some b, .buildSlice 64 1 #[(0, x)], ty2, p2, e2, g2⟩, none⟩ :: ⟨⟨some c, .call { callee := .builtin .append, args := #[.tmp a, .tmp b], argTypes := #[64, 64] }, 64, p3, e3, g3⟩, none⟩ :: ⟨⟨none, .store 64 (.tmp p) (.tmp c), ty4, p4, e4, g4⟩, none⟩ :: rest) σ w := by
  obtain ⟨v', w', ha⟩ := app_wd h s hl hb
  have hc := h.c
  have one := h.one
  refine wS_step (fun K hK => ?_)
  simp [go_sem, lk, upd, envOf, stepS_value, stepS_skip, stepS_enter, ↓IntWalk.iteOmega, *]
  refine hK.out _ _ ?_
  refine wS_step (fun K hK => ?_)
  simp [go_sem, lk, upd, envOf, stepS_value, stepS_skip, stepS_enter, ↓IntWalk.iteOmega, *]
  refine hK.out _ _ ?_
  refine wS_append v (.slice (some ⟨w.heap.size, 0, none⟩) 1 1) (by simp [evalS_tmp, upd, n4]) (by simp [evalS_tmp, upd]) ha.run ?_
  obtain ⟨g, cap, h7⟩ := ha.form
  have hc2 := ha.cell
  have hz := ha.frozen
  have hk := k v' _ ha.wd ha.step
  refine wS_unit (fun K hK => ?_)
  subst h7
  simp [go_sem, lk, upd, envOf, stepS_value, stepS_skip, stepS_enter, ↓IntWalk.iteOmega, *]
  exact hK.out _ _ hk
/-- A block beside the words. -/
structure BoxE (w : World) (pw b : Nat) (o : Obj) : Prop where
  heap : w.heap[b]? = some o
  ne : b ≠ pw
  row : rowOf w pw ≠ some b
theorem BoxE.step {w w' : World} {pw b : Nat} {o : Obj} (h : BoxE w pw b o) (s : WStep pw w w') : BoxE w' pw b o :=
  ⟨s.heap h.heap h.ne h.row, h.ne, fun e => by rcases s.row b e with e | e; exact h.row e; have := (Array.getElem?_eq_some_iff.1 h.heap).1; omega⟩
theorem WdAt.row_lt {w : World} {base pw : Nat} {xs : List ByteArray} {v : Value} (h : WdAt w base pw xs v) : ∀ k, Proofs.YtglekdhdogjnoaaGreatDoor.rowOf w pw = some k → base ≤ k ∧ k < w.heap.size := by
  intro k hk
  rw [h.rowOf] at hk
  exact h.own.lt k hk
theorem boxE_new {w : World} {base pw : Nat} {xs : List ByteArray} {v : Value} (h : WdAt w base pw xs v) (c : Array Value) (t : TypeId) : BoxE (w.alloc (.cells c t)) pw w.heap.size (.cells c t (0, 0)) := by
  refine ⟨heap_alloc_new w _, by have := h.lt; omega, fun e => ?_⟩
  have e2 : rowOf w pw = some w.heap.size := by unfold rowOf at e ⊢; rw [(Grow.alloc w _).block pw h.lt] at e; exact e
  have := (h.row_lt _ e2).2
  omega
theorem WdAt.below {w w' : World} {base pw : Nat} {xs : List ByteArray} {v : Value} (h : WdAt w base pw xs v) (s : WStep pw w w') (hb : base ≤ pw) : Below base w w' :=
  ⟨s.os, s.tape, s.output, s.size, fun k hk => s.block k (by have := h.lt; omega) (by omega) (fun e => by have := h.row_lt k e; omega)⟩
end Go.Proofs.YtglekdhdogjnoaaGreatDoor
