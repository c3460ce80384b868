/- The functions that read the parts of the kinds of inputs. -/
import Derived.Test.YtglekdhdogjnoaaGreatDoorPrsE
namespace Go.Proofs.YtglekdhdogjnoaaGreatDoor
open Go.RowKit
set_option linter.unusedSimpArgs false
theorem wS_storeRow {P : Program} {Q : Env → World → Prop} {rest : List SOp} {σ : Env} {w : World} {T ty : TypeId} {x y : Operand} {ps : String} {af : Array Edge} {gd : Option (Nat × Bool)} (nb : Nat) (cells old : Array Value)
    (hx : evalS σ x = .pointer (some ⟨nb, 0, none⟩)) (hy : evalS σ y = .agg cells) (hg : w.heap[nb]? = some (.cells old T (0, 0))) (hi : (P.info? T).map (·.size) = some cells.size) (ho : old.size = cells.size) (h1 : cells.all (·.oneCell') = true)
    (k : wS P Q rest σ (w.setRow nb cells)) : wS P Q (⟨⟨none, .store T x y, ty, ps, af, gd⟩, none⟩ :: rest) σ w := by
  refine wS_unit (fun K hK => ?_)
  simp only [execOp, hx, hy, Instr.storeAt, Instr.sureAddr, Sem.run_bind, Sem.run_pure, Result.andThen_ok, run_storeVar_row w nb T T old cells hg hi ho h1, stepS]
  exact hK.out _ _ k
theorem RStep.row {pr nb : Nat} {w w1 : World} (h : RStep pr w w1) (hn : w.heap.size ≤ nb) (cs : Array Value) : RStep pr w (w1.setRow nb cs) :=
  ⟨h.os, h.tape, h.output, by rw [setRow_size]; exact h.size, fun k hk hp => by rw [setRow_other _ _ _ _ (by omega)]; exact h.block k hk hp⟩
theorem RStep.put {pr nb i : Nat} {w w1 : World} (h : RStep pr w w1) (hn : w.heap.size ≤ nb) (v : Value) : RStep pr w (w1.setCell ⟨nb, i, none⟩ v) :=
  ⟨h.os, h.tape, h.output, by simp only [World.setCell, Array.size_modify]; exact h.size, fun k hk hp => by rw [heap_setCell_other _ _ _ _ (by simp only [ne_eq]; omega)]; exact h.block k hk hp⟩
theorem below_row {B nb : Nat} (w : World) (hn : B ≤ nb) (cs : Array Value) : Below B w (w.setRow nb cs) :=
  ⟨rfl, rfl, rfl, by rw [setRow_size]; omega, fun k hk => setRow_other _ _ _ _ (by omega)⟩
theorem below_put {B nb i : Nat} (w : World) (hn : B ≤ nb) (v : Value) : Below B w (w.setCell ⟨nb, i, none⟩ v) :=
  ⟨rfl, rfl, rfl, by simp [World.setCell], fun k hk => heap_setCell_other _ _ _ _ (by simp only [ne_eq]; omega)⟩
theorem Errs.below {w w' : World} {B : Nat} (h : Errs w) (s : Below B w w') (hB : 3 < B) : Errs w' := by
  obtain ⟨⟨t, x, h2⟩, u, y, h3⟩ := h
  exact ⟨⟨t, x, by rw [s.cell (p := ⟨2, 0, none⟩) (show 2 < B by omega)]; exact h2⟩, ⟨u, y, by rw [s.cell (p := ⟨3, 0, none⟩) (show 3 < B by omega)]; exact h3⟩⟩
abbrev zeroA : Array Value := #[.int .i64 0, .string ⟨#[]⟩, .int .i64 0, .int .i64 0, .int .i64 0, .int .i64 0, .slice none 0 0, .slice none 0 0]
theorem size25 : (Tryz.prog.info? 26).map (·.size) = some 8 := by kernel_rfl
/-- All that a function which reads parts needs of its world. -/
structure RdCtx (w : World) (pr B : Nat) (R : Rd) (v : Value) : Prop where
  rd : RdAt w pr B R v
  errs : Errs w
  p3 : 3 < pr
  pB : pr < B
  hB : B ≤ w.heap.size
  small : SmallP R.parts
  len : R.parts.length ≤ 10000000
def noKind (A : PAct) : PAct := ⟨0, A.who, A.change, A.priority, A.at_, A.count, A.files, A.picks⟩
/-- An own row is there wherever the blocks from its base on are the same. -/
theorem own_from {w w'' : World} {base : Nat} {e : TypeId} {size : Nat} {v : Value} {n : Nat} {xs : List Value} (h : w.ownsRow base e size v n xs) (hk : ∀ k, base ≤ k → k < w.heap.size → w''.heap[k]? = w.heap[k]?) : w''.ownsRow base e size v n xs := by
  refine ⟨h.1, h.2.imp id ?_⟩
  rintro ⟨g, cap, cur, hv, hb, hg, hr⟩
  have hlt := (Array.getElem?_eq_some_iff.1 hg).1
  exact ⟨g, cap, cur, hv, hb, by rw [hk g hb hlt]; exact hg, hr⟩
/-- An input whose slices lie in the blocks from base on. -/
def ActFrom (base : Nat) (w : World) (A : PAct) (vf vp : Value) : Prop := ∀ w'' : World, (∀ k, base ≤ k → k < w.heap.size → w''.heap[k]? = w.heap[k]?) → ActAt w'' A vf vp
theorem ActFrom.now {base : Nat} {w : World} {A : PAct} {vf vp : Value} (h : ActFrom base w A vf vp) : ActAt w A vf vp := h w (fun _ _ _ => rfl)
/-- What a function that reads parts promises. -/
def ReadsA (f : FuncId) (k : Int) : Prop :=
  ∀ (pr B : Nat) (R : Rd) (v : Value) (w : World), RdCtx w pr B R v → Calls Tryz.prog f #[.pointer (some ⟨pr, 0, none⟩)] w fun e w' => ∃ vf vp v', e = .returned (actV (noKind (readP k R).1) vf vp) ∧ ActFrom w.heap.size w' (noKind (readP k R).1) vf vp ∧ RdAt w' pr B (readP k R).2 v' ∧ RStep pr w w'
theorem zi64 : I64 0 := ⟨by omega, by omega⟩
theorem act_zero {w : World} (who : ByteArray) (c p a o : Int) (hc : I64 c) (hp : I64 p) (ha : I64 a) (ho : I64 o) : ActAt w ⟨0, who, c, p, a, o, [], []⟩ (.slice none 0 0) (.slice none 0 0) :=
  ⟨⟨none, 0, rfl, by simp, .inl rfl⟩, ⟨none, 0, rfl, by simp, by simp, .inl rfl⟩, zi64, hc, hp, ha, ho⟩
theorem number_range (R : Rd) : I64 R.number.1 := atoiV_range _
set_option maxHeartbeats 1000000 in
theorem read_tick : ReadsA 37 3 := by
  intro pr B R v w h
  have HC := Lib.hid h
  have HG := Lib.hid (Grow.alloc w (.cells zeroA 26))
  have HE := Lib.hid (show (readP 3 R) = (act0 3, R) by unfold readP; simp)
  clear h
  refine calls_of_wE Tryz.func37 rfl Tryz.ntmps37 (by simp) ?_
  repeat' (first | with_reducible (first | refine wE_seq (fun K hK => ?_) | refine wE_block ?_ | refine wE_skip ?_ | refine wE_ret ?_ | refine wE_exit ?_) | ((with_reducible refine wE_region ?_ ?_); (kernel_rfl); simp only [ls, stripO]) | ((with_reducible refine wS_step (fun K hK => ?_)); simp [go_sem, lk, upd, envOf, stepS_value, stepS_skip, stepS_enter, ↓IntWalk.iteOmega, *]; (try go_ints); refine hK.out _ _ ?_; clear hK K) | ((with_reducible refine wS_unit (fun K hK => ?_)); simp [go_sem, lk, upd, envOf, stepS_value, stepS_skip, stepS_enter, ↓IntWalk.iteOmega, *]; (try go_ints); refine hK.out _ _ ?_; clear hK K) | ((with_reducible refine wS_skip ?_ ?_); (focus (simp [lk, upd, envOf, *]; done))) | ((with_reducible refine wS_want ?_ ?_); (focus (simp [lk, upd, envOf, *]; done))) | ((with_reducible refine wS_split (fun hc => ?_) (fun hc => ?_)) <;> simp [lk, upd, envOf, *] at hc <;> try (exfalso; omega)) | with_reducible refine wS_nil ?_ | simp only [thenE, blockE, ↓reduceIte, Nat.reduceEqDiff] | ((with_reducible refine hK.out _ _ ?_); clear hK K) | ((with_reducible refine wE_if ?_ (fun hc => ?_) (fun hc => ?_)); (focus (simp [lk, upd, envOf, *]; done)); all_goals (simp [lk, upd, envOf, *] at hc <;> try (exfalso; omega))) | (clear hK; clear K))
  refine endE_cell rfl (by simp [upd]; rfl) (by simp [go_sem]; rfl) ⟨.slice none 0 0, .slice none 0 0, v, ?_, ?_, ?_, RStep.grow HG.out⟩
  · rw [HE.out]; rfl
  · rw [HE.out]; exact fun _ _ => act_zero _ _ _ _ _ zi64 zi64 zi64 zi64
  · rw [HE.out]; exact HC.out.rd.grow HG.out
set_option maxHeartbeats 2000000 in
theorem read_count (k : Int) (hk : k = 5 ∨ k = 8) : ReadsA 68 k := by
  intro pr B R v w h
  have hg := Grow.alloc w (.cells zeroA 26)
  have hz : (w.alloc (.cells zeroA 26)).heap[w.heap.size]? = some (.cells zeroA 26 (0, 0)) := heap_alloc_new w _
  have HE := Lib.hid (show (readP k R) = (⟨k, ⟨#[]⟩, 0, 0, 0, R.number.1, [], []⟩, R.number.2) by unfold readP; rw [if_neg (by omega), if_neg (by omega), if_neg (by omega), if_pos (by omega)])
  have HNR := Lib.hid (number_range R)
  have HC := Lib.hid h
  clear h hk
  refine calls_of_wE Tryz.func68 rfl Tryz.ntmps68 (by simp) ?_
  repeat' (first | with_reducible (first | refine wE_seq (fun K hK => ?_) | refine wE_block ?_ | refine wE_skip ?_ | refine wE_ret ?_ | refine wE_exit ?_) | simp only [thenE, blockE, ↓reduceIte, Nat.reduceEqDiff] | ((with_reducible refine hK.out _ _ ?_); clear hK K) | ((with_reducible refine wE_if ?_ (fun hc => ?_) (fun hc => ?_)); (focus (simp [lk, upd, envOf, *]; done)); all_goals (simp [lk, upd, envOf, *] at hc <;> try (exfalso; omega))) | (clear hK; clear K))
  ((with_reducible refine wE_region ?_ ?_); (kernel_rfl); simp only [ls, stripO])
  repeat' (first | ((with_reducible refine wS_step (fun K hK => ?_)); simp [go_sem, lk, upd, envOf, stepS_value, stepS_skip, stepS_enter, ↓IntWalk.iteOmega, *]; (try go_ints); refine hK.out _ _ ?_; clear hK K) | ((with_reducible refine wS_unit (fun K hK => ?_)); simp [go_sem, lk, upd, envOf, stepS_value, stepS_skip, stepS_enter, ↓IntWalk.iteOmega, *]; (try go_ints); refine hK.out _ _ ?_; clear hK K) | ((with_reducible refine wS_skip ?_ ?_); (focus (simp [lk, upd, envOf, *]; done))) | ((with_reducible refine wS_want ?_ ?_); (focus (simp [lk, upd, envOf, *]; done))) | ((with_reducible refine wS_split (fun hc => ?_) (fun hc => ?_)) <;> simp [lk, upd, envOf, *] at hc <;> try (exfalso; omega)) | with_reducible refine wS_nil ?_)
  generalize w.alloc (.cells zeroA 26) = w0 at *
  have HZ := Lib.hid hz
  have HS0 := Lib.hid (RStep.grow (pr := pr) hg)
  have HR0 := Lib.hid (HC.out.rd.grow hg)
  have HE0 := Lib.hid (HC.out.errs.grow hg)
  have hws : w.heap.size < w0.heap.size := (Array.getElem?_eq_some_iff.1 hz).1
  have hpw : pr < w.heap.size := Nat.lt_of_lt_of_le HC.out.pB HC.out.hB
  clear hg hz
  repeat' (first | with_reducible (first | refine wE_seq (fun K hK => ?_) | refine wE_block ?_ | refine wE_skip ?_ | refine wE_ret ?_ | refine wE_exit ?_) | ((with_reducible refine wE_region ?_ ?_); (kernel_rfl); simp only [ls, stripO]) | ((with_reducible refine wS_step (fun K hK => ?_)); simp [go_sem, lk, upd, envOf, stepS_value, stepS_skip, stepS_enter, ↓IntWalk.iteOmega, *]; (try go_ints); refine hK.out _ _ ?_; clear hK K) | ((with_reducible refine wS_unit (fun K hK => ?_)); simp [go_sem, lk, upd, envOf, stepS_value, stepS_skip, stepS_enter, ↓IntWalk.iteOmega, *]; (try go_ints); refine hK.out _ _ ?_; clear hK K) | ((with_reducible refine wS_skip ?_ ?_); (focus (simp [lk, upd, envOf, *]; done))) | ((with_reducible refine wS_want ?_ ?_); (focus (simp [lk, upd, envOf, *]; done))) | ((with_reducible refine wS_split (fun hc => ?_) (fun hc => ?_)) <;> simp [lk, upd, envOf, *] at hc <;> try (exfalso; omega)) | with_reducible refine wS_nil ?_ | simp only [thenE, blockE, ↓reduceIte, Nat.reduceEqDiff] | ((with_reducible refine hK.out _ _ ?_); clear hK K) | ((with_reducible refine wE_if ?_ (fun hc => ?_) (fun hc => ?_)); (focus (simp [lk, upd, envOf, *]; done)); all_goals (simp [lk, upd, envOf, *] at hc <;> try (exfalso; omega))) | (clear hK; clear K))
  (with_reducible refine wS_step (fun K hK => ?_)); simp [go_sem, lk, upd, envOf, stepS_value, stepS_skip, stepS_enter, ↓IntWalk.iteOmega, *]; (try go_ints); refine (number_r pr B R v _ HR0.out HE0.out HC.out.p3 HC.out.small).mono ?_; rintro e w1 ⟨rfl, v1, hr1, hs1⟩; refine ⟨_, rfl, hK.out _ _ ?_⟩; clear hK K
  have HR1 := Lib.hid hr1
  have HS1 := Lib.hid (HS0.out.trans hs1)
  have HZ1 := Lib.hid (show w1.heap[w.heap.size]? = some (.cells zeroA 26 (0, 0)) by rw [hs1.block _ hws (by omega)]; exact HZ.out)
  clear hr1 hs1
  repeat' (first | with_reducible (first | refine wE_seq (fun K hK => ?_) | refine wE_block ?_ | refine wE_skip ?_ | refine wE_ret ?_ | refine wE_exit ?_) | ((with_reducible refine wE_region ?_ ?_); (kernel_rfl); simp only [ls, stripO]) | ((with_reducible refine wS_step (fun K hK => ?_)); simp [go_sem, lk, upd, envOf, stepS_value, stepS_skip, stepS_enter, ↓IntWalk.iteOmega, *]; (try go_ints); refine hK.out _ _ ?_; clear hK K) | ((with_reducible refine wS_unit (fun K hK => ?_)); simp [go_sem, lk, upd, envOf, stepS_value, stepS_skip, stepS_enter, ↓IntWalk.iteOmega, *]; (try go_ints); refine hK.out _ _ ?_; clear hK K) | ((with_reducible refine wS_skip ?_ ?_); (focus (simp [lk, upd, envOf, *]; done))) | ((with_reducible refine wS_want ?_ ?_); (focus (simp [lk, upd, envOf, *]; done))) | ((with_reducible refine wS_split (fun hc => ?_) (fun hc => ?_)) <;> simp [lk, upd, envOf, *] at hc <;> try (exfalso; omega)) | with_reducible refine wS_nil ?_ | simp only [thenE, blockE, ↓reduceIte, Nat.reduceEqDiff] | ((with_reducible refine hK.out _ _ ?_); clear hK K) | ((with_reducible refine wE_if ?_ (fun hc => ?_) (fun hc => ?_)); (focus (simp [lk, upd, envOf, *]; done)); all_goals (simp [lk, upd, envOf, *] at hc <;> try (exfalso; omega))) | (clear hK; clear K))
  refine wS_storeRow w.heap.size #[.int .i64 0, .string ⟨#[]⟩, .int .i64 0, .int .i64 0, .int .i64 0, .int .i64 R.number.1, .slice none 0 0, .slice none 0 0] zeroA (by simp [evalS_tmp, upd]) (by simp [evalS_tmp, upd]) HZ1.out size25 rfl (by simp [Value.oneCell']) ?_
  repeat' (first | with_reducible (first | refine wE_seq (fun K hK => ?_) | refine wE_block ?_ | refine wE_skip ?_ | refine wE_ret ?_ | refine wE_exit ?_) | ((with_reducible refine wE_region ?_ ?_); (kernel_rfl); simp only [ls, stripO]) | ((with_reducible refine wS_step (fun K hK => ?_)); simp [go_sem, lk, upd, envOf, stepS_value, stepS_skip, stepS_enter, ↓IntWalk.iteOmega, *]; (try go_ints); refine hK.out _ _ ?_; clear hK K) | ((with_reducible refine wS_unit (fun K hK => ?_)); simp [go_sem, lk, upd, envOf, stepS_value, stepS_skip, stepS_enter, ↓IntWalk.iteOmega, *]; (try go_ints); refine hK.out _ _ ?_; clear hK K) | ((with_reducible refine wS_skip ?_ ?_); (focus (simp [lk, upd, envOf, *]; done))) | ((with_reducible refine wS_want ?_ ?_); (focus (simp [lk, upd, envOf, *]; done))) | ((with_reducible refine wS_split (fun hc => ?_) (fun hc => ?_)) <;> simp [lk, upd, envOf, *] at hc <;> try (exfalso; omega)) | with_reducible refine wS_nil ?_ | simp only [thenE, blockE, ↓reduceIte, Nat.reduceEqDiff] | ((with_reducible refine hK.out _ _ ?_); clear hK K) | ((with_reducible refine wE_if ?_ (fun hc => ?_) (fun hc => ?_)); (focus (simp [lk, upd, envOf, *]; done)); all_goals (simp [lk, upd, envOf, *] at hc <;> try (exfalso; omega))) | (clear hK; clear K))
  refine endE_cell rfl (by simp [upd]) (run_loadVar_row _ w.heap.size 26 26 _ (0, 0) _ (setRow_heap _ _ _ _ _ _ HZ1.out) Tryz.underlying26 rfl size25) ⟨.slice none 0 0, .slice none 0 0, v1, ?_, ?_, ?_, HS1.out.row (Nat.le_refl _) _⟩
  · rw [HE.out]; rfl
  · rw [HE.out]; exact fun _ _ => act_zero _ _ _ _ _ zi64 zi64 zi64 HNR.out
  · rw [HE.out]; exact HR1.out.below (below_row _ HC.out.hB _) HC.out.pB
set_option maxHeartbeats 2000000 in
theorem read_person (k : Int) (hk : k = 2 ∨ k = 7) : ReadsA 66 k := by
  intro pr B R v w h
  have hg := Grow.alloc w (.cells zeroA 26)
  have hz : (w.alloc (.cells zeroA 26)).heap[w.heap.size]? = some (.cells zeroA 26 (0, 0)) := heap_alloc_new w _
  have HE := Lib.hid (show (readP k R) = (⟨k, (R.next true).1, (R.next true).2.number.1, 0, 0, 0, [], []⟩, (R.next true).2.number.2) by unfold readP; rw [if_neg (by omega), if_pos (by omega)])
  have HC := Lib.hid h
  have HNS := Lib.hid (next_small h.small true)
  clear h hk
  generalize hnx : R.next true = nx at *
  obtain ⟨who, R1⟩ := nx
  simp only at *
  have HNR := Lib.hid (number_range R1)
  have HNX := Lib.hid hnx
  clear hnx
  refine calls_of_wE Tryz.func66 rfl Tryz.ntmps66 (by simp) ?_
  repeat' (first | with_reducible (first | refine wE_seq (fun K hK => ?_) | refine wE_block ?_ | refine wE_skip ?_ | refine wE_ret ?_ | refine wE_exit ?_) | simp only [thenE, blockE, ↓reduceIte, Nat.reduceEqDiff] | ((with_reducible refine hK.out _ _ ?_); clear hK K) | ((with_reducible refine wE_if ?_ (fun hc => ?_) (fun hc => ?_)); (focus (simp [lk, upd, envOf, *]; done)); all_goals (simp [lk, upd, envOf, *] at hc <;> try (exfalso; omega))) | (clear hK; clear K))
  ((with_reducible refine wE_region ?_ ?_); (kernel_rfl); simp only [ls, stripO])
  repeat' (first | ((with_reducible refine wS_step (fun K hK => ?_)); simp [go_sem, lk, upd, envOf, stepS_value, stepS_skip, stepS_enter, ↓IntWalk.iteOmega, *]; (try go_ints); refine hK.out _ _ ?_; clear hK K) | ((with_reducible refine wS_unit (fun K hK => ?_)); simp [go_sem, lk, upd, envOf, stepS_value, stepS_skip, stepS_enter, ↓IntWalk.iteOmega, *]; (try go_ints); refine hK.out _ _ ?_; clear hK K) | ((with_reducible refine wS_skip ?_ ?_); (focus (simp [lk, upd, envOf, *]; done))) | ((with_reducible refine wS_want ?_ ?_); (focus (simp [lk, upd, envOf, *]; done))) | ((with_reducible refine wS_split (fun hc => ?_) (fun hc => ?_)) <;> simp [lk, upd, envOf, *] at hc <;> try (exfalso; omega)) | with_reducible refine wS_nil ?_)
  generalize w.alloc (.cells zeroA 26) = w0 at *
  have HZ := Lib.hid hz
  have HS0 := Lib.hid (RStep.grow (pr := pr) hg)
  have HR0 := Lib.hid (HC.out.rd.grow hg)
  have HE0 := Lib.hid (HC.out.errs.grow hg)
  have hws : w.heap.size < w0.heap.size := (Array.getElem?_eq_some_iff.1 hz).1
  have hpw : pr < w.heap.size := Nat.lt_of_lt_of_le HC.out.pB HC.out.hB
  have hp3 : 3 < pr := HC.out.p3
  clear hg hz
  have HN0 := Lib.hid (next_r pr B R v true w0 HR0.out)
  rw [HNX.out] at HN0
  repeat' (first | with_reducible (first | refine wE_seq (fun K hK => ?_) | refine wE_block ?_ | refine wE_skip ?_ | refine wE_ret ?_ | refine wE_exit ?_) | ((with_reducible refine wE_region ?_ ?_); (kernel_rfl); simp only [ls, stripO]) | ((with_reducible refine wS_step (fun K hK => ?_)); simp [go_sem, lk, upd, envOf, stepS_value, stepS_skip, stepS_enter, ↓IntWalk.iteOmega, *]; (try go_ints); refine hK.out _ _ ?_; clear hK K) | ((with_reducible refine wS_unit (fun K hK => ?_)); simp [go_sem, lk, upd, envOf, stepS_value, stepS_skip, stepS_enter, ↓IntWalk.iteOmega, *]; (try go_ints); refine hK.out _ _ ?_; clear hK K) | ((with_reducible refine wS_skip ?_ ?_); (focus (simp [lk, upd, envOf, *]; done))) | ((with_reducible refine wS_want ?_ ?_); (focus (simp [lk, upd, envOf, *]; done))) | ((with_reducible refine wS_split (fun hc => ?_) (fun hc => ?_)) <;> simp [lk, upd, envOf, *] at hc <;> try (exfalso; omega)) | with_reducible refine wS_nil ?_ | simp only [thenE, blockE, ↓reduceIte, Nat.reduceEqDiff] | ((with_reducible refine hK.out _ _ ?_); clear hK K) | ((with_reducible refine wE_if ?_ (fun hc => ?_) (fun hc => ?_)); (focus (simp [lk, upd, envOf, *]; done)); all_goals (simp [lk, upd, envOf, *] at hc <;> try (exfalso; omega))) | (clear hK; clear K))
  (with_reducible refine wS_step (fun K hK => ?_)); simp [go_sem, lk, upd, envOf, stepS_value, stepS_skip, stepS_enter, ↓IntWalk.iteOmega, *]; (try go_ints); refine (HN0.out).mono ?_; rintro e w1 ⟨rfl, v1, hr1, hs1⟩; refine ⟨_, rfl, hK.out _ _ ?_⟩; clear hK K
  have HR1 := Lib.hid hr1
  have HS1 := Lib.hid (HS0.out.trans hs1)
  have HE1 := Lib.hid (HE0.out.step hs1 hp3)
  have HZ1 := Lib.hid (show w1.heap[w.heap.size]? = some (.cells zeroA 26 (0, 0)) by rw [hs1.block _ hws (by omega)]; exact HZ.out)
  have hws1 : w.heap.size < w1.heap.size := Nat.lt_of_lt_of_le hws hs1.size
  clear hr1 hs1
  repeat' (first | with_reducible (first | refine wE_seq (fun K hK => ?_) | refine wE_block ?_ | refine wE_skip ?_ | refine wE_ret ?_ | refine wE_exit ?_) | ((with_reducible refine wE_region ?_ ?_); (kernel_rfl); simp only [ls, stripO]) | ((with_reducible refine wS_step (fun K hK => ?_)); simp [go_sem, lk, upd, envOf, stepS_value, stepS_skip, stepS_enter, ↓IntWalk.iteOmega, *]; (try go_ints); refine hK.out _ _ ?_; clear hK K) | ((with_reducible refine wS_unit (fun K hK => ?_)); simp [go_sem, lk, upd, envOf, stepS_value, stepS_skip, stepS_enter, ↓IntWalk.iteOmega, *]; (try go_ints); refine hK.out _ _ ?_; clear hK K) | ((with_reducible refine wS_skip ?_ ?_); (focus (simp [lk, upd, envOf, *]; done))) | ((with_reducible refine wS_want ?_ ?_); (focus (simp [lk, upd, envOf, *]; done))) | ((with_reducible refine wS_split (fun hc => ?_) (fun hc => ?_)) <;> simp [lk, upd, envOf, *] at hc <;> try (exfalso; omega)) | with_reducible refine wS_nil ?_ | simp only [thenE, blockE, ↓reduceIte, Nat.reduceEqDiff] | ((with_reducible refine hK.out _ _ ?_); clear hK K) | ((with_reducible refine wE_if ?_ (fun hc => ?_) (fun hc => ?_)); (focus (simp [lk, upd, envOf, *]; done)); all_goals (simp [lk, upd, envOf, *] at hc <;> try (exfalso; omega))) | (clear hK; clear K))
  (with_reducible refine wS_step (fun K hK => ?_)); simp [go_sem, lk, upd, envOf, stepS_value, stepS_skip, stepS_enter, ↓IntWalk.iteOmega, *]; (try go_ints); refine (number_r pr B R1 v1 _ HR1.out HE1.out hp3 HNS.out.2).mono ?_; rintro e w2 ⟨rfl, v2, hr2, hs2⟩; refine ⟨_, rfl, hK.out _ _ ?_⟩; clear hK K
  have HR2 := Lib.hid hr2
  have HS2 := Lib.hid (HS1.out.trans hs2)
  have HZ2 := Lib.hid (show w2.heap[w.heap.size]? = some (.cells zeroA 26 (0, 0)) by rw [hs2.block _ hws1 (by omega)]; exact HZ1.out)
  clear hr2 hs2
  repeat' (first | with_reducible (first | refine wE_seq (fun K hK => ?_) | refine wE_block ?_ | refine wE_skip ?_ | refine wE_ret ?_ | refine wE_exit ?_) | ((with_reducible refine wE_region ?_ ?_); (kernel_rfl); simp only [ls, stripO]) | ((with_reducible refine wS_step (fun K hK => ?_)); simp [go_sem, lk, upd, envOf, stepS_value, stepS_skip, stepS_enter, ↓IntWalk.iteOmega, *]; (try go_ints); refine hK.out _ _ ?_; clear hK K) | ((with_reducible refine wS_unit (fun K hK => ?_)); simp [go_sem, lk, upd, envOf, stepS_value, stepS_skip, stepS_enter, ↓IntWalk.iteOmega, *]; (try go_ints); refine hK.out _ _ ?_; clear hK K) | ((with_reducible refine wS_skip ?_ ?_); (focus (simp [lk, upd, envOf, *]; done))) | ((with_reducible refine wS_want ?_ ?_); (focus (simp [lk, upd, envOf, *]; done))) | ((with_reducible refine wS_split (fun hc => ?_) (fun hc => ?_)) <;> simp [lk, upd, envOf, *] at hc <;> try (exfalso; omega)) | with_reducible refine wS_nil ?_ | simp only [thenE, blockE, ↓reduceIte, Nat.reduceEqDiff] | ((with_reducible refine hK.out _ _ ?_); clear hK K) | ((with_reducible refine wE_if ?_ (fun hc => ?_) (fun hc => ?_)); (focus (simp [lk, upd, envOf, *]; done)); all_goals (simp [lk, upd, envOf, *] at hc <;> try (exfalso; omega))) | (clear hK; clear K))
  refine wS_storeRow w.heap.size #[.int .i64 0, .string who, .int .i64 R1.number.1, .int .i64 0, .int .i64 0, .int .i64 0, .slice none 0 0, .slice none 0 0] zeroA (by simp [evalS_tmp, upd]) (by simp [evalS_tmp, upd]) HZ2.out size25 rfl (by simp [Value.oneCell']) ?_
  repeat' (first | with_reducible (first | refine wE_seq (fun K hK => ?_) | refine wE_block ?_ | refine wE_skip ?_ | refine wE_ret ?_ | refine wE_exit ?_) | ((with_reducible refine wE_region ?_ ?_); (kernel_rfl); simp only [ls, stripO]) | ((with_reducible refine wS_step (fun K hK => ?_)); simp [go_sem, lk, upd, envOf, stepS_value, stepS_skip, stepS_enter, ↓IntWalk.iteOmega, *]; (try go_ints); refine hK.out _ _ ?_; clear hK K) | ((with_reducible refine wS_unit (fun K hK => ?_)); simp [go_sem, lk, upd, envOf, stepS_value, stepS_skip, stepS_enter, ↓IntWalk.iteOmega, *]; (try go_ints); refine hK.out _ _ ?_; clear hK K) | ((with_reducible refine wS_skip ?_ ?_); (focus (simp [lk, upd, envOf, *]; done))) | ((with_reducible refine wS_want ?_ ?_); (focus (simp [lk, upd, envOf, *]; done))) | ((with_reducible refine wS_split (fun hc => ?_) (fun hc => ?_)) <;> simp [lk, upd, envOf, *] at hc <;> try (exfalso; omega)) | with_reducible refine wS_nil ?_ | simp only [thenE, blockE, ↓reduceIte, Nat.reduceEqDiff] | ((with_reducible refine hK.out _ _ ?_); clear hK K) | ((with_reducible refine wE_if ?_ (fun hc => ?_) (fun hc => ?_)); (focus (simp [lk, upd, envOf, *]; done)); all_goals (simp [lk, upd, envOf, *] at hc <;> try (exfalso; omega))) | (clear hK; clear K))
  refine endE_cell rfl (by simp [upd]) (run_loadVar_row _ w.heap.size 26 26 _ (0, 0) _ (setRow_heap _ _ _ _ _ _ HZ2.out) Tryz.underlying26 rfl size25) ⟨.slice none 0 0, .slice none 0 0, v2, ?_, ?_, ?_, HS2.out.row (Nat.le_refl _) _⟩
  · rw [HE.out]; rfl
  · rw [HE.out]; exact fun _ _ => act_zero _ _ _ _ _ HNR.out zi64 zi64 zi64
  · rw [HE.out]; exact HR2.out.below (below_row _ HC.out.hB _) HC.out.pB
theorem own_one {w : World} {base : Nat} {e : TypeId} {size : Nat} {v : Value} {n : Nat} {xs : List Value} (h : w.ownsRow base e size v n xs) : v.oneCell' = true := by
  rcases h.2 with ⟨rfl, _⟩ | ⟨g, cap, cur, rfl, _⟩ <;> rfl
/-- An own row stays where another own block is written. -/
theorem own_row_put {w : World} {base nb : Nat} {e : TypeId} {size : Nat} {v : Value} {n : Nat} {xs : List Value} (h : w.ownsRow base e size v n xs) (hn : nb < base) (cs : Array Value) : (w.setRow nb cs).ownsRow base e size v n xs :=
  h.kept (row := some nb) ⟨rfl, rfl, rfl, by rw [setRow_size]; omega, fun k hk hr => setRow_other _ _ _ _ (fun e => hr (by rw [e]))⟩ (by
    cases hv : v.ownBlock with
    | none => simp
    | some k => have := h.lt k hv; simp; omega)
theorem own_cell_put {w : World} {base nb i : Nat} {e : TypeId} {size : Nat} {v : Value} {n : Nat} {xs : List Value} (h : w.ownsRow base e size v n xs) (hn : nb < base) (u : Value) : (w.setCell ⟨nb, i, none⟩ u).ownsRow base e size v n xs :=
  ownsRow_setCell_below h hn u
set_option maxHeartbeats 2000000 in
set_option maxRecDepth 100000 in
theorem read_cut : ReadsA 40 4 := by
  intro pr B R v w h
  have hg := Grow.alloc w (.cells zeroA 26)
  have hz : (w.alloc (.cells zeroA 26)).heap[w.heap.size]? = some (.cells zeroA 26 (0, 0)) := heap_alloc_new w _
  have HE := Lib.hid (show (readP 4 R) = (⟨4, ⟨#[]⟩, 0, 0, 0, 0, [], R.picks.1⟩, R.picks.2) by unfold readP; simp)
  have HC := Lib.hid h
  clear h
  refine calls_of_wE Tryz.func40 rfl Tryz.ntmps40 (by simp) ?_
  repeat' (first | with_reducible (first | refine wE_seq (fun K hK => ?_) | refine wE_block ?_ | refine wE_skip ?_ | refine wE_ret ?_ | refine wE_exit ?_) | simp only [thenE, blockE, ↓reduceIte, Nat.reduceEqDiff] | ((with_reducible refine hK.out _ _ ?_); clear hK K) | ((with_reducible refine wE_if ?_ (fun hc => ?_) (fun hc => ?_)); (focus (simp [lk, upd, envOf, *]; done)); all_goals (simp [lk, upd, envOf, *] at hc <;> try (exfalso; omega))) | (clear hK; clear K))
  ((with_reducible refine wE_region ?_ ?_); (kernel_rfl); simp only [ls, stripO])
  repeat' (first | ((with_reducible refine wS_step (fun K hK => ?_)); simp [go_sem, lk, upd, envOf, stepS_value, stepS_skip, stepS_enter, ↓IntWalk.iteOmega, *]; (try go_ints); refine hK.out _ _ ?_; clear hK K) | ((with_reducible refine wS_unit (fun K hK => ?_)); simp [go_sem, lk, upd, envOf, stepS_value, stepS_skip, stepS_enter, ↓IntWalk.iteOmega, *]; (try go_ints); refine hK.out _ _ ?_; clear hK K) | ((with_reducible refine wS_skip ?_ ?_); (focus (simp [lk, upd, envOf, *]; done))) | ((with_reducible refine wS_want ?_ ?_); (focus (simp [lk, upd, envOf, *]; done))) | ((with_reducible refine wS_split (fun hc => ?_) (fun hc => ?_)) <;> simp [lk, upd, envOf, *] at hc <;> try (exfalso; omega)) | with_reducible refine wS_nil ?_)
  generalize w.alloc (.cells zeroA 26) = w0 at *
  have HZ := Lib.hid hz
  have HS0 := Lib.hid (RStep.grow (pr := pr) hg)
  have HR0 := Lib.hid (HC.out.rd.grow hg)
  have HE0 := Lib.hid (HC.out.errs.grow hg)
  have hws : w.heap.size < w0.heap.size := (Array.getElem?_eq_some_iff.1 hz).1
  have hpw : pr < w.heap.size := Nat.lt_of_lt_of_le HC.out.pB HC.out.hB
  have hp3 : 3 < pr := HC.out.p3
  clear hg hz
  repeat' (first | with_reducible (first | refine wE_seq (fun K hK => ?_) | refine wE_block ?_ | refine wE_skip ?_ | refine wE_ret ?_ | refine wE_exit ?_) | ((with_reducible refine wE_region ?_ ?_); (kernel_rfl); simp only [ls, stripO]) | ((with_reducible refine wS_step (fun K hK => ?_)); simp [go_sem, lk, upd, envOf, stepS_value, stepS_skip, stepS_enter, ↓IntWalk.iteOmega, *]; (try go_ints); refine hK.out _ _ ?_; clear hK K) | ((with_reducible refine wS_unit (fun K hK => ?_)); simp [go_sem, lk, upd, envOf, stepS_value, stepS_skip, stepS_enter, ↓IntWalk.iteOmega, *]; (try go_ints); refine hK.out _ _ ?_; clear hK K) | ((with_reducible refine wS_skip ?_ ?_); (focus (simp [lk, upd, envOf, *]; done))) | ((with_reducible refine wS_want ?_ ?_); (focus (simp [lk, upd, envOf, *]; done))) | ((with_reducible refine wS_split (fun hc => ?_) (fun hc => ?_)) <;> simp [lk, upd, envOf, *] at hc <;> try (exfalso; omega)) | with_reducible refine wS_nil ?_ | simp only [thenE, blockE, ↓reduceIte, Nat.reduceEqDiff] | ((with_reducible refine hK.out _ _ ?_); clear hK K) | ((with_reducible refine wE_if ?_ (fun hc => ?_) (fun hc => ?_)); (focus (simp [lk, upd, envOf, *]; done)); all_goals (simp [lk, upd, envOf, *] at hc <;> try (exfalso; omega))) | (clear hK; clear K))
  (with_reducible refine wS_step (fun K hK => ?_)); simp [go_sem, lk, upd, envOf, stepS_value, stepS_skip, stepS_enter, ↓IntWalk.iteOmega, *]; (try go_ints); refine (picks_r pr B R v _ HR0.out HE0.out hp3 (Nat.le_trans HC.out.hB (by omega)) HC.out.pB HC.out.small HC.out.len).mono ?_; rintro e w1 ⟨vf, v1, rfl, ho1, hi1, hr1, hs1⟩; refine ⟨_, rfl, hK.out _ _ ?_⟩; clear hK K
  have ho1c := ho1.2
  have HO1 := Lib.hid ho1
  have HI1 := Lib.hid hi1
  have HR1 := Lib.hid hr1
  have HS1 := Lib.hid (HS0.out.trans hs1)
  have HZ1 := Lib.hid (show w1.heap[w.heap.size]? = some (.cells zeroA 26 (0, 0)) by rw [hs1.block _ hws (by omega)]; exact HZ.out)
  clear hr1 hs1 ho1 hi1
  have hstv : ∃ aa nn cc, vf = .slice aa nn cc := by
    rcases ho1c with ⟨rfl, _⟩ | ⟨g, cap, cur, rfl, _⟩ <;> exact ⟨_, _, _, rfl⟩
  clear ho1c
  obtain ⟨aa, nn, ccp, rfl⟩ := hstv
  repeat' (first | with_reducible (first | refine wE_seq (fun K hK => ?_) | refine wE_block ?_ | refine wE_skip ?_ | refine wE_ret ?_ | refine wE_exit ?_) | ((with_reducible refine wE_region ?_ ?_); (kernel_rfl); simp only [ls, stripO]) | ((with_reducible refine wS_step (fun K hK => ?_)); simp [go_sem, lk, upd, envOf, stepS_value, stepS_skip, stepS_enter, ↓IntWalk.iteOmega, *]; (try go_ints); refine hK.out _ _ ?_; clear hK K) | ((with_reducible refine wS_unit (fun K hK => ?_)); simp [go_sem, lk, upd, envOf, stepS_value, stepS_skip, stepS_enter, ↓IntWalk.iteOmega, *]; (try go_ints); refine hK.out _ _ ?_; clear hK K) | ((with_reducible refine wS_skip ?_ ?_); (focus (simp [lk, upd, envOf, *]; done))) | ((with_reducible refine wS_want ?_ ?_); (focus (simp [lk, upd, envOf, *]; done))) | ((with_reducible refine wS_split (fun hc => ?_) (fun hc => ?_)) <;> simp [lk, upd, envOf, *] at hc <;> try (exfalso; omega)) | with_reducible refine wS_nil ?_ | simp only [thenE, blockE, ↓reduceIte, Nat.reduceEqDiff] | ((with_reducible refine hK.out _ _ ?_); clear hK K) | ((with_reducible refine wE_if ?_ (fun hc => ?_) (fun hc => ?_)); (focus (simp [lk, upd, envOf, *]; done)); all_goals (simp [lk, upd, envOf, *] at hc <;> try (exfalso; omega))) | (clear hK; clear K))
  refine wS_storeRow w.heap.size #[.int .i64 0, .string ⟨#[]⟩, .int .i64 0, .int .i64 0, .int .i64 0, .int .i64 0, .slice none 0 0, .slice aa nn ccp] zeroA (by simp [evalS_tmp, upd]) (by simp [evalS_tmp, upd]) HZ1.out size25 rfl (by simp [Value.oneCell']) ?_
  repeat' (first | with_reducible (first | refine wE_seq (fun K hK => ?_) | refine wE_block ?_ | refine wE_skip ?_ | refine wE_ret ?_ | refine wE_exit ?_) | ((with_reducible refine wE_region ?_ ?_); (kernel_rfl); simp only [ls, stripO]) | ((with_reducible refine wS_step (fun K hK => ?_)); simp [go_sem, lk, upd, envOf, stepS_value, stepS_skip, stepS_enter, ↓IntWalk.iteOmega, *]; (try go_ints); refine hK.out _ _ ?_; clear hK K) | ((with_reducible refine wS_unit (fun K hK => ?_)); simp [go_sem, lk, upd, envOf, stepS_value, stepS_skip, stepS_enter, ↓IntWalk.iteOmega, *]; (try go_ints); refine hK.out _ _ ?_; clear hK K) | ((with_reducible refine wS_skip ?_ ?_); (focus (simp [lk, upd, envOf, *]; done))) | ((with_reducible refine wS_want ?_ ?_); (focus (simp [lk, upd, envOf, *]; done))) | ((with_reducible refine wS_split (fun hc => ?_) (fun hc => ?_)) <;> simp [lk, upd, envOf, *] at hc <;> try (exfalso; omega)) | with_reducible refine wS_nil ?_ | simp only [thenE, blockE, ↓reduceIte, Nat.reduceEqDiff] | ((with_reducible refine hK.out _ _ ?_); clear hK K) | ((with_reducible refine wE_if ?_ (fun hc => ?_) (fun hc => ?_)); (focus (simp [lk, upd, envOf, *]; done)); all_goals (simp [lk, upd, envOf, *] at hc <;> try (exfalso; omega))) | (clear hK; clear K))
  refine endE_cell rfl (by simp [upd]) (run_loadVar_row _ w.heap.size 26 26 _ (0, 0) _ (setRow_heap _ _ _ _ _ _ HZ1.out) Tryz.underlying26 rfl size25) ⟨.slice none 0 0, .slice aa nn ccp, v1, ?_, ?_, ?_, HS1.out.row (Nat.le_refl _) _⟩
  · rw [HE.out]; rfl
  · rw [HE.out]
    exact fun w'' hk => ⟨⟨none, 0, rfl, by simp [noKind], .inl rfl⟩, ints_own (own_from (own_row_put HO1.out hws _) (fun k a b => hk k (by omega) b)) HI1.out, zi64, zi64, zi64, zi64, zi64⟩
  · rw [HE.out]; exact HR1.out.below (below_row _ HC.out.hB _) HC.out.pB
theorem next_len (R : Rd) (q : Bool) : (R.next q).2.parts.length ≤ R.parts.length := by
  obtain ⟨ps, wr⟩ := R
  cases ps with
  | nil => simp [Rd.next]
  | cons p ps => simp only [Rd.next]; split <;> simp
set_option maxHeartbeats 4000000 in
set_option maxRecDepth 100000 in
theorem read_worker : ReadsA 44 6 := by
  intro pr B R v w h
  have hg := Grow.alloc w (.cells zeroA 26)
  have hz : (w.alloc (.cells zeroA 26)).heap[w.heap.size]? = some (.cells zeroA 26 (0, 0)) := heap_alloc_new w _
  have HE := Lib.hid (show (readP 6 R) = (⟨6, (R.next true).1, 0, 0, (R.next true).2.number.2.number.1, (R.next true).2.number.1, [], []⟩, (R.next true).2.number.2.number.2) by unfold readP; simp)
  have HC := Lib.hid h
  have HNS := Lib.hid (next_small h.small true)
  have HLN := Lib.hid (next_len R true)
  have hln := h.len
  clear h
  generalize hnx : R.next true = nx at *
  obtain ⟨who, R1⟩ := nx
  simp only at *
  have HNX := Lib.hid hnx
  clear hnx
  have HNR1 := Lib.hid (number_range R1)
  have HSM1 := Lib.hid (next_small HNS.out.2 false)
  have HLN1 := Lib.hid (next_len R1 false)
  have HQ1 := Lib.hid (show R1.number.2.parts = (R1.next false).2.parts from rfl)
  obtain ⟨R2, hR2⟩ : ∃ R2, R2 = R1.number.2 := ⟨_, rfl⟩
  rw [← hR2] at HE HQ1
  have HR2e := Lib.hid hR2
  clear hR2
  have HNR2 := Lib.hid (number_range R2)
  have HSM2 : Hid (SmallP R2.parts) := by rw [HQ1.out]; exact HSM1.out.2
  have HSM3 : Hid (SmallP R2.number.2.parts) := (next_small HSM2.out false).2
  have HL2 := Lib.hid (show R2.parts.length ≤ 10000000 by rw [HQ1.out]; exact Nat.le_trans HLN1.out (Nat.le_trans HLN.out hln))
  have HL3 := Lib.hid (show R2.number.2.parts.length ≤ 10000000 from Nat.le_trans (next_len R2 false) HL2.out)
  refine calls_of_wE Tryz.func44 rfl Tryz.ntmps44 (by simp) ?_
  repeat' (first | with_reducible (first | refine wE_seq (fun K hK => ?_) | refine wE_block ?_ | refine wE_skip ?_ | refine wE_ret ?_ | refine wE_exit ?_) | simp only [thenE, blockE, ↓reduceIte, Nat.reduceEqDiff] | ((with_reducible refine hK.out _ _ ?_); clear hK K) | ((with_reducible refine wE_if ?_ (fun hc => ?_) (fun hc => ?_)); (focus (simp [lk, upd, envOf, *]; done)); all_goals (simp [lk, upd, envOf, *] at hc <;> try (exfalso; omega))) | (clear hK; clear K))
  ((with_reducible refine wE_region ?_ ?_); (kernel_rfl); simp only [ls, stripO])
  repeat' (first | ((with_reducible refine wS_step (fun K hK => ?_)); simp [go_sem, lk, upd, envOf, stepS_value, stepS_skip, stepS_enter, ↓IntWalk.iteOmega, *]; (try go_ints); refine hK.out _ _ ?_; clear hK K) | ((with_reducible refine wS_unit (fun K hK => ?_)); simp [go_sem, lk, upd, envOf, stepS_value, stepS_skip, stepS_enter, ↓IntWalk.iteOmega, *]; (try go_ints); refine hK.out _ _ ?_; clear hK K) | ((with_reducible refine wS_skip ?_ ?_); (focus (simp [lk, upd, envOf, *]; done))) | ((with_reducible refine wS_want ?_ ?_); (focus (simp [lk, upd, envOf, *]; done))) | ((with_reducible refine wS_split (fun hc => ?_) (fun hc => ?_)) <;> simp [lk, upd, envOf, *] at hc <;> try (exfalso; omega)) | with_reducible refine wS_nil ?_)
  generalize w.alloc (.cells zeroA 26) = w0 at *
  have HZ := Lib.hid hz
  have HS0 := Lib.hid (RStep.grow (pr := pr) hg)
  have HR0 := Lib.hid (HC.out.rd.grow hg)
  have HE0 := Lib.hid (HC.out.errs.grow hg)
  have hws : w.heap.size < w0.heap.size := (Array.getElem?_eq_some_iff.1 hz).1
  have hpw : pr < w.heap.size := Nat.lt_of_lt_of_le HC.out.pB HC.out.hB
  have hp3 : 3 < pr := HC.out.p3
  have hBw : B ≤ w.heap.size := HC.out.hB
  have hpB : pr < B := HC.out.pB
  clear hg hz
  have HN0 := Lib.hid (next_r pr B R v true w0 HR0.out)
  rw [HNX.out] at HN0
  repeat' (first | with_reducible (first | refine wE_seq (fun K hK => ?_) | refine wE_block ?_ | refine wE_skip ?_ | refine wE_ret ?_ | refine wE_exit ?_) | ((with_reducible refine wE_region ?_ ?_); (kernel_rfl); simp only [ls, stripO]) | ((with_reducible refine wS_step (fun K hK => ?_)); simp [go_sem, lk, upd, envOf, stepS_value, stepS_skip, stepS_enter, ↓IntWalk.iteOmega, *]; (try go_ints); refine hK.out _ _ ?_; clear hK K) | ((with_reducible refine wS_unit (fun K hK => ?_)); simp [go_sem, lk, upd, envOf, stepS_value, stepS_skip, stepS_enter, ↓IntWalk.iteOmega, *]; (try go_ints); refine hK.out _ _ ?_; clear hK K) | ((with_reducible refine wS_skip ?_ ?_); (focus (simp [lk, upd, envOf, *]; done))) | ((with_reducible refine wS_want ?_ ?_); (focus (simp [lk, upd, envOf, *]; done))) | ((with_reducible refine wS_split (fun hc => ?_) (fun hc => ?_)) <;> simp [lk, upd, envOf, *] at hc <;> try (exfalso; omega)) | with_reducible refine wS_nil ?_ | simp only [thenE, blockE, ↓reduceIte, Nat.reduceEqDiff] | ((with_reducible refine hK.out _ _ ?_); clear hK K) | ((with_reducible refine wE_if ?_ (fun hc => ?_) (fun hc => ?_)); (focus (simp [lk, upd, envOf, *]; done)); all_goals (simp [lk, upd, envOf, *] at hc <;> try (exfalso; omega))) | (clear hK; clear K))
  (with_reducible refine wS_step (fun K hK => ?_)); simp [go_sem, lk, upd, envOf, stepS_value, stepS_skip, stepS_enter, ↓IntWalk.iteOmega, *]; (try go_ints); refine (HN0.out).mono ?_; rintro e w1 ⟨rfl, v1, hr1, hs1⟩; refine ⟨_, rfl, hK.out _ _ ?_⟩; clear hK K
  have HR1 := Lib.hid hr1
  have HS1 := Lib.hid (HS0.out.trans hs1)
  have HE1 := Lib.hid (HE0.out.step hs1 hp3)
  have HZ1 := Lib.hid (show w1.heap[w.heap.size]? = some (.cells zeroA 26 (0, 0)) by rw [hs1.block _ hws (by omega)]; exact HZ.out)
  have hws1 : w.heap.size < w1.heap.size := Nat.lt_of_lt_of_le hws hs1.size
  clear hr1 hs1
  have hg2 := Grow.alloc w1 (.cells #[.int .i64 0, .string who, .int .i64 0, .int .i64 0, .int .i64 0, .int .i64 0, .slice none 0 0, .slice none 0 0] 26)
  have hm2 : (w1.alloc (.cells #[.int .i64 0, .string who, .int .i64 0, .int .i64 0, .int .i64 0, .int .i64 0, .slice none 0 0, .slice none 0 0] 26)).heap[w1.heap.size]? = some (.cells #[.int .i64 0, .string who, .int .i64 0, .int .i64 0, .int .i64 0, .int .i64 0, .slice none 0 0, .slice none 0 0] 26 (0, 0)) := heap_alloc_new w1 _
  repeat' (first | with_reducible (first | refine wE_seq (fun K hK => ?_) | refine wE_block ?_ | refine wE_skip ?_ | refine wE_ret ?_ | refine wE_exit ?_) | ((with_reducible refine wE_region ?_ ?_); (kernel_rfl); simp only [ls, stripO]) | ((with_reducible refine wS_step (fun K hK => ?_)); simp [go_sem, lk, upd, envOf, stepS_value, stepS_skip, stepS_enter, ↓IntWalk.iteOmega, *]; (try go_ints); refine hK.out _ _ ?_; clear hK K) | ((with_reducible refine wS_unit (fun K hK => ?_)); simp [go_sem, lk, upd, envOf, stepS_value, stepS_skip, stepS_enter, ↓IntWalk.iteOmega, *]; (try go_ints); refine hK.out _ _ ?_; clear hK K) | ((with_reducible refine wS_skip ?_ ?_); (focus (simp [lk, upd, envOf, *]; done))) | ((with_reducible refine wS_want ?_ ?_); (focus (simp [lk, upd, envOf, *]; done))) | ((with_reducible refine wS_split (fun hc => ?_) (fun hc => ?_)) <;> simp [lk, upd, envOf, *] at hc <;> try (exfalso; omega)) | with_reducible refine wS_nil ?_ | simp only [thenE, blockE, ↓reduceIte, Nat.reduceEqDiff] | ((with_reducible refine hK.out _ _ ?_); clear hK K) | ((with_reducible refine wE_if ?_ (fun hc => ?_) (fun hc => ?_)); (focus (simp [lk, upd, envOf, *]; done)); all_goals (simp [lk, upd, envOf, *] at hc <;> try (exfalso; omega))) | (clear hK; clear K))
  generalize w1.alloc (.cells #[.int .i64 0, .string who, .int .i64 0, .int .i64 0, .int .i64 0, .int .i64 0, .slice none 0 0, .slice none 0 0] 26) = w2 at *
  have HR2 := Lib.hid (HR1.out.grow hg2)
  have HE2 := Lib.hid (HE1.out.grow hg2)
  have HS2 := Lib.hid (HS1.out.trans (RStep.grow hg2))
  have HZ2 := Lib.hid (show w2.heap[w.heap.size]? = some (.cells zeroA 26 (0, 0)) by rw [hg2.block _ hws1]; exact HZ1.out)
  have hmb : w1.heap.size < w2.heap.size := (Array.getElem?_eq_some_iff.1 hm2).1
  have HM2 := Lib.hid hm2
  generalize w1.heap.size = mb at *
  clear hg2 hm2
  (with_reducible refine wS_step (fun K hK => ?_)); simp [go_sem, lk, upd, envOf, stepS_value, stepS_skip, stepS_enter, ↓IntWalk.iteOmega, *]; (try go_ints); refine (number_r pr B R1 v1 _ HR2.out HE2.out hp3 HNS.out.2).mono ?_; rintro e w3 ⟨rfl, v3, hr3, hs3⟩; refine ⟨_, rfl, hK.out _ _ ?_⟩; clear hK K
  have hm3 : w3.heap[mb]? = some (.cells #[.int .i64 0, .string who, .int .i64 0, .int .i64 0, .int .i64 0, .int .i64 0, .slice none 0 0, .slice none 0 0] 26 (0, 0)) := by rw [hs3.block _ hmb (by omega)]; exact HM2.out
  have HM := Lib.hid hm3
  have fz : w3.frozen? ⟨mb, 5, none⟩ = false := frozen_of_row w3 mb 5 _ _ hm3
  have cc : w3.cell? ⟨mb, 5, none⟩ = some (.int .i64 0) := by rw [cell_of_row w3 mb 5 _ _ _ hm3]; rfl
  have hm4 := heap_setCell_same w3 mb 5 _ _ (.int .i64 R1.number.1) hm3
  have hb4 : Below (w.heap.size + 1) w3 (w3.setCell ⟨mb, 5, none⟩ (.int .i64 R1.number.1)) := below_put w3 (by omega) _
  have hr4 := hr3.below (hb4.mono (by omega)) hpB
  have hs4 := (HS2.out.trans hs3).put (nb := mb) (i := 5) (by omega) (.int .i64 R1.number.1)
  have he4 := (HE2.out.step hs3 hp3).below hb4 (by omega)
  have hz4 : (w3.setCell ⟨mb, 5, none⟩ (.int .i64 R1.number.1)).heap[w.heap.size]? = some (.cells zeroA 26 (0, 0)) := by rw [hb4.block _ (by omega), hs3.block _ (by omega) (by omega)]; exact HZ2.out
  have hmb4 : mb < (w3.setCell ⟨mb, 5, none⟩ (.int .i64 R1.number.1)).heap.size := (Array.getElem?_eq_some_iff.1 hm4).1
  clear HM hm3 hr3 hs3
  repeat' (first | with_reducible (first | refine wE_seq (fun K hK => ?_) | refine wE_block ?_ | refine wE_skip ?_ | refine wE_ret ?_ | refine wE_exit ?_) | ((with_reducible refine wE_region ?_ ?_); (kernel_rfl); simp only [ls, stripO]) | ((with_reducible refine wS_step (fun K hK => ?_)); simp [go_sem, lk, upd, envOf, stepS_value, stepS_skip, stepS_enter, ↓IntWalk.iteOmega, *]; (try go_ints); refine hK.out _ _ ?_; clear hK K) | ((with_reducible refine wS_unit (fun K hK => ?_)); simp [go_sem, lk, upd, envOf, stepS_value, stepS_skip, stepS_enter, ↓IntWalk.iteOmega, *]; (try go_ints); refine hK.out _ _ ?_; clear hK K) | ((with_reducible refine wS_skip ?_ ?_); (focus (simp [lk, upd, envOf, *]; done))) | ((with_reducible refine wS_want ?_ ?_); (focus (simp [lk, upd, envOf, *]; done))) | ((with_reducible refine wS_split (fun hc => ?_) (fun hc => ?_)) <;> simp [lk, upd, envOf, *] at hc <;> try (exfalso; omega)) | with_reducible refine wS_nil ?_ | simp only [thenE, blockE, ↓reduceIte, Nat.reduceEqDiff] | ((with_reducible refine hK.out _ _ ?_); clear hK K) | ((with_reducible refine wE_if ?_ (fun hc => ?_) (fun hc => ?_)); (focus (simp [lk, upd, envOf, *]; done)); all_goals (simp [lk, upd, envOf, *] at hc <;> try (exfalso; omega))) | (clear hK; clear K))
  generalize w3.setCell ⟨mb, 5, none⟩ (.int .i64 R1.number.1) = w4 at *
  have HM4 : Hid (w4.heap[mb]? = some (.cells #[.int .i64 0, .string who, .int .i64 0, .int .i64 0, .int .i64 0, .int .i64 R1.number.1, .slice none 0 0, .slice none 0 0] 26 (0, 0))) := hm4
  have HR4 : Hid (RdAt w4 pr B R2 v3) := by rw [HR2e.out]; exact hr4
  have HS4 := Lib.hid hs4
  have HE4 := Lib.hid he4
  have HZ4 := Lib.hid hz4
  clear hm4 hb4 hr4 hs4 he4 hz4 fz cc
  (with_reducible refine wS_step (fun K hK => ?_)); simp [go_sem, lk, upd, envOf, stepS_value, stepS_skip, stepS_enter, ↓IntWalk.iteOmega, *]; (try go_ints); refine (number_r pr B R2 v3 _ HR4.out HE4.out hp3 HSM2.out).mono ?_; rintro e w5 ⟨rfl, v5, hr5, hs5⟩; refine ⟨_, rfl, hK.out _ _ ?_⟩; clear hK K
  have hm5 : w5.heap[mb]? = some (.cells #[.int .i64 0, .string who, .int .i64 0, .int .i64 0, .int .i64 0, .int .i64 R1.number.1, .slice none 0 0, .slice none 0 0] 26 (0, 0)) := by rw [hs5.block _ hmb4 (by omega)]; exact HM4.out
  have fz : w5.frozen? ⟨mb, 4, none⟩ = false := frozen_of_row w5 mb 4 _ _ hm5
  have cc : w5.cell? ⟨mb, 4, none⟩ = some (.int .i64 0) := by rw [cell_of_row w5 mb 4 _ _ _ hm5]; rfl
  have hm6 := heap_setCell_same w5 mb 4 _ _ (.int .i64 R2.number.1) hm5
  have hb6 : Below (w.heap.size + 1) w5 (w5.setCell ⟨mb, 4, none⟩ (.int .i64 R2.number.1)) := below_put w5 (by omega) _
  have hr6 := hr5.below (hb6.mono (by omega)) hpB
  have hs6 := (HS4.out.trans hs5).put (nb := mb) (i := 4) (by omega) (.int .i64 R2.number.1)
  have hz6 : (w5.setCell ⟨mb, 4, none⟩ (.int .i64 R2.number.1)).heap[w.heap.size]? = some (.cells zeroA 26 (0, 0)) := by rw [hb6.block _ (by omega), hs5.block _ (by omega) (by omega)]; exact HZ4.out
  have hmb6 : mb < (w5.setCell ⟨mb, 4, none⟩ (.int .i64 R2.number.1)).heap.size := (Array.getElem?_eq_some_iff.1 hm6).1
  clear hm5 hr5 hs5
  repeat' (first | with_reducible (first | refine wE_seq (fun K hK => ?_) | refine wE_block ?_ | refine wE_skip ?_ | refine wE_ret ?_ | refine wE_exit ?_) | ((with_reducible refine wE_region ?_ ?_); (kernel_rfl); simp only [ls, stripO]) | ((with_reducible refine wS_step (fun K hK => ?_)); simp [go_sem, lk, upd, envOf, stepS_value, stepS_skip, stepS_enter, ↓IntWalk.iteOmega, *]; (try go_ints); refine hK.out _ _ ?_; clear hK K) | ((with_reducible refine wS_unit (fun K hK => ?_)); simp [go_sem, lk, upd, envOf, stepS_value, stepS_skip, stepS_enter, ↓IntWalk.iteOmega, *]; (try go_ints); refine hK.out _ _ ?_; clear hK K) | ((with_reducible refine wS_skip ?_ ?_); (focus (simp [lk, upd, envOf, *]; done))) | ((with_reducible refine wS_want ?_ ?_); (focus (simp [lk, upd, envOf, *]; done))) | ((with_reducible refine wS_split (fun hc => ?_) (fun hc => ?_)) <;> simp [lk, upd, envOf, *] at hc <;> try (exfalso; omega)) | with_reducible refine wS_nil ?_ | simp only [thenE, blockE, ↓reduceIte, Nat.reduceEqDiff] | ((with_reducible refine hK.out _ _ ?_); clear hK K) | ((with_reducible refine wE_if ?_ (fun hc => ?_) (fun hc => ?_)); (focus (simp [lk, upd, envOf, *]; done)); all_goals (simp [lk, upd, envOf, *] at hc <;> try (exfalso; omega))) | (clear hK; clear K))
  generalize w5.setCell ⟨mb, 4, none⟩ (.int .i64 R2.number.1) = w6 at *
  have HM : Hid (w6.heap[mb]? = some (.cells #[.int .i64 0, .string who, .int .i64 0, .int .i64 0, .int .i64 R2.number.1, .int .i64 R1.number.1, .slice none 0 0, .slice none 0 0] 26 (0, 0))) := hm6
  have HR6 := Lib.hid hr6
  have HS6 := Lib.hid hs6
  have HZ6 := Lib.hid hz6
  clear hm6 hb6 hr6 hs6 hz6 fz cc
  have m0 : w6.cell? ⟨mb, 0, none⟩ = some (.int .i64 0) := by rw [cell_of_row w6 mb 0 _ _ _ HM.out]; rfl
  have m1 : w6.cell? ⟨mb, 1, none⟩ = some (.string who) := by rw [cell_of_row w6 mb 1 _ _ _ HM.out]; rfl
  have m2 : w6.cell? ⟨mb, 2, none⟩ = some (.int .i64 0) := by rw [cell_of_row w6 mb 2 _ _ _ HM.out]; rfl
  have m3 : w6.cell? ⟨mb, 3, none⟩ = some (.int .i64 0) := by rw [cell_of_row w6 mb 3 _ _ _ HM.out]; rfl
  have m4 : w6.cell? ⟨mb, 4, none⟩ = some (.int .i64 R2.number.1) := by rw [cell_of_row w6 mb 4 _ _ _ HM.out]; rfl
  have m5 : w6.cell? ⟨mb, 5, none⟩ = some (.int .i64 R1.number.1) := by rw [cell_of_row w6 mb 5 _ _ _ HM.out]; rfl
  have m6 : w6.cell? ⟨mb, 6, none⟩ = some (.slice none 0 0) := by rw [cell_of_row w6 mb 6 _ _ _ HM.out]; rfl
  have m7 : w6.cell? ⟨mb, 7, none⟩ = some (.slice none 0 0) := by rw [cell_of_row w6 mb 7 _ _ _ HM.out]; rfl
  repeat' (first | with_reducible (first | refine wE_seq (fun K hK => ?_) | refine wE_block ?_ | refine wE_skip ?_ | refine wE_ret ?_ | refine wE_exit ?_) | ((with_reducible refine wE_region ?_ ?_); (kernel_rfl); simp only [ls, stripO]) | ((with_reducible refine wS_step (fun K hK => ?_)); simp [go_sem, lk, upd, envOf, stepS_value, stepS_skip, stepS_enter, ↓IntWalk.iteOmega, *]; (try go_ints); refine hK.out _ _ ?_; clear hK K) | ((with_reducible refine wS_unit (fun K hK => ?_)); simp [go_sem, lk, upd, envOf, stepS_value, stepS_skip, stepS_enter, ↓IntWalk.iteOmega, *]; (try go_ints); refine hK.out _ _ ?_; clear hK K) | ((with_reducible refine wS_skip ?_ ?_); (focus (simp [lk, upd, envOf, *]; done))) | ((with_reducible refine wS_want ?_ ?_); (focus (simp [lk, upd, envOf, *]; done))) | ((with_reducible refine wS_split (fun hc => ?_) (fun hc => ?_)) <;> simp [lk, upd, envOf, *] at hc <;> try (exfalso; omega)) | with_reducible refine wS_nil ?_ | simp only [thenE, blockE, ↓reduceIte, Nat.reduceEqDiff] | ((with_reducible refine hK.out _ _ ?_); clear hK K) | ((with_reducible refine wE_if ?_ (fun hc => ?_) (fun hc => ?_)); (focus (simp [lk, upd, envOf, *]; done)); all_goals (simp [lk, upd, envOf, *] at hc <;> try (exfalso; omega))) | (clear hK; clear K))
  refine wS_storeRow w.heap.size #[.int .i64 0, .string who, .int .i64 0, .int .i64 0, .int .i64 R2.number.1, .int .i64 R1.number.1, .slice none 0 0, .slice none 0 0] zeroA (by simp [evalS_tmp, upd]) (by simp [evalS_tmp, upd]) HZ6.out size25 rfl (by simp [Value.oneCell']) ?_
  repeat' (first | with_reducible (first | refine wE_seq (fun K hK => ?_) | refine wE_block ?_ | refine wE_skip ?_ | refine wE_ret ?_ | refine wE_exit ?_) | ((with_reducible refine wE_region ?_ ?_); (kernel_rfl); simp only [ls, stripO]) | ((with_reducible refine wS_step (fun K hK => ?_)); simp [go_sem, lk, upd, envOf, stepS_value, stepS_skip, stepS_enter, ↓IntWalk.iteOmega, *]; (try go_ints); refine hK.out _ _ ?_; clear hK K) | ((with_reducible refine wS_unit (fun K hK => ?_)); simp [go_sem, lk, upd, envOf, stepS_value, stepS_skip, stepS_enter, ↓IntWalk.iteOmega, *]; (try go_ints); refine hK.out _ _ ?_; clear hK K) | ((with_reducible refine wS_skip ?_ ?_); (focus (simp [lk, upd, envOf, *]; done))) | ((with_reducible refine wS_want ?_ ?_); (focus (simp [lk, upd, envOf, *]; done))) | ((with_reducible refine wS_split (fun hc => ?_) (fun hc => ?_)) <;> simp [lk, upd, envOf, *] at hc <;> try (exfalso; omega)) | with_reducible refine wS_nil ?_ | simp only [thenE, blockE, ↓reduceIte, Nat.reduceEqDiff] | ((with_reducible refine hK.out _ _ ?_); clear hK K) | ((with_reducible refine wE_if ?_ (fun hc => ?_) (fun hc => ?_)); (focus (simp [lk, upd, envOf, *]; done)); all_goals (simp [lk, upd, envOf, *] at hc <;> try (exfalso; omega))) | (clear hK; clear K))
  refine endE_cell rfl (by simp [upd]) (run_loadVar_row _ w.heap.size 26 26 _ (0, 0) _ (setRow_heap _ _ _ _ _ _ HZ6.out) Tryz.underlying26 rfl size25) ⟨.slice none 0 0, .slice none 0 0, v5, ?_, ?_, ?_, HS6.out.row (Nat.le_refl _) _⟩
  · rw [HE.out]; rfl
  · rw [HE.out]; exact fun _ _ => act_zero _ _ _ _ _ zi64 zi64 HNR2.out HNR1.out
  · rw [HE.out]; exact HR6.out.below (below_row _ HC.out.hB _) HC.out.pB
set_option maxHeartbeats 4000000 in
set_option maxRecDepth 100000 in
theorem read_submit : ReadsA 32 1 := by
  intro pr B R v w h
  have hg := Grow.alloc w (.cells zeroA 26)
  have hz : (w.alloc (.cells zeroA 26)).heap[w.heap.size]? = some (.cells zeroA 26 (0, 0)) := heap_alloc_new w _
  have HE := Lib.hid (show (readP 1 R) = (⟨1, (R.next true).1, 0, (R.next true).2.number.1, (R.next true).2.number.2.number.1, 0, (R.next true).2.number.2.number.2.files.1, []⟩, (R.next true).2.number.2.number.2.files.2) by unfold readP; simp)
  have HC := Lib.hid h
  have HNS := Lib.hid (next_small h.small true)
  have HLN := Lib.hid (next_len R true)
  have hln := h.len
  clear h
  generalize hnx : R.next true = nx at *
  obtain ⟨who, R1⟩ := nx
  simp only at *
  have HNX := Lib.hid hnx
  clear hnx
  have HNR1 := Lib.hid (number_range R1)
  have HSM1 := Lib.hid (next_small HNS.out.2 false)
  have HLN1 := Lib.hid (next_len R1 false)
  have HQ1 := Lib.hid (show R1.number.2.parts = (R1.next false).2.parts from rfl)
  obtain ⟨R2, hR2⟩ : ∃ R2, R2 = R1.number.2 := ⟨_, rfl⟩
  rw [← hR2] at HE HQ1
  have HR2e := Lib.hid hR2
  clear hR2
  have HNR2 := Lib.hid (number_range R2)
  have HSM2 : Hid (SmallP R2.parts) := by rw [HQ1.out]; exact HSM1.out.2
  have HSM3 : Hid (SmallP R2.number.2.parts) := (next_small HSM2.out false).2
  have HL2 := Lib.hid (show R2.parts.length ≤ 10000000 by rw [HQ1.out]; exact Nat.le_trans HLN1.out (Nat.le_trans HLN.out hln))
  have HL3 := Lib.hid (show R2.number.2.parts.length ≤ 10000000 from Nat.le_trans (next_len R2 false) HL2.out)
  refine calls_of_wE Tryz.func32 rfl Tryz.ntmps32 (by simp) ?_
  repeat' (first | with_reducible (first | refine wE_seq (fun K hK => ?_) | refine wE_block ?_ | refine wE_skip ?_ | refine wE_ret ?_ | refine wE_exit ?_) | simp only [thenE, blockE, ↓reduceIte, Nat.reduceEqDiff] | ((with_reducible refine hK.out _ _ ?_); clear hK K) | ((with_reducible refine wE_if ?_ (fun hc => ?_) (fun hc => ?_)); (focus (simp [lk, upd, envOf, *]; done)); all_goals (simp [lk, upd, envOf, *] at hc <;> try (exfalso; omega))) | (clear hK; clear K))
  ((with_reducible refine wE_region ?_ ?_); (kernel_rfl); simp only [ls, stripO])
  repeat' (first | ((with_reducible refine wS_step (fun K hK => ?_)); simp [go_sem, lk, upd, envOf, stepS_value, stepS_skip, stepS_enter, ↓IntWalk.iteOmega, *]; (try go_ints); refine hK.out _ _ ?_; clear hK K) | ((with_reducible refine wS_unit (fun K hK => ?_)); simp [go_sem, lk, upd, envOf, stepS_value, stepS_skip, stepS_enter, ↓IntWalk.iteOmega, *]; (try go_ints); refine hK.out _ _ ?_; clear hK K) | ((with_reducible refine wS_skip ?_ ?_); (focus (simp [lk, upd, envOf, *]; done))) | ((with_reducible refine wS_want ?_ ?_); (focus (simp [lk, upd, envOf, *]; done))) | ((with_reducible refine wS_split (fun hc => ?_) (fun hc => ?_)) <;> simp [lk, upd, envOf, *] at hc <;> try (exfalso; omega)) | with_reducible refine wS_nil ?_)
  generalize w.alloc (.cells zeroA 26) = w0 at *
  have HZ := Lib.hid hz
  have HS0 := Lib.hid (RStep.grow (pr := pr) hg)
  have HR0 := Lib.hid (HC.out.rd.grow hg)
  have HE0 := Lib.hid (HC.out.errs.grow hg)
  have hws : w.heap.size < w0.heap.size := (Array.getElem?_eq_some_iff.1 hz).1
  have hpw : pr < w.heap.size := Nat.lt_of_lt_of_le HC.out.pB HC.out.hB
  have hp3 : 3 < pr := HC.out.p3
  have hBw : B ≤ w.heap.size := HC.out.hB
  have hpB : pr < B := HC.out.pB
  clear hg hz
  have HN0 := Lib.hid (next_r pr B R v true w0 HR0.out)
  rw [HNX.out] at HN0
  repeat' (first | with_reducible (first | refine wE_seq (fun K hK => ?_) | refine wE_block ?_ | refine wE_skip ?_ | refine wE_ret ?_ | refine wE_exit ?_) | ((with_reducible refine wE_region ?_ ?_); (kernel_rfl); simp only [ls, stripO]) | ((with_reducible refine wS_step (fun K hK => ?_)); simp [go_sem, lk, upd, envOf, stepS_value, stepS_skip, stepS_enter, ↓IntWalk.iteOmega, *]; (try go_ints); refine hK.out _ _ ?_; clear hK K) | ((with_reducible refine wS_unit (fun K hK => ?_)); simp [go_sem, lk, upd, envOf, stepS_value, stepS_skip, stepS_enter, ↓IntWalk.iteOmega, *]; (try go_ints); refine hK.out _ _ ?_; clear hK K) | ((with_reducible refine wS_skip ?_ ?_); (focus (simp [lk, upd, envOf, *]; done))) | ((with_reducible refine wS_want ?_ ?_); (focus (simp [lk, upd, envOf, *]; done))) | ((with_reducible refine wS_split (fun hc => ?_) (fun hc => ?_)) <;> simp [lk, upd, envOf, *] at hc <;> try (exfalso; omega)) | with_reducible refine wS_nil ?_ | simp only [thenE, blockE, ↓reduceIte, Nat.reduceEqDiff] | ((with_reducible refine hK.out _ _ ?_); clear hK K) | ((with_reducible refine wE_if ?_ (fun hc => ?_) (fun hc => ?_)); (focus (simp [lk, upd, envOf, *]; done)); all_goals (simp [lk, upd, envOf, *] at hc <;> try (exfalso; omega))) | (clear hK; clear K))
  (with_reducible refine wS_step (fun K hK => ?_)); simp [go_sem, lk, upd, envOf, stepS_value, stepS_skip, stepS_enter, ↓IntWalk.iteOmega, *]; (try go_ints); refine (HN0.out).mono ?_; rintro e w1 ⟨rfl, v1, hr1, hs1⟩; refine ⟨_, rfl, hK.out _ _ ?_⟩; clear hK K
  have HR1 := Lib.hid hr1
  have HS1 := Lib.hid (HS0.out.trans hs1)
  have HE1 := Lib.hid (HE0.out.step hs1 hp3)
  have HZ1 := Lib.hid (show w1.heap[w.heap.size]? = some (.cells zeroA 26 (0, 0)) by rw [hs1.block _ hws (by omega)]; exact HZ.out)
  have hws1 : w.heap.size < w1.heap.size := Nat.lt_of_lt_of_le hws hs1.size
  clear hr1 hs1
  have hg2 := Grow.alloc w1 (.cells #[.int .i64 0, .string who, .int .i64 0, .int .i64 0, .int .i64 0, .int .i64 0, .slice none 0 0, .slice none 0 0] 26)
  have hm2 : (w1.alloc (.cells #[.int .i64 0, .string who, .int .i64 0, .int .i64 0, .int .i64 0, .int .i64 0, .slice none 0 0, .slice none 0 0] 26)).heap[w1.heap.size]? = some (.cells #[.int .i64 0, .string who, .int .i64 0, .int .i64 0, .int .i64 0, .int .i64 0, .slice none 0 0, .slice none 0 0] 26 (0, 0)) := heap_alloc_new w1 _
  repeat' (first | with_reducible (first | refine wE_seq (fun K hK => ?_) | refine wE_block ?_ | refine wE_skip ?_ | refine wE_ret ?_ | refine wE_exit ?_) | ((with_reducible refine wE_region ?_ ?_); (kernel_rfl); simp only [ls, stripO]) | ((with_reducible refine wS_step (fun K hK => ?_)); simp [go_sem, lk, upd, envOf, stepS_value, stepS_skip, stepS_enter, ↓IntWalk.iteOmega, *]; (try go_ints); refine hK.out _ _ ?_; clear hK K) | ((with_reducible refine wS_unit (fun K hK => ?_)); simp [go_sem, lk, upd, envOf, stepS_value, stepS_skip, stepS_enter, ↓IntWalk.iteOmega, *]; (try go_ints); refine hK.out _ _ ?_; clear hK K) | ((with_reducible refine wS_skip ?_ ?_); (focus (simp [lk, upd, envOf, *]; done))) | ((with_reducible refine wS_want ?_ ?_); (focus (simp [lk, upd, envOf, *]; done))) | ((with_reducible refine wS_split (fun hc => ?_) (fun hc => ?_)) <;> simp [lk, upd, envOf, *] at hc <;> try (exfalso; omega)) | with_reducible refine wS_nil ?_ | simp only [thenE, blockE, ↓reduceIte, Nat.reduceEqDiff] | ((with_reducible refine hK.out _ _ ?_); clear hK K) | ((with_reducible refine wE_if ?_ (fun hc => ?_) (fun hc => ?_)); (focus (simp [lk, upd, envOf, *]; done)); all_goals (simp [lk, upd, envOf, *] at hc <;> try (exfalso; omega))) | (clear hK; clear K))
  generalize w1.alloc (.cells #[.int .i64 0, .string who, .int .i64 0, .int .i64 0, .int .i64 0, .int .i64 0, .slice none 0 0, .slice none 0 0] 26) = w2 at *
  have HR2 := Lib.hid (HR1.out.grow hg2)
  have HE2 := Lib.hid (HE1.out.grow hg2)
  have HS2 := Lib.hid (HS1.out.trans (RStep.grow hg2))
  have HZ2 := Lib.hid (show w2.heap[w.heap.size]? = some (.cells zeroA 26 (0, 0)) by rw [hg2.block _ hws1]; exact HZ1.out)
  have hmb : w1.heap.size < w2.heap.size := (Array.getElem?_eq_some_iff.1 hm2).1
  have HM2 := Lib.hid hm2
  generalize w1.heap.size = mb at *
  clear hg2 hm2
  (with_reducible refine wS_step (fun K hK => ?_)); simp [go_sem, lk, upd, envOf, stepS_value, stepS_skip, stepS_enter, ↓IntWalk.iteOmega, *]; (try go_ints); refine (number_r pr B R1 v1 _ HR2.out HE2.out hp3 HNS.out.2).mono ?_; rintro e w3 ⟨rfl, v3, hr3, hs3⟩; refine ⟨_, rfl, hK.out _ _ ?_⟩; clear hK K
  have hm3 : w3.heap[mb]? = some (.cells #[.int .i64 0, .string who, .int .i64 0, .int .i64 0, .int .i64 0, .int .i64 0, .slice none 0 0, .slice none 0 0] 26 (0, 0)) := by rw [hs3.block _ hmb (by omega)]; exact HM2.out
  have HM := Lib.hid hm3
  have fz : w3.frozen? ⟨mb, 3, none⟩ = false := frozen_of_row w3 mb 3 _ _ hm3
  have cc : w3.cell? ⟨mb, 3, none⟩ = some (.int .i64 0) := by rw [cell_of_row w3 mb 3 _ _ _ hm3]; rfl
  have hm4 := heap_setCell_same w3 mb 3 _ _ (.int .i64 R1.number.1) hm3
  have hb4 : Below (w.heap.size + 1) w3 (w3.setCell ⟨mb, 3, none⟩ (.int .i64 R1.number.1)) := below_put w3 (by omega) _
  have hr4 := hr3.below (hb4.mono (by omega)) hpB
  have hs4 := (HS2.out.trans hs3).put (nb := mb) (i := 3) (by omega) (.int .i64 R1.number.1)
  have he4 := (HE2.out.step hs3 hp3).below hb4 (by omega)
  have hz4 : (w3.setCell ⟨mb, 3, none⟩ (.int .i64 R1.number.1)).heap[w.heap.size]? = some (.cells zeroA 26 (0, 0)) := by rw [hb4.block _ (by omega), hs3.block _ (by omega) (by omega)]; exact HZ2.out
  have hmb4 : mb < (w3.setCell ⟨mb, 3, none⟩ (.int .i64 R1.number.1)).heap.size := (Array.getElem?_eq_some_iff.1 hm4).1
  clear HM hm3 hr3 hs3
  repeat' (first | with_reducible (first | refine wE_seq (fun K hK => ?_) | refine wE_block ?_ | refine wE_skip ?_ | refine wE_ret ?_ | refine wE_exit ?_) | ((with_reducible refine wE_region ?_ ?_); (kernel_rfl); simp only [ls, stripO]) | ((with_reducible refine wS_step (fun K hK => ?_)); simp [go_sem, lk, upd, envOf, stepS_value, stepS_skip, stepS_enter, ↓IntWalk.iteOmega, *]; (try go_ints); refine hK.out _ _ ?_; clear hK K) | ((with_reducible refine wS_unit (fun K hK => ?_)); simp [go_sem, lk, upd, envOf, stepS_value, stepS_skip, stepS_enter, ↓IntWalk.iteOmega, *]; (try go_ints); refine hK.out _ _ ?_; clear hK K) | ((with_reducible refine wS_skip ?_ ?_); (focus (simp [lk, upd, envOf, *]; done))) | ((with_reducible refine wS_want ?_ ?_); (focus (simp [lk, upd, envOf, *]; done))) | ((with_reducible refine wS_split (fun hc => ?_) (fun hc => ?_)) <;> simp [lk, upd, envOf, *] at hc <;> try (exfalso; omega)) | with_reducible refine wS_nil ?_ | simp only [thenE, blockE, ↓reduceIte, Nat.reduceEqDiff] | ((with_reducible refine hK.out _ _ ?_); clear hK K) | ((with_reducible refine wE_if ?_ (fun hc => ?_) (fun hc => ?_)); (focus (simp [lk, upd, envOf, *]; done)); all_goals (simp [lk, upd, envOf, *] at hc <;> try (exfalso; omega))) | (clear hK; clear K))
  generalize w3.setCell ⟨mb, 3, none⟩ (.int .i64 R1.number.1) = w4 at *
  have HM4 : Hid (w4.heap[mb]? = some (.cells #[.int .i64 0, .string who, .int .i64 0, .int .i64 R1.number.1, .int .i64 0, .int .i64 0, .slice none 0 0, .slice none 0 0] 26 (0, 0))) := hm4
  have HR4 : Hid (RdAt w4 pr B R2 v3) := by rw [HR2e.out]; exact hr4
  have HS4 := Lib.hid hs4
  have HE4 := Lib.hid he4
  have HZ4 := Lib.hid hz4
  clear hm4 hb4 hr4 hs4 he4 hz4 fz cc
  (with_reducible refine wS_step (fun K hK => ?_)); simp [go_sem, lk, upd, envOf, stepS_value, stepS_skip, stepS_enter, ↓IntWalk.iteOmega, *]; (try go_ints); refine (number_r pr B R2 v3 _ HR4.out HE4.out hp3 HSM2.out).mono ?_; rintro e w5 ⟨rfl, v5, hr5, hs5⟩; refine ⟨_, rfl, hK.out _ _ ?_⟩; clear hK K
  have hm5 : w5.heap[mb]? = some (.cells #[.int .i64 0, .string who, .int .i64 0, .int .i64 R1.number.1, .int .i64 0, .int .i64 0, .slice none 0 0, .slice none 0 0] 26 (0, 0)) := by rw [hs5.block _ hmb4 (by omega)]; exact HM4.out
  have fz : w5.frozen? ⟨mb, 4, none⟩ = false := frozen_of_row w5 mb 4 _ _ hm5
  have cc : w5.cell? ⟨mb, 4, none⟩ = some (.int .i64 0) := by rw [cell_of_row w5 mb 4 _ _ _ hm5]; rfl
  have hm6 := heap_setCell_same w5 mb 4 _ _ (.int .i64 R2.number.1) hm5
  have hb6 : Below (w.heap.size + 1) w5 (w5.setCell ⟨mb, 4, none⟩ (.int .i64 R2.number.1)) := below_put w5 (by omega) _
  have hr6 := hr5.below (hb6.mono (by omega)) hpB
  have hs6 := (HS4.out.trans hs5).put (nb := mb) (i := 4) (by omega) (.int .i64 R2.number.1)
  have hz6 : (w5.setCell ⟨mb, 4, none⟩ (.int .i64 R2.number.1)).heap[w.heap.size]? = some (.cells zeroA 26 (0, 0)) := by rw [hb6.block _ (by omega), hs5.block _ (by omega) (by omega)]; exact HZ4.out
  have hmb6 : mb < (w5.setCell ⟨mb, 4, none⟩ (.int .i64 R2.number.1)).heap.size := (Array.getElem?_eq_some_iff.1 hm6).1
  clear hm5 hr5 hs5
  repeat' (first | with_reducible (first | refine wE_seq (fun K hK => ?_) | refine wE_block ?_ | refine wE_skip ?_ | refine wE_ret ?_ | refine wE_exit ?_) | ((with_reducible refine wE_region ?_ ?_); (kernel_rfl); simp only [ls, stripO]) | ((with_reducible refine wS_step (fun K hK => ?_)); simp [go_sem, lk, upd, envOf, stepS_value, stepS_skip, stepS_enter, ↓IntWalk.iteOmega, *]; (try go_ints); refine hK.out _ _ ?_; clear hK K) | ((with_reducible refine wS_unit (fun K hK => ?_)); simp [go_sem, lk, upd, envOf, stepS_value, stepS_skip, stepS_enter, ↓IntWalk.iteOmega, *]; (try go_ints); refine hK.out _ _ ?_; clear hK K) | ((with_reducible refine wS_skip ?_ ?_); (focus (simp [lk, upd, envOf, *]; done))) | ((with_reducible refine wS_want ?_ ?_); (focus (simp [lk, upd, envOf, *]; done))) | ((with_reducible refine wS_split (fun hc => ?_) (fun hc => ?_)) <;> simp [lk, upd, envOf, *] at hc <;> try (exfalso; omega)) | with_reducible refine wS_nil ?_ | simp only [thenE, blockE, ↓reduceIte, Nat.reduceEqDiff] | ((with_reducible refine hK.out _ _ ?_); clear hK K) | ((with_reducible refine wE_if ?_ (fun hc => ?_) (fun hc => ?_)); (focus (simp [lk, upd, envOf, *]; done)); all_goals (simp [lk, upd, envOf, *] at hc <;> try (exfalso; omega))) | (clear hK; clear K))
  generalize w5.setCell ⟨mb, 4, none⟩ (.int .i64 R2.number.1) = w6 at *
  have HM : Hid (w6.heap[mb]? = some (.cells #[.int .i64 0, .string who, .int .i64 0, .int .i64 R1.number.1, .int .i64 R2.number.1, .int .i64 0, .slice none 0 0, .slice none 0 0] 26 (0, 0))) := hm6
  have HR6 := Lib.hid hr6
  have HS6 := Lib.hid hs6
  have HZ6 := Lib.hid hz6
  clear hm6 hb6 hr6 hs6 hz6 fz cc
  (with_reducible refine wS_step (fun K hK => ?_)); simp [go_sem, lk, upd, envOf, stepS_value, stepS_skip, stepS_enter, ↓IntWalk.iteOmega, *]; (try go_ints); refine (files_r pr B R2.number.2 v5 _ HR6.out (by omega) hpB HL3.out).mono ?_; rintro e w7 ⟨vf, v7, rfl, ho7, hr7, hs7⟩; refine ⟨_, rfl, hK.out _ _ ?_⟩; clear hK K
  have one := own_one ho7
  have hm7 : w7.heap[mb]? = some (.cells #[.int .i64 0, .string who, .int .i64 0, .int .i64 R1.number.1, .int .i64 R2.number.1, .int .i64 0, .slice none 0 0, .slice none 0 0] 26 (0, 0)) := by rw [hs7.block _ hmb6 (by omega)]; exact HM.out
  have fz : w7.frozen? ⟨mb, 6, none⟩ = false := frozen_of_row w7 mb 6 _ _ hm7
  have cc : w7.cell? ⟨mb, 6, none⟩ = some (.slice none 0 0) := by rw [cell_of_row w7 mb 6 _ _ _ hm7]; rfl
  have hm8 := heap_setCell_same w7 mb 6 _ _ vf hm7
  have hb8 : Below (w.heap.size + 1) w7 (w7.setCell ⟨mb, 6, none⟩ vf) := below_put w7 (by omega) _
  have hr8 := hr7.below (hb8.mono (by omega)) hpB
  have hs8 := (HS6.out.trans hs7).put (nb := mb) (i := 6) (by omega) vf
  have ho8 := own_cell_put (i := 6) ho7 hmb6 vf
  have hz8 : (w7.setCell ⟨mb, 6, none⟩ vf).heap[w.heap.size]? = some (.cells zeroA 26 (0, 0)) := by rw [hb8.block _ (by omega), hs7.block _ (by omega) (by omega)]; exact HZ6.out
  obtain ⟨ff, cf, hvf, hff⟩ := files_own ho8
  have hstv : ∃ aa nn cc, vf = .slice aa nn cc := ⟨_, _, _, hvf⟩
  clear hvf hff hm7 hr7 hs7 ho7
  obtain ⟨aa, nn, ccp, rfl⟩ := hstv
  repeat' (first | with_reducible (first | refine wE_seq (fun K hK => ?_) | refine wE_block ?_ | refine wE_skip ?_ | refine wE_ret ?_ | refine wE_exit ?_) | ((with_reducible refine wE_region ?_ ?_); (kernel_rfl); simp only [ls, stripO]) | ((with_reducible refine wS_step (fun K hK => ?_)); simp [go_sem, lk, upd, envOf, stepS_value, stepS_skip, stepS_enter, ↓IntWalk.iteOmega, *]; (try go_ints); refine hK.out _ _ ?_; clear hK K) | ((with_reducible refine wS_unit (fun K hK => ?_)); simp [go_sem, lk, upd, envOf, stepS_value, stepS_skip, stepS_enter, ↓IntWalk.iteOmega, *]; (try go_ints); refine hK.out _ _ ?_; clear hK K) | ((with_reducible refine wS_skip ?_ ?_); (focus (simp [lk, upd, envOf, *]; done))) | ((with_reducible refine wS_want ?_ ?_); (focus (simp [lk, upd, envOf, *]; done))) | ((with_reducible refine wS_split (fun hc => ?_) (fun hc => ?_)) <;> simp [lk, upd, envOf, *] at hc <;> try (exfalso; omega)) | with_reducible refine wS_nil ?_ | simp only [thenE, blockE, ↓reduceIte, Nat.reduceEqDiff] | ((with_reducible refine hK.out _ _ ?_); clear hK K) | ((with_reducible refine wE_if ?_ (fun hc => ?_) (fun hc => ?_)); (focus (simp [lk, upd, envOf, *]; done)); all_goals (simp [lk, upd, envOf, *] at hc <;> try (exfalso; omega))) | (clear hK; clear K))
  generalize w7.setCell ⟨mb, 6, none⟩ (.slice aa nn ccp) = w8 at *
  have HM : Hid (w8.heap[mb]? = some (.cells #[.int .i64 0, .string who, .int .i64 0, .int .i64 R1.number.1, .int .i64 R2.number.1, .int .i64 0, .slice aa nn ccp, .slice none 0 0] 26 (0, 0))) := hm8
  have HR8 := Lib.hid hr8
  have HS8 := Lib.hid hs8
  have HZ8 := Lib.hid hz8
  have HO8 := Lib.hid ho8
  clear hm8 hb8 hr8 hs8 hz8 fz cc ho8
  have m0 : w8.cell? ⟨mb, 0, none⟩ = some (.int .i64 0) := by rw [cell_of_row w8 mb 0 _ _ _ HM.out]; rfl
  have m1 : w8.cell? ⟨mb, 1, none⟩ = some (.string who) := by rw [cell_of_row w8 mb 1 _ _ _ HM.out]; rfl
  have m2 : w8.cell? ⟨mb, 2, none⟩ = some (.int .i64 0) := by rw [cell_of_row w8 mb 2 _ _ _ HM.out]; rfl
  have m3 : w8.cell? ⟨mb, 3, none⟩ = some (.int .i64 R1.number.1) := by rw [cell_of_row w8 mb 3 _ _ _ HM.out]; rfl
  have m4 : w8.cell? ⟨mb, 4, none⟩ = some (.int .i64 R2.number.1) := by rw [cell_of_row w8 mb 4 _ _ _ HM.out]; rfl
  have m5 : w8.cell? ⟨mb, 5, none⟩ = some (.int .i64 0) := by rw [cell_of_row w8 mb 5 _ _ _ HM.out]; rfl
  have m6 : w8.cell? ⟨mb, 6, none⟩ = some (.slice aa nn ccp) := by rw [cell_of_row w8 mb 6 _ _ _ HM.out]; rfl
  have m7 : w8.cell? ⟨mb, 7, none⟩ = some (.slice none 0 0) := by rw [cell_of_row w8 mb 7 _ _ _ HM.out]; rfl
  repeat' (first | with_reducible (first | refine wE_seq (fun K hK => ?_) | refine wE_block ?_ | refine wE_skip ?_ | refine wE_ret ?_ | refine wE_exit ?_) | ((with_reducible refine wE_region ?_ ?_); (kernel_rfl); simp only [ls, stripO]) | ((with_reducible refine wS_step (fun K hK => ?_)); simp [go_sem, lk, upd, envOf, stepS_value, stepS_skip, stepS_enter, ↓IntWalk.iteOmega, *]; (try go_ints); refine hK.out _ _ ?_; clear hK K) | ((with_reducible refine wS_unit (fun K hK => ?_)); simp [go_sem, lk, upd, envOf, stepS_value, stepS_skip, stepS_enter, ↓IntWalk.iteOmega, *]; (try go_ints); refine hK.out _ _ ?_; clear hK K) | ((with_reducible refine wS_skip ?_ ?_); (focus (simp [lk, upd, envOf, *]; done))) | ((with_reducible refine wS_want ?_ ?_); (focus (simp [lk, upd, envOf, *]; done))) | ((with_reducible refine wS_split (fun hc => ?_) (fun hc => ?_)) <;> simp [lk, upd, envOf, *] at hc <;> try (exfalso; omega)) | with_reducible refine wS_nil ?_ | simp only [thenE, blockE, ↓reduceIte, Nat.reduceEqDiff] | ((with_reducible refine hK.out _ _ ?_); clear hK K) | ((with_reducible refine wE_if ?_ (fun hc => ?_) (fun hc => ?_)); (focus (simp [lk, upd, envOf, *]; done)); all_goals (simp [lk, upd, envOf, *] at hc <;> try (exfalso; omega))) | (clear hK; clear K))
  refine wS_storeRow w.heap.size #[.int .i64 0, .string who, .int .i64 0, .int .i64 R1.number.1, .int .i64 R2.number.1, .int .i64 0, .slice aa nn ccp, .slice none 0 0] zeroA (by simp [evalS_tmp, upd]) (by simp [evalS_tmp, upd]) HZ8.out size25 rfl (by simp [Value.oneCell']) ?_
  repeat' (first | with_reducible (first | refine wE_seq (fun K hK => ?_) | refine wE_block ?_ | refine wE_skip ?_ | refine wE_ret ?_ | refine wE_exit ?_) | ((with_reducible refine wE_region ?_ ?_); (kernel_rfl); simp only [ls, stripO]) | ((with_reducible refine wS_step (fun K hK => ?_)); simp [go_sem, lk, upd, envOf, stepS_value, stepS_skip, stepS_enter, ↓IntWalk.iteOmega, *]; (try go_ints); refine hK.out _ _ ?_; clear hK K) | ((with_reducible refine wS_unit (fun K hK => ?_)); simp [go_sem, lk, upd, envOf, stepS_value, stepS_skip, stepS_enter, ↓IntWalk.iteOmega, *]; (try go_ints); refine hK.out _ _ ?_; clear hK K) | ((with_reducible refine wS_skip ?_ ?_); (focus (simp [lk, upd, envOf, *]; done))) | ((with_reducible refine wS_want ?_ ?_); (focus (simp [lk, upd, envOf, *]; done))) | ((with_reducible refine wS_split (fun hc => ?_) (fun hc => ?_)) <;> simp [lk, upd, envOf, *] at hc <;> try (exfalso; omega)) | with_reducible refine wS_nil ?_ | simp only [thenE, blockE, ↓reduceIte, Nat.reduceEqDiff] | ((with_reducible refine hK.out _ _ ?_); clear hK K) | ((with_reducible refine wE_if ?_ (fun hc => ?_) (fun hc => ?_)); (focus (simp [lk, upd, envOf, *]; done)); all_goals (simp [lk, upd, envOf, *] at hc <;> try (exfalso; omega))) | (clear hK; clear K))
  refine endE_cell rfl (by simp [upd]) (run_loadVar_row _ w.heap.size 26 26 _ (0, 0) _ (setRow_heap _ _ _ _ _ _ HZ8.out) Tryz.underlying26 rfl size25) ⟨.slice aa nn ccp, .slice none 0 0, v7, ?_, ?_, ?_, HS8.out.row (Nat.le_refl _) _⟩
  · rw [HE.out]; rfl
  · rw [HE.out]
    exact fun w'' hk => ⟨files_own (own_from (own_row_put HO8.out (by omega) _) (fun k a b => hk k (by omega) b)), ⟨none, 0, rfl, by simp [noKind], by simp [noKind], .inl rfl⟩, zi64, zi64, HNR1.out, HNR2.out, zi64⟩
  · rw [HE.out]; exact HR8.out.below (below_row _ HC.out.hB _) HC.out.pB
end Go.Proofs.YtglekdhdogjnoaaGreatDoor
