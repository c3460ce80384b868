/- The program's quote, walked. -/
import Derived.Test.YtglekdhdogjnoaaGreatDoorPrgA
import Derived.Test.YtglekdhdogjnoaaGreatDoorEnvB
namespace Go.Proofs.YtglekdhdogjnoaaGreatDoor
open Go.RowKit
set_option linter.unusedSimpArgs false
def u8v (c : UInt8) : Value := .int .u8 (c.toNat : Int)
theorem info5 : (Tryz.prog.info? 5).map (fun i => (i.zero, i.size, i.bytes)) = some (some (.int .u8 0), 1, 1) := by kernel_rfl
theorem app_u8 (w : World) (base : Nat) (v : Value) (bs ns : List UInt8) (cs : Array Value) (m : Nat) (hown : w.ownsRow base 5 1 v bs.length (bs.map u8v)) (hcs : cs = (ns.map u8v).toArray) (hm : m = ns.length) (hl : bs.length + ns.length ≤ 1000000000) (hbase : base ≤ w.heap.size) :
    ∃ v' w', (Builtin.append_ #[99, 99] 99 #[v, .slice (some ⟨w.heap.size, 0, none⟩) m m]).run Tryz.prog (w.alloc (.cells cs 5)) = .ok v' w' ∧ w'.ownsRow base 5 1 v' (bs ++ ns).length ((bs ++ ns).map u8v) ∧ Below base w w' := by
  subst hcs hm
  obtain ⟨i, hi, hz0, hz1, hz2⟩ := info_parts info5
  obtain ⟨v', w', hrun, h2, h3, _⟩ := run_append_own (P := Tryz.prog) (w.alloc (.cells (ns.map u8v).toArray 5)) base 99 99 5 i (.int .u8 0) 1 1 Tryz.underlying99 hi hz0 hz1 hz2 rfl (by omega)
    v bs.length (bs.map u8v) (hown.alloc _) ⟨w.heap.size, 0, none⟩ ns.length ns.length (ns.map u8v) (by simp) (by
      intro j u hj
      rw [Addr.add_lit, cell_of_row _ w.heap.size (0 + j) _ _ _ (heap_alloc_new w _)]
      simpa using hj) (by
      intro u hu
      obtain ⟨c, _, rfl⟩ := List.mem_map.1 hu
      rfl) (by unfold maxLen; omega) (by omega) (by simp; omega)
  refine ⟨v', w', hrun, ?_, ?_⟩
  · rw [List.length_append, List.map_append]; exact h2
  · exact (((Below.refl base w).alloc hbase _).grown h3 (by simp; omega) (fun k hk => (hown.lt k hk).1))
theorem row_first (w : World) (bs : List UInt8) (cs : Array Value) (hcs : cs = (bs.map u8v).toArray) (hl : bs.length ≤ 100) : (w.alloc (.cells cs 5)).ownsRow w.heap.size 5 1 (.slice (some ⟨w.heap.size, 0, none⟩) bs.length bs.length) bs.length (bs.map u8v) := by
  subst hcs
  refine ⟨by simp, .inr ⟨w.heap.size, bs.length, _, rfl, Nat.le_refl _, heap_alloc_new w _, Nat.le_refl _, by unfold maxLen; omega, by simp, by rw [List.take_of_length_le (by simp)]⟩⟩
/-- A row of bytes of the call's own, as a string. -/
theorem conv_u8 (w : World) (base : Nat) (v : Value) (bs : List UInt8) (hown : w.ownsRow base 5 1 v bs.length (bs.map u8v)) : (convert 99 9 v).run Tryz.prog w = .ok (.string (S bs)) w := by
  rcases hown.2 with ⟨rfl, hn⟩ | ⟨g, cap, cur, rfl, hb, hg, hnc, hcm, hcs, htake⟩
  · have : bs = [] := List.eq_nil_of_length_eq_zero hn
    subst this
    rw [run_convert_bytes_nil (P := Tryz.prog) w 99 5 Tryz.underlying99 Tryz.underlying5 0 0 9 Tryz.underlying9]
    rfl
  · rw [run_convert_bytes_arg (P := Tryz.prog) w 99 5 Tryz.underlying99 Tryz.underlying5 g 0 bs.length cap (bs.map fun c => (c.toNat : Int)) (by simp) (fun i hi => by
      have := hown.cells (g := g) rfl i (u8v bs[i]) (by simp [hi])
      rw [Addr.add_lit] at this
      rw [this]
      simp [u8v, hi, List.getD]) 9 Tryz.underlying9]
    refine congrArg (fun x => Result.ok (Value.string x) w) ?_
    simp [strOfNums, S, Function.comp_def]
set_option maxHeartbeats 2000000 in
theorem idx_hex (σ : Env) (d t : Tmp) (ty : TypeId) (n : Nat) (w : World) (h : n < 16) (hf : σ t = .int .u8 (n : Int)) :
    (execOp (evalS σ) ⟨some d, .index 9 (.const (.string ⟨#[48, 49, 50, 51, 52, 53, 54, 55, 56, 57, 97, 98, 99, 100, 101, 102]⟩)) (.tmp t), ty, "", #[], none⟩).run Tryz.prog w = .ok (.value (.int .u8 ((hexD n).toNat : Int))) w := by
  have hc : n = 0 ∨ n = 1 ∨ n = 2 ∨ n = 3 ∨ n = 4 ∨ n = 5 ∨ n = 6 ∨ n = 7 ∨ n = 8 ∨ n = 9 ∨ n = 10 ∨ n = 11 ∨ n = 12 ∨ n = 13 ∨ n = 14 ∨ n = 15 := by omega
  clear h
  rcases hc with rfl | rfl | rfl | rfl | rfl | rfl | rfl | rfl | rfl | rfl | rfl | rfl | rfl | rfl | rfl | rfl
  all_goals (simp [go_sem, lk, upd, envOf, stepS_value, stepS_skip, stepS_enter, ↓IntWalk.iteOmega, hf]; try rfl)
theorem and_hex (σ : Env) (d t : Tmp) (ty : TypeId) (n : Nat) (w : World) (h : n < 256) (hf : σ t = .int .u8 (n : Int)) :
    (execOp (evalS σ) ⟨some d, .binOp .and 5 (.tmp t) (.const (.int .u8 15)) 5, ty, "", #[], none⟩).run Tryz.prog w = .ok (.value (.int .u8 ((n % 16 : Nat) : Int))) w := by
  simp [go_sem, lk, upd, envOf, stepS_value, stepS_skip, stepS_enter, ↓IntWalk.iteOmega, hf]
  exact u8_and15 (x := (n : Int)) (by omega) (by omega)
theorem exact_append {P : Program} {σ : Env} {w w' : World} {d s x : Tmp} {t1 t2 ty : TypeId} {v' vs vx : Value} (hs : σ s = vs) (hx : σ x = vx) (hrun : (Builtin.append_ #[t1, t2] ty #[vs, vx]).run P w = .ok v' w') :
    exactU v' w' ((execOp (evalS σ) ⟨some d, .call { callee := .builtin .append, args := #[.tmp s, .tmp x], argTypes := #[t1, t2] }, ty, "", #[], none⟩).run P w) := by
  simp [execOp, resolve, invoke, builtin, evalS_tmp, hs, hx, hrun, Result.andThen, exactU_value]
/-- What has been written behind k bytes, as a list. -/
def qb (s : ByteArray) (k : Nat) : List UInt8 := 34 :: (s.data.toList.take k).flatMap escB
theorem qb_le (s : ByteArray) (k : Nat) : (qb s k).length ≤ 4 * k + 1 := by
  have := qs_size s k
  rw [qs, S_size] at this
  exact this
theorem qb_succ (s : ByteArray) (k : Nat) (h : k < s.size) : qb s (k + 1) = qb s k ++ escB s[k] := by
  rw [qb, take_snoc s k h, List.flatMap_append, qb]; simp
theorem qb_end (s : ByteArray) (k : Nat) (h : s.size ≤ k) : qb s k ++ [34] = quoteL s.data.toList := by
  rw [qb, List.take_of_length_le (by simpa using h)]; rfl
set_option maxHeartbeats 4000000 in
set_option maxRecDepth 100000 in
theorem quote_any (s : ByteArray) (w : World) (hs : s.size ≤ 1000000) :
    Calls Tryz.prog 62 #[.string s] w fun e w' => e = .returned (.string (S (quoteL s.data.toList))) ∧ Below w.heap.size w w' := by
  have HE := Lib.hid (qb_end s)
  generalize quoteL s.data.toList = R at *
  refine calls_of_wE Tryz.func62 rfl Tryz.ntmps62 (by simp) ?_
  repeat' (first | with_reducible (first | refine wE_seq (fun K hK => ?_) | refine wE_block ?_ | refine wE_skip ?_ | refine wE_ret ?_ | refine wE_exit ?_) | ((with_reducible refine wE_region ?_ ?_); (kernel_rfl); simp only [ls, stripO]) | ((with_reducible refine wS_step (fun K hK => ?_)); simp [go_sem, lk, upd, envOf, stepS_value, stepS_skip, stepS_enter, ↓IntWalk.iteOmega, *]; (try go_ints); refine hK.out _ _ ?_; clear hK K) | ((with_reducible refine wS_unit (fun K hK => ?_)); simp [go_sem, lk, upd, envOf, stepS_value, stepS_skip, stepS_enter, ↓IntWalk.iteOmega, *]; (try go_ints); refine hK.out _ _ ?_; clear hK K) | ((with_reducible refine wS_skip ?_ ?_); (focus (simp [lk, upd, envOf, *]; done))) | ((with_reducible refine wS_want ?_ ?_); (focus (simp [lk, upd, envOf, *]; done))) | ((with_reducible refine wS_split (fun hc => ?_) (fun hc => ?_)) <;> simp [lk, upd, envOf, *] at hc <;> try (exfalso; omega)) | with_reducible refine wS_nil ?_ | simp only [thenE, blockE, ↓reduceIte, Nat.reduceEqDiff] | ((with_reducible refine hK.out _ _ ?_); clear hK K) | ((with_reducible refine wE_if ?_ (fun hc => ?_) (fun hc => ?_)); (focus (simp [lk, upd, envOf, *]; done)); all_goals (simp [lk, upd, envOf, *] at hc <;> try (exfalso; omega))) | (clear hK; clear K))
  refine wE_loop (fun (k : Nat) σ w' => k ≤ s.size ∧ σ 0 = .string s ∧ σ 8 = .int .i64 s.size ∧ σ 9 = .int .i64 k ∧ w'.ownsRow w.heap.size 5 1 (σ 3) (qb s k).length ((qb s k).map u8v) ∧ Below w.heap.size w w') (fun k => s.size - k) 0 ?_ ?_
  · refine ⟨by omega, by simp [upd, envOf], by simp [upd], by simp [upd], ?_, (Below.refl _ _).alloc (Nat.le_refl _) _⟩
    simp [upd]
    exact row_first w [34] _ rfl (by simp)
  rintro k σ w' ⟨hk, h0, h8, h9, hown, hbel⟩
  have HO := Lib.hid hown
  have HB := Lib.hid hbel
  have hsz := hbel.size
  have hql := qb_le s k
  clear hown hbel
  generalize h3 : σ 3 = v at HO
  by_cases hlt : k < s.size
  · have hc : s[k].toNat < 256 := s[k].toNat_lt
    have HS := Lib.hid (qb_succ s k hlt)
    have hel := escB_le s[k]
    by_cases c1 : s[k].toNat = 34
    · have HX := Lib.hid (esc1 (c := s[k]) (Or.inl c1))
      have t1 : ((s[k].toNat : Int) == 34) = true := beq_t (by omega)
      clear c1
      obtain ⟨v', w1, hrun, hown1, hbel1⟩ := app_u8 w' w.heap.size v (qb s k) [92, s[k]] #[.int .u8 92, .int .u8 (s[k].toNat : Int)] 2 HO.out rfl rfl (by simp; omega) hsz
      have HR := Lib.hid hrun
      have HO1 : Hid (w1.ownsRow w.heap.size 5 1 v' (qb s (k + 1)).length ((qb s (k + 1)).map u8v)) := by rw [HS.out, HX.out]; exact hown1
      have HB1 := Lib.hid (HB.out.trans hbel1)
      clear hrun hown1 hbel1
      repeat' (first | with_reducible (first | refine wE_seq (fun K hK => ?_) | refine wE_block ?_ | refine wE_skip ?_ | refine wE_ret ?_ | refine wE_exit ?_) | ((with_reducible refine wE_region ?_ ?_); (kernel_rfl); simp only [ls, stripO]) | ((with_reducible refine wS_step (fun K hK => ?_)); simp [go_sem, lk, upd, envOf, stepS_value, stepS_skip, stepS_enter, ↓IntWalk.iteOmega, *]; (try go_ints); refine hK.out _ _ ?_; clear hK K) | ((with_reducible refine wS_unit (fun K hK => ?_)); simp [go_sem, lk, upd, envOf, stepS_value, stepS_skip, stepS_enter, ↓IntWalk.iteOmega, *]; (try go_ints); refine hK.out _ _ ?_; clear hK K) | ((with_reducible refine wS_skip ?_ ?_); (focus (simp [lk, upd, envOf, *]; done))) | ((with_reducible refine wS_want ?_ ?_); (focus (simp [lk, upd, envOf, *]; done))) | ((with_reducible refine wS_split (fun hc => ?_) (fun hc => ?_)) <;> simp [lk, upd, envOf, *] at hc <;> try (exfalso; omega)) | with_reducible refine wS_nil ?_ | simp only [thenE, blockE, ↓reduceIte, Nat.reduceEqDiff] | ((with_reducible refine hK.out _ _ ?_); clear hK K) | ((with_reducible refine wE_if ?_ (fun hc => ?_) (fun hc => ?_)); (focus (simp [lk, upd, envOf, *]; done)); all_goals (simp [lk, upd, envOf, *] at hc <;> try (exfalso; omega))) | (clear hK; clear K))
      refine wS_append v (.slice (some ⟨w'.heap.size, 0, none⟩) 2 2) ?_ ?_ HR.out ?_
      · simp [evalS_tmp, upd, *]
      · simp [evalS_tmp, upd]
      repeat' (first | with_reducible (first | refine wE_seq (fun K hK => ?_) | refine wE_block ?_ | refine wE_skip ?_ | refine wE_ret ?_ | refine wE_exit ?_) | ((with_reducible refine wE_region ?_ ?_); (kernel_rfl); simp only [ls, stripO]) | ((with_reducible refine wS_step (fun K hK => ?_)); simp [go_sem, lk, upd, envOf, stepS_value, stepS_skip, stepS_enter, ↓IntWalk.iteOmega, *]; (try go_ints); refine hK.out _ _ ?_; clear hK K) | ((with_reducible refine wS_unit (fun K hK => ?_)); simp [go_sem, lk, upd, envOf, stepS_value, stepS_skip, stepS_enter, ↓IntWalk.iteOmega, *]; (try go_ints); refine hK.out _ _ ?_; clear hK K) | ((with_reducible refine wS_skip ?_ ?_); (focus (simp [lk, upd, envOf, *]; done))) | ((with_reducible refine wS_want ?_ ?_); (focus (simp [lk, upd, envOf, *]; done))) | ((with_reducible refine wS_split (fun hc => ?_) (fun hc => ?_)) <;> simp [lk, upd, envOf, *] at hc <;> try (exfalso; omega)) | with_reducible refine wS_nil ?_ | simp only [thenE, blockE, ↓reduceIte, Nat.reduceEqDiff] | ((with_reducible refine hK.out _ _ ?_); clear hK K) | ((with_reducible refine wE_if ?_ (fun hc => ?_) (fun hc => ?_)); (focus (simp [lk, upd, envOf, *]; done)); all_goals (simp [lk, upd, envOf, *] at hc <;> try (exfalso; omega))) | (clear hK; clear K))
      refine ⟨k + 1, ⟨by omega, by simp [upd, *], by simp [upd, *], by simp [upd], ?_, HB1.out⟩, by omega⟩
      simp [upd]
      exact HO1.out
    have t1 : ((s[k].toNat : Int) == 34) = false := beq_f (by omega)
    by_cases c2 : s[k].toNat = 92
    · have HX := Lib.hid (esc1 (c := s[k]) (Or.inr c2))
      have t2 : ((s[k].toNat : Int) == 92) = true := beq_t (by omega)
      clear c1 c2
      obtain ⟨v', w1, hrun, hown1, hbel1⟩ := app_u8 w' w.heap.size v (qb s k) [92, s[k]] #[.int .u8 92, .int .u8 (s[k].toNat : Int)] 2 HO.out rfl rfl (by simp; omega) hsz
      have HR := Lib.hid hrun
      have HO1 : Hid (w1.ownsRow w.heap.size 5 1 v' (qb s (k + 1)).length ((qb s (k + 1)).map u8v)) := by rw [HS.out, HX.out]; exact hown1
      have HB1 := Lib.hid (HB.out.trans hbel1)
      clear hrun hown1 hbel1
      repeat' (first | with_reducible (first | refine wE_seq (fun K hK => ?_) | refine wE_block ?_ | refine wE_skip ?_ | refine wE_ret ?_ | refine wE_exit ?_) | ((with_reducible refine wE_region ?_ ?_); (kernel_rfl); simp only [ls, stripO]) | ((with_reducible refine wS_step (fun K hK => ?_)); simp [go_sem, lk, upd, envOf, stepS_value, stepS_skip, stepS_enter, ↓IntWalk.iteOmega, *]; (try go_ints); refine hK.out _ _ ?_; clear hK K) | ((with_reducible refine wS_unit (fun K hK => ?_)); simp [go_sem, lk, upd, envOf, stepS_value, stepS_skip, stepS_enter, ↓IntWalk.iteOmega, *]; (try go_ints); refine hK.out _ _ ?_; clear hK K) | ((with_reducible refine wS_skip ?_ ?_); (focus (simp [lk, upd, envOf, *]; done))) | ((with_reducible refine wS_want ?_ ?_); (focus (simp [lk, upd, envOf, *]; done))) | ((with_reducible refine wS_split (fun hc => ?_) (fun hc => ?_)) <;> simp [lk, upd, envOf, *] at hc <;> try (exfalso; omega)) | with_reducible refine wS_nil ?_ | simp only [thenE, blockE, ↓reduceIte, Nat.reduceEqDiff] | ((with_reducible refine hK.out _ _ ?_); clear hK K) | ((with_reducible refine wE_if ?_ (fun hc => ?_) (fun hc => ?_)); (focus (simp [lk, upd, envOf, *]; done)); all_goals (simp [lk, upd, envOf, *] at hc <;> try (exfalso; omega))) | (clear hK; clear K))
      refine wS_append v (.slice (some ⟨w'.heap.size, 0, none⟩) 2 2) ?_ ?_ HR.out ?_
      · simp [evalS_tmp, upd, *]
      · simp [evalS_tmp, upd]
      repeat' (first | with_reducible (first | refine wE_seq (fun K hK => ?_) | refine wE_block ?_ | refine wE_skip ?_ | refine wE_ret ?_ | refine wE_exit ?_) | ((with_reducible refine wE_region ?_ ?_); (kernel_rfl); simp only [ls, stripO]) | ((with_reducible refine wS_step (fun K hK => ?_)); simp [go_sem, lk, upd, envOf, stepS_value, stepS_skip, stepS_enter, ↓IntWalk.iteOmega, *]; (try go_ints); refine hK.out _ _ ?_; clear hK K) | ((with_reducible refine wS_unit (fun K hK => ?_)); simp [go_sem, lk, upd, envOf, stepS_value, stepS_skip, stepS_enter, ↓IntWalk.iteOmega, *]; (try go_ints); refine hK.out _ _ ?_; clear hK K) | ((with_reducible refine wS_skip ?_ ?_); (focus (simp [lk, upd, envOf, *]; done))) | ((with_reducible refine wS_want ?_ ?_); (focus (simp [lk, upd, envOf, *]; done))) | ((with_reducible refine wS_split (fun hc => ?_) (fun hc => ?_)) <;> simp [lk, upd, envOf, *] at hc <;> try (exfalso; omega)) | with_reducible refine wS_nil ?_ | simp only [thenE, blockE, ↓reduceIte, Nat.reduceEqDiff] | ((with_reducible refine hK.out _ _ ?_); clear hK K) | ((with_reducible refine wE_if ?_ (fun hc => ?_) (fun hc => ?_)); (focus (simp [lk, upd, envOf, *]; done)); all_goals (simp [lk, upd, envOf, *] at hc <;> try (exfalso; omega))) | (clear hK; clear K))
      refine ⟨k + 1, ⟨by omega, by simp [upd, *], by simp [upd, *], by simp [upd], ?_, HB1.out⟩, by omega⟩
      simp [upd]
      exact HO1.out
    have t2 : ((s[k].toNat : Int) == 92) = false := beq_f (by omega)
    by_cases c3 : s[k].toNat = 10
    · have HX := Lib.hid (esc2 (c := s[k]) c3)
      have t3 : ((s[k].toNat : Int) == 10) = true := beq_t (by omega)
      clear c1 c2 c3
      obtain ⟨v', w1, hrun, hown1, hbel1⟩ := app_u8 w' w.heap.size v (qb s k) [92, 110] #[.int .u8 92, .int .u8 110] 2 HO.out rfl rfl (by simp; omega) hsz
      have HR := Lib.hid hrun
      have HO1 : Hid (w1.ownsRow w.heap.size 5 1 v' (qb s (k + 1)).length ((qb s (k + 1)).map u8v)) := by rw [HS.out, HX.out]; exact hown1
      have HB1 := Lib.hid (HB.out.trans hbel1)
      clear hrun hown1 hbel1
      repeat' (first | with_reducible (first | refine wE_seq (fun K hK => ?_) | refine wE_block ?_ | refine wE_skip ?_ | refine wE_ret ?_ | refine wE_exit ?_) | ((with_reducible refine wE_region ?_ ?_); (kernel_rfl); simp only [ls, stripO]) | ((with_reducible refine wS_step (fun K hK => ?_)); simp [go_sem, lk, upd, envOf, stepS_value, stepS_skip, stepS_enter, ↓IntWalk.iteOmega, *]; (try go_ints); refine hK.out _ _ ?_; clear hK K) | ((with_reducible refine wS_unit (fun K hK => ?_)); simp [go_sem, lk, upd, envOf, stepS_value, stepS_skip, stepS_enter, ↓IntWalk.iteOmega, *]; (try go_ints); refine hK.out _ _ ?_; clear hK K) | ((with_reducible refine wS_skip ?_ ?_); (focus (simp [lk, upd, envOf, *]; done))) | ((with_reducible refine wS_want ?_ ?_); (focus (simp [lk, upd, envOf, *]; done))) | ((with_reducible refine wS_split (fun hc => ?_) (fun hc => ?_)) <;> simp [lk, upd, envOf, *] at hc <;> try (exfalso; omega)) | with_reducible refine wS_nil ?_ | simp only [thenE, blockE, ↓reduceIte, Nat.reduceEqDiff] | ((with_reducible refine hK.out _ _ ?_); clear hK K) | ((with_reducible refine wE_if ?_ (fun hc => ?_) (fun hc => ?_)); (focus (simp [lk, upd, envOf, *]; done)); all_goals (simp [lk, upd, envOf, *] at hc <;> try (exfalso; omega))) | (clear hK; clear K))
      refine wS_append v (.slice (some ⟨w'.heap.size, 0, none⟩) 2 2) ?_ ?_ HR.out ?_
      · simp [evalS_tmp, upd, *]
      · simp [evalS_tmp, upd]
      repeat' (first | with_reducible (first | refine wE_seq (fun K hK => ?_) | refine wE_block ?_ | refine wE_skip ?_ | refine wE_ret ?_ | refine wE_exit ?_) | ((with_reducible refine wE_region ?_ ?_); (kernel_rfl); simp only [ls, stripO]) | ((with_reducible refine wS_step (fun K hK => ?_)); simp [go_sem, lk, upd, envOf, stepS_value, stepS_skip, stepS_enter, ↓IntWalk.iteOmega, *]; (try go_ints); refine hK.out _ _ ?_; clear hK K) | ((with_reducible refine wS_unit (fun K hK => ?_)); simp [go_sem, lk, upd, envOf, stepS_value, stepS_skip, stepS_enter, ↓IntWalk.iteOmega, *]; (try go_ints); refine hK.out _ _ ?_; clear hK K) | ((with_reducible refine wS_skip ?_ ?_); (focus (simp [lk, upd, envOf, *]; done))) | ((with_reducible refine wS_want ?_ ?_); (focus (simp [lk, upd, envOf, *]; done))) | ((with_reducible refine wS_split (fun hc => ?_) (fun hc => ?_)) <;> simp [lk, upd, envOf, *] at hc <;> try (exfalso; omega)) | with_reducible refine wS_nil ?_ | simp only [thenE, blockE, ↓reduceIte, Nat.reduceEqDiff] | ((with_reducible refine hK.out _ _ ?_); clear hK K) | ((with_reducible refine wE_if ?_ (fun hc => ?_) (fun hc => ?_)); (focus (simp [lk, upd, envOf, *]; done)); all_goals (simp [lk, upd, envOf, *] at hc <;> try (exfalso; omega))) | (clear hK; clear K))
      refine ⟨k + 1, ⟨by omega, by simp [upd, *], by simp [upd, *], by simp [upd], ?_, HB1.out⟩, by omega⟩
      simp [upd]
      exact HO1.out
    have t3 : ((s[k].toNat : Int) == 10) = false := beq_f (by omega)
    by_cases c4 : s[k].toNat < 32 ∨ 126 < s[k].toNat
    · have HX := Lib.hid (esc3 (c := s[k]) c3 c4)
      have c4' : (s[k].toNat : Int) < 32 ∨ (126 : Int) < s[k].toNat := by omega
      have hcb : s[k].toNat < 256 := s[k].toNat_lt
      clear c1 c2 c3 c4
      have b1 : s[k].toNat / 16 < 16 := by omega
      have b2 : s[k].toNat % 16 < 16 := by omega
      obtain ⟨v', w1, hrun, hown1, hbel1⟩ := app_u8 w'.drew w.heap.size v (qb s k) [92, 120, hexD (s[k].toNat / 16), hexD (s[k].toNat % 16)] #[.int .u8 92, .int .u8 120, .int .u8 ((hexD (s[k].toNat / 16)).toNat : Int), .int .u8 ((hexD (s[k].toNat % 16)).toNat : Int)] 4 HO.out.drew rfl rfl (by simp; omega) hsz
      have HR := Lib.hid hrun
      have HO1 : Hid (w1.ownsRow w.heap.size 5 1 v' (qb s (k + 1)).length ((qb s (k + 1)).map u8v)) := by rw [HS.out, HX.out]; exact hown1
      have HB1 := Lib.hid (HB.out.trans ((Below.refl _ _).drew.trans hbel1))
      clear hrun hown1 hbel1
      rcases c4' with c5 | c6
      · repeat' (first | with_reducible (first | refine wE_seq (fun K hK => ?_) | refine wE_block ?_ | refine wE_skip ?_ | refine wE_ret ?_ | refine wE_exit ?_) | ((with_reducible refine wE_region ?_ ?_); (kernel_rfl); simp only [ls, stripO]) | ((with_reducible refine wS_step (fun K hK => ?_)); simp [go_sem, lk, upd, envOf, stepS_value, stepS_skip, stepS_enter, ↓IntWalk.iteOmega, *]; (try go_ints); refine hK.out _ _ ?_; clear hK K) | ((with_reducible refine wS_unit (fun K hK => ?_)); simp [go_sem, lk, upd, envOf, stepS_value, stepS_skip, stepS_enter, ↓IntWalk.iteOmega, *]; (try go_ints); refine hK.out _ _ ?_; clear hK K) | ((with_reducible refine wS_skip ?_ ?_); (focus (simp [lk, upd, envOf, *]; done))) | ((with_reducible refine wS_want ?_ ?_); (focus (simp [lk, upd, envOf, *]; done))) | ((with_reducible refine wS_split (fun hc => ?_) (fun hc => ?_)) <;> simp [lk, upd, envOf, *] at hc <;> try (exfalso; omega)) | with_reducible refine wS_nil ?_ | simp only [thenE, blockE, ↓reduceIte, Nat.reduceEqDiff] | ((with_reducible refine hK.out _ _ ?_); clear hK K) | ((with_reducible refine wE_if ?_ (fun hc => ?_) (fun hc => ?_)); (focus (simp [lk, upd, envOf, *]; done)); all_goals (simp [lk, upd, envOf, *] at hc <;> try (exfalso; omega))) | (clear hK; clear K))
        refine wE_exact [v, .int .u8 (s[k].toNat : Int), .int .u8 ((s[k].toNat / 16 : Nat) : Int), .int .u8 ((hexD (s[k].toNat / 16)).toNat : Int), .int .u8 (s[k].toNat : Int), .int .u8 ((s[k].toNat % 16 : Nat) : Int), .int .u8 ((hexD (s[k].toNat % 16)).toNat : Int), .slice (some ⟨w'.heap.size, 0, none⟩) 4 4, v', v'] [w'.drew, w'.drew.alloc (.cells #[.int .u8 92, .int .u8 120, .int .u8 ((hexD (s[k].toNat / 16)).toNat : Int), .int .u8 ((hexD (s[k].toNat % 16)).toNat : Int)] 5), w1] [7, 8] [[(3, none)], [(5, none)], [(44, some 1)], [(45, some 2)], [(5, none)], [(47, some 4)], [(48, some 5)], [(46, some 3), (49, some 6)], [(43, some 0), (50, some 7)], [(51, some 8)]] (by kernel_rfl) (by kernel_rfl) (by kernel_rfl) rfl ?_ ?_
        · simp only [ls, stripO, oblV, Nat.zero_add, Nat.reduceAdd]
          refine ⟨?_, ?_, ?_, ?_, ?_, ?_, ?_, ?_, ?_, ?_, trivial⟩
          · intro σ hf; simp only [factsV, List.getD_cons_succ, List.getD_cons_zero, and_true] at hf; refine ⟨rfl, ?_⟩; show quietAll _ _ _ _ _; simp only [quietAll]; simp [go_sem, lk, upd, envOf, stepS_value, stepS_skip, stepS_enter, ↓IntWalk.iteOmega, exactU_value, exactU_skip, hf, *]
          · intro σ hf; simp only [factsV, List.getD_cons_succ, List.getD_cons_zero, and_true] at hf; refine ⟨rfl, ?_⟩; show quietAll _ _ _ _ _; simp only [quietAll]; simp [go_sem, lk, upd, envOf, stepS_value, stepS_skip, stepS_enter, ↓IntWalk.iteOmega, exactU_value, exactU_skip, hf, *]
          · intro σ hf; simp only [factsV, List.getD_cons_succ, List.getD_cons_zero, and_true] at hf; refine ⟨rfl, ?_⟩; show quietAll _ _ _ _ _; simp only [quietAll]; simp [go_sem, lk, upd, envOf, stepS_value, stepS_skip, stepS_enter, ↓IntWalk.iteOmega, exactU_value, exactU_skip, hf, *]
          · intro σ hf; simp only [factsV, List.getD_cons_succ, List.getD_cons_zero, and_true] at hf; refine ⟨rfl, ?_⟩; show quietAll _ _ _ _ _; simp only [quietAll]; refine ⟨?_, ?_, ?_, trivial⟩ <;> (rw [idx_hex _ _ _ _ _ _ b1 hf]; exact ⟨rfl, rfl⟩)
          · intro σ hf; simp only [factsV, List.getD_cons_succ, List.getD_cons_zero, and_true] at hf; refine ⟨rfl, ?_⟩; show quietAll _ _ _ _ _; simp only [quietAll]; simp [go_sem, lk, upd, envOf, stepS_value, stepS_skip, stepS_enter, ↓IntWalk.iteOmega, exactU_value, exactU_skip, hf, *]
          · intro σ hf; simp only [factsV, List.getD_cons_succ, List.getD_cons_zero, and_true] at hf; refine ⟨rfl, ?_⟩; show quietAll _ _ _ _ _; simp only [quietAll]; refine ⟨?_, ?_, ?_, trivial⟩ <;> (rw [and_hex _ _ _ _ _ _ hcb hf]; exact ⟨rfl, rfl⟩)
          · intro σ hf; simp only [factsV, List.getD_cons_succ, List.getD_cons_zero, and_true] at hf; refine ⟨rfl, ?_⟩; show quietAll _ _ _ _ _; simp only [quietAll]; refine ⟨?_, ?_, ?_, trivial⟩ <;> (rw [idx_hex _ _ _ _ _ _ b2 hf]; exact ⟨rfl, rfl⟩)
          · intro σ hf; simp only [factsV, List.getD_cons_succ, List.getD_cons_zero, and_true] at hf; refine ⟨rfl, ?_⟩; refine ⟨_, _, rfl, rfl, ?_⟩; simp [go_sem, lk, upd, envOf, stepS_value, stepS_skip, stepS_enter, ↓IntWalk.iteOmega, exactU_value, exactU_skip, hf, *]
          · intro σ hf; simp only [factsV, List.getD_cons_succ, List.getD_cons_zero, and_true] at hf; refine ⟨rfl, ?_⟩; refine ⟨_, _, rfl, rfl, ?_⟩; exact exact_append hf.1 hf.2 HR.out
          · intro σ hf; simp only [factsV, List.getD_cons_succ, List.getD_cons_zero, and_true] at hf; refine ⟨rfl, ?_⟩; show quietAll _ _ _ _ _; simp only [quietAll]; simp [go_sem, lk, upd, envOf, stepS_value, stepS_skip, stepS_enter, ↓IntWalk.iteOmega, exactU_value, exactU_skip, hf, *]
        intro σ' w2 hw2 hE
        obtain rfl : w1 = w2 := Option.some.inj hw2
        have e3 := hE.at_ 9 3 rfl
        have e0 := hE.old 0 (by kernel_rfl)
        have e8 := hE.old 8 (by kernel_rfl)
        have e9 := hE.old 9 (by kernel_rfl)
        simp only [List.map_cons, List.getD_cons_succ, List.getD_cons_zero, SP.val_p] at e3
        simp [upd, *] at e0 e8 e9
        clear hE
        repeat' (first | with_reducible (first | refine wE_seq (fun K hK => ?_) | refine wE_block ?_ | refine wE_skip ?_ | refine wE_ret ?_ | refine wE_exit ?_) | ((with_reducible refine wE_region ?_ ?_); (kernel_rfl); simp only [ls, stripO]) | ((with_reducible refine wS_step (fun K hK => ?_)); simp [go_sem, lk, upd, envOf, stepS_value, stepS_skip, stepS_enter, ↓IntWalk.iteOmega, *]; (try go_ints); refine hK.out _ _ ?_; clear hK K) | ((with_reducible refine wS_unit (fun K hK => ?_)); simp [go_sem, lk, upd, envOf, stepS_value, stepS_skip, stepS_enter, ↓IntWalk.iteOmega, *]; (try go_ints); refine hK.out _ _ ?_; clear hK K) | ((with_reducible refine wS_skip ?_ ?_); (focus (simp [lk, upd, envOf, *]; done))) | ((with_reducible refine wS_want ?_ ?_); (focus (simp [lk, upd, envOf, *]; done))) | ((with_reducible refine wS_split (fun hc => ?_) (fun hc => ?_)) <;> simp [lk, upd, envOf, *] at hc <;> try (exfalso; omega)) | with_reducible refine wS_nil ?_ | simp only [thenE, blockE, ↓reduceIte, Nat.reduceEqDiff] | ((with_reducible refine hK.out _ _ ?_); clear hK K) | ((with_reducible refine wE_if ?_ (fun hc => ?_) (fun hc => ?_)); (focus (simp [lk, upd, envOf, *]; done)); all_goals (simp [lk, upd, envOf, *] at hc <;> try (exfalso; omega))) | (clear hK; clear K))
        refine ⟨k + 1, ⟨by omega, by simp [upd, *], by simp [upd, *], by simp [upd], ?_, HB1.out⟩, by omega⟩
        simp [upd, e3]
        exact HO1.out
      · have c5 : ¬ (s[k].toNat : Int) < 32 := by omega
        repeat' (first | with_reducible (first | refine wE_seq (fun K hK => ?_) | refine wE_block ?_ | refine wE_skip ?_ | refine wE_ret ?_ | refine wE_exit ?_) | ((with_reducible refine wE_region ?_ ?_); (kernel_rfl); simp only [ls, stripO]) | ((with_reducible refine wS_step (fun K hK => ?_)); simp [go_sem, lk, upd, envOf, stepS_value, stepS_skip, stepS_enter, ↓IntWalk.iteOmega, *]; (try go_ints); refine hK.out _ _ ?_; clear hK K) | ((with_reducible refine wS_unit (fun K hK => ?_)); simp [go_sem, lk, upd, envOf, stepS_value, stepS_skip, stepS_enter, ↓IntWalk.iteOmega, *]; (try go_ints); refine hK.out _ _ ?_; clear hK K) | ((with_reducible refine wS_skip ?_ ?_); (focus (simp [lk, upd, envOf, *]; done))) | ((with_reducible refine wS_want ?_ ?_); (focus (simp [lk, upd, envOf, *]; done))) | ((with_reducible refine wS_split (fun hc => ?_) (fun hc => ?_)) <;> simp [lk, upd, envOf, *] at hc <;> try (exfalso; omega)) | with_reducible refine wS_nil ?_ | simp only [thenE, blockE, ↓reduceIte, Nat.reduceEqDiff] | ((with_reducible refine hK.out _ _ ?_); clear hK K) | ((with_reducible refine wE_if ?_ (fun hc => ?_) (fun hc => ?_)); (focus (simp [lk, upd, envOf, *]; done)); all_goals (simp [lk, upd, envOf, *] at hc <;> try (exfalso; omega))) | (clear hK; clear K))
        refine wE_exact [v, .int .u8 (s[k].toNat : Int), .int .u8 ((s[k].toNat / 16 : Nat) : Int), .int .u8 ((hexD (s[k].toNat / 16)).toNat : Int), .int .u8 (s[k].toNat : Int), .int .u8 ((s[k].toNat % 16 : Nat) : Int), .int .u8 ((hexD (s[k].toNat % 16)).toNat : Int), .slice (some ⟨w'.heap.size, 0, none⟩) 4 4, v', v'] [w'.drew, w'.drew.alloc (.cells #[.int .u8 92, .int .u8 120, .int .u8 ((hexD (s[k].toNat / 16)).toNat : Int), .int .u8 ((hexD (s[k].toNat % 16)).toNat : Int)] 5), w1] [7, 8] [[(3, none)], [(5, none)], [(44, some 1)], [(45, some 2)], [(5, none)], [(47, some 4)], [(48, some 5)], [(46, some 3), (49, some 6)], [(43, some 0), (50, some 7)], [(51, some 8)]] (by kernel_rfl) (by kernel_rfl) (by kernel_rfl) rfl ?_ ?_
        · simp only [ls, stripO, oblV, Nat.zero_add, Nat.reduceAdd]
          refine ⟨?_, ?_, ?_, ?_, ?_, ?_, ?_, ?_, ?_, ?_, trivial⟩
          · intro σ hf; simp only [factsV, List.getD_cons_succ, List.getD_cons_zero, and_true] at hf; refine ⟨rfl, ?_⟩; show quietAll _ _ _ _ _; simp only [quietAll]; simp [go_sem, lk, upd, envOf, stepS_value, stepS_skip, stepS_enter, ↓IntWalk.iteOmega, exactU_value, exactU_skip, hf, *]
          · intro σ hf; simp only [factsV, List.getD_cons_succ, List.getD_cons_zero, and_true] at hf; refine ⟨rfl, ?_⟩; show quietAll _ _ _ _ _; simp only [quietAll]; simp [go_sem, lk, upd, envOf, stepS_value, stepS_skip, stepS_enter, ↓IntWalk.iteOmega, exactU_value, exactU_skip, hf, *]
          · intro σ hf; simp only [factsV, List.getD_cons_succ, List.getD_cons_zero, and_true] at hf; refine ⟨rfl, ?_⟩; show quietAll _ _ _ _ _; simp only [quietAll]; simp [go_sem, lk, upd, envOf, stepS_value, stepS_skip, stepS_enter, ↓IntWalk.iteOmega, exactU_value, exactU_skip, hf, *]
          · intro σ hf; simp only [factsV, List.getD_cons_succ, List.getD_cons_zero, and_true] at hf; refine ⟨rfl, ?_⟩; show quietAll _ _ _ _ _; simp only [quietAll]; refine ⟨?_, ?_, ?_, trivial⟩ <;> (rw [idx_hex _ _ _ _ _ _ b1 hf]; exact ⟨rfl, rfl⟩)
          · intro σ hf; simp only [factsV, List.getD_cons_succ, List.getD_cons_zero, and_true] at hf; refine ⟨rfl, ?_⟩; show quietAll _ _ _ _ _; simp only [quietAll]; simp [go_sem, lk, upd, envOf, stepS_value, stepS_skip, stepS_enter, ↓IntWalk.iteOmega, exactU_value, exactU_skip, hf, *]
          · intro σ hf; simp only [factsV, List.getD_cons_succ, List.getD_cons_zero, and_true] at hf; refine ⟨rfl, ?_⟩; show quietAll _ _ _ _ _; simp only [quietAll]; refine ⟨?_, ?_, ?_, trivial⟩ <;> (rw [and_hex _ _ _ _ _ _ hcb hf]; exact ⟨rfl, rfl⟩)
          · intro σ hf; simp only [factsV, List.getD_cons_succ, List.getD_cons_zero, and_true] at hf; refine ⟨rfl, ?_⟩; show quietAll _ _ _ _ _; simp only [quietAll]; refine ⟨?_, ?_, ?_, trivial⟩ <;> (rw [idx_hex _ _ _ _ _ _ b2 hf]; exact ⟨rfl, rfl⟩)
          · intro σ hf; simp only [factsV, List.getD_cons_succ, List.getD_cons_zero, and_true] at hf; refine ⟨rfl, ?_⟩; refine ⟨_, _, rfl, rfl, ?_⟩; simp [go_sem, lk, upd, envOf, stepS_value, stepS_skip, stepS_enter, ↓IntWalk.iteOmega, exactU_value, exactU_skip, hf, *]
          · intro σ hf; simp only [factsV, List.getD_cons_succ, List.getD_cons_zero, and_true] at hf; refine ⟨rfl, ?_⟩; refine ⟨_, _, rfl, rfl, ?_⟩; exact exact_append hf.1 hf.2 HR.out
          · intro σ hf; simp only [factsV, List.getD_cons_succ, List.getD_cons_zero, and_true] at hf; refine ⟨rfl, ?_⟩; show quietAll _ _ _ _ _; simp only [quietAll]; simp [go_sem, lk, upd, envOf, stepS_value, stepS_skip, stepS_enter, ↓IntWalk.iteOmega, exactU_value, exactU_skip, hf, *]
        intro σ' w2 hw2 hE
        obtain rfl : w1 = w2 := Option.some.inj hw2
        have e3 := hE.at_ 9 3 rfl
        have e0 := hE.old 0 (by kernel_rfl)
        have e8 := hE.old 8 (by kernel_rfl)
        have e9 := hE.old 9 (by kernel_rfl)
        simp only [List.map_cons, List.getD_cons_succ, List.getD_cons_zero, SP.val_p] at e3
        simp [upd, *] at e0 e8 e9
        clear hE
        repeat' (first | with_reducible (first | refine wE_seq (fun K hK => ?_) | refine wE_block ?_ | refine wE_skip ?_ | refine wE_ret ?_ | refine wE_exit ?_) | ((with_reducible refine wE_region ?_ ?_); (kernel_rfl); simp only [ls, stripO]) | ((with_reducible refine wS_step (fun K hK => ?_)); simp [go_sem, lk, upd, envOf, stepS_value, stepS_skip, stepS_enter, ↓IntWalk.iteOmega, *]; (try go_ints); refine hK.out _ _ ?_; clear hK K) | ((with_reducible refine wS_unit (fun K hK => ?_)); simp [go_sem, lk, upd, envOf, stepS_value, stepS_skip, stepS_enter, ↓IntWalk.iteOmega, *]; (try go_ints); refine hK.out _ _ ?_; clear hK K) | ((with_reducible refine wS_skip ?_ ?_); (focus (simp [lk, upd, envOf, *]; done))) | ((with_reducible refine wS_want ?_ ?_); (focus (simp [lk, upd, envOf, *]; done))) | ((with_reducible refine wS_split (fun hc => ?_) (fun hc => ?_)) <;> simp [lk, upd, envOf, *] at hc <;> try (exfalso; omega)) | with_reducible refine wS_nil ?_ | simp only [thenE, blockE, ↓reduceIte, Nat.reduceEqDiff] | ((with_reducible refine hK.out _ _ ?_); clear hK K) | ((with_reducible refine wE_if ?_ (fun hc => ?_) (fun hc => ?_)); (focus (simp [lk, upd, envOf, *]; done)); all_goals (simp [lk, upd, envOf, *] at hc <;> try (exfalso; omega))) | (clear hK; clear K))
        refine ⟨k + 1, ⟨by omega, by simp [upd, *], by simp [upd, *], by simp [upd], ?_, HB1.out⟩, by omega⟩
        simp [upd, e3]
        exact HO1.out
    · have HX := Lib.hid (esc4 (c := s[k]) c1 c2 c3 c4)
      have c5 : ¬ (s[k].toNat : Int) < 32 := by omega
      have c6 : ¬ (126 : Int) < s[k].toNat := by omega
      clear c1 c2 c3 c4
      obtain ⟨v', w1, hrun, hown1, hbel1⟩ := app_u8 w' w.heap.size v (qb s k) [s[k]] #[.int .u8 (s[k].toNat : Int)] 1 HO.out rfl rfl (by simp; omega) hsz
      have HR := Lib.hid hrun
      have HO1 : Hid (w1.ownsRow w.heap.size 5 1 v' (qb s (k + 1)).length ((qb s (k + 1)).map u8v)) := by rw [HS.out, HX.out]; exact hown1
      have HB1 := Lib.hid (HB.out.trans hbel1)
      clear hrun hown1 hbel1
      repeat' (first | with_reducible (first | refine wE_seq (fun K hK => ?_) | refine wE_block ?_ | refine wE_skip ?_ | refine wE_ret ?_ | refine wE_exit ?_) | ((with_reducible refine wE_region ?_ ?_); (kernel_rfl); simp only [ls, stripO]) | ((with_reducible refine wS_step (fun K hK => ?_)); simp [go_sem, lk, upd, envOf, stepS_value, stepS_skip, stepS_enter, ↓IntWalk.iteOmega, *]; (try go_ints); refine hK.out _ _ ?_; clear hK K) | ((with_reducible refine wS_unit (fun K hK => ?_)); simp [go_sem, lk, upd, envOf, stepS_value, stepS_skip, stepS_enter, ↓IntWalk.iteOmega, *]; (try go_ints); refine hK.out _ _ ?_; clear hK K) | ((with_reducible refine wS_skip ?_ ?_); (focus (simp [lk, upd, envOf, *]; done))) | ((with_reducible refine wS_want ?_ ?_); (focus (simp [lk, upd, envOf, *]; done))) | ((with_reducible refine wS_split (fun hc => ?_) (fun hc => ?_)) <;> simp [lk, upd, envOf, *] at hc <;> try (exfalso; omega)) | with_reducible refine wS_nil ?_ | simp only [thenE, blockE, ↓reduceIte, Nat.reduceEqDiff] | ((with_reducible refine hK.out _ _ ?_); clear hK K) | ((with_reducible refine wE_if ?_ (fun hc => ?_) (fun hc => ?_)); (focus (simp [lk, upd, envOf, *]; done)); all_goals (simp [lk, upd, envOf, *] at hc <;> try (exfalso; omega))) | (clear hK; clear K))
      refine wS_append v (.slice (some ⟨w'.heap.size, 0, none⟩) 1 1) ?_ ?_ HR.out ?_
      · simp [evalS_tmp, upd, *]
      · simp [evalS_tmp, upd]
      repeat' (first | with_reducible (first | refine wE_seq (fun K hK => ?_) | refine wE_block ?_ | refine wE_skip ?_ | refine wE_ret ?_ | refine wE_exit ?_) | ((with_reducible refine wE_region ?_ ?_); (kernel_rfl); simp only [ls, stripO]) | ((with_reducible refine wS_step (fun K hK => ?_)); simp [go_sem, lk, upd, envOf, stepS_value, stepS_skip, stepS_enter, ↓IntWalk.iteOmega, *]; (try go_ints); refine hK.out _ _ ?_; clear hK K) | ((with_reducible refine wS_unit (fun K hK => ?_)); simp [go_sem, lk, upd, envOf, stepS_value, stepS_skip, stepS_enter, ↓IntWalk.iteOmega, *]; (try go_ints); refine hK.out _ _ ?_; clear hK K) | ((with_reducible refine wS_skip ?_ ?_); (focus (simp [lk, upd, envOf, *]; done))) | ((with_reducible refine wS_want ?_ ?_); (focus (simp [lk, upd, envOf, *]; done))) | ((with_reducible refine wS_split (fun hc => ?_) (fun hc => ?_)) <;> simp [lk, upd, envOf, *] at hc <;> try (exfalso; omega)) | with_reducible refine wS_nil ?_ | simp only [thenE, blockE, ↓reduceIte, Nat.reduceEqDiff] | ((with_reducible refine hK.out _ _ ?_); clear hK K) | ((with_reducible refine wE_if ?_ (fun hc => ?_) (fun hc => ?_)); (focus (simp [lk, upd, envOf, *]; done)); all_goals (simp [lk, upd, envOf, *] at hc <;> try (exfalso; omega))) | (clear hK; clear K))
      refine ⟨k + 1, ⟨by omega, by simp [upd, *], by simp [upd, *], by simp [upd], ?_, HB1.out⟩, by omega⟩
      simp [upd]
      exact HO1.out
  · obtain ⟨v', w1, hrun, hown1, hbel1⟩ := app_u8 w' w.heap.size v (qb s k) [34] #[.int .u8 34] 1 HO.out rfl rfl (by simp; omega) hsz
    have HR := Lib.hid hrun
    have HCV := Lib.hid (conv_u8 w1 w.heap.size v' _ hown1)
    have HB1 := Lib.hid (HB.out.trans hbel1)
    clear hrun hown1 hbel1
    repeat' (first | with_reducible (first | refine wE_seq (fun K hK => ?_) | refine wE_block ?_ | refine wE_skip ?_ | refine wE_ret ?_ | refine wE_exit ?_) | ((with_reducible refine wE_region ?_ ?_); (kernel_rfl); simp only [ls, stripO]) | ((with_reducible refine wS_step (fun K hK => ?_)); simp [go_sem, lk, upd, envOf, stepS_value, stepS_skip, stepS_enter, ↓IntWalk.iteOmega, *]; (try go_ints); refine hK.out _ _ ?_; clear hK K) | ((with_reducible refine wS_unit (fun K hK => ?_)); simp [go_sem, lk, upd, envOf, stepS_value, stepS_skip, stepS_enter, ↓IntWalk.iteOmega, *]; (try go_ints); refine hK.out _ _ ?_; clear hK K) | ((with_reducible refine wS_skip ?_ ?_); (focus (simp [lk, upd, envOf, *]; done))) | ((with_reducible refine wS_want ?_ ?_); (focus (simp [lk, upd, envOf, *]; done))) | ((with_reducible refine wS_split (fun hc => ?_) (fun hc => ?_)) <;> simp [lk, upd, envOf, *] at hc <;> try (exfalso; omega)) | with_reducible refine wS_nil ?_ | simp only [thenE, blockE, ↓reduceIte, Nat.reduceEqDiff] | ((with_reducible refine hK.out _ _ ?_); clear hK K) | ((with_reducible refine wE_if ?_ (fun hc => ?_) (fun hc => ?_)); (focus (simp [lk, upd, envOf, *]; done)); all_goals (simp [lk, upd, envOf, *] at hc <;> try (exfalso; omega))) | (clear hK; clear K))
    refine wS_append v (.slice (some ⟨w'.heap.size, 0, none⟩) 1 1) ?_ ?_ HR.out ?_
    · simp [evalS_tmp, upd, *]
    · simp [evalS_tmp, upd]
    repeat' (first | with_reducible (first | refine wE_seq (fun K hK => ?_) | refine wE_block ?_ | refine wE_skip ?_ | refine wE_ret ?_ | refine wE_exit ?_) | ((with_reducible refine wE_region ?_ ?_); (kernel_rfl); simp only [ls, stripO]) | ((with_reducible refine wS_step (fun K hK => ?_)); simp [go_sem, lk, upd, envOf, stepS_value, stepS_skip, stepS_enter, ↓IntWalk.iteOmega, *, HCV.out]; (try go_ints); refine hK.out _ _ ?_; clear hK K) | ((with_reducible refine wS_unit (fun K hK => ?_)); simp [go_sem, lk, upd, envOf, stepS_value, stepS_skip, stepS_enter, ↓IntWalk.iteOmega, *, HCV.out]; (try go_ints); refine hK.out _ _ ?_; clear hK K) | ((with_reducible refine wS_skip ?_ ?_); (focus (simp [lk, upd, envOf, *, HCV.out]; done))) | ((with_reducible refine wS_want ?_ ?_); (focus (simp [lk, upd, envOf, *, HCV.out]; done))) | ((with_reducible refine wS_split (fun hc => ?_) (fun hc => ?_)) <;> simp [lk, upd, envOf, *, HCV.out] at hc <;> try (exfalso; omega)) | with_reducible refine wS_nil ?_ | simp only [thenE, blockE, ↓reduceIte, Nat.reduceEqDiff] | ((with_reducible refine hK.out _ _ ?_); clear hK K) | ((with_reducible refine wE_if ?_ (fun hc => ?_) (fun hc => ?_)); (focus (simp [lk, upd, envOf, *, HCV.out]; done)); all_goals (simp [lk, upd, envOf, *, HCV.out] at hc <;> try (exfalso; omega))) | (clear hK; clear K))
    refine endE_tmp rfl ⟨ret_str ?_, HB1.out⟩
    rw [HE.out k (by omega)]
end Go.Proofs.YtglekdhdogjnoaaGreatDoor
