/- The reference's Parse, walked. -/
import Derived.Test.YtglekdhdogjnoaaGreatDoorRdH
import Derived.Test.YtglekdhdogjnoaaGreatDoorPrsH
namespace Go.Proofs.YtglekdhdogjnoaaGreatDoor
open Go.RowKit
set_option linter.unusedSimpArgs false
theorem parts_fact {l : List UInt8} {A : PAct} {ps : List PPart} (h : ParseOk l A) (hs : splitF unescR (l.length + 1) l = some ps) : ps = ⟨false, S (wordL A.kind)⟩ :: restParts A ∧ 1 ≤ A.kind ∧ A.kind ≤ 8 ∧ inputR A.kind (restParts A) = (A, true) := by
  have h1 := split_line esc_unescR A
  rw [h.2, hs] at h1
  have f := fine_of A h.1
  exact ⟨Option.some.inj h1, f.k1, f.k8, inputR_line A f⟩
set_option maxHeartbeats 8000000 in
set_option maxRecDepth 100000 in
theorem refParse_any (s : ByteArray) (w : World) (hs : s.size ≤ 400) : Calls Tryz.prog 6 #[.string s] w fun e w' => ParsePost s w e w' := by
  have hg := Grow.alloc w (.cells zeroA 26)
  have hz : (w.alloc (.cells zeroA 26)).heap[w.heap.size]? = some (.cells zeroA 26 (0, 0)) := heap_alloc_new w _
  have HSZ := Lib.hid (show s.data.toList.length = s.size by simp)
  refine calls_of_wE Tryz.func6 rfl Tryz.ntmps6 (by simp) ?_
  repeat' (first | with_reducible (first | refine wE_seq (fun K hK => ?_) | refine wE_block ?_ | refine wE_skip ?_ | refine wE_ret ?_ | refine wE_exit ?_) | simp only [thenE, blockE, ↓reduceIte, Nat.reduceEqDiff] | ((with_reducible refine hK.out _ _ ?_); clear hK K) | ((with_reducible refine wE_if ?_ (fun hc => ?_) (fun hc => ?_)); (focus (simp [lk, upd, envOf, *]; done)); all_goals (simp [lk, upd, envOf, *] at hc <;> try (exfalso; omega))) | (clear hK; clear K))
  ((with_reducible refine wE_region ?_ ?_); (kernel_rfl); simp only [ls, stripO])
  repeat' (first | ((with_reducible refine wS_step (fun K hK => ?_)); simp [go_sem, lk, upd, envOf, lq, ↓IntWalk.iteOmega, *]; (try go_ints); refine hK.out _ _ ?_; clear hK K) | ((with_reducible refine wS_unit (fun K hK => ?_)); simp [go_sem, lk, upd, envOf, lq, ↓IntWalk.iteOmega, *]; (try go_ints); refine hK.out _ _ ?_; clear hK K) | ((with_reducible refine wS_skip ?_ ?_); (focus (simp [lk, upd, envOf, *]; done))) | ((with_reducible refine wS_want ?_ ?_); (focus (simp [lk, upd, envOf, *]; done))) | with_reducible refine wS_nil ?_)
  generalize w.alloc (.cells zeroA 26) = w0 at *
  have HZ := Lib.hid hz
  have HG := Lib.hid hg
  have hws : w.heap.size < w0.heap.size := (Array.getElem?_eq_some_iff.1 hz).1
  clear hg hz
  have HPA := Lib.hid (parts_any s w0 (by omega))
  unfold PartsEnd at HPA
  cases hps : splitF unescR (s.data.toList.length + 1) s.data.toList with
  | none =>
    rw [hps] at HPA
    simp only at HPA
    have HNO : Hid (∀ A, ¬ ParseOk s.data.toList A) := by
      intro A h
      have h1 := split_line esc_unescR A
      rw [h.2, hps] at h1
      cases h1
    clear hps
    repeat' (first | with_reducible (first | refine wE_seq (fun K hK => ?_) | refine wE_block ?_ | refine wE_skip ?_ | refine wE_ret ?_ | refine wE_exit ?_) | ((with_reducible refine wE_region ?_ ?_); (kernel_rfl); simp only [ls, stripO]) | ((with_reducible refine wS_step (fun K hK => ?_)); simp [go_sem, lk, upd, envOf, lq, ↓IntWalk.iteOmega, *]; (try go_ints); refine hK.out _ _ ?_; clear hK K) | ((with_reducible refine wS_unit (fun K hK => ?_)); simp [go_sem, lk, upd, envOf, lq, ↓IntWalk.iteOmega, *]; (try go_ints); refine hK.out _ _ ?_; clear hK K) | ((with_reducible refine wS_skip ?_ ?_); (focus (simp [lk, upd, envOf, *]; done))) | ((with_reducible refine wS_want ?_ ?_); (focus (simp [lk, upd, envOf, *]; done))) | with_reducible refine wS_nil ?_ | simp only [thenE, blockE, ↓reduceIte, Nat.reduceEqDiff] | ((with_reducible refine hK.out _ _ ?_); clear hK K) | ((with_reducible refine wE_if ?_ (fun hc => ?_) (fun hc => ?_)); (focus (simp [lk, upd, envOf, *]; done)); all_goals (simp [lk, upd, envOf, *] at hc <;> try (exfalso; omega))) | (clear hK; clear K))
    (with_reducible refine wS_step (fun K hK => ?_)); simp [go_sem, lk, upd, envOf, lq, ↓IntWalk.iteOmega, *]; (try go_ints); refine (HPA.out).mono ?_; rintro e w1 ⟨hg1, rfl⟩; refine ⟨_, rfl, hK.out _ _ ?_⟩; clear hK K
    have HG1 := Lib.hid (HG.out.trans hg1)
    have HZ1 := Lib.hid (show w1.heap[w.heap.size]? = some (.cells zeroA 26 (0, 0)) by rw [hg1.block _ hws]; exact HZ.out)
    clear hg1
    repeat' (first | with_reducible (first | refine wE_seq (fun K hK => ?_) | refine wE_block ?_ | refine wE_skip ?_ | refine wE_ret ?_ | refine wE_exit ?_) | ((with_reducible refine wE_region ?_ ?_); (kernel_rfl); simp only [ls, stripO]) | ((with_reducible refine wS_step (fun K hK => ?_)); simp [go_sem, lk, upd, envOf, lq, ↓IntWalk.iteOmega, *]; (try go_ints); refine hK.out _ _ ?_; clear hK K) | ((with_reducible refine wS_unit (fun K hK => ?_)); simp [go_sem, lk, upd, envOf, lq, ↓IntWalk.iteOmega, *]; (try go_ints); refine hK.out _ _ ?_; clear hK K) | ((with_reducible refine wS_skip ?_ ?_); (focus (simp [lk, upd, envOf, *]; done))) | ((with_reducible refine wS_want ?_ ?_); (focus (simp [lk, upd, envOf, *]; done))) | with_reducible refine wS_nil ?_ | simp only [thenE, blockE, ↓reduceIte, Nat.reduceEqDiff] | ((with_reducible refine hK.out _ _ ?_); clear hK K) | ((with_reducible refine wE_if ?_ (fun hc => ?_) (fun hc => ?_)); (focus (simp [lk, upd, envOf, *]; done)); all_goals (simp [lk, upd, envOf, *] at hc <;> try (exfalso; omega))) | (clear hK; clear K))
    refine wS_storeRow w.heap.size zeroA zeroA (by simp [evalS_tmp, upd]) (by simp [evalS_tmp, upd]) HZ1.out size26 rfl (by simp [Value.oneCell']) ?_
    repeat' (first | with_reducible (first | refine wE_seq (fun K hK => ?_) | refine wE_block ?_ | refine wE_skip ?_ | refine wE_ret ?_ | refine wE_exit ?_) | ((with_reducible refine wE_region ?_ ?_); (kernel_rfl); simp only [ls, stripO]) | ((with_reducible refine wS_step (fun K hK => ?_)); simp [go_sem, lk, upd, envOf, lq, ↓IntWalk.iteOmega, *]; (try go_ints); refine hK.out _ _ ?_; clear hK K) | ((with_reducible refine wS_unit (fun K hK => ?_)); simp [go_sem, lk, upd, envOf, lq, ↓IntWalk.iteOmega, *]; (try go_ints); refine hK.out _ _ ?_; clear hK K) | ((with_reducible refine wS_skip ?_ ?_); (focus (simp [lk, upd, envOf, *]; done))) | ((with_reducible refine wS_want ?_ ?_); (focus (simp [lk, upd, envOf, *]; done))) | with_reducible refine wS_nil ?_ | simp only [thenE, blockE, ↓reduceIte, Nat.reduceEqDiff] | ((with_reducible refine hK.out _ _ ?_); clear hK K) | ((with_reducible refine wE_if ?_ (fun hc => ?_) (fun hc => ?_)); (focus (simp [lk, upd, envOf, *]; done)); all_goals (simp [lk, upd, envOf, *] at hc <;> try (exfalso; omega))) | (clear hK; clear K))
    exact endE_ct rfl (by simp [upd]) (run_loadVar_row _ w.heap.size 26 26 _ (0, 0) _ (setRow_heap _ _ _ _ _ _ HZ1.out) Tryz.underlying26 rfl size26) ⟨HG1.out.trans' (below_row _ (Nat.le_refl _) _), .inr ⟨by simp [upd], HNO.out⟩⟩
  | some ps =>
    rw [hps] at HPA
    simp only at HPA
    have HPS := Lib.hid hps
    have hwt := splitF_le _ _ _ hps
    have hne := splitF_ne _ _ _ hps
    clear hps
    repeat' (first | with_reducible (first | refine wE_seq (fun K hK => ?_) | refine wE_block ?_ | refine wE_skip ?_ | refine wE_ret ?_ | refine wE_exit ?_) | ((with_reducible refine wE_region ?_ ?_); (kernel_rfl); simp only [ls, stripO]) | ((with_reducible refine wS_step (fun K hK => ?_)); simp [go_sem, lk, upd, envOf, lq, ↓IntWalk.iteOmega, *]; (try go_ints); refine hK.out _ _ ?_; clear hK K) | ((with_reducible refine wS_unit (fun K hK => ?_)); simp [go_sem, lk, upd, envOf, lq, ↓IntWalk.iteOmega, *]; (try go_ints); refine hK.out _ _ ?_; clear hK K) | ((with_reducible refine wS_skip ?_ ?_); (focus (simp [lk, upd, envOf, *]; done))) | ((with_reducible refine wS_want ?_ ?_); (focus (simp [lk, upd, envOf, *]; done))) | with_reducible refine wS_nil ?_ | simp only [thenE, blockE, ↓reduceIte, Nat.reduceEqDiff] | ((with_reducible refine hK.out _ _ ?_); clear hK K) | ((with_reducible refine wE_if ?_ (fun hc => ?_) (fun hc => ?_)); (focus (simp [lk, upd, envOf, *]; done)); all_goals (simp [lk, upd, envOf, *] at hc <;> try (exfalso; omega))) | (clear hK; clear K))
    (with_reducible refine wS_step (fun K hK => ?_)); simp [go_sem, lk, upd, envOf, lq, ↓IntWalk.iteOmega, *]; (try go_ints); refine (HPA.out).mono ?_; rintro e w1 ⟨hg1, aa, mm, cc, rfl, hpt⟩; refine ⟨_, rfl, hK.out _ _ ?_⟩; clear hK K
    have HG1 := Lib.hid (HG.out.trans hg1)
    have HZ1 := Lib.hid (show w1.heap[w.heap.size]? = some (.cells zeroA 26 (0, 0)) by rw [hg1.block _ hws]; exact HZ.out)
    have hws1 : w.heap.size < w1.heap.size := Nat.lt_of_lt_of_le hws hg1.size
    clear hg1 HPA
    obtain ⟨a', c', hv, hcap, hpc⟩ := hpt
    cases hv
    obtain ⟨p0, r, rfl⟩ := List.exists_cons_of_ne_nil hne
    have hpc2 : ∃ b o, aa = some ⟨b, o, none⟩ ∧ ∀ (j : Nat) (p : PPart), (p0 :: r)[j]? = some p → w1.cell? ⟨b, o + j * 2, none⟩ = some (.bool p.quoted) ∧ w1.cell? ⟨b, o + j * 2 + 1, none⟩ = some (.string p.text) := by
      rcases hpc with h | h
      · cases h
      · exact h
    obtain ⟨b, o, rfl, hc⟩ := hpc2
    have HC := Lib.hid hc
    obtain ⟨g1, g2⟩ := hc 0 p0 rfl
    simp only [Nat.zero_mul, Nat.add_zero] at g1 g2
    have hwt2 : wts r ≤ 401 ∧ r.length ≤ 401 ∧ TextsLe r := by
      have := HSZ.out
      rw [wts_cons] at hwt
      obtain ⟨i1, i2⟩ := parts_wts r
      exact ⟨by omega, by omega, fun p hp => by have := i2 p hp; omega⟩
    obtain ⟨q0, t0⟩ := p0
    simp only at g1 g2
    simp only [List.length_cons] at *
    have HW := Lib.hid hwt2
    clear hpc hc hne hwt hwt2
    have HPF : Hid (∀ A, ParseOk s.data.toList A → q0 = false ∧ t0 = S (wordL A.kind) ∧ r = restParts A ∧ 1 ≤ A.kind ∧ A.kind ≤ 8 ∧ inputR A.kind (restParts A) = (A, true)) := by
      intro A h
      obtain ⟨h1, h2, h3, h4⟩ := parts_fact h HPS.out
      obtain ⟨e1, e2⟩ := List.cons.inj h1
      injection e1 with e3 e4
      exact ⟨e3, e4, e2, h2, h3, h4⟩
    repeat' (first | with_reducible (first | refine wE_seq (fun K hK => ?_) | refine wE_block ?_ | refine wE_skip ?_ | refine wE_ret ?_ | refine wE_exit ?_) | ((with_reducible refine wE_region ?_ ?_); (kernel_rfl); simp only [ls, stripO]) | ((with_reducible refine wS_step (fun K hK => ?_)); simp [go_sem, lk, upd, envOf, lq, ↓IntWalk.iteOmega, *]; (try go_ints); refine hK.out _ _ ?_; clear hK K) | ((with_reducible refine wS_unit (fun K hK => ?_)); simp [go_sem, lk, upd, envOf, lq, ↓IntWalk.iteOmega, *]; (try go_ints); refine hK.out _ _ ?_; clear hK K) | ((with_reducible refine wS_skip ?_ ?_); (focus (simp [lk, upd, envOf, *]; done))) | ((with_reducible refine wS_want ?_ ?_); (focus (simp [lk, upd, envOf, *]; done))) | with_reducible refine wS_nil ?_ | simp only [thenE, blockE, ↓reduceIte, Nat.reduceEqDiff] | ((with_reducible refine hK.out _ _ ?_); clear hK K) | ((with_reducible refine wE_if ?_ (fun hc => ?_) (fun hc => ?_)); (focus (simp [lk, upd, envOf, *]; done)); all_goals (simp [lk, upd, envOf, *] at hc <;> try (exfalso; omega))) | (clear hK; clear K))
    refine wE_loop (fun (k : Nat) σ w' => 1 ≤ k ∧ k ≤ 9 ∧ σ 0 = .string s ∧ σ 2 = .pointer (some ⟨w.heap.size, 0, none⟩) ∧ σ 4 = .slice (some ⟨b, o, none⟩) (r.length + 1) cc ∧ σ 6 = .int .i64 (k : Int) ∧ Grow w1 w' ∧ ∀ A, ParseOk s.data.toList A → (k : Int) ≤ A.kind) (fun k => 9 - k) 1 ?_ ?_
    · exact ⟨by omega, by omega, by simp [upd, envOf], by simp [upd, envOf], by simp [upd], by simp [upd], Grow.refl _, fun A h => (HPF.out A h).2.2.2.1⟩
    rintro k σ w2 ⟨hk1, hk9, e0, e2, e4, e6, hg2, hno⟩
    have HG2 := Lib.hid hg2
    have HNO := Lib.hid hno
    have HGW := Lib.hid (HG1.out.trans hg2)
    have HZ2 := Lib.hid (show w2.heap[w.heap.size]? = some (.cells zeroA 26 (0, 0)) by rw [hg2.block _ hws1]; exact HZ1.out)
    have d1 := Keeps.of_below hg2 _ _ g1
    have d2 := Keeps.of_below hg2 _ _ g2
    clear hg2 hno
    by_cases hk8 : k ≤ 8
    rotate_left
    · have m8 : ¬ (k : Int) ≤ 8 := by omega
      repeat' (first | with_reducible (first | refine wE_seq (fun K hK => ?_) | refine wE_block ?_ | refine wE_skip ?_ | refine wE_ret ?_ | refine wE_exit ?_) | ((with_reducible refine wE_region ?_ ?_); (kernel_rfl); simp only [ls, stripO]) | ((with_reducible refine wS_step (fun K hK => ?_)); simp [go_sem, lk, upd, envOf, lq, ↓IntWalk.iteOmega, *]; (try go_ints); refine hK.out _ _ ?_; clear hK K) | ((with_reducible refine wS_unit (fun K hK => ?_)); simp [go_sem, lk, upd, envOf, lq, ↓IntWalk.iteOmega, *]; (try go_ints); refine hK.out _ _ ?_; clear hK K) | ((with_reducible refine wS_skip ?_ ?_); (focus (simp [lk, upd, envOf, *]; done))) | ((with_reducible refine wS_want ?_ ?_); (focus (simp [lk, upd, envOf, *]; done))) | with_reducible refine wS_nil ?_ | simp only [thenE, blockE, ↓reduceIte, Nat.reduceEqDiff] | ((with_reducible refine hK.out _ _ ?_); clear hK K) | ((with_reducible refine wE_if ?_ (fun hc => ?_) (fun hc => ?_)); (focus (simp [lk, upd, envOf, *]; done)); all_goals (simp [lk, upd, envOf, *] at hc <;> try (exfalso; omega))) | (clear hK; clear K))
      refine wS_storeRow w.heap.size zeroA zeroA (by simp [evalS_tmp, upd, *]) (by simp [evalS_tmp, upd]) HZ2.out size26 rfl (by simp [Value.oneCell']) ?_
      repeat' (first | with_reducible (first | refine wE_seq (fun K hK => ?_) | refine wE_block ?_ | refine wE_skip ?_ | refine wE_ret ?_ | refine wE_exit ?_) | ((with_reducible refine wE_region ?_ ?_); (kernel_rfl); simp only [ls, stripO]) | ((with_reducible refine wS_step (fun K hK => ?_)); simp [go_sem, lk, upd, envOf, lq, ↓IntWalk.iteOmega, *]; (try go_ints); refine hK.out _ _ ?_; clear hK K) | ((with_reducible refine wS_unit (fun K hK => ?_)); simp [go_sem, lk, upd, envOf, lq, ↓IntWalk.iteOmega, *]; (try go_ints); refine hK.out _ _ ?_; clear hK K) | ((with_reducible refine wS_skip ?_ ?_); (focus (simp [lk, upd, envOf, *]; done))) | ((with_reducible refine wS_want ?_ ?_); (focus (simp [lk, upd, envOf, *]; done))) | with_reducible refine wS_nil ?_ | simp only [thenE, blockE, ↓reduceIte, Nat.reduceEqDiff] | ((with_reducible refine hK.out _ _ ?_); clear hK K) | ((with_reducible refine wE_if ?_ (fun hc => ?_) (fun hc => ?_)); (focus (simp [lk, upd, envOf, *]; done)); all_goals (simp [lk, upd, envOf, *] at hc <;> try (exfalso; omega))) | (clear hK; clear K))
      refine endE_ct rfl (by simp [upd, *]) (run_loadVar_row _ w.heap.size 26 26 _ (0, 0) _ (setRow_heap _ _ _ _ _ _ HZ2.out) Tryz.underlying26 rfl size26) ⟨HGW.out.trans' (below_row _ (Nat.le_refl _) _), .inr ⟨by simp [upd], fun A h => ?_⟩⟩
      have h1 := HNO.out A h
      have h2 := (HPF.out A h).2.2.2.2.1
      omega
    have m8 : (k : Int) ≤ 8 := by omega
    cases q0 with
    | true =>
      repeat' (first | with_reducible (first | refine wE_seq (fun K hK => ?_) | refine wE_block ?_ | refine wE_skip ?_ | refine wE_ret ?_ | refine wE_exit ?_) | ((with_reducible refine wE_region ?_ ?_); (kernel_rfl); simp only [ls, stripO]) | ((with_reducible refine wS_step (fun K hK => ?_)); simp [go_sem, lk, upd, envOf, lq, ↓IntWalk.iteOmega, *]; (try go_ints); refine hK.out _ _ ?_; clear hK K) | ((with_reducible refine wS_unit (fun K hK => ?_)); simp [go_sem, lk, upd, envOf, lq, ↓IntWalk.iteOmega, *]; (try go_ints); refine hK.out _ _ ?_; clear hK K) | ((with_reducible refine wS_skip ?_ ?_); (focus (simp [lk, upd, envOf, *]; done))) | ((with_reducible refine wS_want ?_ ?_); (focus (simp [lk, upd, envOf, *]; done))) | with_reducible refine wS_nil ?_ | simp only [thenE, blockE, ↓reduceIte, Nat.reduceEqDiff] | ((with_reducible refine hK.out _ _ ?_); clear hK K) | ((with_reducible refine wE_if ?_ (fun hc => ?_) (fun hc => ?_)); (focus (simp [lk, upd, envOf, *]; done)); all_goals (simp [lk, upd, envOf, *] at hc <;> try (exfalso; omega))) | (clear hK; clear K))
      ((with_reducible refine wE_quiet ?_ ?_ ?_ ?_); (kernel_rfl); (kernel_rfl); (kernel_rfl); simp only [ls, stripO])
      repeat' (first | ((with_reducible refine qS_step (fun K hK => ?_)); simp [go_sem, lk, upd, envOf, quietU_value, quietU_enter, ↓IntWalk.iteOmega, *]; (try go_ints); refine hK.out _ ?_; clear hK K) | ((with_reducible refine qS_skip ?_ ?_); (focus (simp [lk, upd, envOf, *]; done))) | ((with_reducible refine qS_want ?_ ?_); (focus (simp [lk, upd, envOf, *]; done))) | ((with_reducible refine qS_split (fun hc => ?_) (fun hc => ?_)) <;> simp [lk, upd, envOf, *] at hc <;> try (exfalso; omega)) | with_reducible refine qS_nil ?_)
      intro q
      repeat' (first | with_reducible (first | refine wE_seq (fun K hK => ?_) | refine wE_block ?_ | refine wE_skip ?_ | refine wE_ret ?_ | refine wE_exit ?_) | ((with_reducible refine wE_region ?_ ?_); (kernel_rfl); simp only [ls, stripO]) | ((with_reducible refine wS_step (fun K hK => ?_)); simp [go_sem, lk, upd, envOf, lq, ↓IntWalk.iteOmega, *]; (try go_ints); refine hK.out _ _ ?_; clear hK K) | ((with_reducible refine wS_unit (fun K hK => ?_)); simp [go_sem, lk, upd, envOf, lq, ↓IntWalk.iteOmega, *]; (try go_ints); refine hK.out _ _ ?_; clear hK K) | ((with_reducible refine wS_skip ?_ ?_); (focus (simp [lk, upd, envOf, *]; done))) | ((with_reducible refine wS_want ?_ ?_); (focus (simp [lk, upd, envOf, *]; done))) | with_reducible refine wS_nil ?_ | simp only [thenE, blockE, ↓reduceIte, Nat.reduceEqDiff] | ((with_reducible refine hK.out _ _ ?_); clear hK K) | ((with_reducible refine wE_if ?_ (fun hc => ?_) (fun hc => ?_)); (focus (simp [lk, upd, envOf, *]; done)); all_goals (simp [lk, upd, envOf, *] at hc <;> try (exfalso; omega))) | (clear hK; clear K))
      refine ⟨k + 1, ⟨by omega, by omega, by simp [upd, *], by simp [upd, *], by simp [upd, *], by simp [upd], HG2.out.trans (Grow.drewN _ _), fun A h => ?_⟩, by omega⟩
      exact absurd (HPF.out A h).1 (by decide)
    | false =>
    have HWA := Lib.hid (fun w' => word_any (k : Int) w')
    by_cases hq : t0 = S (wordL (k : Int))
    rotate_left
    · have hne : (t0.toList = (S (wordL (k : Int))).toList) = False := by rw [eq_iff_iff, iff_false]; exact fun e => hq (str_inj e)
      have hnb : (t0.toList == (S (wordL (k : Int))).toList) = false := by rw [str_beq]; exact decide_eq_false hq
      have HNQ := Lib.hid hq
      clear hq
      repeat' (first | with_reducible (first | refine wE_seq (fun K hK => ?_) | refine wE_block ?_ | refine wE_skip ?_ | refine wE_ret ?_ | refine wE_exit ?_) | ((with_reducible refine wE_region ?_ ?_); (kernel_rfl); simp only [ls, stripO]) | ((with_reducible refine wS_step (fun K hK => ?_)); simp [go_sem, lk, upd, envOf, lq, ↓IntWalk.iteOmega, *]; (try go_ints); refine hK.out _ _ ?_; clear hK K) | ((with_reducible refine wS_unit (fun K hK => ?_)); simp [go_sem, lk, upd, envOf, lq, ↓IntWalk.iteOmega, *]; (try go_ints); refine hK.out _ _ ?_; clear hK K) | ((with_reducible refine wS_skip ?_ ?_); (focus (simp [lk, upd, envOf, *]; done))) | ((with_reducible refine wS_want ?_ ?_); (focus (simp [lk, upd, envOf, *]; done))) | with_reducible refine wS_nil ?_ | simp only [thenE, blockE, ↓reduceIte, Nat.reduceEqDiff] | ((with_reducible refine hK.out _ _ ?_); clear hK K) | ((with_reducible refine wE_if ?_ (fun hc => ?_) (fun hc => ?_)); (focus (simp [lk, upd, envOf, *]; done)); all_goals (simp [lk, upd, envOf, *] at hc <;> try (exfalso; omega))) | (clear hK; clear K))
      refine wE_drawE (R := Grow) [SPE.val 23 (.slice (some ⟨b, o, none⟩) (r.length + 1) cc), SPE.val 24 (.pointer (some ⟨b, o, none⟩)), SPE.val 25 (.pointer (some ⟨b, o, none⟩)), SPE.val 26 (.bool false), SPE.val 27 (.bool false), SPE.val 28 (.slice (some ⟨b, o, none⟩) (r.length + 1) cc), SPE.val 29 (.pointer (some ⟨b, o, none⟩)), SPE.val 30 (.pointer (some ⟨b, o + 1, none⟩)), SPE.val 31 (.string t0), SPE.val 32 (.int .i64 (k : Int)), SPE.val 33 (.string (S (wordL (k : Int)))), SPE.val 34 (.bool true), SPE.val 35 (.bool true)] [[23], [24], [25], [26], [27], [28], [29], [30], [31], [32], [33], [34], [35]] [([], [4]), ([0], []), ([1], []), ([2], []), ([3], []), ([4], [4]), ([5, 4], []), ([6, 4], []), ([7, 4], []), ([4], [6]), ([9, 4], []), ([8, 10, 4], []), ([4, 11], [])] (by kernel_rfl) (by kernel_rfl) rfl Grow.refl (fun _ _ _ => Grow.trans) ?_ ?_
      · simp only [ls, stripO, oblE, Nat.zero_add, Nat.reduceAdd]
        refine ⟨?_, ?_, ?_, ?_, ?_, ?_, ?_, ?_, ?_, ?_, ?_, ?_, ?_, trivial⟩
        · refine oneE_plain (fun σ w' hR hf => ?_); simp only [factsE, getP_succ, getP_zero, SPE.val_p, SPE.of_p, SPE.any_p, and_true, true_and] at hf; have d1' := Keeps.of_below ((Grow.drew w2).trans hR) _ _ d1; have d2' := Keeps.of_below ((Grow.drew w2).trans hR) _ _ d2; simp [go_sem, lk, upd, envOf, lq, ↓IntWalk.iteOmega, putS, getP_succ, getP_zero, SPE.val_p, SPE.of_p, SPE.any_p, Grow.refl, hf, *]
        · refine oneE_plain (fun σ w' hR hf => ?_); simp only [factsE, getP_succ, getP_zero, SPE.val_p, SPE.of_p, SPE.any_p, and_true, true_and] at hf; have d1' := Keeps.of_below ((Grow.drew w2).trans hR) _ _ d1; have d2' := Keeps.of_below ((Grow.drew w2).trans hR) _ _ d2; simp [go_sem, lk, upd, envOf, lq, ↓IntWalk.iteOmega, putS, getP_succ, getP_zero, SPE.val_p, SPE.of_p, SPE.any_p, Grow.refl, hf, *]
        · refine oneE_plain (fun σ w' hR hf => ?_); simp only [factsE, getP_succ, getP_zero, SPE.val_p, SPE.of_p, SPE.any_p, and_true, true_and] at hf; have d1' := Keeps.of_below ((Grow.drew w2).trans hR) _ _ d1; have d2' := Keeps.of_below ((Grow.drew w2).trans hR) _ _ d2; simp [go_sem, lk, upd, envOf, lq, ↓IntWalk.iteOmega, putS, getP_succ, getP_zero, SPE.val_p, SPE.of_p, SPE.any_p, Grow.refl, hf, *]
        · refine oneE_plain (fun σ w' hR hf => ?_); simp only [factsE, getP_succ, getP_zero, SPE.val_p, SPE.of_p, SPE.any_p, and_true, true_and] at hf; have d1' := Keeps.of_below ((Grow.drew w2).trans hR) _ _ d1; have d2' := Keeps.of_below ((Grow.drew w2).trans hR) _ _ d2; simp [go_sem, lk, upd, envOf, lq, ↓IntWalk.iteOmega, putS, getP_succ, getP_zero, SPE.val_p, SPE.of_p, SPE.any_p, Grow.refl, hf, *]
        · refine oneE_plain (fun σ w' hR hf => ?_); simp only [factsE, getP_succ, getP_zero, SPE.val_p, SPE.of_p, SPE.any_p, and_true, true_and] at hf; have d1' := Keeps.of_below ((Grow.drew w2).trans hR) _ _ d1; have d2' := Keeps.of_below ((Grow.drew w2).trans hR) _ _ d2; simp [go_sem, lk, upd, envOf, lq, ↓IntWalk.iteOmega, putS, getP_succ, getP_zero, SPE.val_p, SPE.of_p, SPE.any_p, Grow.refl, hf, *]
        · intro σ w' hR hf; simp only [factsE, getP_succ, getP_zero, SPE.val_p, SPE.of_p, SPE.any_p, and_true, true_and] at hf; have d1' := Keeps.of_below ((Grow.drew w2).trans hR) _ _ d1; have d2' := Keeps.of_below ((Grow.drew w2).trans hR) _ _ d2; refine ⟨fun _ => ?_, fun hc => absurd hc (by simp [wantS, boolS_bool, hf])⟩; simp [go_sem, lk, upd, envOf, lq, ↓IntWalk.iteOmega, putS, getP_succ, getP_zero, SPE.val_p, SPE.of_p, SPE.any_p, Grow.refl, hf, *]
        · intro σ w' hR hf; simp only [factsE, getP_succ, getP_zero, SPE.val_p, SPE.of_p, SPE.any_p, and_true, true_and] at hf; have d1' := Keeps.of_below ((Grow.drew w2).trans hR) _ _ d1; have d2' := Keeps.of_below ((Grow.drew w2).trans hR) _ _ d2; refine ⟨fun _ => ?_, fun hc => absurd hc (by simp [wantS, boolS_bool, hf])⟩; simp [go_sem, lk, upd, envOf, lq, ↓IntWalk.iteOmega, putS, getP_succ, getP_zero, SPE.val_p, SPE.of_p, SPE.any_p, Grow.refl, hf, *]
        · intro σ w' hR hf; simp only [factsE, getP_succ, getP_zero, SPE.val_p, SPE.of_p, SPE.any_p, and_true, true_and] at hf; have d1' := Keeps.of_below ((Grow.drew w2).trans hR) _ _ d1; have d2' := Keeps.of_below ((Grow.drew w2).trans hR) _ _ d2; refine ⟨fun _ => ?_, fun hc => absurd hc (by simp [wantS, boolS_bool, hf])⟩; simp [go_sem, lk, upd, envOf, lq, ↓IntWalk.iteOmega, putS, getP_succ, getP_zero, SPE.val_p, SPE.of_p, SPE.any_p, Grow.refl, hf, *]
        · intro σ w' hR hf; simp only [factsE, getP_succ, getP_zero, SPE.val_p, SPE.of_p, SPE.any_p, and_true, true_and] at hf; have d1' := Keeps.of_below ((Grow.drew w2).trans hR) _ _ d1; have d2' := Keeps.of_below ((Grow.drew w2).trans hR) _ _ d2; refine ⟨fun _ => ?_, fun hc => absurd hc (by simp [wantS, boolS_bool, hf])⟩; simp [go_sem, lk, upd, envOf, lq, ↓IntWalk.iteOmega, putS, getP_succ, getP_zero, SPE.val_p, SPE.of_p, SPE.any_p, Grow.refl, hf, *]
        · intro σ w' hR hf; simp only [factsE, getP_succ, getP_zero, SPE.val_p, SPE.of_p, SPE.any_p, and_true, true_and] at hf; have d1' := Keeps.of_below ((Grow.drew w2).trans hR) _ _ d1; have d2' := Keeps.of_below ((Grow.drew w2).trans hR) _ _ d2; refine ⟨fun _ => ?_, fun hc => absurd hc (by simp [wantS, boolS_bool, hf])⟩; simp [go_sem, lk, upd, envOf, lq, ↓IntWalk.iteOmega, putS, getP_succ, getP_zero, SPE.val_p, SPE.of_p, SPE.any_p, Grow.refl, hf, *]
        · intro σ w' hR hf; simp only [factsE, getP_succ, getP_zero, SPE.val_p, SPE.of_p, SPE.any_p, and_true, true_and] at hf; have d1' := Keeps.of_below ((Grow.drew w2).trans hR) _ _ d1; have d2' := Keeps.of_below ((Grow.drew w2).trans hR) _ _ d2; refine ⟨fun _ => ?_, fun hc => absurd hc (by simp [wantS, boolS_bool, hf])⟩; simp [go_sem, lk, upd, envOf, lq, ↓IntWalk.iteOmega, putS, getP_succ, getP_zero, SPE.val_p, SPE.of_p, SPE.any_p, hf, *]; (try go_ints); refine (HWA.out _).mono ?_; rintro e w'' ⟨rfl, hb⟩; exact ⟨_, rfl, rfl, hb⟩
        · intro σ w' hR hf; simp only [factsE, getP_succ, getP_zero, SPE.val_p, SPE.of_p, SPE.any_p, and_true, true_and] at hf; have d1' := Keeps.of_below ((Grow.drew w2).trans hR) _ _ d1; have d2' := Keeps.of_below ((Grow.drew w2).trans hR) _ _ d2; refine ⟨fun _ => ?_, fun hc => absurd hc (by simp [wantS, boolS_bool, hf])⟩; simp [go_sem, lk, upd, envOf, lq, ↓IntWalk.iteOmega, putS, getP_succ, getP_zero, SPE.val_p, SPE.of_p, SPE.any_p, Grow.refl, hf, *]
        · refine oneE_plain (fun σ w' hR hf => ?_); simp only [factsE, getP_succ, getP_zero, SPE.val_p, SPE.of_p, SPE.any_p, and_true, true_and] at hf; have d1' := Keeps.of_below ((Grow.drew w2).trans hR) _ _ d1; have d2' := Keeps.of_below ((Grow.drew w2).trans hR) _ _ d2; simp [go_sem, lk, upd, envOf, lq, ↓IntWalk.iteOmega, putS, getP_succ, getP_zero, SPE.val_p, SPE.of_p, SPE.any_p, Grow.refl, hf, *]
      intro σ' w3 hg hE
      have e35 := hE.at_ 12 rfl
      simp only [getP_succ, getP_zero, SPE.val_p, SPE.of_p] at e35
      have q0 := hE.old 0 (by kernel_rfl)
      have q2 := hE.old 2 (by kernel_rfl)
      have q4 := hE.old 4 (by kernel_rfl)
      have q6 := hE.old 6 (by kernel_rfl)
      simp [upd, *] at q0 q2 q4 q6
      clear hE
      have HG3 := Lib.hid (HG2.out.trans ((Grow.drew w2).trans hg))
      clear hg
      repeat' (first | with_reducible (first | refine wE_seq (fun K hK => ?_) | refine wE_block ?_ | refine wE_skip ?_ | refine wE_ret ?_ | refine wE_exit ?_) | ((with_reducible refine wE_region ?_ ?_); (kernel_rfl); simp only [ls, stripO]) | ((with_reducible refine wS_step (fun K hK => ?_)); simp [go_sem, lk, upd, envOf, lq, ↓IntWalk.iteOmega, *]; (try go_ints); refine hK.out _ _ ?_; clear hK K) | ((with_reducible refine wS_unit (fun K hK => ?_)); simp [go_sem, lk, upd, envOf, lq, ↓IntWalk.iteOmega, *]; (try go_ints); refine hK.out _ _ ?_; clear hK K) | ((with_reducible refine wS_skip ?_ ?_); (focus (simp [lk, upd, envOf, *]; done))) | ((with_reducible refine wS_want ?_ ?_); (focus (simp [lk, upd, envOf, *]; done))) | with_reducible refine wS_nil ?_ | simp only [thenE, blockE, ↓reduceIte, Nat.reduceEqDiff] | ((with_reducible refine hK.out _ _ ?_); clear hK K) | ((with_reducible refine wE_if ?_ (fun hc => ?_) (fun hc => ?_)); (focus (simp [lk, upd, envOf, *]; done)); all_goals (simp [lk, upd, envOf, *] at hc <;> try (exfalso; omega))) | (clear hK; clear K))
      refine ⟨k + 1, ⟨by omega, by omega, by simp [upd, *], by simp [upd, *], by simp [upd, *], by simp [upd], HG3.out, fun A h => ?_⟩, by omega⟩
      have h1 := HNO.out A h
      have h2 := (HPF.out A h).2.1
      by_cases e : A.kind = (k : Int)
      · rw [e] at h2; exact absurd h2 HNQ.out
      · omega
    subst hq
    repeat' (first | with_reducible (first | refine wE_seq (fun K hK => ?_) | refine wE_block ?_ | refine wE_skip ?_ | refine wE_ret ?_ | refine wE_exit ?_) | ((with_reducible refine wE_region ?_ ?_); (kernel_rfl); simp only [ls, stripO]) | ((with_reducible refine wS_step (fun K hK => ?_)); simp [go_sem, lk, upd, envOf, lq, ↓IntWalk.iteOmega, *]; (try go_ints); refine hK.out _ _ ?_; clear hK K) | ((with_reducible refine wS_unit (fun K hK => ?_)); simp [go_sem, lk, upd, envOf, lq, ↓IntWalk.iteOmega, *]; (try go_ints); refine hK.out _ _ ?_; clear hK K) | ((with_reducible refine wS_skip ?_ ?_); (focus (simp [lk, upd, envOf, *]; done))) | ((with_reducible refine wS_want ?_ ?_); (focus (simp [lk, upd, envOf, *]; done))) | with_reducible refine wS_nil ?_ | simp only [thenE, blockE, ↓reduceIte, Nat.reduceEqDiff] | ((with_reducible refine hK.out _ _ ?_); clear hK K) | ((with_reducible refine wE_if ?_ (fun hc => ?_) (fun hc => ?_)); (focus (simp [lk, upd, envOf, *]; done)); all_goals (simp [lk, upd, envOf, *] at hc <;> try (exfalso; omega))) | (clear hK; clear K))
    refine wE_drawE (R := Grow) [SPE.val 23 (.slice (some ⟨b, o, none⟩) (r.length + 1) cc), SPE.val 24 (.pointer (some ⟨b, o, none⟩)), SPE.val 25 (.pointer (some ⟨b, o, none⟩)), SPE.val 26 (.bool false), SPE.val 27 (.bool false), SPE.val 28 (.slice (some ⟨b, o, none⟩) (r.length + 1) cc), SPE.val 29 (.pointer (some ⟨b, o, none⟩)), SPE.val 30 (.pointer (some ⟨b, o + 1, none⟩)), SPE.val 31 (.string (S (wordL (k : Int)))), SPE.val 32 (.int .i64 (k : Int)), SPE.val 33 (.string (S (wordL (k : Int)))), SPE.val 34 (.bool false), SPE.val 35 (.bool false)] [[23], [24], [25], [26], [27], [28], [29], [30], [31], [32], [33], [34], [35]] [([], [4]), ([0], []), ([1], []), ([2], []), ([3], []), ([4], [4]), ([5, 4], []), ([6, 4], []), ([7, 4], []), ([4], [6]), ([9, 4], []), ([8, 10, 4], []), ([4, 11], [])] (by kernel_rfl) (by kernel_rfl) rfl Grow.refl (fun _ _ _ => Grow.trans) ?_ ?_
    · simp only [ls, stripO, oblE, Nat.zero_add, Nat.reduceAdd]
      refine ⟨?_, ?_, ?_, ?_, ?_, ?_, ?_, ?_, ?_, ?_, ?_, ?_, ?_, trivial⟩
      · refine oneE_plain (fun σ w' hR hf => ?_); simp only [factsE, getP_succ, getP_zero, SPE.val_p, SPE.of_p, SPE.any_p, and_true, true_and] at hf; have d1' := Keeps.of_below ((Grow.drew w2).trans hR) _ _ d1; have d2' := Keeps.of_below ((Grow.drew w2).trans hR) _ _ d2; simp [go_sem, lk, upd, envOf, lq, ↓IntWalk.iteOmega, putS, getP_succ, getP_zero, SPE.val_p, SPE.of_p, SPE.any_p, Grow.refl, hf, *]
      · refine oneE_plain (fun σ w' hR hf => ?_); simp only [factsE, getP_succ, getP_zero, SPE.val_p, SPE.of_p, SPE.any_p, and_true, true_and] at hf; have d1' := Keeps.of_below ((Grow.drew w2).trans hR) _ _ d1; have d2' := Keeps.of_below ((Grow.drew w2).trans hR) _ _ d2; simp [go_sem, lk, upd, envOf, lq, ↓IntWalk.iteOmega, putS, getP_succ, getP_zero, SPE.val_p, SPE.of_p, SPE.any_p, Grow.refl, hf, *]
      · refine oneE_plain (fun σ w' hR hf => ?_); simp only [factsE, getP_succ, getP_zero, SPE.val_p, SPE.of_p, SPE.any_p, and_true, true_and] at hf; have d1' := Keeps.of_below ((Grow.drew w2).trans hR) _ _ d1; have d2' := Keeps.of_below ((Grow.drew w2).trans hR) _ _ d2; simp [go_sem, lk, upd, envOf, lq, ↓IntWalk.iteOmega, putS, getP_succ, getP_zero, SPE.val_p, SPE.of_p, SPE.any_p, Grow.refl, hf, *]
      · refine oneE_plain (fun σ w' hR hf => ?_); simp only [factsE, getP_succ, getP_zero, SPE.val_p, SPE.of_p, SPE.any_p, and_true, true_and] at hf; have d1' := Keeps.of_below ((Grow.drew w2).trans hR) _ _ d1; have d2' := Keeps.of_below ((Grow.drew w2).trans hR) _ _ d2; simp [go_sem, lk, upd, envOf, lq, ↓IntWalk.iteOmega, putS, getP_succ, getP_zero, SPE.val_p, SPE.of_p, SPE.any_p, Grow.refl, hf, *]
      · refine oneE_plain (fun σ w' hR hf => ?_); simp only [factsE, getP_succ, getP_zero, SPE.val_p, SPE.of_p, SPE.any_p, and_true, true_and] at hf; have d1' := Keeps.of_below ((Grow.drew w2).trans hR) _ _ d1; have d2' := Keeps.of_below ((Grow.drew w2).trans hR) _ _ d2; simp [go_sem, lk, upd, envOf, lq, ↓IntWalk.iteOmega, putS, getP_succ, getP_zero, SPE.val_p, SPE.of_p, SPE.any_p, Grow.refl, hf, *]
      · intro σ w' hR hf; simp only [factsE, getP_succ, getP_zero, SPE.val_p, SPE.of_p, SPE.any_p, and_true, true_and] at hf; have d1' := Keeps.of_below ((Grow.drew w2).trans hR) _ _ d1; have d2' := Keeps.of_below ((Grow.drew w2).trans hR) _ _ d2; refine ⟨fun _ => ?_, fun hc => absurd hc (by simp [wantS, boolS_bool, hf])⟩; simp [go_sem, lk, upd, envOf, lq, ↓IntWalk.iteOmega, putS, getP_succ, getP_zero, SPE.val_p, SPE.of_p, SPE.any_p, Grow.refl, hf, *]
      · intro σ w' hR hf; simp only [factsE, getP_succ, getP_zero, SPE.val_p, SPE.of_p, SPE.any_p, and_true, true_and] at hf; have d1' := Keeps.of_below ((Grow.drew w2).trans hR) _ _ d1; have d2' := Keeps.of_below ((Grow.drew w2).trans hR) _ _ d2; refine ⟨fun _ => ?_, fun hc => absurd hc (by simp [wantS, boolS_bool, hf])⟩; simp [go_sem, lk, upd, envOf, lq, ↓IntWalk.iteOmega, putS, getP_succ, getP_zero, SPE.val_p, SPE.of_p, SPE.any_p, Grow.refl, hf, *]
      · intro σ w' hR hf; simp only [factsE, getP_succ, getP_zero, SPE.val_p, SPE.of_p, SPE.any_p, and_true, true_and] at hf; have d1' := Keeps.of_below ((Grow.drew w2).trans hR) _ _ d1; have d2' := Keeps.of_below ((Grow.drew w2).trans hR) _ _ d2; refine ⟨fun _ => ?_, fun hc => absurd hc (by simp [wantS, boolS_bool, hf])⟩; simp [go_sem, lk, upd, envOf, lq, ↓IntWalk.iteOmega, putS, getP_succ, getP_zero, SPE.val_p, SPE.of_p, SPE.any_p, Grow.refl, hf, *]
      · intro σ w' hR hf; simp only [factsE, getP_succ, getP_zero, SPE.val_p, SPE.of_p, SPE.any_p, and_true, true_and] at hf; have d1' := Keeps.of_below ((Grow.drew w2).trans hR) _ _ d1; have d2' := Keeps.of_below ((Grow.drew w2).trans hR) _ _ d2; refine ⟨fun _ => ?_, fun hc => absurd hc (by simp [wantS, boolS_bool, hf])⟩; simp [go_sem, lk, upd, envOf, lq, ↓IntWalk.iteOmega, putS, getP_succ, getP_zero, SPE.val_p, SPE.of_p, SPE.any_p, Grow.refl, hf, *]
      · intro σ w' hR hf; simp only [factsE, getP_succ, getP_zero, SPE.val_p, SPE.of_p, SPE.any_p, and_true, true_and] at hf; have d1' := Keeps.of_below ((Grow.drew w2).trans hR) _ _ d1; have d2' := Keeps.of_below ((Grow.drew w2).trans hR) _ _ d2; refine ⟨fun _ => ?_, fun hc => absurd hc (by simp [wantS, boolS_bool, hf])⟩; simp [go_sem, lk, upd, envOf, lq, ↓IntWalk.iteOmega, putS, getP_succ, getP_zero, SPE.val_p, SPE.of_p, SPE.any_p, Grow.refl, hf, *]
      · intro σ w' hR hf; simp only [factsE, getP_succ, getP_zero, SPE.val_p, SPE.of_p, SPE.any_p, and_true, true_and] at hf; have d1' := Keeps.of_below ((Grow.drew w2).trans hR) _ _ d1; have d2' := Keeps.of_below ((Grow.drew w2).trans hR) _ _ d2; refine ⟨fun _ => ?_, fun hc => absurd hc (by simp [wantS, boolS_bool, hf])⟩; simp [go_sem, lk, upd, envOf, lq, ↓IntWalk.iteOmega, putS, getP_succ, getP_zero, SPE.val_p, SPE.of_p, SPE.any_p, hf, *]; (try go_ints); refine (HWA.out _).mono ?_; rintro e w'' ⟨rfl, hb⟩; exact ⟨_, rfl, rfl, hb⟩
      · intro σ w' hR hf; simp only [factsE, getP_succ, getP_zero, SPE.val_p, SPE.of_p, SPE.any_p, and_true, true_and] at hf; have d1' := Keeps.of_below ((Grow.drew w2).trans hR) _ _ d1; have d2' := Keeps.of_below ((Grow.drew w2).trans hR) _ _ d2; refine ⟨fun _ => ?_, fun hc => absurd hc (by simp [wantS, boolS_bool, hf])⟩; simp [go_sem, lk, upd, envOf, lq, ↓IntWalk.iteOmega, putS, getP_succ, getP_zero, SPE.val_p, SPE.of_p, SPE.any_p, Grow.refl, hf, *]
      · refine oneE_plain (fun σ w' hR hf => ?_); simp only [factsE, getP_succ, getP_zero, SPE.val_p, SPE.of_p, SPE.any_p, and_true, true_and] at hf; have d1' := Keeps.of_below ((Grow.drew w2).trans hR) _ _ d1; have d2' := Keeps.of_below ((Grow.drew w2).trans hR) _ _ d2; simp [go_sem, lk, upd, envOf, lq, ↓IntWalk.iteOmega, putS, getP_succ, getP_zero, SPE.val_p, SPE.of_p, SPE.any_p, Grow.refl, hf, *]
    intro σ' w3 hg hE
    have e35 := hE.at_ 12 rfl
    simp only [getP_succ, getP_zero, SPE.val_p, SPE.of_p] at e35
    have q0 := hE.old 0 (by kernel_rfl)
    have q2 := hE.old 2 (by kernel_rfl)
    have q4 := hE.old 4 (by kernel_rfl)
    have q6 := hE.old 6 (by kernel_rfl)
    simp [upd, *] at q0 q2 q4 q6
    clear hE
    have HG3 := Lib.hid (HG2.out.trans ((Grow.drew w2).trans hg))
    clear hg
    have k3 := Keeps.of_below HG3.out
    have HPD : Hid (PtsAt w3 (.slice (if cc = 1 then some ⟨b, o, none⟩ else some ⟨b, o + 2, none⟩) r.length (cc - 1)) r) := by
      have h := PtsAt.drop (w := w3) (b := b) (o := o) (c := cc) (ps := ⟨false, S (wordL (k : Int))⟩ :: r) 1 (fun j p hj => ⟨k3 _ _ (HC.out j p hj).1, k3 _ _ (HC.out j p hj).2⟩) (by simp; omega) (by simp)
      have h2 : PtsAt w3 (.slice (if cc = 1 then some ⟨b, o, none⟩ else some ⟨b, o + 2, none⟩) r.length (cc - 1)) r := by simpa using h
      exact h2
    have HIN := Lib.hid (input_any (k : Int) _ r w3 (by omega) (by omega) HPD.out (by have := HW.out; omega) HW.out.2.2)
    clear k3 e0 e2 e4 e6
    repeat' (first | with_reducible (first | refine wE_seq (fun K hK => ?_) | refine wE_block ?_ | refine wE_skip ?_ | refine wE_ret ?_ | refine wE_exit ?_) | ((with_reducible refine wE_region ?_ ?_); (kernel_rfl); simp only [ls, stripO]) | ((with_reducible refine wS_step (fun K hK => ?_)); simp [go_sem, lk, upd, envOf, lq, ↓IntWalk.iteOmega, *]; (try go_ints); refine hK.out _ _ ?_; clear hK K) | ((with_reducible refine wS_unit (fun K hK => ?_)); simp [go_sem, lk, upd, envOf, lq, ↓IntWalk.iteOmega, *]; (try go_ints); refine hK.out _ _ ?_; clear hK K) | ((with_reducible refine wS_skip ?_ ?_); (focus (simp [lk, upd, envOf, *]; done))) | ((with_reducible refine wS_want ?_ ?_); (focus (simp [lk, upd, envOf, *]; done))) | with_reducible refine wS_nil ?_ | simp only [thenE, blockE, ↓reduceIte, Nat.reduceEqDiff] | ((with_reducible refine hK.out _ _ ?_); clear hK K) | ((with_reducible refine wE_if ?_ (fun hc => ?_) (fun hc => ?_)); (focus (simp [lk, upd, envOf, *]; done)); all_goals (simp [lk, upd, envOf, *] at hc <;> try (exfalso; omega))) | (clear hK; clear K))
    (with_reducible refine wS_step (fun K hK => ?_)); simp [go_sem, lk, upd, envOf, lq, ↓IntWalk.iteOmega, *]; (try go_ints); refine (HIN.out).mono ?_; rintro e w4 ⟨B, bb, a1, n1, c1, a2, n2, c2, hin, rfl, hat, hg4⟩; refine ⟨_, rfl, hK.out _ _ ?_⟩; clear hK K
    have HIR := Lib.hid hin
    have HSB := Lib.hid (show Small B by have := inputR_small (k : Int) r (by have := HW.out; omega); rw [hin] at this; exact this)
    obtain ⟨hgb, hbx, -⟩ := box_facts w4 B (.slice a1 n1 c1) (.slice a2 n2 c2)
    have HG5 := Lib.hid (HG3.out.trans (hg4.trans hgb))
    have HAF := Lib.hid hat
    have hw34 : w3.heap.size ≤ w4.heap.size := hg4.size
    have hw13 : w1.heap.size ≤ w3.heap.size := HG3.out.size
    have HGB := Lib.hid hgb
    have HAT := Lib.hid (hat _ (fun k _ hb => hgb.block k hb))
    have HRL := Lib.hid (refLine_any B (.slice a1 n1 c1) (.slice a2 n2 c2) _ HAT.out HSB.out)
    unfold actV at HRL
    have HBX := Lib.hid hbx
    clear hin hat hg4 hgb hbx
    have HNX : Hid (¬ (bb = true ∧ ParseOk s.data.toList B) → ∀ A, ParseOk s.data.toList A → ((k + 1 : Nat) : Int) ≤ A.kind) := by
      intro hnot A h
      have h1 := HNO.out A h
      obtain ⟨-, -, h3, -, -, h6⟩ := HPF.out A h
      by_cases e : A.kind = (k : Int)
      · rw [← h3, e, HIR.out] at h6
        injection h6 with h7 h8
        exact absurd ⟨h8, h7 ▸ h⟩ hnot
      · omega
    unfold actV
    have hlf : ∃ lns en, lineR B = .tuple #[.string lns, .int .i64 en] ∧ ((en = 0 ∧ lns = s) ↔ ParseOk s.data.toList B) := by
      unfold lineR
      by_cases hc : checkN B = 0
      · rw [if_pos hc]
        refine ⟨_, _, rfl, ⟨fun h => ⟨hc, ?_⟩, fun h => ⟨rfl, ?_⟩⟩⟩
        · rw [← h.2, S_list]
        · rw [h.2, S_of]
      · rw [if_neg hc]
        exact ⟨_, _, rfl, ⟨fun h => absurd h.1 hc, fun h => absurd h.1 hc⟩⟩
    obtain ⟨lns, en, hlr, hiff⟩ := hlf
    rw [hlr] at HRL
    have HIFF := Lib.hid hiff
    clear hlr hiff
    cases bb with
    | false =>
      have HBAD : Hid (¬ (false = true ∧ ParseOk s.data.toList B)) := fun h => by cases h.1
      repeat' (first | with_reducible (first | refine wE_seq (fun K hK => ?_) | refine wE_block ?_ | refine wE_skip ?_ | refine wE_ret ?_ | refine wE_exit ?_) | ((with_reducible refine wE_region ?_ ?_); (kernel_rfl); simp only [ls, stripO]) | ((with_reducible refine wS_step (fun K hK => ?_)); simp [go_sem, lk, upd, envOf, lq, ↓IntWalk.iteOmega, *]; (try go_ints); refine hK.out _ _ ?_; clear hK K) | ((with_reducible refine wS_unit (fun K hK => ?_)); simp [go_sem, lk, upd, envOf, lq, ↓IntWalk.iteOmega, *]; (try go_ints); refine hK.out _ _ ?_; clear hK K) | ((with_reducible refine wS_skip ?_ ?_); (focus (simp [lk, upd, envOf, *]; done))) | ((with_reducible refine wS_want ?_ ?_); (focus (simp [lk, upd, envOf, *]; done))) | with_reducible refine wS_nil ?_ | simp only [thenE, blockE, ↓reduceIte, Nat.reduceEqDiff] | ((with_reducible refine hK.out _ _ ?_); clear hK K) | ((with_reducible refine wE_if ?_ (fun hc => ?_) (fun hc => ?_)); (focus (simp [lk, upd, envOf, *]; done)); all_goals (simp [lk, upd, envOf, *] at hc <;> try (exfalso; omega))) | (clear hK; clear K))
      (with_reducible refine wS_step (fun K hK => ?_)); simp [go_sem, lk, upd, envOf, lq, ↓IntWalk.iteOmega, *]; (try go_ints); refine (HRL.out).mono ?_; rintro e w5 ⟨rfl, hg5⟩; refine ⟨_, rfl, hK.out _ _ ?_⟩; clear hK K
      have HG6 := Lib.hid (HG5.out.trans hg5)
      clear hg5
      repeat' (first | with_reducible (first | refine wE_seq (fun K hK => ?_) | refine wE_block ?_ | refine wE_skip ?_ | refine wE_ret ?_ | refine wE_exit ?_) | ((with_reducible refine wE_region ?_ ?_); (kernel_rfl); simp only [ls, stripO]) | ((with_reducible refine wS_step (fun K hK => ?_)); simp [go_sem, lk, upd, envOf, lq, ↓IntWalk.iteOmega, *]; (try go_ints); refine hK.out _ _ ?_; clear hK K) | ((with_reducible refine wS_unit (fun K hK => ?_)); simp [go_sem, lk, upd, envOf, lq, ↓IntWalk.iteOmega, *]; (try go_ints); refine hK.out _ _ ?_; clear hK K) | ((with_reducible refine wS_skip ?_ ?_); (focus (simp [lk, upd, envOf, *]; done))) | ((with_reducible refine wS_want ?_ ?_); (focus (simp [lk, upd, envOf, *]; done))) | with_reducible refine wS_nil ?_ | simp only [thenE, blockE, ↓reduceIte, Nat.reduceEqDiff] | ((with_reducible refine hK.out _ _ ?_); clear hK K) | ((with_reducible refine wE_if ?_ (fun hc => ?_) (fun hc => ?_)); (focus (simp [lk, upd, envOf, *]; done)); all_goals (simp [lk, upd, envOf, *] at hc <;> try (exfalso; omega))) | (clear hK; clear K))
      exact ⟨k + 1, ⟨by omega, by omega, by simp [upd, *], by simp [upd, *], by simp [upd, *], by simp [upd], HG6.out, HNX.out HBAD.out⟩, by omega⟩
    | true =>
    by_cases hen : en = 0
    rotate_left
    · have HBAD : Hid (¬ (true = true ∧ ParseOk s.data.toList B)) := fun h => hen (HIFF.out.2 h.2).1
      have t1 : (en == 0) = false := by simpa using hen
      clear hen
      repeat' (first | with_reducible (first | refine wE_seq (fun K hK => ?_) | refine wE_block ?_ | refine wE_skip ?_ | refine wE_ret ?_ | refine wE_exit ?_) | ((with_reducible refine wE_region ?_ ?_); (kernel_rfl); simp only [ls, stripO]) | ((with_reducible refine wS_step (fun K hK => ?_)); simp [go_sem, lk, upd, envOf, lq, ↓IntWalk.iteOmega, *]; (try go_ints); refine hK.out _ _ ?_; clear hK K) | ((with_reducible refine wS_unit (fun K hK => ?_)); simp [go_sem, lk, upd, envOf, lq, ↓IntWalk.iteOmega, *]; (try go_ints); refine hK.out _ _ ?_; clear hK K) | ((with_reducible refine wS_skip ?_ ?_); (focus (simp [lk, upd, envOf, *]; done))) | ((with_reducible refine wS_want ?_ ?_); (focus (simp [lk, upd, envOf, *]; done))) | with_reducible refine wS_nil ?_ | simp only [thenE, blockE, ↓reduceIte, Nat.reduceEqDiff] | ((with_reducible refine hK.out _ _ ?_); clear hK K) | ((with_reducible refine wE_if ?_ (fun hc => ?_) (fun hc => ?_)); (focus (simp [lk, upd, envOf, *]; done)); all_goals (simp [lk, upd, envOf, *] at hc <;> try (exfalso; omega))) | (clear hK; clear K))
      (with_reducible refine wS_step (fun K hK => ?_)); simp [go_sem, lk, upd, envOf, lq, ↓IntWalk.iteOmega, *]; (try go_ints); refine (HRL.out).mono ?_; rintro e w5 ⟨rfl, hg5⟩; refine ⟨_, rfl, hK.out _ _ ?_⟩; clear hK K
      have HG6 := Lib.hid (HG5.out.trans hg5)
      clear hg5
      repeat' (first | with_reducible (first | refine wE_seq (fun K hK => ?_) | refine wE_block ?_ | refine wE_skip ?_ | refine wE_ret ?_ | refine wE_exit ?_) | ((with_reducible refine wE_region ?_ ?_); (kernel_rfl); simp only [ls, stripO]) | ((with_reducible refine wS_step (fun K hK => ?_)); simp [go_sem, lk, upd, envOf, lq, ↓IntWalk.iteOmega, *]; (try go_ints); refine hK.out _ _ ?_; clear hK K) | ((with_reducible refine wS_unit (fun K hK => ?_)); simp [go_sem, lk, upd, envOf, lq, ↓IntWalk.iteOmega, *]; (try go_ints); refine hK.out _ _ ?_; clear hK K) | ((with_reducible refine wS_skip ?_ ?_); (focus (simp [lk, upd, envOf, *]; done))) | ((with_reducible refine wS_want ?_ ?_); (focus (simp [lk, upd, envOf, *]; done))) | with_reducible refine wS_nil ?_ | simp only [thenE, blockE, ↓reduceIte, Nat.reduceEqDiff] | ((with_reducible refine hK.out _ _ ?_); clear hK K) | ((with_reducible refine wE_if ?_ (fun hc => ?_) (fun hc => ?_)); (focus (simp [lk, upd, envOf, *]; done)); all_goals (simp [lk, upd, envOf, *] at hc <;> try (exfalso; omega))) | (clear hK; clear K))
      exact ⟨k + 1, ⟨by omega, by omega, by simp [upd, *], by simp [upd, *], by simp [upd, *], by simp [upd], HG6.out, HNX.out HBAD.out⟩, by omega⟩
    subst hen
    by_cases hls : lns = s
    rotate_left
    · have HBAD : Hid (¬ (true = true ∧ ParseOk s.data.toList B)) := fun h => hls (HIFF.out.2 h.2).2
      have t1 : (lns.toList = s.toList) = False := by rw [eq_iff_iff, iff_false]; exact fun e => hls (str_inj e)
      have t2 : (lns.toList == s.toList) = false := by rw [str_beq]; exact decide_eq_false hls
      clear hls
      repeat' (first | with_reducible (first | refine wE_seq (fun K hK => ?_) | refine wE_block ?_ | refine wE_skip ?_ | refine wE_ret ?_ | refine wE_exit ?_) | ((with_reducible refine wE_region ?_ ?_); (kernel_rfl); simp only [ls, stripO]) | ((with_reducible refine wS_step (fun K hK => ?_)); simp [go_sem, lk, upd, envOf, lq, ↓IntWalk.iteOmega, *]; (try go_ints); refine hK.out _ _ ?_; clear hK K) | ((with_reducible refine wS_unit (fun K hK => ?_)); simp [go_sem, lk, upd, envOf, lq, ↓IntWalk.iteOmega, *]; (try go_ints); refine hK.out _ _ ?_; clear hK K) | ((with_reducible refine wS_skip ?_ ?_); (focus (simp [lk, upd, envOf, *]; done))) | ((with_reducible refine wS_want ?_ ?_); (focus (simp [lk, upd, envOf, *]; done))) | with_reducible refine wS_nil ?_ | simp only [thenE, blockE, ↓reduceIte, Nat.reduceEqDiff] | ((with_reducible refine hK.out _ _ ?_); clear hK K) | ((with_reducible refine wE_if ?_ (fun hc => ?_) (fun hc => ?_)); (focus (simp [lk, upd, envOf, *]; done)); all_goals (simp [lk, upd, envOf, *] at hc <;> try (exfalso; omega))) | (clear hK; clear K))
      (with_reducible refine wS_step (fun K hK => ?_)); simp [go_sem, lk, upd, envOf, lq, ↓IntWalk.iteOmega, *]; (try go_ints); refine (HRL.out).mono ?_; rintro e w5 ⟨rfl, hg5⟩; refine ⟨_, rfl, hK.out _ _ ?_⟩; clear hK K
      have HG6 := Lib.hid (HG5.out.trans hg5)
      clear hg5
      repeat' (first | with_reducible (first | refine wE_seq (fun K hK => ?_) | refine wE_block ?_ | refine wE_skip ?_ | refine wE_ret ?_ | refine wE_exit ?_) | ((with_reducible refine wE_region ?_ ?_); (kernel_rfl); simp only [ls, stripO]) | ((with_reducible refine wS_step (fun K hK => ?_)); simp [go_sem, lk, upd, envOf, lq, ↓IntWalk.iteOmega, *]; (try go_ints); refine hK.out _ _ ?_; clear hK K) | ((with_reducible refine wS_unit (fun K hK => ?_)); simp [go_sem, lk, upd, envOf, lq, ↓IntWalk.iteOmega, *]; (try go_ints); refine hK.out _ _ ?_; clear hK K) | ((with_reducible refine wS_skip ?_ ?_); (focus (simp [lk, upd, envOf, *]; done))) | ((with_reducible refine wS_want ?_ ?_); (focus (simp [lk, upd, envOf, *]; done))) | with_reducible refine wS_nil ?_ | simp only [thenE, blockE, ↓reduceIte, Nat.reduceEqDiff] | ((with_reducible refine hK.out _ _ ?_); clear hK K) | ((with_reducible refine wE_if ?_ (fun hc => ?_) (fun hc => ?_)); (focus (simp [lk, upd, envOf, *]; done)); all_goals (simp [lk, upd, envOf, *] at hc <;> try (exfalso; omega))) | (clear hK; clear K))
      exact ⟨k + 1, ⟨by omega, by omega, by simp [upd, *], by simp [upd, *], by simp [upd, *], by simp [upd], HG6.out, HNX.out HBAD.out⟩, by omega⟩
    subst hls
    have HOK := Lib.hid (HIFF.out.1 ⟨rfl, rfl⟩)
    repeat' (first | with_reducible (first | refine wE_seq (fun K hK => ?_) | refine wE_block ?_ | refine wE_skip ?_ | refine wE_ret ?_ | refine wE_exit ?_) | ((with_reducible refine wE_region ?_ ?_); (kernel_rfl); simp only [ls, stripO]) | ((with_reducible refine wS_step (fun K hK => ?_)); simp [go_sem, lk, upd, envOf, lq, ↓IntWalk.iteOmega, *]; (try go_ints); refine hK.out _ _ ?_; clear hK K) | ((with_reducible refine wS_unit (fun K hK => ?_)); simp [go_sem, lk, upd, envOf, lq, ↓IntWalk.iteOmega, *]; (try go_ints); refine hK.out _ _ ?_; clear hK K) | ((with_reducible refine wS_skip ?_ ?_); (focus (simp [lk, upd, envOf, *]; done))) | ((with_reducible refine wS_want ?_ ?_); (focus (simp [lk, upd, envOf, *]; done))) | with_reducible refine wS_nil ?_ | simp only [thenE, blockE, ↓reduceIte, Nat.reduceEqDiff] | ((with_reducible refine hK.out _ _ ?_); clear hK K) | ((with_reducible refine wE_if ?_ (fun hc => ?_) (fun hc => ?_)); (focus (simp [lk, upd, envOf, *]; done)); all_goals (simp [lk, upd, envOf, *] at hc <;> try (exfalso; omega))) | (clear hK; clear K))
    (with_reducible refine wS_step (fun K hK => ?_)); simp [go_sem, lk, upd, envOf, lq, ↓IntWalk.iteOmega, *]; (try go_ints); refine (HRL.out).mono ?_; rintro e w5 ⟨rfl, hg5⟩; refine ⟨_, rfl, hK.out _ _ ?_⟩; clear hK K
    have hk5 := Keeps.of_below hg5
    obtain ⟨b0, b1, b2, b3, b4, b5, b6, b7⟩ := HBX.out.keep hk5
    have HG6 := Lib.hid (HG5.out.trans hg5)
    have HG56 := Lib.hid hg5
    have HZ6 := Lib.hid (show w5.heap[w.heap.size]? = some (.cells zeroA 26 (0, 0)) by rw [HG6.out.block _ hws1]; exact HZ1.out)
    clear hg5 hk5
    repeat' (first | with_reducible (first | refine wE_seq (fun K hK => ?_) | refine wE_block ?_ | refine wE_skip ?_ | refine wE_ret ?_ | refine wE_exit ?_) | ((with_reducible refine wE_region ?_ ?_); (kernel_rfl); simp only [ls, stripO]) | ((with_reducible refine wS_step (fun K hK => ?_)); simp [go_sem, lk, upd, envOf, lq, ↓IntWalk.iteOmega, *]; (try go_ints); refine hK.out _ _ ?_; clear hK K) | ((with_reducible refine wS_unit (fun K hK => ?_)); simp [go_sem, lk, upd, envOf, lq, ↓IntWalk.iteOmega, *]; (try go_ints); refine hK.out _ _ ?_; clear hK K) | ((with_reducible refine wS_skip ?_ ?_); (focus (simp [lk, upd, envOf, *]; done))) | ((with_reducible refine wS_want ?_ ?_); (focus (simp [lk, upd, envOf, *]; done))) | with_reducible refine wS_nil ?_ | simp only [thenE, blockE, ↓reduceIte, Nat.reduceEqDiff] | ((with_reducible refine hK.out _ _ ?_); clear hK K) | ((with_reducible refine wE_if ?_ (fun hc => ?_) (fun hc => ?_)); (focus (simp [lk, upd, envOf, *]; done)); all_goals (simp [lk, upd, envOf, *] at hc <;> try (exfalso; omega))) | (clear hK; clear K))
    refine wS_storeRow w.heap.size #[.int .i64 B.kind, .string B.who, .int .i64 B.change, .int .i64 B.priority, .int .i64 B.at_, .int .i64 B.count, .slice a1 n1 c1, .slice a2 n2 c2] zeroA (by simp [evalS_tmp, upd, *]) (by simp [evalS_tmp, upd]) HZ6.out size26 rfl (by simp [Value.oneCell']) ?_
    repeat' (first | with_reducible (first | refine wE_seq (fun K hK => ?_) | refine wE_block ?_ | refine wE_skip ?_ | refine wE_ret ?_ | refine wE_exit ?_) | ((with_reducible refine wE_region ?_ ?_); (kernel_rfl); simp only [ls, stripO]) | ((with_reducible refine wS_step (fun K hK => ?_)); simp [go_sem, lk, upd, envOf, lq, ↓IntWalk.iteOmega, *]; (try go_ints); refine hK.out _ _ ?_; clear hK K) | ((with_reducible refine wS_unit (fun K hK => ?_)); simp [go_sem, lk, upd, envOf, lq, ↓IntWalk.iteOmega, *]; (try go_ints); refine hK.out _ _ ?_; clear hK K) | ((with_reducible refine wS_skip ?_ ?_); (focus (simp [lk, upd, envOf, *]; done))) | ((with_reducible refine wS_want ?_ ?_); (focus (simp [lk, upd, envOf, *]; done))) | with_reducible refine wS_nil ?_ | simp only [thenE, blockE, ↓reduceIte, Nat.reduceEqDiff] | ((with_reducible refine hK.out _ _ ?_); clear hK K) | ((with_reducible refine wE_if ?_ (fun hc => ?_) (fun hc => ?_)); (focus (simp [lk, upd, envOf, *]; done)); all_goals (simp [lk, upd, envOf, *] at hc <;> try (exfalso; omega))) | (clear hK; clear K))
    refine endE_ct rfl (by simp [upd, *]) (run_loadVar_row _ w.heap.size 26 26 _ (0, 0) _ (setRow_heap _ _ _ _ _ _ HZ6.out) Tryz.underlying26 rfl size26) ⟨(HG1.out.trans HG6.out).trans' (below_row _ (Nat.le_refl _) _), .inl ⟨B, .slice a1 n1 c1, .slice a2 n2 c2, by simp [upd, actV], ?_, HOK.out⟩⟩
    refine HAF.out _ (fun k hk hb => ?_)
    rw [setRow_other _ _ _ _ (by omega), HG56.out.block k (Nat.lt_of_lt_of_le hb HGB.out.size), HGB.out.block k hb]
end Go.Proofs.YtglekdhdogjnoaaGreatDoor
