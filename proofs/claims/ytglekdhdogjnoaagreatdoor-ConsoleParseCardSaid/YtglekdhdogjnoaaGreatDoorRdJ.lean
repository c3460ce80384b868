/- The law ConsoleParse: the walk. -/
import Derived.Test.YtglekdhdogjnoaaGreatDoorRdI
import Derived.Test.YtglekdhdogjnoaaGreatDoorRtA
import Derived.Test.YtglekdhdogjnoaaGreatDoorLawA
namespace Go.Proofs.YtglekdhdogjnoaaGreatDoor
open Go.RowKit
set_option linter.unusedSimpArgs false
theorem ok_small {l : List UInt8} {A : PAct} (h : ParseOk l A) (hl : l.length ≤ 400) : Small A := by
  have h1 := split_line esc_unesc A
  rw [h.2] at h1
  have h2 := splitF_le _ _ _ h1
  rw [wts_cons] at h2
  have h3 := read_small A.kind ⟨restParts A, false⟩ (by simp only; omega)
  rw [read_line A (fine_of A h.1)] at h3
  exact h3
theorem ok_unique {l : List UInt8} {A B : PAct} (h : ParseOk l A) (k : ParseOk l B) : A = B := by
  have h1 := split_line esc_unesc A
  have k1 := split_line esc_unesc B
  rw [h.2] at h1
  rw [k.2, h1] at k1
  obtain ⟨e1, e2⟩ := List.cons.inj (Option.some.inj k1)
  have fa := fine_of A h.1
  have fb := fine_of B k.1
  have hw : wordL A.kind = wordL B.kind := by
    have := congrArg (fun p : PPart => p.text.data.toList) e1
    simpa [S] using this
  have hk := word_inj ⟨fa.k1, fa.k8⟩ ⟨fb.k1, fb.k8⟩ hw
  have ra := read_line A fa
  have rb := read_line B fb
  rw [← hk, ← e2, ra] at rb
  exact (Prod.mk.inj rb).1
/-- What a parser answers, in the form that a walk of its caller asks. -/
theorem post_form {s : ByteArray} {w : World} {e : Ending} {w' : World} (h : ParsePost s w e w') : ∃ (B : PAct) (a1 : Option Addr) (n1 c1 : Nat) (a2 : Option Addr) (n2 c2 : Nat) (n : Int), e = .returned (.tuple #[.agg #[.int .i64 B.kind, .string B.who, .int .i64 B.change, .int .i64 B.priority, .int .i64 B.at_, .int .i64 B.count, .slice a1 n1 c1, .slice a2 n2 c2], .int .i64 n]) ∧ ActAt w' B (.slice a1 n1 c1) (.slice a2 n2 c2) ∧ Grow w w' ∧ ((n = 0 ∧ ParseOk s.data.toList B) ∨ (n = 3 ∧ B = act0 0 ∧ ∀ A, ¬ ParseOk s.data.toList A)) := by
  obtain ⟨hg, ⟨B, vf, vp, rfl, hB, hok⟩ | ⟨rfl, hno⟩⟩ := h
  · obtain ⟨a1, c1, rfl, -⟩ := hB.files
    obtain ⟨a2, c2, rfl, -⟩ := hB.picks
    exact ⟨B, _, _, _, _, _, _, 0, rfl, hB, hg, .inl ⟨rfl, hok⟩⟩
  · exact ⟨act0 0, none, 0, 0, none, 0, 0, 3, rfl, act_zero _ _ _ _ _ zi64 zi64 zi64 zi64, hg, .inr ⟨rfl, rfl, hno⟩⟩
set_option maxHeartbeats 4000000 in
set_option maxRecDepth 100000 in
theorem lawParse_any (l : ByteArray) (w : World) (ht : Tab10 w) (he : Errs w) (h3 : 3 < w.heap.size) : Calls Tryz.prog 3 #[.string l] w fun e w' => e = .returned (.bool true) ∧ Grow w w' := by
  by_cases hl : 400 < l.size
  · have tl : (400 : Int) < (l.size : Int) := by omega
    refine calls_of_wE Tryz.func3 rfl Tryz.ntmps3 (by simp) ?_
    repeat' (first | with_reducible (first | refine wE_seq (fun K hK => ?_) | refine wE_block ?_ | refine wE_skip ?_ | refine wE_ret ?_ | refine wE_exit ?_) | ((with_reducible refine wE_region ?_ ?_); (kernel_rfl); simp only [ls, stripO]) | ((with_reducible refine wS_step (fun K hK => ?_)); simp [go_sem, lk, upd, envOf, lq, ↓IntWalk.iteOmega, *]; (try go_ints); refine hK.out _ _ ?_; clear hK K) | ((with_reducible refine wS_unit (fun K hK => ?_)); simp [go_sem, lk, upd, envOf, lq, ↓IntWalk.iteOmega, *]; (try go_ints); refine hK.out _ _ ?_; clear hK K) | ((with_reducible refine wS_skip ?_ ?_); (focus (simp [lk, upd, envOf, *]; done))) | ((with_reducible refine wS_want ?_ ?_); (focus (simp [lk, upd, envOf, *]; done))) | with_reducible refine wS_nil ?_ | simp only [thenE, blockE, ↓reduceIte, Nat.reduceEqDiff] | ((with_reducible refine hK.out _ _ ?_); clear hK K) | ((with_reducible refine wE_if ?_ (fun hc => ?_) (fun hc => ?_)); (focus (simp [lk, upd, envOf, *]; done)); all_goals (simp [lk, upd, envOf, *] at hc <;> try (exfalso; omega))) | (clear hK; clear K))
    (with_reducible refine wS_step (fun K hK => ?_)); simp [go_sem, lk, upd, envOf, lq, ↓IntWalk.iteOmega, *]; (try go_ints); refine (awake_any _ ht).mono ?_; rintro e w2 ⟨rfl, hb2⟩; refine ⟨_, rfl, hK.out _ _ ?_⟩; clear hK K
    repeat' (first | with_reducible (first | refine wE_seq (fun K hK => ?_) | refine wE_block ?_ | refine wE_skip ?_ | refine wE_ret ?_ | refine wE_exit ?_) | ((with_reducible refine wE_region ?_ ?_); (kernel_rfl); simp only [ls, stripO]) | ((with_reducible refine wS_step (fun K hK => ?_)); simp [go_sem, lk, upd, envOf, lq, ↓IntWalk.iteOmega, *]; (try go_ints); refine hK.out _ _ ?_; clear hK K) | ((with_reducible refine wS_unit (fun K hK => ?_)); simp [go_sem, lk, upd, envOf, lq, ↓IntWalk.iteOmega, *]; (try go_ints); refine hK.out _ _ ?_; clear hK K) | ((with_reducible refine wS_skip ?_ ?_); (focus (simp [lk, upd, envOf, *]; done))) | ((with_reducible refine wS_want ?_ ?_); (focus (simp [lk, upd, envOf, *]; done))) | with_reducible refine wS_nil ?_ | simp only [thenE, blockE, ↓reduceIte, Nat.reduceEqDiff] | ((with_reducible refine hK.out _ _ ?_); clear hK K) | ((with_reducible refine wE_if ?_ (fun hc => ?_) (fun hc => ?_)); (focus (simp [lk, upd, envOf, *]; done)); all_goals (simp [lk, upd, envOf, *] at hc <;> try (exfalso; omega))) | (clear hK; clear K))
    exact endE_tmp rfl ⟨by simp [upd], hb2⟩
  have tl : ¬ (400 : Int) < (l.size : Int) := by omega
  have HT := Lib.hid ht
  have HPA := Lib.hid ((parse_any l w (by omega) (.inl (by omega)) ht he h3).mono (fun _ _ h => post_form h))
  have HRA := Lib.hid (fun w' => (refParse_any l w' (by omega)).mono (fun _ _ h => post_form h))
  have HLL := Lib.hid (show l.data.toList.length ≤ 400 by simp; omega)
  clear ht he
  refine calls_of_wE Tryz.func3 rfl Tryz.ntmps3 (by simp) ?_
  repeat' (first | with_reducible (first | refine wE_seq (fun K hK => ?_) | refine wE_block ?_ | refine wE_skip ?_ | refine wE_ret ?_ | refine wE_exit ?_) | ((with_reducible refine wE_region ?_ ?_); (kernel_rfl); simp only [ls, stripO]) | ((with_reducible refine wS_step (fun K hK => ?_)); simp [go_sem, lk, upd, envOf, lq, ↓IntWalk.iteOmega, *]; (try go_ints); refine hK.out _ _ ?_; clear hK K) | ((with_reducible refine wS_unit (fun K hK => ?_)); simp [go_sem, lk, upd, envOf, lq, ↓IntWalk.iteOmega, *]; (try go_ints); refine hK.out _ _ ?_; clear hK K) | ((with_reducible refine wS_skip ?_ ?_); (focus (simp [lk, upd, envOf, *]; done))) | ((with_reducible refine wS_want ?_ ?_); (focus (simp [lk, upd, envOf, *]; done))) | with_reducible refine wS_nil ?_ | simp only [thenE, blockE, ↓reduceIte, Nat.reduceEqDiff] | ((with_reducible refine hK.out _ _ ?_); clear hK K) | ((with_reducible refine wE_if ?_ (fun hc => ?_) (fun hc => ?_)); (focus (simp [lk, upd, envOf, *]; done)); all_goals (simp [lk, upd, envOf, *] at hc <;> try (exfalso; omega))) | (clear hK; clear K))
  (with_reducible refine wS_step (fun K hK => ?_)); simp [go_sem, lk, upd, envOf, lq, ↓IntWalk.iteOmega, *]; (try go_ints); refine (HPA.out).mono ?_; rintro e w1 ⟨B, a1, n1, c1, a2, n2, c2, n, rfl, hB, hg1, hcase⟩; refine ⟨_, rfl, hK.out _ _ ?_⟩; clear hK K
  have HC := Lib.hid hcase
  obtain ⟨hgb, hbx, -⟩ := box_facts w1 B (.slice a1 n1 c1) (.slice a2 n2 c2)
  have HB := Lib.hid (hB.keep (Keeps.of_below hgb))
  have HBX := Lib.hid hbx
  have HG1 := Lib.hid (show Grow w _ from hg1.trans hgb)
  clear hB hg1 hcase hgb hbx HPA
  repeat' (first | ((with_reducible refine wS_step (fun K hK => ?_)); simp [go_sem, lk, upd, envOf, lq, ↓IntWalk.iteOmega, *]; (try go_ints); refine hK.out _ _ ?_; clear hK K) | ((with_reducible refine wS_unit (fun K hK => ?_)); simp [go_sem, lk, upd, envOf, lq, ↓IntWalk.iteOmega, *]; (try go_ints); refine hK.out _ _ ?_; clear hK K) | ((with_reducible refine wS_skip ?_ ?_); (focus (simp [lk, upd, envOf, *]; done))) | ((with_reducible refine wS_want ?_ ?_); (focus (simp [lk, upd, envOf, *]; done))) | with_reducible refine wS_nil ?_)
  repeat' (first | with_reducible (first | refine wE_seq (fun K hK => ?_) | refine wE_block ?_ | refine wE_skip ?_ | refine wE_ret ?_ | refine wE_exit ?_) | simp only [thenE, blockE, ↓reduceIte, Nat.reduceEqDiff] | ((with_reducible refine hK.out _ _ ?_); clear hK K) | ((with_reducible refine wE_if ?_ (fun hc => ?_) (fun hc => ?_)); (focus (simp [lk, upd, envOf, *]; done)); all_goals (simp [lk, upd, envOf, *] at hc <;> try (exfalso; omega))) | (clear hK; clear K))
  ((with_reducible refine wE_region ?_ ?_); (kernel_rfl); simp only [ls, stripO])
  repeat' (first | ((with_reducible refine wS_step (fun K hK => ?_)); simp [go_sem, lk, upd, envOf, lq, ↓IntWalk.iteOmega, *]; (try go_ints); refine hK.out _ _ ?_; clear hK K) | ((with_reducible refine wS_unit (fun K hK => ?_)); simp [go_sem, lk, upd, envOf, lq, ↓IntWalk.iteOmega, *]; (try go_ints); refine hK.out _ _ ?_; clear hK K) | ((with_reducible refine wS_skip ?_ ?_); (focus (simp [lk, upd, envOf, *]; done))) | ((with_reducible refine wS_want ?_ ?_); (focus (simp [lk, upd, envOf, *]; done))) | with_reducible refine wS_nil ?_)
  generalize (w1.alloc (.cells #[.int .i64 B.kind, .string B.who, .int .i64 B.change, .int .i64 B.priority, .int .i64 B.at_, .int .i64 B.count, .slice a1 n1 c1, .slice a2 n2 c2] 26)) = w2 at *
  (with_reducible refine wS_step (fun K hK => ?_)); simp [go_sem, lk, upd, envOf, lq, ↓IntWalk.iteOmega, *]; (try go_ints); refine (HRA.out _).mono ?_; rintro e w3 ⟨B2, a3, n3, c3, a4, n4, c4, m, rfl, hB2, hg3, hcase2⟩; refine ⟨_, rfl, hK.out _ _ ?_⟩; clear hK K
  obtain ⟨rfl, rfl⟩ : B2 = B ∧ m = n := by
    rcases HC.out with ⟨rfl, hok⟩ | ⟨rfl, rfl, hno⟩ <;> rcases hcase2 with ⟨rfl, hok2⟩ | ⟨rfl, rfl, hno2⟩
    · exact ⟨ok_unique hok2 hok, rfl⟩
    · exact absurd hok (hno2 _)
    · exact absurd hok2 (hno _)
    · exact ⟨rfl, rfl⟩
  have HSM := Lib.hid (show B2.files.length ≤ 100000 ∧ B2.picks.length ≤ 100000 by
    rcases hcase2 with ⟨rfl, hok2⟩ | ⟨rfl, rfl, hno2⟩
    · have := ok_small hok2 HLL.out
      exact ⟨Nat.le_trans this.nfiles (by omega), Nat.le_trans this.npicks (by omega)⟩
    · exact ⟨by simp [act0], by simp [act0]⟩)
  obtain ⟨hgb, hbx, -⟩ := box_facts w3 B2 (.slice a3 n3 c3) (.slice a4 n4 c4)
  have hk := Keeps.of_below (hg3.trans hgb)
  obtain ⟨c0, c1', c2', c3', c4', c5, c6, c7⟩ := HBX.out.keep hk
  have HS := Lib.hid (same_self B2 (.slice a1 n1 c1) (.slice a2 n2 c2) (.slice a3 n3 c3) (.slice a4 n4 c4) _ (HB.out.keep hk) (hB2.keep (Keeps.of_below hgb)) HSM.out.1 HSM.out.2)
  unfold actV at HS
  have HG4 := Lib.hid (HG1.out.trans (hg3.trans hgb))
  clear hB2 hg3 hcase2 hgb hbx hk HC HRA
  repeat' (first | with_reducible (first | refine wE_seq (fun K hK => ?_) | refine wE_block ?_ | refine wE_skip ?_ | refine wE_ret ?_ | refine wE_exit ?_) | ((with_reducible refine wE_region ?_ ?_); (kernel_rfl); simp only [ls, stripO]) | ((with_reducible refine wS_step (fun K hK => ?_)); simp [go_sem, lk, upd, envOf, lq, ↓IntWalk.iteOmega, *]; (try go_ints); refine hK.out _ _ ?_; clear hK K) | ((with_reducible refine wS_unit (fun K hK => ?_)); simp [go_sem, lk, upd, envOf, lq, ↓IntWalk.iteOmega, *]; (try go_ints); refine hK.out _ _ ?_; clear hK K) | ((with_reducible refine wS_skip ?_ ?_); (focus (simp [lk, upd, envOf, *]; done))) | ((with_reducible refine wS_want ?_ ?_); (focus (simp [lk, upd, envOf, *]; done))) | with_reducible refine wS_nil ?_ | simp only [thenE, blockE, ↓reduceIte, Nat.reduceEqDiff] | ((with_reducible refine hK.out _ _ ?_); clear hK K) | ((with_reducible refine wE_if ?_ (fun hc => ?_) (fun hc => ?_)); (focus (simp [lk, upd, envOf, *]; done)); all_goals (simp [lk, upd, envOf, *] at hc <;> try (exfalso; omega))) | (clear hK; clear K))
  (with_reducible refine wS_step (fun K hK => ?_)); simp [go_sem, lk, upd, envOf, lq, ↓IntWalk.iteOmega, *]; (try go_ints); refine (HS.out).mono ?_; rintro e w5 ⟨rfl, hg5⟩; refine ⟨_, rfl, hK.out _ _ ?_⟩; clear hK K
  repeat' (first | with_reducible (first | refine wE_seq (fun K hK => ?_) | refine wE_block ?_ | refine wE_skip ?_ | refine wE_ret ?_ | refine wE_exit ?_) | ((with_reducible refine wE_region ?_ ?_); (kernel_rfl); simp only [ls, stripO]) | ((with_reducible refine wS_step (fun K hK => ?_)); simp [go_sem, lk, upd, envOf, lq, ↓IntWalk.iteOmega, *]; (try go_ints); refine hK.out _ _ ?_; clear hK K) | ((with_reducible refine wS_unit (fun K hK => ?_)); simp [go_sem, lk, upd, envOf, lq, ↓IntWalk.iteOmega, *]; (try go_ints); refine hK.out _ _ ?_; clear hK K) | ((with_reducible refine wS_skip ?_ ?_); (focus (simp [lk, upd, envOf, *]; done))) | ((with_reducible refine wS_want ?_ ?_); (focus (simp [lk, upd, envOf, *]; done))) | with_reducible refine wS_nil ?_ | simp only [thenE, blockE, ↓reduceIte, Nat.reduceEqDiff] | ((with_reducible refine hK.out _ _ ?_); clear hK K) | ((with_reducible refine wE_if ?_ (fun hc => ?_) (fun hc => ?_)); (focus (simp [lk, upd, envOf, *]; done)); all_goals (simp [lk, upd, envOf, *] at hc <;> try (exfalso; omega))) | (clear hK; clear K))
  (with_reducible refine wS_step (fun K hK => ?_)); simp [go_sem, lk, upd, envOf, lq, ↓IntWalk.iteOmega, *]; (try go_ints); refine (awake_any w5 (HT.out.grow (HG4.out.trans hg5))).mono ?_; rintro e w6 ⟨rfl, hg6⟩; refine ⟨_, rfl, hK.out _ _ ?_⟩; clear hK K
  repeat' (first | with_reducible (first | refine wE_seq (fun K hK => ?_) | refine wE_block ?_ | refine wE_skip ?_ | refine wE_ret ?_ | refine wE_exit ?_) | ((with_reducible refine wE_region ?_ ?_); (kernel_rfl); simp only [ls, stripO]) | ((with_reducible refine wS_step (fun K hK => ?_)); simp [go_sem, lk, upd, envOf, lq, ↓IntWalk.iteOmega, *]; (try go_ints); refine hK.out _ _ ?_; clear hK K) | ((with_reducible refine wS_unit (fun K hK => ?_)); simp [go_sem, lk, upd, envOf, lq, ↓IntWalk.iteOmega, *]; (try go_ints); refine hK.out _ _ ?_; clear hK K) | ((with_reducible refine wS_skip ?_ ?_); (focus (simp [lk, upd, envOf, *]; done))) | ((with_reducible refine wS_want ?_ ?_); (focus (simp [lk, upd, envOf, *]; done))) | with_reducible refine wS_nil ?_ | simp only [thenE, blockE, ↓reduceIte, Nat.reduceEqDiff] | ((with_reducible refine hK.out _ _ ?_); clear hK K) | ((with_reducible refine wE_if ?_ (fun hc => ?_) (fun hc => ?_)); (focus (simp [lk, upd, envOf, *]; done)); all_goals (simp [lk, upd, envOf, *] at hc <;> try (exfalso; omega))) | (clear hK; clear K))
  exact endE_tmp rfl ⟨by simp [upd], HG4.out.trans (hg5.trans hg6)⟩
end Go.Proofs.YtglekdhdogjnoaaGreatDoor
