/- The reference's list and named, walked. -/
import Derived.Test.YtglekdhdogjnoaaGreatDoorRdD
namespace Go.Proofs.YtglekdhdogjnoaaGreatDoor
open Go.RowKit
set_option linter.unusedSimpArgs false
def ListEnd (ps : List PPart) (w : World) (e : Ending) (w' : World) : Prop :=
  Grow w w' ∧ match listR ps with
    | some fs => ∃ a n c, e = .returned (.tuple #[.slice a n c, .bool (decide (ps.length % 2 = 0))]) ∧ w'.ownsRow w.heap.size 35 2 (.slice a n c) fs.length (filesC fs)
    | none => e = .returned (.tuple #[.slice none 0 0, .bool false])
theorem listR_step (ps : List PPart) (k : Nat) (p p2 : PPart) (fs : List File) (hp : ps[k]? = some p) (hp2 : ps[k + 1]? = some p2) (h : listR ps = (listR (ps.drop k)).map (fs ++ ·)) :
    listR ps = if p.quoted = true ∧ p2.quoted = true then (listR (ps.drop (k + 2))).map ((fs ++ [(p.text, p2.text)]) ++ ·) else none := by
  have hd : ps.drop k = p :: p2 :: ps.drop (k + 2) := by
    obtain ⟨hlt, rfl⟩ := List.getElem?_eq_some_iff.1 hp
    obtain ⟨hlt2, rfl⟩ := List.getElem?_eq_some_iff.1 hp2
    rw [List.drop_eq_getElem_cons hlt, List.drop_eq_getElem_cons hlt2]
  rw [h, hd, listR]
  split
  · cases listR (ps.drop (k + 2)) <;> simp
  · rfl
theorem even_beq (n : Nat) : ((n : Int) % 2 == 0) = decide (n % 2 = 0) := by
  by_cases h : n % 2 = 0
  · rw [decide_eq_true h]; have e : (n : Int) % 2 = 0 := by omega
    simp [e]
  · rw [decide_eq_false h]; have e : ¬ (n : Int) % 2 = 0 := by omega
    simp [e]
set_option maxHeartbeats 4000000 in
set_option maxRecDepth 100000 in
theorem list_any (v : Value) (ps : List PPart) (w : World) (hv : PtsAt w v ps) (hl : ps.length ≤ 1000000) : Calls Tryz.prog 47 #[v] w fun e w' => ListEnd ps w e w' := by
  obtain ⟨a, c, rfl, hcap, hpt⟩ := hv
  have HP := Lib.hid hpt
  clear hpt
  refine calls_of_wE Tryz.func47 rfl Tryz.ntmps47 (by simp) ?_
  repeat' (first | with_reducible (first | refine wE_seq (fun K hK => ?_) | refine wE_block ?_ | refine wE_skip ?_ | refine wE_ret ?_ | refine wE_exit ?_) | ((with_reducible refine wE_region ?_ ?_); (kernel_rfl); simp only [ls, stripO]) | ((with_reducible refine wS_step (fun K hK => ?_)); simp [go_sem, lk, upd, envOf, stepS_value, stepS_skip, stepS_enter, ↓IntWalk.iteOmega, *]; (try go_ints); refine hK.out _ _ ?_; clear hK K) | ((with_reducible refine wS_unit (fun K hK => ?_)); simp [go_sem, lk, upd, envOf, stepS_value, stepS_skip, stepS_enter, ↓IntWalk.iteOmega, *]; (try go_ints); refine hK.out _ _ ?_; clear hK K) | ((with_reducible refine wS_skip ?_ ?_); (focus (simp [lk, upd, envOf, *]; done))) | ((with_reducible refine wS_want ?_ ?_); (focus (simp [lk, upd, envOf, *]; done))) | ((with_reducible refine wS_split (fun hc => ?_) (fun hc => ?_)) <;> simp [lk, upd, envOf, *] at hc <;> try (exfalso; omega)) | with_reducible refine wS_nil ?_ | simp only [thenE, blockE, ↓reduceIte, Nat.reduceEqDiff] | ((with_reducible refine hK.out _ _ ?_); clear hK K) | ((with_reducible refine wE_if ?_ (fun hc => ?_) (fun hc => ?_)); (focus (simp [lk, upd, envOf, *]; done)); all_goals (simp [lk, upd, envOf, *] at hc <;> try (exfalso; omega))) | (clear hK; clear K))
  refine wE_loop (fun (k : Nat) σ w' => k ≤ ps.length ∧ σ 0 = .slice a ps.length c ∧ σ 5 = .int .i64 k ∧ (∃ fs, fs.length ≤ k ∧ listR ps = (listR (ps.drop k)).map (fs ++ ·) ∧ w'.ownsRow w.heap.size 35 2 (σ 4) fs.length (filesC fs)) ∧ Grow w w') (fun k => ps.length - k) 0 ?_ ?_
  · refine ⟨by omega, by simp [upd, envOf], by simp [upd], ⟨[], by simp, by rw [List.drop_zero]; cases listR ps <;> simp, ?_⟩, Grow.refl _⟩
    simp [upd]
    exact World.ownsRow_nil _ _ _ _
  rintro k σ w1 ⟨hk, e0, e5, ⟨fs, hfl, hfe, ho⟩, hg⟩
  generalize hv4 : σ 4 = v4 at ho
  have HFE := Lib.hid hfe
  have HO := Lib.hid ho
  have HG := Lib.hid hg
  clear hfe ho hg
  obtain ⟨j, hj⟩ : ∃ j, j = k + 1 := ⟨_, rfl⟩
  have hj' : (k : Int) + 1 = (j : Int) := by omega
  have HJ := Lib.hid hj
  by_cases hlt : j < ps.length
  · have m1 : (j : Int) < (ps.length : Int) := by omega
    have hkl : k < ps.length := by omega
    obtain ⟨p, hp⟩ : ∃ p, ps[k]? = some p := ⟨_, List.getElem?_eq_getElem hkl⟩
    obtain ⟨p2, hp2⟩ : ∃ p, ps[j]? = some p := ⟨_, List.getElem?_eq_getElem hlt⟩
    rcases HP.out with h | ⟨b, o, rfl, hc⟩
    · rw [h] at hlt; simp at hlt
    obtain ⟨g1, g2⟩ := hc k p hp
    obtain ⟨g3, g4⟩ := hc j p2 hp2
    have g1' := Keeps.of_below HG.out _ _ g1
    have g2' := Keeps.of_below HG.out _ _ g2
    have g3' := Keeps.of_below HG.out _ _ g3
    have g4' := Keeps.of_below HG.out _ _ g4
    have HST := Lib.hid (listR_step ps k p p2 fs hp (by rw [← hj]; exact hp2) HFE.out)
    obtain ⟨q, t⟩ := p
    obtain ⟨q2, t2⟩ := p2
    simp only at g1' g2' g3' g4' HST
    clear hc hp hp2
    cases q with
    | false =>
      clear hj g1 g2 g3 g4
      repeat' (first | with_reducible (first | refine wE_seq (fun K hK => ?_) | refine wE_block ?_ | refine wE_skip ?_ | refine wE_ret ?_ | refine wE_exit ?_) | ((with_reducible refine wE_region ?_ ?_); (kernel_rfl); simp only [ls, stripO]) | ((with_reducible refine wS_step (fun K hK => ?_)); simp [go_sem, lk, upd, envOf, stepS_value, stepS_skip, stepS_enter, ↓IntWalk.iteOmega, *]; (try go_ints); refine hK.out _ _ ?_; clear hK K) | ((with_reducible refine wS_unit (fun K hK => ?_)); simp [go_sem, lk, upd, envOf, stepS_value, stepS_skip, stepS_enter, ↓IntWalk.iteOmega, *]; (try go_ints); refine hK.out _ _ ?_; clear hK K) | ((with_reducible refine wS_skip ?_ ?_); (focus (simp [lk, upd, envOf, *]; done))) | ((with_reducible refine wS_want ?_ ?_); (focus (simp [lk, upd, envOf, *]; done))) | ((with_reducible refine wS_split (fun hc => ?_) (fun hc => ?_)) <;> simp [lk, upd, envOf, *] at hc <;> try (exfalso; omega)) | with_reducible refine wS_nil ?_ | simp only [thenE, blockE, ↓reduceIte, Nat.reduceEqDiff] | ((with_reducible refine hK.out _ _ ?_); clear hK K) | ((with_reducible refine wE_if ?_ (fun hc => ?_) (fun hc => ?_)); (focus (simp [lk, upd, envOf, *]; done)); all_goals (simp [lk, upd, envOf, *] at hc <;> try (exfalso; omega))) | (clear hK; clear K))
      refine endE_tmp2R rfl ⟨HG.out, ?_⟩
      rw [HST.out]
      simp [upd]
    | true =>
    cases q2 with
    | false =>
      clear hj g1 g2 g3 g4
      repeat' (first | with_reducible (first | refine wE_seq (fun K hK => ?_) | refine wE_block ?_ | refine wE_skip ?_ | refine wE_ret ?_ | refine wE_exit ?_) | ((with_reducible refine wE_region ?_ ?_); (kernel_rfl); simp only [ls, stripO]) | ((with_reducible refine wS_step (fun K hK => ?_)); simp [go_sem, lk, upd, envOf, stepS_value, stepS_skip, stepS_enter, ↓IntWalk.iteOmega, *]; (try go_ints); refine hK.out _ _ ?_; clear hK K) | ((with_reducible refine wS_unit (fun K hK => ?_)); simp [go_sem, lk, upd, envOf, stepS_value, stepS_skip, stepS_enter, ↓IntWalk.iteOmega, *]; (try go_ints); refine hK.out _ _ ?_; clear hK K) | ((with_reducible refine wS_skip ?_ ?_); (focus (simp [lk, upd, envOf, *]; done))) | ((with_reducible refine wS_want ?_ ?_); (focus (simp [lk, upd, envOf, *]; done))) | ((with_reducible refine wS_split (fun hc => ?_) (fun hc => ?_)) <;> simp [lk, upd, envOf, *] at hc <;> try (exfalso; omega)) | with_reducible refine wS_nil ?_ | simp only [thenE, blockE, ↓reduceIte, Nat.reduceEqDiff] | ((with_reducible refine hK.out _ _ ?_); clear hK K) | ((with_reducible refine wE_if ?_ (fun hc => ?_) (fun hc => ?_)); (focus (simp [lk, upd, envOf, *]; done)); all_goals (simp [lk, upd, envOf, *] at hc <;> try (exfalso; omega))) | (clear hK; clear K))
      refine endE_tmp2R rfl ⟨HG.out, ?_⟩
      rw [HST.out]
      simp [upd]
    | true =>
    obtain ⟨v', w3, hrun, hown3, hbel3⟩ := app_file w1.drew w.heap.size v4 fs (t, t2) HO.out.drew (by omega) (by have := HG.out.size; exact this)
    have HRN := Lib.hid hrun
    have HO3 := Lib.hid hown3
    have HG3 := Lib.hid (HG.out.trans' ((Below.refl _ _).drew.trans hbel3))
    have kd := Keeps.of_below (HG.out.trans (Grow.drew w1))
    have ka := Keeps.of_below (HG.out.trans (Grow.alloc w1 (.cells #[.string t, .string t2] 35)))
    have k3 := Keeps.of_below HG3.out
    have d2 := kd _ _ g2
    have d4 := kd _ _ g4
    have a2 := ka _ _ g2
    have a4 := ka _ _ g4
    have f2 := k3 _ _ g2
    have f4 := k3 _ _ g4
    simp only at d2 d4 a2 a4 f2 f4
    clear hj kd ka k3 g1 g2 g3 g4 hrun hown3 hbel3
    repeat' (first | with_reducible (first | refine wE_seq (fun K hK => ?_) | refine wE_block ?_ | refine wE_skip ?_ | refine wE_ret ?_ | refine wE_exit ?_) | ((with_reducible refine wE_region ?_ ?_); (kernel_rfl); simp only [ls, stripO]) | ((with_reducible refine wS_step (fun K hK => ?_)); simp [go_sem, lk, upd, envOf, stepS_value, stepS_skip, stepS_enter, ↓IntWalk.iteOmega, *]; (try go_ints); refine hK.out _ _ ?_; clear hK K) | ((with_reducible refine wS_unit (fun K hK => ?_)); simp [go_sem, lk, upd, envOf, stepS_value, stepS_skip, stepS_enter, ↓IntWalk.iteOmega, *]; (try go_ints); refine hK.out _ _ ?_; clear hK K) | ((with_reducible refine wS_skip ?_ ?_); (focus (simp [lk, upd, envOf, *]; done))) | ((with_reducible refine wS_want ?_ ?_); (focus (simp [lk, upd, envOf, *]; done))) | ((with_reducible refine wS_split (fun hc => ?_) (fun hc => ?_)) <;> simp [lk, upd, envOf, *] at hc <;> try (exfalso; omega)) | with_reducible refine wS_nil ?_ | simp only [thenE, blockE, ↓reduceIte, Nat.reduceEqDiff] | ((with_reducible refine hK.out _ _ ?_); clear hK K) | ((with_reducible refine wE_if ?_ (fun hc => ?_) (fun hc => ?_)); (focus (simp [lk, upd, envOf, *]; done)); all_goals (simp [lk, upd, envOf, *] at hc <;> try (exfalso; omega))) | (clear hK; clear K))
    refine wE_exact [v4, .slice (some ⟨b, o, none⟩) ps.length c, .int .i64 (k : Int), .pointer (some ⟨b, o + k * 2, none⟩), .pointer (some ⟨b, o + k * 2 + 1, none⟩), .string t, .slice (some ⟨b, o, none⟩) ps.length c, .int .i64 (k : Int), .int .i64 (j : Int), .pointer (some ⟨b, o + j * 2, none⟩), .pointer (some ⟨b, o + j * 2 + 1, none⟩), .string t2, .agg #[.string t, .string t2], .slice (some ⟨w1.heap.size, 0, none⟩) 1 1, v', v'] [w1.drew, w1.drew.alloc (.cells #[.string t, .string t2] 35), w3] [13, 14] [[(4, none)], [(0, none)], [(5, none)], [(29, some 1), (30, some 2)], [(31, some 3)], [(32, some 4)], [(0, none)], [(5, none)], [(35, some 7)], [(34, some 6), (36, some 8)], [(37, some 9)], [(38, some 10)], [(33, some 5), (39, some 11)], [(40, some 12)], [(28, some 0), (41, some 13)], [(42, some 14)]] (by kernel_rfl) (by kernel_rfl) (by kernel_rfl) rfl ?_ ?_
    · simp only [ls, stripO, oblV, Nat.zero_add, Nat.reduceAdd]
      refine ⟨?_, ?_, ?_, ?_, ?_, ?_, ?_, ?_, ?_, ?_, ?_, ?_, ?_, ?_, ?_, ?_, trivial⟩
      · intro σ hf; simp only [factsV, List.getD_cons_succ, List.getD_cons_zero, and_true] at hf; refine ⟨rfl, ?_⟩; show quietAll _ _ _ _ _; simp only [quietAll]; simp [go_sem, lk, upd, envOf, stepS_value, stepS_skip, stepS_enter, ↓IntWalk.iteOmega, exactU_value, exactU_skip, hf, *]
      · intro σ hf; simp only [factsV, List.getD_cons_succ, List.getD_cons_zero, and_true] at hf; refine ⟨rfl, ?_⟩; show quietAll _ _ _ _ _; simp only [quietAll]; simp [go_sem, lk, upd, envOf, stepS_value, stepS_skip, stepS_enter, ↓IntWalk.iteOmega, exactU_value, exactU_skip, hf, *]
      · intro σ hf; simp only [factsV, List.getD_cons_succ, List.getD_cons_zero, and_true] at hf; refine ⟨rfl, ?_⟩; show quietAll _ _ _ _ _; simp only [quietAll]; simp [go_sem, lk, upd, envOf, stepS_value, stepS_skip, stepS_enter, ↓IntWalk.iteOmega, exactU_value, exactU_skip, hf, *]
      · intro σ hf; simp only [factsV, List.getD_cons_succ, List.getD_cons_zero, and_true] at hf; refine ⟨rfl, ?_⟩; show quietAll _ _ _ _ _; simp only [quietAll]; simp [go_sem, lk, upd, envOf, stepS_value, stepS_skip, stepS_enter, ↓IntWalk.iteOmega, exactU_value, exactU_skip, hf, *]
      · intro σ hf; simp only [factsV, List.getD_cons_succ, List.getD_cons_zero, and_true] at hf; refine ⟨rfl, ?_⟩; show quietAll _ _ _ _ _; simp only [quietAll]; simp [go_sem, lk, upd, envOf, stepS_value, stepS_skip, stepS_enter, ↓IntWalk.iteOmega, exactU_value, exactU_skip, hf, *]
      · intro σ hf; simp only [factsV, List.getD_cons_succ, List.getD_cons_zero, and_true] at hf; refine ⟨rfl, ?_⟩; show quietAll _ _ _ _ _; simp only [quietAll]; simp [go_sem, lk, upd, envOf, stepS_value, stepS_skip, stepS_enter, ↓IntWalk.iteOmega, exactU_value, exactU_skip, hf, *]
      · intro σ hf; simp only [factsV, List.getD_cons_succ, List.getD_cons_zero, and_true] at hf; refine ⟨rfl, ?_⟩; show quietAll _ _ _ _ _; simp only [quietAll]; simp [go_sem, lk, upd, envOf, stepS_value, stepS_skip, stepS_enter, ↓IntWalk.iteOmega, exactU_value, exactU_skip, hf, *]
      · intro σ hf; simp only [factsV, List.getD_cons_succ, List.getD_cons_zero, and_true] at hf; refine ⟨rfl, ?_⟩; show quietAll _ _ _ _ _; simp only [quietAll]; simp [go_sem, lk, upd, envOf, stepS_value, stepS_skip, stepS_enter, ↓IntWalk.iteOmega, exactU_value, exactU_skip, hf, *]
      · intro σ hf; simp only [factsV, List.getD_cons_succ, List.getD_cons_zero, and_true] at hf; refine ⟨rfl, ?_⟩; show quietAll _ _ _ _ _; simp only [quietAll]; simp [go_sem, lk, upd, envOf, stepS_value, stepS_skip, stepS_enter, ↓IntWalk.iteOmega, exactU_value, exactU_skip, hf, *]; (try go_ints); (try trivial)
      · intro σ hf; simp only [factsV, List.getD_cons_succ, List.getD_cons_zero, and_true] at hf; refine ⟨rfl, ?_⟩; show quietAll _ _ _ _ _; simp only [quietAll]; simp [go_sem, lk, upd, envOf, stepS_value, stepS_skip, stepS_enter, ↓IntWalk.iteOmega, exactU_value, exactU_skip, hf, *]
      · intro σ hf; simp only [factsV, List.getD_cons_succ, List.getD_cons_zero, and_true] at hf; refine ⟨rfl, ?_⟩; show quietAll _ _ _ _ _; simp only [quietAll]; simp [go_sem, lk, upd, envOf, stepS_value, stepS_skip, stepS_enter, ↓IntWalk.iteOmega, exactU_value, exactU_skip, hf, *]
      · intro σ hf; simp only [factsV, List.getD_cons_succ, List.getD_cons_zero, and_true] at hf; refine ⟨rfl, ?_⟩; show quietAll _ _ _ _ _; simp only [quietAll]; simp [go_sem, lk, upd, envOf, stepS_value, stepS_skip, stepS_enter, ↓IntWalk.iteOmega, exactU_value, exactU_skip, hf, *]
      · intro σ hf; simp only [factsV, List.getD_cons_succ, List.getD_cons_zero, and_true] at hf; refine ⟨rfl, ?_⟩; show quietAll _ _ _ _ _; simp only [quietAll]; simp [go_sem, lk, upd, envOf, stepS_value, stepS_skip, stepS_enter, ↓IntWalk.iteOmega, exactU_value, exactU_skip, hf, *]
      · intro σ hf; simp only [factsV, List.getD_cons_succ, List.getD_cons_zero, and_true] at hf; refine ⟨rfl, ?_⟩; refine ⟨_, _, rfl, rfl, ?_⟩; simp [go_sem, lk, upd, envOf, stepS_value, stepS_skip, stepS_enter, ↓IntWalk.iteOmega, exactU_value, exactU_skip, hf, *]
      · intro σ hf; simp only [factsV, List.getD_cons_succ, List.getD_cons_zero, and_true] at hf; refine ⟨rfl, ?_⟩; refine ⟨_, _, rfl, rfl, ?_⟩; exact exact_append hf.1 hf.2 HRN.out
      · intro σ hf; simp only [factsV, List.getD_cons_succ, List.getD_cons_zero, and_true] at hf; refine ⟨rfl, ?_⟩; show quietAll _ _ _ _ _; simp only [quietAll]; simp [go_sem, lk, upd, envOf, stepS_value, stepS_skip, stepS_enter, ↓IntWalk.iteOmega, exactU_value, exactU_skip, hf, *]
    intro σ' w2 hw2 hE
    obtain rfl : w3 = w2 := Option.some.inj hw2
    have e4 := hE.at_ 15 4 rfl
    have e0' := hE.old 0 (by kernel_rfl)
    have e5' := hE.old 5 (by kernel_rfl)
    simp only [List.map_cons, List.getD_cons_succ, List.getD_cons_zero, SP.val_p] at e4
    simp [upd, *] at e0' e5'
    clear hE
    repeat' (first | with_reducible (first | refine wE_seq (fun K hK => ?_) | refine wE_block ?_ | refine wE_skip ?_ | refine wE_ret ?_ | refine wE_exit ?_) | ((with_reducible refine wE_region ?_ ?_); (kernel_rfl); simp only [ls, stripO]) | ((with_reducible refine wS_step (fun K hK => ?_)); simp [go_sem, lk, upd, envOf, stepS_value, stepS_skip, stepS_enter, ↓IntWalk.iteOmega, *]; (try go_ints); refine hK.out _ _ ?_; clear hK K) | ((with_reducible refine wS_unit (fun K hK => ?_)); simp [go_sem, lk, upd, envOf, stepS_value, stepS_skip, stepS_enter, ↓IntWalk.iteOmega, *]; (try go_ints); refine hK.out _ _ ?_; clear hK K) | ((with_reducible refine wS_skip ?_ ?_); (focus (simp [lk, upd, envOf, *]; done))) | ((with_reducible refine wS_want ?_ ?_); (focus (simp [lk, upd, envOf, *]; done))) | ((with_reducible refine wS_split (fun hc => ?_) (fun hc => ?_)) <;> simp [lk, upd, envOf, *] at hc <;> try (exfalso; omega)) | with_reducible refine wS_nil ?_ | simp only [thenE, blockE, ↓reduceIte, Nat.reduceEqDiff] | ((with_reducible refine hK.out _ _ ?_); clear hK K) | ((with_reducible refine wE_if ?_ (fun hc => ?_) (fun hc => ?_)); (focus (simp [lk, upd, envOf, *]; done)); all_goals (simp [lk, upd, envOf, *] at hc <;> try (exfalso; omega))) | (clear hK; clear K))
    have hj := HJ.out
    refine ⟨k + 1 + 1, ⟨by omega, by simp [upd, *], by simp [upd]; omega, ⟨fs ++ [(t, t2)], by simp; omega, ?_, ?_⟩, HG3.out⟩, by omega⟩
    · rw [HST.out, if_pos ⟨rfl, rfl⟩]
    · simpa [upd, e4] using HO3.out
  · have m1 : ¬ (j : Int) < (ps.length : Int) := by omega
    clear hj
    repeat' (first | with_reducible (first | refine wE_seq (fun K hK => ?_) | refine wE_block ?_ | refine wE_skip ?_ | refine wE_ret ?_ | refine wE_exit ?_) | ((with_reducible refine wE_region ?_ ?_); (kernel_rfl); simp only [ls, stripO]) | ((with_reducible refine wS_step (fun K hK => ?_)); simp [go_sem, lk, upd, envOf, stepS_value, stepS_skip, stepS_enter, ↓IntWalk.iteOmega, *]; (try go_ints); refine hK.out _ _ ?_; clear hK K) | ((with_reducible refine wS_unit (fun K hK => ?_)); simp [go_sem, lk, upd, envOf, stepS_value, stepS_skip, stepS_enter, ↓IntWalk.iteOmega, *]; (try go_ints); refine hK.out _ _ ?_; clear hK K) | ((with_reducible refine wS_skip ?_ ?_); (focus (simp [lk, upd, envOf, *]; done))) | ((with_reducible refine wS_want ?_ ?_); (focus (simp [lk, upd, envOf, *]; done))) | ((with_reducible refine wS_split (fun hc => ?_) (fun hc => ?_)) <;> simp [lk, upd, envOf, *] at hc <;> try (exfalso; omega)) | with_reducible refine wS_nil ?_ | simp only [thenE, blockE, ↓reduceIte, Nat.reduceEqDiff] | ((with_reducible refine hK.out _ _ ?_); clear hK K) | ((with_reducible refine wE_if ?_ (fun hc => ?_) (fun hc => ?_)); (focus (simp [lk, upd, envOf, *]; done)); all_goals (simp [lk, upd, envOf, *] at hc <;> try (exfalso; omega))) | (clear hK; clear K))
    have hj := HJ.out
    have he := HFE.out
    have hrem : listR (ps.drop k) = some [] := by
      match hd : ps.drop k with
      | [] => rfl
      | [x] => rfl
      | x :: y :: r =>
        have := congrArg List.length hd
        simp at this; omega
    rw [hrem] at he
    obtain ⟨aa, cc, rfl, -⟩ := files_own HO.out
    refine endE_tmp2R rfl ⟨HG.out, ?_⟩
    rw [he]
    simp only [Option.map_some, List.append_nil]
    exact ⟨aa, fs.length, cc, by simp [upd, even_beq], HO.out⟩
/-- A piece of a slice of parts. -/
theorem PtsAt.drop {w : World} {b o c : Nat} {ps : List PPart} (lo : Nat) (h : ∀ (j : Nat) (p : PPart), ps[j]? = some p → w.cell? ⟨b, o + j * 2, none⟩ = some (.bool p.quoted) ∧ w.cell? ⟨b, o + j * 2 + 1, none⟩ = some (.string p.text)) (hc : ps.length ≤ c) (hl : lo ≤ ps.length) :
    PtsAt w (.slice (if c = lo then some ⟨b, o, none⟩ else some ⟨b, o + lo * 2, none⟩) (ps.length - lo) (c - lo)) (ps.drop lo) := by
  refine ⟨_, _, by rw [List.length_drop], by rw [List.length_drop]; omega, ?_⟩
  by_cases he : lo = ps.length
  · left; exact List.drop_eq_nil_of_le (by omega)
  · right
    refine ⟨b, o + lo * 2, by rw [if_neg (by omega)], fun j p hj => ?_⟩
    rw [List.getElem?_drop] at hj
    have := h (lo + j) p hj
    rw [show o + lo * 2 + j * 2 = o + (lo + j) * 2 by omega]
    exact this
theorem PtsAt.piece {w : World} {b o c : Nat} {ps : List PPart} (n : Nat) (h : ∀ (j : Nat) (p : PPart), ps[j]? = some p → w.cell? ⟨b, o + j * 2, none⟩ = some (.bool p.quoted) ∧ w.cell? ⟨b, o + j * 2 + 1, none⟩ = some (.string p.text)) (hc : ps.length ≤ c) (hl : n + 1 ≤ ps.length) (hn : 1 ≤ n) :
    PtsAt w (.slice (some ⟨b, o + 2, none⟩) n (c - 1)) ((ps.drop 1).take n) := by
  refine ⟨_, _, by rw [List.length_take, List.length_drop, Nat.min_eq_left (by omega)], by rw [List.length_take, List.length_drop]; omega, .inr ⟨b, o + 2, rfl, fun j p hj => ?_⟩⟩
  rw [List.getElem?_take] at hj
  split at hj
  · rw [List.getElem?_drop] at hj
    have := h (1 + j) p hj
    rw [show o + 2 + j * 2 = o + (1 + j) * 2 by omega]
    exact this
  · simp at hj
def NamedEnd (ps : List PPart) (n : Nat) (w : World) (e : Ending) (w' : World) : Prop :=
  Grow w w' ∧ match namedR ps n with
    | some (who, xs) => ∃ a m c, e = .returned (.tuple #[.string who, .slice a m c, .bool true]) ∧ w'.ownsRow w.heap.size 3 1 (.slice a m c) xs.length (xs.map intV) ∧ ∀ x ∈ xs, I64 x
    | none => ∃ s, e = .returned (.tuple #[.string s, .slice none 0 0, .bool false])
set_option maxHeartbeats 4000000 in
set_option maxRecDepth 100000 in
theorem named_any (v : Value) (ps : List PPart) (n : Nat) (w : World) (hn : n = 1 ∨ n = 2) (hv : PtsAt w v ps) (hl : ps.length ≤ 1000000) (ht : TextsLe ps) : Calls Tryz.prog 46 #[v, .int .i64 (n : Int)] w fun e w' => NamedEnd ps n w e w' := by
  obtain ⟨a, c, rfl, hcap, hpt⟩ := hv
  have hn2 : n ≤ 2 := by omega
  have hn1 : 1 ≤ n := by omega
  obtain ⟨m, hm⟩ : ∃ m, m = n + 1 := ⟨_, rfl⟩
  have hm' : (n : Int) + 1 = (m : Int) := by omega
  have hms : m ≤ 3 := by omega
  have HM := Lib.hid hm
  by_cases hlen : ps.length < m
  · have HNR := Lib.hid (show namedR ps n = none by
      unfold namedR
      cases ps with
      | nil => rfl
      | cons p r => simp only; rw [if_pos (.inl (by simp at hlen; omega))])
    have m1 : (ps.length : Int) < (m : Int) := by omega
    clear hm hn hpt
    refine calls_of_wE Tryz.func46 rfl Tryz.ntmps46 (by simp) ?_
    repeat' (first | with_reducible (first | refine wE_seq (fun K hK => ?_) | refine wE_block ?_ | refine wE_skip ?_ | refine wE_ret ?_ | refine wE_exit ?_) | ((with_reducible refine wE_region ?_ ?_); (kernel_rfl); simp only [ls, stripO]) | ((with_reducible refine wS_step (fun K hK => ?_)); simp [go_sem, lk, upd, envOf, stepS_value, stepS_skip, stepS_enter, ↓IntWalk.iteOmega, *]; (try go_ints); refine hK.out _ _ ?_; clear hK K) | ((with_reducible refine wS_unit (fun K hK => ?_)); simp [go_sem, lk, upd, envOf, stepS_value, stepS_skip, stepS_enter, ↓IntWalk.iteOmega, *]; (try go_ints); refine hK.out _ _ ?_; clear hK K) | ((with_reducible refine wS_skip ?_ ?_); (focus (simp [lk, upd, envOf, *]; done))) | ((with_reducible refine wS_want ?_ ?_); (focus (simp [lk, upd, envOf, *]; done))) | ((with_reducible refine wS_split (fun hc => ?_) (fun hc => ?_)) <;> simp [lk, upd, envOf, *] at hc <;> try (exfalso; omega)) | with_reducible refine wS_nil ?_ | simp only [thenE, blockE, ↓reduceIte, Nat.reduceEqDiff] | ((with_reducible refine hK.out _ _ ?_); clear hK K) | ((with_reducible refine wE_if ?_ (fun hc => ?_) (fun hc => ?_)); (focus (simp [lk, upd, envOf, *]; done)); all_goals (simp [lk, upd, envOf, *] at hc <;> try (exfalso; omega))) | (clear hK; clear K))
    refine endE_tmp3R rfl ⟨Grow.refl _, ?_⟩
    rw [HNR.out]
    exact ⟨⟨#[]⟩, by simp [upd]⟩
  have m1 : ¬ (ps.length : Int) < (m : Int) := by omega
  rcases hpt with h | ⟨b, o, rfl, hc⟩
  · rw [h] at hlen; simp at hlen; omega
  obtain ⟨p, hp⟩ : ∃ p, ps[0]? = some p := ⟨_, List.getElem?_eq_getElem (by omega)⟩
  obtain ⟨g1, g2⟩ := hc 0 p hp
  simp only [Nat.zero_mul, Nat.add_zero] at g1 g2
  obtain ⟨q, t⟩ := p
  simp only at g1 g2
  have HPS := Lib.hid (show ∃ r, ps = ⟨q, t⟩ :: r by
    cases ps with
    | nil => simp at hp
    | cons p r => simp at hp; exact ⟨r, by rw [hp]⟩)
  cases q with
  | false =>
    have HNR := Lib.hid (show namedR ps n = none by
      obtain ⟨r, hr⟩ := HPS.out
      rw [hr]; simp [namedR])
    clear hm hn hc hp
    refine calls_of_wE Tryz.func46 rfl Tryz.ntmps46 (by simp) ?_
    repeat' (first | with_reducible (first | refine wE_seq (fun K hK => ?_) | refine wE_block ?_ | refine wE_skip ?_ | refine wE_ret ?_ | refine wE_exit ?_) | ((with_reducible refine wE_region ?_ ?_); (kernel_rfl); simp only [ls, stripO]) | ((with_reducible refine wS_step (fun K hK => ?_)); simp [go_sem, lk, upd, envOf, stepS_value, stepS_skip, stepS_enter, ↓IntWalk.iteOmega, *]; (try go_ints); refine hK.out _ _ ?_; clear hK K) | ((with_reducible refine wS_unit (fun K hK => ?_)); simp [go_sem, lk, upd, envOf, stepS_value, stepS_skip, stepS_enter, ↓IntWalk.iteOmega, *]; (try go_ints); refine hK.out _ _ ?_; clear hK K) | ((with_reducible refine wS_skip ?_ ?_); (focus (simp [lk, upd, envOf, *]; done))) | ((with_reducible refine wS_want ?_ ?_); (focus (simp [lk, upd, envOf, *]; done))) | ((with_reducible refine wS_split (fun hc => ?_) (fun hc => ?_)) <;> simp [lk, upd, envOf, *] at hc <;> try (exfalso; omega)) | with_reducible refine wS_nil ?_ | simp only [thenE, blockE, ↓reduceIte, Nat.reduceEqDiff] | ((with_reducible refine hK.out _ _ ?_); clear hK K) | ((with_reducible refine wE_if ?_ (fun hc => ?_) (fun hc => ?_)); (focus (simp [lk, upd, envOf, *]; done)); all_goals (simp [lk, upd, envOf, *] at hc <;> try (exfalso; omega))) | (clear hK; clear K))
    refine endE_tmp3R rfl ⟨Grow.refl _, ?_⟩
    rw [HNR.out]
    exact ⟨⟨#[]⟩, by simp [upd]⟩
  | true =>
  have HNR := Lib.hid (show namedR ps n = (intsR ((ps.drop 1).take n)).map fun xs => (t, xs) by
    obtain ⟨r, hr⟩ := HPS.out
    rw [hr]; unfold namedR; simp only
    rw [if_neg (by rw [hr] at hlen; simp at hlen ⊢; omega)]; rfl)
  have HPC : Hid (PtsAt w (.slice (some ⟨b, o + 2, none⟩) (m - 1) (c - 1)) ((ps.drop 1).take n)) := by
    rw [show m - 1 = n by omega]; exact PtsAt.piece n hc hcap (by omega) hn1
  have HIA := Lib.hid (ints_any _ _ w HPC.out (by rw [List.length_take, List.length_drop]; omega) (fun p hp => ht p (List.mem_of_mem_drop (List.mem_of_mem_take hp))))
  have hcl : ¬ c = 1 := by omega
  clear hm hn hc hp ht
  unfold IntsEnd at HIA
  cases hr : intsR ((ps.drop 1).take n) with
  | none =>
    rw [hr] at HIA
    simp only at HIA
    have HNR2 := Lib.hid (show namedR ps n = none by rw [HNR.out, hr]; rfl)
    clear hr HNR
    refine calls_of_wE Tryz.func46 rfl Tryz.ntmps46 (by simp) ?_
    repeat' (first | with_reducible (first | refine wE_seq (fun K hK => ?_) | refine wE_block ?_ | refine wE_skip ?_ | refine wE_ret ?_ | refine wE_exit ?_) | ((with_reducible refine wE_region ?_ ?_); (kernel_rfl); simp only [ls, stripO]) | ((with_reducible refine wS_step (fun K hK => ?_)); simp [go_sem, lk, upd, envOf, stepS_value, stepS_skip, stepS_enter, ↓IntWalk.iteOmega, *]; (try go_ints); refine hK.out _ _ ?_; clear hK K) | ((with_reducible refine wS_unit (fun K hK => ?_)); simp [go_sem, lk, upd, envOf, stepS_value, stepS_skip, stepS_enter, ↓IntWalk.iteOmega, *]; (try go_ints); refine hK.out _ _ ?_; clear hK K) | ((with_reducible refine wS_skip ?_ ?_); (focus (simp [lk, upd, envOf, *]; done))) | ((with_reducible refine wS_want ?_ ?_); (focus (simp [lk, upd, envOf, *]; done))) | ((with_reducible refine wS_split (fun hc => ?_) (fun hc => ?_)) <;> simp [lk, upd, envOf, *] at hc <;> try (exfalso; omega)) | with_reducible refine wS_nil ?_ | simp only [thenE, blockE, ↓reduceIte, Nat.reduceEqDiff] | ((with_reducible refine hK.out _ _ ?_); clear hK K) | ((with_reducible refine wE_if ?_ (fun hc => ?_) (fun hc => ?_)); (focus (simp [lk, upd, envOf, *]; done)); all_goals (simp [lk, upd, envOf, *] at hc <;> try (exfalso; omega))) | (clear hK; clear K))
    (with_reducible refine wS_step (fun K hK => ?_)); simp [go_sem, lk, upd, envOf, stepS_value, stepS_skip, stepS_enter, ↓IntWalk.iteOmega, *]; (try go_ints); refine (HIA.out).mono ?_; rintro e w2 ⟨hg, rfl⟩; refine ⟨_, rfl, hK.out _ _ ?_⟩; clear hK K
    have HG := Lib.hid hg
    have k2 := Keeps.of_below hg _ _ g2
    clear hg
    repeat' (first | with_reducible (first | refine wE_seq (fun K hK => ?_) | refine wE_block ?_ | refine wE_skip ?_ | refine wE_ret ?_ | refine wE_exit ?_) | ((with_reducible refine wE_region ?_ ?_); (kernel_rfl); simp only [ls, stripO]) | ((with_reducible refine wS_step (fun K hK => ?_)); simp [go_sem, lk, upd, envOf, stepS_value, stepS_skip, stepS_enter, ↓IntWalk.iteOmega, *]; (try go_ints); refine hK.out _ _ ?_; clear hK K) | ((with_reducible refine wS_unit (fun K hK => ?_)); simp [go_sem, lk, upd, envOf, stepS_value, stepS_skip, stepS_enter, ↓IntWalk.iteOmega, *]; (try go_ints); refine hK.out _ _ ?_; clear hK K) | ((with_reducible refine wS_skip ?_ ?_); (focus (simp [lk, upd, envOf, *]; done))) | ((with_reducible refine wS_want ?_ ?_); (focus (simp [lk, upd, envOf, *]; done))) | ((with_reducible refine wS_split (fun hc => ?_) (fun hc => ?_)) <;> simp [lk, upd, envOf, *] at hc <;> try (exfalso; omega)) | with_reducible refine wS_nil ?_ | simp only [thenE, blockE, ↓reduceIte, Nat.reduceEqDiff] | ((with_reducible refine hK.out _ _ ?_); clear hK K) | ((with_reducible refine wE_if ?_ (fun hc => ?_) (fun hc => ?_)); (focus (simp [lk, upd, envOf, *]; done)); all_goals (simp [lk, upd, envOf, *] at hc <;> try (exfalso; omega))) | (clear hK; clear K))
    refine endE_tmp3R rfl ⟨HG.out, ?_⟩
    rw [HNR2.out]
    exact ⟨t, by simp [upd]⟩
  | some xs =>
    rw [hr] at HIA
    simp only at HIA
    have HNR2 := Lib.hid (show namedR ps n = some (t, xs) by rw [HNR.out, hr]; rfl)
    clear hr HNR
    refine calls_of_wE Tryz.func46 rfl Tryz.ntmps46 (by simp) ?_
    repeat' (first | with_reducible (first | refine wE_seq (fun K hK => ?_) | refine wE_block ?_ | refine wE_skip ?_ | refine wE_ret ?_ | refine wE_exit ?_) | ((with_reducible refine wE_region ?_ ?_); (kernel_rfl); simp only [ls, stripO]) | ((with_reducible refine wS_step (fun K hK => ?_)); simp [go_sem, lk, upd, envOf, stepS_value, stepS_skip, stepS_enter, ↓IntWalk.iteOmega, *]; (try go_ints); refine hK.out _ _ ?_; clear hK K) | ((with_reducible refine wS_unit (fun K hK => ?_)); simp [go_sem, lk, upd, envOf, stepS_value, stepS_skip, stepS_enter, ↓IntWalk.iteOmega, *]; (try go_ints); refine hK.out _ _ ?_; clear hK K) | ((with_reducible refine wS_skip ?_ ?_); (focus (simp [lk, upd, envOf, *]; done))) | ((with_reducible refine wS_want ?_ ?_); (focus (simp [lk, upd, envOf, *]; done))) | ((with_reducible refine wS_split (fun hc => ?_) (fun hc => ?_)) <;> simp [lk, upd, envOf, *] at hc <;> try (exfalso; omega)) | with_reducible refine wS_nil ?_ | simp only [thenE, blockE, ↓reduceIte, Nat.reduceEqDiff] | ((with_reducible refine hK.out _ _ ?_); clear hK K) | ((with_reducible refine wE_if ?_ (fun hc => ?_) (fun hc => ?_)); (focus (simp [lk, upd, envOf, *]; done)); all_goals (simp [lk, upd, envOf, *] at hc <;> try (exfalso; omega))) | (clear hK; clear K))
    (with_reducible refine wS_step (fun K hK => ?_)); simp [go_sem, lk, upd, envOf, stepS_value, stepS_skip, stepS_enter, ↓IntWalk.iteOmega, *]; (try go_ints); refine (HIA.out).mono ?_; rintro e w2 ⟨hg, aa, mm, cc, rfl, hat⟩; refine ⟨_, rfl, hK.out _ _ ?_⟩; clear hK K
    have HG := Lib.hid hg
    have k2 := Keeps.of_below hg _ _ g2
    have HAT := Lib.hid hat
    clear hg hat
    repeat' (first | with_reducible (first | refine wE_seq (fun K hK => ?_) | refine wE_block ?_ | refine wE_skip ?_ | refine wE_ret ?_ | refine wE_exit ?_) | ((with_reducible refine wE_region ?_ ?_); (kernel_rfl); simp only [ls, stripO]) | ((with_reducible refine wS_step (fun K hK => ?_)); simp [go_sem, lk, upd, envOf, stepS_value, stepS_skip, stepS_enter, ↓IntWalk.iteOmega, *]; (try go_ints); refine hK.out _ _ ?_; clear hK K) | ((with_reducible refine wS_unit (fun K hK => ?_)); simp [go_sem, lk, upd, envOf, stepS_value, stepS_skip, stepS_enter, ↓IntWalk.iteOmega, *]; (try go_ints); refine hK.out _ _ ?_; clear hK K) | ((with_reducible refine wS_skip ?_ ?_); (focus (simp [lk, upd, envOf, *]; done))) | ((with_reducible refine wS_want ?_ ?_); (focus (simp [lk, upd, envOf, *]; done))) | ((with_reducible refine wS_split (fun hc => ?_) (fun hc => ?_)) <;> simp [lk, upd, envOf, *] at hc <;> try (exfalso; omega)) | with_reducible refine wS_nil ?_ | simp only [thenE, blockE, ↓reduceIte, Nat.reduceEqDiff] | ((with_reducible refine hK.out _ _ ?_); clear hK K) | ((with_reducible refine wE_if ?_ (fun hc => ?_) (fun hc => ?_)); (focus (simp [lk, upd, envOf, *]; done)); all_goals (simp [lk, upd, envOf, *] at hc <;> try (exfalso; omega))) | (clear hK; clear K))
    refine endE_tmp3R rfl ⟨HG.out, ?_⟩
    rw [HNR2.out]
    exact ⟨aa, mm, cc, by simp [upd], HAT.out⟩
end Go.Proofs.YtglekdhdogjnoaaGreatDoor
