/- The reference's quoted, walked. -/
import Derived.Test.YtglekdhdogjnoaaGreatDoorRdA
import Derived.Test.YtglekdhdogjnoaaGreatDoorEnvC
namespace Go.Proofs.YtglekdhdogjnoaaGreatDoor
open Go.RowKit
set_option linter.unusedSimpArgs false
theorem endE_tmp3R {P : Program} {n : Nat} {σ : Env} {w : World} {fn : Func} {R : Ending → World → Prop} {t u v : Tmp} (h : fn.results = #[.tmp t, .tmp u, .tmp v]) (hR : R (.returned (.tuple #[σ t, σ u, σ v])) w) : endE P n fn R .ret σ w := by
  intro a ha
  refine ⟨.tuple #[σ t, σ u, σ v], ?_, hR⟩
  have e : ∀ i, a.tmps[i]?.getD undef = σ i := fun i => by rw [← congrFun ha.get i, Array.getD_eq_getD_getElem?]
  simp [results, h, e]
theorem unescR_n {c : UInt8} {r : List UInt8} (h : c.toNat = 110) : unescR (c :: r) = some (10, 1) := by simp only [unescR]; rw [if_pos h]
theorem unescR_c {c : UInt8} {r : List UInt8} (h : ¬ c.toNat = 110) (h2 : ¬ c.toNat = 120 ∨ hexPair r = none) : unescR (c :: r) = some (c, 1) := by
  simp only [unescR]; rw [if_neg h]
  rcases h2 with h2 | h2
  · rw [if_neg h2]
  · rw [h2]; simp
theorem unescR_x {c b : UInt8} {r : List UInt8} (h : c.toNat = 120) (h2 : hexPair r = some b) : unescR (c :: r) = some (b, 3) := by
  simp only [unescR]; rw [if_neg (by omega), if_pos h, h2]
set_option maxHeartbeats 4000000 in
set_option maxRecDepth 100000 in
theorem quoted_any (s : ByteArray) (w : World) (hs : s.size ≤ 10000000) : Calls Tryz.prog 45 #[.string s] w fun e w' => e = .returned (unqVR s.data.toList) ∧ Grow w w' := by
  have HR : Hid (∀ v, unqVR s.data.toList = v → Ending.returned v = .returned (unqVR s.data.toList)) := fun v h => by rw [h]
  have hsz : s.data.toList.length = s.size := by simp
  have HSZ := Lib.hid hsz
  clear hsz
  refine calls_of_wE Tryz.func45 rfl Tryz.ntmps45 (by simp) ?_
  repeat' (first | with_reducible (first | refine wE_seq (fun K hK => ?_) | refine wE_block ?_ | refine wE_skip ?_ | refine wE_ret ?_ | refine wE_exit ?_) | ((with_reducible refine wE_region ?_ ?_); (kernel_rfl); simp only [ls, stripO]) | ((with_reducible refine wS_step (fun K hK => ?_)); simp [go_sem, lk, upd, envOf, stepS_value, stepS_skip, stepS_enter, ↓IntWalk.iteOmega, *]; (try go_ints); refine hK.out _ _ ?_; clear hK K) | ((with_reducible refine wS_unit (fun K hK => ?_)); simp [go_sem, lk, upd, envOf, stepS_value, stepS_skip, stepS_enter, ↓IntWalk.iteOmega, *]; (try go_ints); refine hK.out _ _ ?_; clear hK K) | ((with_reducible refine wS_skip ?_ ?_); (focus (simp [lk, upd, envOf, *]; done))) | ((with_reducible refine wS_want ?_ ?_); (focus (simp [lk, upd, envOf, *]; done))) | ((with_reducible refine wS_split (fun hc => ?_) (fun hc => ?_)) <;> simp [lk, upd, envOf, *] at hc <;> try (exfalso; omega)) | with_reducible refine wS_nil ?_ | simp only [thenE, blockE, ↓reduceIte, Nat.reduceEqDiff] | ((with_reducible refine hK.out _ _ ?_); clear hK K) | ((with_reducible refine wE_if ?_ (fun hc => ?_) (fun hc => ?_)); (focus (simp [lk, upd, envOf, *]; done)); all_goals (simp [lk, upd, envOf, *] at hc <;> try (exfalso; omega))) | (clear hK; clear K))
  refine wE_loop (fun (k : Nat) σ w' => k ≤ s.size ∧ σ 0 = .string s ∧ σ 6 = .int .i64 k ∧ (∃ bs, σ 5 = .string (S bs) ∧ bs.length ≤ k ∧ ((∃ f, UrInv s.data.toList k f bs) ∨ (s.size ≤ k ∧ unqVR s.data.toList = .tuple #[.string ⟨#[]⟩, .int .i64 0, .bool false]))) ∧ Grow w w') (fun k => s.size - k) 0 ?_ ?_
  · refine ⟨by omega, by simp [upd, envOf], by simp [upd], ⟨[], by simp [upd]; rfl, by simp, .inl ⟨_, UrInv.start _⟩⟩, Grow.refl _⟩
  rintro k σ w1 ⟨hk, e0, e6, ⟨bs, e5, hbl, hI⟩, hg⟩
  have HG := Lib.hid hg
  clear hg
  by_cases hlt : k < s.size
  · obtain ⟨f, hI2⟩ : ∃ f, UrInv s.data.toList k f bs := by
      rcases hI with h | ⟨h, _⟩
      · exact h
      · omega
    have HI := Lib.hid hI2
    clear hI2 hI
    have HD := Lib.hid (drop_atR s k hlt)
    by_cases c34 : s[k].toNat = 34
    · have t34 : ((s[k].toNat : Int) == 34) = true := beq_t (by omega)
      have HV := Lib.hid (HI.out.quote HD.out c34)
      clear c34
      repeat' (first | with_reducible (first | refine wE_seq (fun K hK => ?_) | refine wE_block ?_ | refine wE_skip ?_ | refine wE_ret ?_ | refine wE_exit ?_) | ((with_reducible refine wE_region ?_ ?_); (kernel_rfl); simp only [ls, stripO]) | ((with_reducible refine wS_step (fun K hK => ?_)); simp [go_sem, lk, upd, envOf, stepS_value, stepS_skip, stepS_enter, ↓IntWalk.iteOmega, *]; (try go_ints); refine hK.out _ _ ?_; clear hK K) | ((with_reducible refine wS_unit (fun K hK => ?_)); simp [go_sem, lk, upd, envOf, stepS_value, stepS_skip, stepS_enter, ↓IntWalk.iteOmega, *]; (try go_ints); refine hK.out _ _ ?_; clear hK K) | ((with_reducible refine wS_skip ?_ ?_); (focus (simp [lk, upd, envOf, *]; done))) | ((with_reducible refine wS_want ?_ ?_); (focus (simp [lk, upd, envOf, *]; done))) | ((with_reducible refine wS_split (fun hc => ?_) (fun hc => ?_)) <;> simp [lk, upd, envOf, *] at hc <;> try (exfalso; omega)) | with_reducible refine wS_nil ?_ | simp only [thenE, blockE, ↓reduceIte, Nat.reduceEqDiff] | ((with_reducible refine hK.out _ _ ?_); clear hK K) | ((with_reducible refine wE_if ?_ (fun hc => ?_) (fun hc => ?_)); (focus (simp [lk, upd, envOf, *]; done)); all_goals (simp [lk, upd, envOf, *] at hc <;> try (exfalso; omega))) | (clear hK; clear K))
      exact endE_tmp3R rfl ⟨HR.out _ (by rw [HV.out]; simp [upd]), HG.out⟩
    have t34 : ((s[k].toNat : Int) == 34) = false := beq_f (by omega)
    by_cases c92 : s[k].toNat = 92
    rotate_left
    · have t92 : ((s[k].toNat : Int) != 92) = true := by rw [bne, beq_f (by omega)]; rfl
      obtain ⟨f', hI'⟩ := HI.out.plain HD.out c34 c92
      have HI' := Lib.hid hI'
      have HS := Lib.hid (S_snoc s k hlt bs)
      have hsb : (S bs).size ≤ 10000000 := by rw [S_size]; omega
      clear hI' c34 c92
      repeat' (first | with_reducible (first | refine wE_seq (fun K hK => ?_) | refine wE_block ?_ | refine wE_skip ?_ | refine wE_ret ?_ | refine wE_exit ?_) | ((with_reducible refine wE_region ?_ ?_); (kernel_rfl); simp only [ls, stripO]) | ((with_reducible refine wS_step (fun K hK => ?_)); simp [go_sem, lk, upd, envOf, stepS_value, stepS_skip, stepS_enter, ↓IntWalk.iteOmega, *]; (try go_ints); refine hK.out _ _ ?_; clear hK K) | ((with_reducible refine wS_unit (fun K hK => ?_)); simp [go_sem, lk, upd, envOf, stepS_value, stepS_skip, stepS_enter, ↓IntWalk.iteOmega, *]; (try go_ints); refine hK.out _ _ ?_; clear hK K) | ((with_reducible refine wS_skip ?_ ?_); (focus (simp [lk, upd, envOf, *]; done))) | ((with_reducible refine wS_want ?_ ?_); (focus (simp [lk, upd, envOf, *]; done))) | ((with_reducible refine wS_split (fun hc => ?_) (fun hc => ?_)) <;> simp [lk, upd, envOf, *] at hc <;> try (exfalso; omega)) | with_reducible refine wS_nil ?_ | simp only [thenE, blockE, ↓reduceIte, Nat.reduceEqDiff] | ((with_reducible refine hK.out _ _ ?_); clear hK K) | ((with_reducible refine wE_if ?_ (fun hc => ?_) (fun hc => ?_)); (focus (simp [lk, upd, envOf, *]; done)); all_goals (simp [lk, upd, envOf, *] at hc <;> try (exfalso; omega))) | (clear hK; clear K))
      refine ⟨k + 1, ⟨by omega, by simp [upd, *], by simp [upd], ⟨bs ++ [s[k]], ?_, by simp; omega, .inl ⟨f', HI'.out⟩⟩, HG.out⟩, by omega⟩
      rw [← HS.out]; simp [upd]
    have t92 : ((s[k].toNat : Int) != 92) = false := by rw [bne, beq_t (by omega)]; rfl
    obtain ⟨j, hj⟩ : ∃ j, j = k + 1 := ⟨_, rfl⟩
    have hj' : (k : Int) + 1 = (j : Int) := by omega
    have hjs : j ≤ s.size := by omega
    have HJ := Lib.hid hj
    have hsb : (S bs).size ≤ 10000000 := by rw [S_size]; omega
    by_cases hl1 : j < s.size
    rotate_left
    · have HV := Lib.hid (HI.out.stuck HD.out c92 (by have := HSZ.out; omega))
      have m1 : ¬ (j : Int) < (s.size : Int) := by omega
      have m3 : ¬ (k : Int) + 3 < (s.size : Int) := by omega
      clear c34 c92 hj
      repeat' (first | with_reducible (first | refine wE_seq (fun K hK => ?_) | refine wE_block ?_ | refine wE_skip ?_ | refine wE_ret ?_ | refine wE_exit ?_) | ((with_reducible refine wE_region ?_ ?_); (kernel_rfl); simp only [ls, stripO]) | ((with_reducible refine wS_step (fun K hK => ?_)); simp [go_sem, lk, upd, envOf, stepS_value, stepS_skip, stepS_enter, ↓IntWalk.iteOmega, *]; (try go_ints); refine hK.out _ _ ?_; clear hK K) | ((with_reducible refine wS_unit (fun K hK => ?_)); simp [go_sem, lk, upd, envOf, stepS_value, stepS_skip, stepS_enter, ↓IntWalk.iteOmega, *]; (try go_ints); refine hK.out _ _ ?_; clear hK K) | ((with_reducible refine wS_skip ?_ ?_); (focus (simp [lk, upd, envOf, *]; done))) | ((with_reducible refine wS_want ?_ ?_); (focus (simp [lk, upd, envOf, *]; done))) | ((with_reducible refine wS_split (fun hc => ?_) (fun hc => ?_)) <;> simp [lk, upd, envOf, *] at hc <;> try (exfalso; omega)) | with_reducible refine wS_nil ?_ | simp only [thenE, blockE, ↓reduceIte, Nat.reduceEqDiff] | ((with_reducible refine hK.out _ _ ?_); clear hK K) | ((with_reducible refine wE_if ?_ (fun hc => ?_) (fun hc => ?_)); (focus (simp [lk, upd, envOf, *]; done)); all_goals (simp [lk, upd, envOf, *] at hc <;> try (exfalso; omega))) | (clear hK; clear K))
      have hj := HJ.out
      refine ⟨k + 1, ⟨by omega, by simp [upd, *], by simp [upd]; omega, ⟨bs, by simp [upd, *], by omega, .inr ⟨by omega, HV.out⟩⟩, HG.out⟩, by omega⟩
    have m1 : (j : Int) < (s.size : Int) := by omega
    have HD1 := Lib.hid (drop_atR s j hl1)
    have HDJ := Lib.hid (show s.data.toList.drop (k + 1) = s[j] :: s.data.toList.drop (j + 1) by rw [← hj]; exact HD1.out)
    by_cases c110 : s[j].toNat = 110
    · have t110 : ((s[j].toNat : Int) == 110) = true := beq_t (by omega)
      obtain ⟨f', hI'⟩ := HI.out.esc HD.out c92 (by rw [HDJ.out]; exact unescR_n c110)
      have HI' := Lib.hid hI'
      clear hI' c110 c92 c34 hj
      repeat' (first | with_reducible (first | refine wE_seq (fun K hK => ?_) | refine wE_block ?_ | refine wE_skip ?_ | refine wE_ret ?_ | refine wE_exit ?_) | ((with_reducible refine wE_region ?_ ?_); (kernel_rfl); simp only [ls, stripO]) | ((with_reducible refine wS_step (fun K hK => ?_)); simp [go_sem, lk, upd, envOf, stepS_value, stepS_skip, stepS_enter, ↓IntWalk.iteOmega, *]; (try go_ints); refine hK.out _ _ ?_; clear hK K) | ((with_reducible refine wS_unit (fun K hK => ?_)); simp [go_sem, lk, upd, envOf, stepS_value, stepS_skip, stepS_enter, ↓IntWalk.iteOmega, *]; (try go_ints); refine hK.out _ _ ?_; clear hK K) | ((with_reducible refine wS_skip ?_ ?_); (focus (simp [lk, upd, envOf, *]; done))) | ((with_reducible refine wS_want ?_ ?_); (focus (simp [lk, upd, envOf, *]; done))) | ((with_reducible refine wS_split (fun hc => ?_) (fun hc => ?_)) <;> simp [lk, upd, envOf, *] at hc <;> try (exfalso; omega)) | with_reducible refine wS_nil ?_ | simp only [thenE, blockE, ↓reduceIte, Nat.reduceEqDiff] | ((with_reducible refine hK.out _ _ ?_); clear hK K) | ((with_reducible refine wE_if ?_ (fun hc => ?_) (fun hc => ?_)); (focus (simp [lk, upd, envOf, *]; done)); all_goals (simp [lk, upd, envOf, *] at hc <;> try (exfalso; omega))) | (clear hK; clear K))
      have hj := HJ.out
      refine ⟨k + 1 + 1, ⟨by omega, by simp [upd, *], by simp [upd]; omega, ⟨bs ++ [10], ?_, by simp; omega, .inl ⟨f', HI'.out⟩⟩, HG.out⟩, by omega⟩
      simp [upd, S_app_lit]
    have t110 : ((s[j].toNat : Int) == 110) = false := beq_f (by omega)
    obtain ⟨j2, hj2⟩ : ∃ j2, j2 = k + 2 := ⟨_, rfl⟩
    have hj2' : (k : Int) + 2 = (j2 : Int) := by omega
    have hj2b : (j : Int) + 1 = (j2 : Int) := by omega
    have hj2s : j2 ≤ s.size := by omega
    have hj2k : j ≤ j2 := by omega
    have HJ2 := Lib.hid (show j2 = j + 1 by omega)
    have HS := Lib.hid (show S bs ++ s.extract j j2 = S (bs ++ [s[j]]) by rw [HJ2.out]; exact S_snoc s j hl1 bs)
    have NEG : Hid (¬ s[j].toNat = 120 ∨ hexPair (s.data.toList.drop (j + 1)) = none → ∃ f', UrInv s.data.toList (k + 1 + 1) f' (bs ++ [s[j]])) := fun h => HI.out.esc HD.out c92 (by rw [HDJ.out]; exact unescR_c c110 h)
    by_cases c120 : s[j].toNat = 120
    rotate_left
    · have t120 : ((s[j].toNat : Int) == 120) = false := beq_f (by omega)
      obtain ⟨f', hI'⟩ := NEG.out (.inl c120)
      have HI' := Lib.hid hI'
      by_cases m3 : (k : Int) + 3 < (s.size : Int)
      · clear hI' c110 c120 c92 c34 hj hj2 hj2b
        repeat' (first | with_reducible (first | refine wE_seq (fun K hK => ?_) | refine wE_block ?_ | refine wE_skip ?_ | refine wE_ret ?_ | refine wE_exit ?_) | ((with_reducible refine wE_region ?_ ?_); (kernel_rfl); simp only [ls, stripO]) | ((with_reducible refine wS_step (fun K hK => ?_)); simp [go_sem, lk, upd, envOf, stepS_value, stepS_skip, stepS_enter, ↓IntWalk.iteOmega, *]; (try go_ints); refine hK.out _ _ ?_; clear hK K) | ((with_reducible refine wS_unit (fun K hK => ?_)); simp [go_sem, lk, upd, envOf, stepS_value, stepS_skip, stepS_enter, ↓IntWalk.iteOmega, *]; (try go_ints); refine hK.out _ _ ?_; clear hK K) | ((with_reducible refine wS_skip ?_ ?_); (focus (simp [lk, upd, envOf, *]; done))) | ((with_reducible refine wS_want ?_ ?_); (focus (simp [lk, upd, envOf, *]; done))) | ((with_reducible refine wS_split (fun hc => ?_) (fun hc => ?_)) <;> simp [lk, upd, envOf, *] at hc <;> try (exfalso; omega)) | with_reducible refine wS_nil ?_ | ((with_reducible refine wS_step (fun K hK => ?_)); simp [go_sem, lk, upd, envOf, stepS_value, stepS_skip, stepS_enter, ↓IntWalk.iteOmega, *]; (try go_ints); (with_reducible refine (hex_any _ _).mono ?_); rintro e w2 ⟨rfl, rfl⟩; refine ⟨_, rfl, hK.out _ _ ?_⟩; clear hK K) | simp only [thenE, blockE, ↓reduceIte, Nat.reduceEqDiff] | ((with_reducible refine hK.out _ _ ?_); clear hK K) | ((with_reducible refine wE_if ?_ (fun hc => ?_) (fun hc => ?_)); (focus (simp [lk, upd, envOf, *]; done)); all_goals (simp [lk, upd, envOf, *] at hc <;> try (exfalso; omega))) | (clear hK; clear K))
        have hj := HJ.out
        refine ⟨k + 1 + 1, ⟨by omega, by simp [upd, *], by simp [upd]; omega, ⟨bs ++ [s[j]], ?_, by simp; omega, .inl ⟨f', HI'.out⟩⟩, HG.out⟩, by omega⟩
        rw [← HS.out]; simp [upd]
      · clear hI' c110 c120 c92 c34 hj hj2 hj2b
        repeat' (first | with_reducible (first | refine wE_seq (fun K hK => ?_) | refine wE_block ?_ | refine wE_skip ?_ | refine wE_ret ?_ | refine wE_exit ?_) | ((with_reducible refine wE_region ?_ ?_); (kernel_rfl); simp only [ls, stripO]) | ((with_reducible refine wS_step (fun K hK => ?_)); simp [go_sem, lk, upd, envOf, stepS_value, stepS_skip, stepS_enter, ↓IntWalk.iteOmega, *]; (try go_ints); refine hK.out _ _ ?_; clear hK K) | ((with_reducible refine wS_unit (fun K hK => ?_)); simp [go_sem, lk, upd, envOf, stepS_value, stepS_skip, stepS_enter, ↓IntWalk.iteOmega, *]; (try go_ints); refine hK.out _ _ ?_; clear hK K) | ((with_reducible refine wS_skip ?_ ?_); (focus (simp [lk, upd, envOf, *]; done))) | ((with_reducible refine wS_want ?_ ?_); (focus (simp [lk, upd, envOf, *]; done))) | ((with_reducible refine wS_split (fun hc => ?_) (fun hc => ?_)) <;> simp [lk, upd, envOf, *] at hc <;> try (exfalso; omega)) | with_reducible refine wS_nil ?_ | ((with_reducible refine wS_step (fun K hK => ?_)); simp [go_sem, lk, upd, envOf, stepS_value, stepS_skip, stepS_enter, ↓IntWalk.iteOmega, *]; (try go_ints); (with_reducible refine (hex_any _ _).mono ?_); rintro e w2 ⟨rfl, rfl⟩; refine ⟨_, rfl, hK.out _ _ ?_⟩; clear hK K) | simp only [thenE, blockE, ↓reduceIte, Nat.reduceEqDiff] | ((with_reducible refine hK.out _ _ ?_); clear hK K) | ((with_reducible refine wE_if ?_ (fun hc => ?_) (fun hc => ?_)); (focus (simp [lk, upd, envOf, *]; done)); all_goals (simp [lk, upd, envOf, *] at hc <;> try (exfalso; omega))) | (clear hK; clear K))
        have hj := HJ.out
        refine ⟨k + 1 + 1, ⟨by omega, by simp [upd, *], by simp [upd]; omega, ⟨bs ++ [s[j]], ?_, by simp; omega, .inl ⟨f', HI'.out⟩⟩, HG.out⟩, by omega⟩
        rw [← HS.out]; simp [upd]
    have t120 : ((s[j].toNat : Int) == 120) = true := beq_t (by omega)
    by_cases m3 : (k : Int) + 3 < (s.size : Int)
    rotate_left
    · obtain ⟨f', hI'⟩ := NEG.out (.inr (by
        have hl : (s.data.toList.drop (j + 1)).length < 2 := by simp; omega
        match hd : s.data.toList.drop (j + 1), hl with
        | [], _ => rfl
        | [a], _ => rfl
        | a :: b :: r, hl => simp at hl; omega))
      have HI' := Lib.hid hI'
      clear hI' c110 c120 c92 c34 hj hj2 hj2b
      repeat' (first | with_reducible (first | refine wE_seq (fun K hK => ?_) | refine wE_block ?_ | refine wE_skip ?_ | refine wE_ret ?_ | refine wE_exit ?_) | ((with_reducible refine wE_region ?_ ?_); (kernel_rfl); simp only [ls, stripO]) | ((with_reducible refine wS_step (fun K hK => ?_)); simp [go_sem, lk, upd, envOf, stepS_value, stepS_skip, stepS_enter, ↓IntWalk.iteOmega, *]; (try go_ints); refine hK.out _ _ ?_; clear hK K) | ((with_reducible refine wS_unit (fun K hK => ?_)); simp [go_sem, lk, upd, envOf, stepS_value, stepS_skip, stepS_enter, ↓IntWalk.iteOmega, *]; (try go_ints); refine hK.out _ _ ?_; clear hK K) | ((with_reducible refine wS_skip ?_ ?_); (focus (simp [lk, upd, envOf, *]; done))) | ((with_reducible refine wS_want ?_ ?_); (focus (simp [lk, upd, envOf, *]; done))) | ((with_reducible refine wS_split (fun hc => ?_) (fun hc => ?_)) <;> simp [lk, upd, envOf, *] at hc <;> try (exfalso; omega)) | with_reducible refine wS_nil ?_ | ((with_reducible refine wS_step (fun K hK => ?_)); simp [go_sem, lk, upd, envOf, stepS_value, stepS_skip, stepS_enter, ↓IntWalk.iteOmega, *]; (try go_ints); (with_reducible refine (hex_any _ _).mono ?_); rintro e w2 ⟨rfl, rfl⟩; refine ⟨_, rfl, hK.out _ _ ?_⟩; clear hK K) | simp only [thenE, blockE, ↓reduceIte, Nat.reduceEqDiff] | ((with_reducible refine hK.out _ _ ?_); clear hK K) | ((with_reducible refine wE_if ?_ (fun hc => ?_) (fun hc => ?_)); (focus (simp [lk, upd, envOf, *]; done)); all_goals (simp [lk, upd, envOf, *] at hc <;> try (exfalso; omega))) | (clear hK; clear K))
      have hj := HJ.out
      refine ⟨k + 1 + 1, ⟨by omega, by simp [upd, *], by simp [upd]; omega, ⟨bs ++ [s[j]], ?_, by simp; omega, .inl ⟨f', HI'.out⟩⟩, HG.out⟩, by omega⟩
      rw [← HS.out]; simp [upd]
    obtain ⟨j3, hj3⟩ : ∃ j3, j3 = k + 3 := ⟨_, rfl⟩
    have hj3' : (k : Int) + 3 = (j3 : Int) := by omega
    have hj3s : j3 < s.size := by omega
    have hl2 : j2 < s.size := by omega
    have m2 : (j2 : Int) < (s.size : Int) := by omega
    have m3' : (j3 : Int) < (s.size : Int) := by omega
    have HJ3 := Lib.hid (show j3 = j2 + 1 by omega)
    have HDX := Lib.hid (show s.data.toList.drop (j + 1) = s[j2] :: s[j3] :: s.data.toList.drop (j3 + 1) by
      rw [← HJ2.out, drop_atR s j2 hl2, ← HJ3.out, drop_atR s j3 hj3s])
    have HPX := Lib.hid (hexPair_R s[j2] s[j3] (s.data.toList.drop (j3 + 1)))
    obtain ⟨p1, p2⟩ := hexR_range s[j2]
    obtain ⟨q1, q2⟩ := hexR_range s[j3]
    clear m3
    by_cases x2 : hexR s[j2] < 16
    rotate_left
    · obtain ⟨f', hI'⟩ := NEG.out (.inr (by rw [HDX.out, HPX.out, if_neg (by omega)]))
      have HI' := Lib.hid hI'
      clear hI' c110 c120 c92 c34 hj hj2 hj3 hj2b
      repeat' (first | with_reducible (first | refine wE_seq (fun K hK => ?_) | refine wE_block ?_ | refine wE_skip ?_ | refine wE_ret ?_ | refine wE_exit ?_) | ((with_reducible refine wE_region ?_ ?_); (kernel_rfl); simp only [ls, stripO]) | ((with_reducible refine wS_step (fun K hK => ?_)); simp [go_sem, lk, upd, envOf, stepS_value, stepS_skip, stepS_enter, ↓IntWalk.iteOmega, *]; (try go_ints); refine hK.out _ _ ?_; clear hK K) | ((with_reducible refine wS_unit (fun K hK => ?_)); simp [go_sem, lk, upd, envOf, stepS_value, stepS_skip, stepS_enter, ↓IntWalk.iteOmega, *]; (try go_ints); refine hK.out _ _ ?_; clear hK K) | ((with_reducible refine wS_skip ?_ ?_); (focus (simp [lk, upd, envOf, *]; done))) | ((with_reducible refine wS_want ?_ ?_); (focus (simp [lk, upd, envOf, *]; done))) | ((with_reducible refine wS_split (fun hc => ?_) (fun hc => ?_)) <;> simp [lk, upd, envOf, *] at hc <;> try (exfalso; omega)) | with_reducible refine wS_nil ?_ | ((with_reducible refine wS_step (fun K hK => ?_)); simp [go_sem, lk, upd, envOf, stepS_value, stepS_skip, stepS_enter, ↓IntWalk.iteOmega, *]; (try go_ints); (with_reducible refine (hex_any _ _).mono ?_); rintro e w2 ⟨rfl, rfl⟩; refine ⟨_, rfl, hK.out _ _ ?_⟩; clear hK K) | simp only [thenE, blockE, ↓reduceIte, Nat.reduceEqDiff] | ((with_reducible refine hK.out _ _ ?_); clear hK K) | ((with_reducible refine wE_if ?_ (fun hc => ?_) (fun hc => ?_)); (focus (simp [lk, upd, envOf, *]; done)); all_goals (simp [lk, upd, envOf, *] at hc <;> try (exfalso; omega))) | (clear hK; clear K))
      have hj := HJ.out
      refine ⟨k + 1 + 1, ⟨by omega, by simp [upd, *], by simp [upd]; omega, ⟨bs ++ [s[j]], ?_, by simp; omega, .inl ⟨f', HI'.out⟩⟩, HG.out⟩, by omega⟩
      rw [← HS.out]; simp [upd]
    by_cases x3 : hexR s[j3] < 16
    rotate_left
    · obtain ⟨f', hI'⟩ := NEG.out (.inr (by rw [HDX.out, HPX.out, if_neg (by omega)]))
      have HI' := Lib.hid hI'
      clear hI' c110 c120 c92 c34 hj hj2 hj3 hj2b
      repeat' (first | with_reducible (first | refine wE_seq (fun K hK => ?_) | refine wE_block ?_ | refine wE_skip ?_ | refine wE_ret ?_ | refine wE_exit ?_) | ((with_reducible refine wE_region ?_ ?_); (kernel_rfl); simp only [ls, stripO]) | ((with_reducible refine wS_step (fun K hK => ?_)); simp [go_sem, lk, upd, envOf, stepS_value, stepS_skip, stepS_enter, ↓IntWalk.iteOmega, *]; (try go_ints); refine hK.out _ _ ?_; clear hK K) | ((with_reducible refine wS_unit (fun K hK => ?_)); simp [go_sem, lk, upd, envOf, stepS_value, stepS_skip, stepS_enter, ↓IntWalk.iteOmega, *]; (try go_ints); refine hK.out _ _ ?_; clear hK K) | ((with_reducible refine wS_skip ?_ ?_); (focus (simp [lk, upd, envOf, *]; done))) | ((with_reducible refine wS_want ?_ ?_); (focus (simp [lk, upd, envOf, *]; done))) | ((with_reducible refine wS_split (fun hc => ?_) (fun hc => ?_)) <;> simp [lk, upd, envOf, *] at hc <;> try (exfalso; omega)) | with_reducible refine wS_nil ?_ | ((with_reducible refine wS_step (fun K hK => ?_)); simp [go_sem, lk, upd, envOf, stepS_value, stepS_skip, stepS_enter, ↓IntWalk.iteOmega, *]; (try go_ints); (with_reducible refine (hex_any _ _).mono ?_); rintro e w2 ⟨rfl, rfl⟩; refine ⟨_, rfl, hK.out _ _ ?_⟩; clear hK K) | simp only [thenE, blockE, ↓reduceIte, Nat.reduceEqDiff] | ((with_reducible refine hK.out _ _ ?_); clear hK K) | ((with_reducible refine wE_if ?_ (fun hc => ?_) (fun hc => ?_)); (focus (simp [lk, upd, envOf, *]; done)); all_goals (simp [lk, upd, envOf, *] at hc <;> try (exfalso; omega))) | (clear hK; clear K))
      have hj := HJ.out
      refine ⟨k + 1 + 1, ⟨by omega, by simp [upd, *], by simp [upd]; omega, ⟨bs ++ [s[j]], ?_, by simp; omega, .inl ⟨f', HI'.out⟩⟩, HG.out⟩, by omega⟩
      rw [← HS.out]; simp [upd]
    obtain ⟨f', hI'⟩ := HI.out.esc HD.out c92 (by rw [HDJ.out]; exact unescR_x c120 (by rw [HDX.out, HPX.out, if_pos ⟨x2, x3⟩]))
    have HI' := Lib.hid hI'
    have HBV := Lib.hid (show (16 * hexR s[j2] + hexR s[j3] : Int) = ((UInt8.ofNat (16 * (hexR s[j2]).toNat + (hexR s[j3]).toNat)).toNat : Int) by rw [UInt8.toNat_ofNat']; omega)
    clear hI' c110 c120 c92 c34 hj hj2 hj3 hj2b
    repeat' (first | with_reducible (first | refine wE_seq (fun K hK => ?_) | refine wE_block ?_ | refine wE_skip ?_ | refine wE_ret ?_ | refine wE_exit ?_) | ((with_reducible refine wE_region ?_ ?_); (kernel_rfl); simp only [ls, stripO]) | ((with_reducible refine wS_step (fun K hK => ?_)); simp [go_sem, lk, upd, envOf, stepS_value, stepS_skip, stepS_enter, ↓IntWalk.iteOmega, *]; (try go_ints); refine hK.out _ _ ?_; clear hK K) | ((with_reducible refine wS_unit (fun K hK => ?_)); simp [go_sem, lk, upd, envOf, stepS_value, stepS_skip, stepS_enter, ↓IntWalk.iteOmega, *]; (try go_ints); refine hK.out _ _ ?_; clear hK K) | ((with_reducible refine wS_skip ?_ ?_); (focus (simp [lk, upd, envOf, *]; done))) | ((with_reducible refine wS_want ?_ ?_); (focus (simp [lk, upd, envOf, *]; done))) | ((with_reducible refine wS_split (fun hc => ?_) (fun hc => ?_)) <;> simp [lk, upd, envOf, *] at hc <;> try (exfalso; omega)) | with_reducible refine wS_nil ?_ | ((with_reducible refine wS_step (fun K hK => ?_)); simp [go_sem, lk, upd, envOf, stepS_value, stepS_skip, stepS_enter, ↓IntWalk.iteOmega, *]; (try go_ints); (with_reducible refine (hex_any _ _).mono ?_); rintro e w2 ⟨rfl, rfl⟩; refine ⟨_, rfl, hK.out _ _ ?_⟩; clear hK K) | simp only [thenE, blockE, ↓reduceIte, Nat.reduceEqDiff] | ((with_reducible refine hK.out _ _ ?_); clear hK K) | ((with_reducible refine wE_if ?_ (fun hc => ?_) (fun hc => ?_)); (focus (simp [lk, upd, envOf, *]; done)); all_goals (simp [lk, upd, envOf, *] at hc <;> try (exfalso; omega))) | (clear hK; clear K))
    generalize UInt8.ofNat (16 * (hexR s[j2]).toNat + (hexR s[j3]).toNat) = cb at *
    generalize hX2 : hexR s[j2] = X2 at *
    generalize hX3 : hexR s[j3] = X3 at *
    have hcb : (S [cb]).size = 1 := by rw [S_size]; rfl
    refine wE_drawE (R := Grow) [SPE.val 79 (.string (S bs)), SPE.val 80 (.string s), SPE.val 81 (.int .i64 (k : Int)), SPE.val 82 (.int .i64 (j2 : Int)), SPE.val 83 (.int .u8 (s[j2].toNat : Int)), SPE.val 84 (.int .i64 X2), SPE.val 85 (.int .i64 (16 * X2)), SPE.val 86 (.string s), SPE.val 87 (.int .i64 (k : Int)), SPE.val 88 (.int .i64 (j3 : Int)), SPE.val 89 (.int .u8 (s[j3].toNat : Int)), SPE.val 90 (.int .i64 X3), SPE.val 91 (.int .i64 (16 * X2 + X3)), SPE.val 92 (.int .u8 (16 * X2 + X3)), SPE.of 93 (ByteAt (16 * X2 + X3)) (ByteAt.st _), SPE.val 94 (.string (S [cb])), SPE.val 95 (.string (S bs ++ S [cb])), SPE.val 5 (.string (S bs ++ S [cb]))] [[79], [80], [81], [82], [83], [84], [85], [86], [87], [88], [89], [90], [91], [92], [93], [94], [95], [5]] [([], [5]), ([], [0]), ([], [6]), ([2], []), ([1, 3], []), ([4], []), ([5], []), ([], [0]), ([], [6]), ([8], []), ([7, 9], []), ([10], []), ([6, 11], []), ([12], []), ([13], []), ([14], []), ([0, 15], []), ([16], [])] (by kernel_rfl) (by kernel_rfl) rfl Grow.refl (fun _ _ _ => Grow.trans) ?_ ?_
    · simp only [ls, stripO, oblE, Nat.zero_add, Nat.reduceAdd]
      refine ⟨?_, ?_, ?_, ?_, ?_, ?_, ?_, ?_, ?_, ?_, ?_, ?_, ?_, ?_, ?_, ?_, ?_, ?_, trivial⟩
      · refine oneE_plain (fun σ w' hR hf => ?_); simp only [factsE, getP_succ, getP_zero, SPE.val_p, SPE.of_p, SPE.any_p, and_true, true_and] at hf; skip; simp [go_sem, lk, upd, envOf, stepS_value, stepS_skip, stepS_enter, ↓IntWalk.iteOmega, putS, getP_succ, getP_zero, SPE.val_p, SPE.of_p, SPE.any_p, Grow.refl, hf, *]
      · refine oneE_plain (fun σ w' hR hf => ?_); simp only [factsE, getP_succ, getP_zero, SPE.val_p, SPE.of_p, SPE.any_p, and_true, true_and] at hf; skip; simp [go_sem, lk, upd, envOf, stepS_value, stepS_skip, stepS_enter, ↓IntWalk.iteOmega, putS, getP_succ, getP_zero, SPE.val_p, SPE.of_p, SPE.any_p, Grow.refl, hf, *]
      · refine oneE_plain (fun σ w' hR hf => ?_); simp only [factsE, getP_succ, getP_zero, SPE.val_p, SPE.of_p, SPE.any_p, and_true, true_and] at hf; skip; simp [go_sem, lk, upd, envOf, stepS_value, stepS_skip, stepS_enter, ↓IntWalk.iteOmega, putS, getP_succ, getP_zero, SPE.val_p, SPE.of_p, SPE.any_p, Grow.refl, hf, *]
      · refine oneE_plain (fun σ w' hR hf => ?_); simp only [factsE, getP_succ, getP_zero, SPE.val_p, SPE.of_p, SPE.any_p, and_true, true_and] at hf; skip; simp [go_sem, lk, upd, envOf, stepS_value, stepS_skip, stepS_enter, ↓IntWalk.iteOmega, putS, getP_succ, getP_zero, SPE.val_p, SPE.of_p, SPE.any_p, hf, *]; (try go_ints); exact ⟨trivial, Grow.refl _⟩
      · refine oneE_plain (fun σ w' hR hf => ?_); simp only [factsE, getP_succ, getP_zero, SPE.val_p, SPE.of_p, SPE.any_p, and_true, true_and] at hf; skip; simp [go_sem, lk, upd, envOf, stepS_value, stepS_skip, stepS_enter, ↓IntWalk.iteOmega, putS, getP_succ, getP_zero, SPE.val_p, SPE.of_p, SPE.any_p, Grow.refl, hf, *]
      · refine oneE_plain (fun σ w' hR hf => ?_); simp only [factsE, getP_succ, getP_zero, SPE.val_p, SPE.of_p, SPE.any_p, and_true, true_and] at hf; skip; simp [go_sem, lk, upd, envOf, stepS_value, stepS_skip, stepS_enter, ↓IntWalk.iteOmega, putS, getP_succ, getP_zero, SPE.val_p, SPE.of_p, SPE.any_p, hf, *]; (try go_ints); refine (hex_any s[j2] _).mono ?_; rintro e w'' ⟨rfl, rfl⟩; exact ⟨_, rfl, by rw [hX2], Grow.refl _⟩
      · refine oneE_plain (fun σ w' hR hf => ?_); simp only [factsE, getP_succ, getP_zero, SPE.val_p, SPE.of_p, SPE.any_p, and_true, true_and] at hf; skip; simp [go_sem, lk, upd, envOf, stepS_value, stepS_skip, stepS_enter, ↓IntWalk.iteOmega, putS, getP_succ, getP_zero, SPE.val_p, SPE.of_p, SPE.any_p, hf, *]; (try go_ints); exact ⟨trivial, Grow.refl _⟩
      · refine oneE_plain (fun σ w' hR hf => ?_); simp only [factsE, getP_succ, getP_zero, SPE.val_p, SPE.of_p, SPE.any_p, and_true, true_and] at hf; skip; simp [go_sem, lk, upd, envOf, stepS_value, stepS_skip, stepS_enter, ↓IntWalk.iteOmega, putS, getP_succ, getP_zero, SPE.val_p, SPE.of_p, SPE.any_p, Grow.refl, hf, *]
      · refine oneE_plain (fun σ w' hR hf => ?_); simp only [factsE, getP_succ, getP_zero, SPE.val_p, SPE.of_p, SPE.any_p, and_true, true_and] at hf; skip; simp [go_sem, lk, upd, envOf, stepS_value, stepS_skip, stepS_enter, ↓IntWalk.iteOmega, putS, getP_succ, getP_zero, SPE.val_p, SPE.of_p, SPE.any_p, Grow.refl, hf, *]
      · refine oneE_plain (fun σ w' hR hf => ?_); simp only [factsE, getP_succ, getP_zero, SPE.val_p, SPE.of_p, SPE.any_p, and_true, true_and] at hf; skip; simp [go_sem, lk, upd, envOf, stepS_value, stepS_skip, stepS_enter, ↓IntWalk.iteOmega, putS, getP_succ, getP_zero, SPE.val_p, SPE.of_p, SPE.any_p, hf, *]; (try go_ints); exact ⟨trivial, Grow.refl _⟩
      · refine oneE_plain (fun σ w' hR hf => ?_); simp only [factsE, getP_succ, getP_zero, SPE.val_p, SPE.of_p, SPE.any_p, and_true, true_and] at hf; skip; simp [go_sem, lk, upd, envOf, stepS_value, stepS_skip, stepS_enter, ↓IntWalk.iteOmega, putS, getP_succ, getP_zero, SPE.val_p, SPE.of_p, SPE.any_p, Grow.refl, hf, *]
      · refine oneE_plain (fun σ w' hR hf => ?_); simp only [factsE, getP_succ, getP_zero, SPE.val_p, SPE.of_p, SPE.any_p, and_true, true_and] at hf; skip; simp [go_sem, lk, upd, envOf, stepS_value, stepS_skip, stepS_enter, ↓IntWalk.iteOmega, putS, getP_succ, getP_zero, SPE.val_p, SPE.of_p, SPE.any_p, hf, *]; (try go_ints); refine (hex_any s[j3] _).mono ?_; rintro e w'' ⟨rfl, rfl⟩; exact ⟨_, rfl, by rw [hX3], Grow.refl _⟩
      · refine oneE_plain (fun σ w' hR hf => ?_); simp only [factsE, getP_succ, getP_zero, SPE.val_p, SPE.of_p, SPE.any_p, and_true, true_and] at hf; skip; simp [go_sem, lk, upd, envOf, stepS_value, stepS_skip, stepS_enter, ↓IntWalk.iteOmega, putS, getP_succ, getP_zero, SPE.val_p, SPE.of_p, SPE.any_p, hf, *]; (try go_ints); exact ⟨trivial, Grow.refl _⟩
      · refine oneE_plain (fun σ w' hR hf => ?_); simp only [factsE, getP_succ, getP_zero, SPE.val_p, SPE.of_p, SPE.any_p, and_true, true_and] at hf; skip; simp [go_sem, lk, upd, envOf, stepS_value, stepS_skip, stepS_enter, ↓IntWalk.iteOmega, putS, getP_succ, getP_zero, SPE.val_p, SPE.of_p, SPE.any_p, hf, *]; (try go_ints); exact ⟨trivial, Grow.refl _⟩
      · refine oneE_plain (fun σ w' hR hf => ?_); simp only [factsE, getP_succ, getP_zero, SPE.val_p, SPE.of_p, SPE.any_p, and_true, true_and] at hf; skip; simp [go_sem, lk, upd, envOf, stepS_value, stepS_skip, stepS_enter, ↓IntWalk.iteOmega, putS, getP_succ, getP_zero, SPE.val_p, SPE.of_p, SPE.any_p, hf, *]; (try go_ints); exact ⟨⟨_, rfl, by simp [go_sem]⟩, Grow.alloc _ _⟩
      · refine oneE_plain (fun σ w' hR hf => ?_); simp only [factsE, getP_succ, getP_zero, SPE.val_p, SPE.of_p, SPE.any_p, and_true, true_and] at hf; skip; have hc := conv_byte (16 * X2 + X3) cb HBV.out _ _ hf; simp [go_sem, lk, upd, envOf, stepS_value, stepS_skip, stepS_enter, ↓IntWalk.iteOmega, putS, getP_succ, getP_zero, SPE.val_p, SPE.of_p, SPE.any_p, hc, Grow.refl]
      · refine oneE_plain (fun σ w' hR hf => ?_); simp only [factsE, getP_succ, getP_zero, SPE.val_p, SPE.of_p, SPE.any_p, and_true, true_and] at hf; skip; simp [go_sem, lk, upd, envOf, stepS_value, stepS_skip, stepS_enter, ↓IntWalk.iteOmega, putS, getP_succ, getP_zero, SPE.val_p, SPE.of_p, SPE.any_p, Grow.refl, hf, *]
      · refine oneE_plain (fun σ w' hR hf => ?_); simp only [factsE, getP_succ, getP_zero, SPE.val_p, SPE.of_p, SPE.any_p, and_true, true_and] at hf; skip; simp [go_sem, lk, upd, envOf, stepS_value, stepS_skip, stepS_enter, ↓IntWalk.iteOmega, putS, getP_succ, getP_zero, SPE.val_p, SPE.of_p, SPE.any_p, Grow.refl, hf, *]
    intro σ' w2 hg hE
    have e5 := hE.at_ 17 rfl
    have d0 := hE.old 0 (by kernel_rfl)
    have d6 := hE.old 6 (by kernel_rfl)
    simp only [getP_succ, getP_zero, SPE.val_p, SPE.of_p] at e5 d0 d6
    simp [upd, envOf, *] at d0 d6
    clear hE
    have HG2 := Lib.hid (HG.out.trans ((Grow.drew w1).trans hg))
    clear hg
    repeat' (first | with_reducible (first | refine wE_seq (fun K hK => ?_) | refine wE_block ?_ | refine wE_skip ?_ | refine wE_ret ?_ | refine wE_exit ?_) | ((with_reducible refine wE_region ?_ ?_); (kernel_rfl); simp only [ls, stripO]) | ((with_reducible refine wS_step (fun K hK => ?_)); simp [go_sem, lk, upd, envOf, stepS_value, stepS_skip, stepS_enter, ↓IntWalk.iteOmega, *]; (try go_ints); refine hK.out _ _ ?_; clear hK K) | ((with_reducible refine wS_unit (fun K hK => ?_)); simp [go_sem, lk, upd, envOf, stepS_value, stepS_skip, stepS_enter, ↓IntWalk.iteOmega, *]; (try go_ints); refine hK.out _ _ ?_; clear hK K) | ((with_reducible refine wS_skip ?_ ?_); (focus (simp [lk, upd, envOf, *]; done))) | ((with_reducible refine wS_want ?_ ?_); (focus (simp [lk, upd, envOf, *]; done))) | ((with_reducible refine wS_split (fun hc => ?_) (fun hc => ?_)) <;> simp [lk, upd, envOf, *] at hc <;> try (exfalso; omega)) | with_reducible refine wS_nil ?_ | simp only [thenE, blockE, ↓reduceIte, Nat.reduceEqDiff] | ((with_reducible refine hK.out _ _ ?_); clear hK K) | ((with_reducible refine wE_if ?_ (fun hc => ?_) (fun hc => ?_)); (focus (simp [lk, upd, envOf, *]; done)); all_goals (simp [lk, upd, envOf, *] at hc <;> try (exfalso; omega))) | (clear hK; clear K))
    have hj := HJ.out
    have hj2 := HJ2.out
    refine ⟨k + 1 + 3, ⟨by omega, by simp [upd, *], by simp [upd]; omega, ⟨bs ++ [cb], by simp [upd, e5, S_append], by simp; omega, .inl ⟨f', HI'.out⟩⟩, HG2.out⟩, by omega⟩
  · have HV := Lib.hid (show unqVR s.data.toList = .tuple #[.string ⟨#[]⟩, .int .i64 0, .bool false] by
      rcases hI with ⟨f, h⟩ | ⟨_, h⟩
      · exact h.over (by have := HSZ.out; omega)
      · exact h)
    clear hI
    repeat' (first | with_reducible (first | refine wE_seq (fun K hK => ?_) | refine wE_block ?_ | refine wE_skip ?_ | refine wE_ret ?_ | refine wE_exit ?_) | ((with_reducible refine wE_region ?_ ?_); (kernel_rfl); simp only [ls, stripO]) | ((with_reducible refine wS_step (fun K hK => ?_)); simp [go_sem, lk, upd, envOf, stepS_value, stepS_skip, stepS_enter, ↓IntWalk.iteOmega, *]; (try go_ints); refine hK.out _ _ ?_; clear hK K) | ((with_reducible refine wS_unit (fun K hK => ?_)); simp [go_sem, lk, upd, envOf, stepS_value, stepS_skip, stepS_enter, ↓IntWalk.iteOmega, *]; (try go_ints); refine hK.out _ _ ?_; clear hK K) | ((with_reducible refine wS_skip ?_ ?_); (focus (simp [lk, upd, envOf, *]; done))) | ((with_reducible refine wS_want ?_ ?_); (focus (simp [lk, upd, envOf, *]; done))) | ((with_reducible refine wS_split (fun hc => ?_) (fun hc => ?_)) <;> simp [lk, upd, envOf, *] at hc <;> try (exfalso; omega)) | with_reducible refine wS_nil ?_ | simp only [thenE, blockE, ↓reduceIte, Nat.reduceEqDiff] | ((with_reducible refine hK.out _ _ ?_); clear hK K) | ((with_reducible refine wE_if ?_ (fun hc => ?_) (fun hc => ?_)); (focus (simp [lk, upd, envOf, *]; done)); all_goals (simp [lk, upd, envOf, *] at hc <;> try (exfalso; omega))) | (clear hK; clear K))
    exact endE_tmp3R rfl ⟨HR.out _ (by rw [HV.out]; simp [upd]), HG.out⟩
end Go.Proofs.YtglekdhdogjnoaaGreatDoor
