/- The program's unescape and unquote, walked. -/
import Derived.Test.YtglekdhdogjnoaaGreatDoorParseLawB
import Derived.Test.YtglekdhdogjnoaaGreatDoorEnvD
import Derived.Test.YtglekdhdogjnoaaGreatDoorPrgK
namespace Go.Proofs.YtglekdhdogjnoaaGreatDoor
open Go.RowKit
set_option linter.unusedSimpArgs false
def hexI (c : UInt8) : Int := match hexV c with | some n => n | none => -1
theorem hexI_fin : ∀ n : Fin 256, Lib.indexByte [48, 49, 50, 51, 52, 53, 54, 55, 56, 57, 97, 98, 99, 100, 101, 102] (UInt8.ofNat n.val) = hexI (UInt8.ofNat n.val) := by decide +kernel
theorem hexI_at (c : UInt8) : Lib.indexByte [48, 49, 50, 51, 52, 53, 54, 55, 56, 57, 97, 98, 99, 100, 101, 102] c = hexI c := by
  have := hexI_fin ⟨c.toNat, c.toNat_lt⟩
  simpa using this
theorem byte_back (c : UInt8) : ((c.toNat : Int).toNat.toUInt8) = c := by simp
theorem hexI_range (c : UInt8) : -1 ≤ hexI c ∧ hexI c ≤ 15 := by
  unfold hexI hexV
  split
  · rename_i n h
    split at h
    · simp at h; omega
    · split at h
      · simp at h; omega
      · simp at h
  · omega
theorem or_fin : ∀ a b : Fin 16, bits BinOp.or .i64 ((a.val : Int) * 16) (b.val : Int) % 256 = 16 * (a.val : Int) + (b.val : Int) := by decide +kernel
theorem or_hex (a b : Int) (h0 : 0 ≤ a) (h1 : a ≤ 15) (h2 : 0 ≤ b) (h3 : b ≤ 15) : bits BinOp.or .i64 (a * 16) b % 256 = 16 * a + b := by
  have := or_fin ⟨a.toNat, by omega⟩ ⟨b.toNat, by omega⟩
  simp only [Int.toNat_of_nonneg h0, Int.toNat_of_nonneg h2] at this
  exact this
def unescV (l : List UInt8) : Value := match unesc l with | some (c, n) => .tuple #[.int .u8 (c.toNat : Int), .int .i64 (n : Int), .bool true] | none => .tuple #[.int .u8 0, .int .i64 0, .bool false]
theorem list0 (s : ByteArray) (h : 0 < s.size) : s.data.toList = s[0] :: s.data.toList.drop 1 := by
  have h' : 0 < s.data.toList.length := by simpa using h
  rw [show s[0] = s.data.toList[0]'h' from rfl]
  exact (List.drop_eq_getElem_cons h').symm ▸ (List.drop_zero).symm
theorem list12 (s : ByteArray) (h : 2 < s.size) : s.data.toList.drop 1 = s[1] :: s[2] :: s.data.toList.drop 3 := by
  have h' : 2 < s.data.toList.length := by simpa using h
  rw [show s[1] = s.data.toList[1]'(by omega) from rfl, show s[2] = s.data.toList[2]'h' from rfl]
  rw [List.drop_eq_getElem_cons (show 1 < s.data.toList.length by omega), List.drop_eq_getElem_cons (show 1 + 1 < s.data.toList.length by omega)]
theorem hexPair_I (a b : UInt8) (r : List UInt8) : hexPair (a :: b :: r) = if 0 ≤ hexI a ∧ 0 ≤ hexI b then some (UInt8.ofNat (16 * (hexI a).toNat + (hexI b).toNat)) else none := by
  cases ha : hexV a <;> cases hb : hexV b <;> simp [hexPair, hexI, ha, hb]
theorem endE_tmp3 {P : Program} {n : Nat} {σ : Env} {w : World} {fn : Func} {R : Ending → World → Prop} {t u v : Tmp} (h : fn.results = #[.tmp t, .tmp u, .tmp v]) (hR : R (.returned (.tuple #[σ t, σ u, σ v])) w) : endE P n fn R .ret σ w := by
  intro a ha
  refine ⟨.tuple #[σ t, σ u, σ v], ?_, hR⟩
  have e : ∀ i, a.tmps[i]?.getD undef = σ i := fun i => by rw [← congrFun ha.get i, Array.getD_eq_getD_getElem?]
  simp [results, h, e]
theorem index_hex (c : UInt8) (w : World) : Calls Tryz.prog 27 #[.string ⟨#[48, 49, 50, 51, 52, 53, 54, 55, 56, 57, 97, 98, 99, 100, 101, 102]⟩, .int .u8 (c.toNat : Int)] w fun e w' => e = .returned (.int .i64 (hexI c)) ∧ w' = w := by
  refine (Tryz.strings_IndexByte _ _ w).mono ?_
  rintro e w' ⟨rfl, rfl⟩
  refine ⟨?_, rfl⟩
  rw [byte_back, show (⟨#[48, 49, 50, 51, 52, 53, 54, 55, 56, 57, 97, 98, 99, 100, 101, 102]⟩ : ByteArray).data.toList = [48, 49, 50, 51, 52, 53, 54, 55, 56, 57, 97, 98, 99, 100, 101, 102] from rfl, hexI_at]
set_option maxHeartbeats 2000000 in
theorem unescape_any (s : ByteArray) (w : World) (hs : s.size ≤ 100000000) : Calls Tryz.prog 60 #[.string s] w fun e w' => e = .returned (unescV s.data.toList) ∧ Grow w w' := by
  have HR : Hid (∀ v, unescV s.data.toList = v → Ending.returned v = .returned (unescV s.data.toList)) := fun v h => by rw [h]
  by_cases h0 : s.size = 0
  · have e : s = ⟨#[]⟩ := by
      rw [← S_of s, List.eq_nil_of_length_eq_zero (show s.data.toList.length = 0 by simpa using h0)]; rfl
    subst e
    clear h0 hs
    refine calls_of_wE Tryz.func60 rfl Tryz.ntmps60 (by simp) ?_
    repeat' (first | with_reducible (first | refine wE_seq (fun K hK => ?_) | refine wE_block ?_ | refine wE_skip ?_ | refine wE_ret ?_ | refine wE_exit ?_) | ((with_reducible refine wE_region ?_ ?_); (kernel_rfl); simp only [ls, stripO]) | ((with_reducible refine wS_step (fun K hK => ?_)); simp [go_sem, lk, upd, envOf, stepS_value, stepS_skip, stepS_enter, ↓IntWalk.iteOmega, *]; (try go_ints); refine hK.out _ _ ?_; clear hK K) | ((with_reducible refine wS_unit (fun K hK => ?_)); simp [go_sem, lk, upd, envOf, stepS_value, stepS_skip, stepS_enter, ↓IntWalk.iteOmega, *]; (try go_ints); refine hK.out _ _ ?_; clear hK K) | ((with_reducible refine wS_skip ?_ ?_); (focus (simp [lk, upd, envOf, *]; done))) | ((with_reducible refine wS_want ?_ ?_); (focus (simp [lk, upd, envOf, *]; done))) | ((with_reducible refine wS_split (fun hc => ?_) (fun hc => ?_)) <;> simp [lk, upd, envOf, *] at hc <;> try (exfalso; omega)) | with_reducible refine wS_nil ?_ | simp only [thenE, blockE, ↓reduceIte, Nat.reduceEqDiff] | ((with_reducible refine hK.out _ _ ?_); clear hK K) | ((with_reducible refine wE_if ?_ (fun hc => ?_) (fun hc => ?_)); (focus (simp [lk, upd, envOf, *]; done)); all_goals (simp [lk, upd, envOf, *] at hc <;> try (exfalso; omega))) | (clear hK; clear K))
    exact endE_tmp3 rfl ⟨HR.out _ rfl, Grow.refl _⟩
  have hpos : 0 < s.size := by omega
  have hne : s.toList.isEmpty = false := by
    rw [ByteArray.toList_eq, list0 s hpos]; rfl
  have hne2 : (s.toList = []) = False := by rw [ByteArray.toList_eq, list0 s hpos]; simp
  have HU := Lib.hid (show unescV s.data.toList = unescV (s[0] :: s.data.toList.drop 1) by conv => lhs; rw [list0 s hpos])
  clear h0
  by_cases c34 : (s[0].toNat : Int) = 34
  · have t34 := beq_t c34
    have HV := Lib.hid (show unescV s.data.toList = .tuple #[.int .u8 (s[0].toNat : Int), .int .i64 1, .bool true] by
      rw [HU.out]; simp only [unescV, unesc]; rw [if_pos (by omega)]; rfl)
    clear c34
    refine calls_of_wE Tryz.func60 rfl Tryz.ntmps60 (by simp) ?_
    repeat' (first | with_reducible (first | refine wE_seq (fun K hK => ?_) | refine wE_block ?_ | refine wE_skip ?_ | refine wE_ret ?_ | refine wE_exit ?_) | ((with_reducible refine wE_region ?_ ?_); (kernel_rfl); simp only [ls, stripO]) | ((with_reducible refine wS_step (fun K hK => ?_)); simp [go_sem, lk, upd, envOf, stepS_value, stepS_skip, stepS_enter, ↓IntWalk.iteOmega, *]; (try go_ints); refine hK.out _ _ ?_; clear hK K) | ((with_reducible refine wS_unit (fun K hK => ?_)); simp [go_sem, lk, upd, envOf, stepS_value, stepS_skip, stepS_enter, ↓IntWalk.iteOmega, *]; (try go_ints); refine hK.out _ _ ?_; clear hK K) | ((with_reducible refine wS_skip ?_ ?_); (focus (simp [lk, upd, envOf, *]; done))) | ((with_reducible refine wS_want ?_ ?_); (focus (simp [lk, upd, envOf, *]; done))) | ((with_reducible refine wS_split (fun hc => ?_) (fun hc => ?_)) <;> simp [lk, upd, envOf, *] at hc <;> try (exfalso; omega)) | with_reducible refine wS_nil ?_ | simp only [thenE, blockE, ↓reduceIte, Nat.reduceEqDiff] | ((with_reducible refine hK.out _ _ ?_); clear hK K) | ((with_reducible refine wE_if ?_ (fun hc => ?_) (fun hc => ?_)); (focus (simp [lk, upd, envOf, *]; done)); all_goals (simp [lk, upd, envOf, *] at hc <;> try (exfalso; omega))) | (clear hK; clear K))
    exact endE_tmp3 rfl ⟨HR.out _ (by rw [HV.out]; simp [upd]), Grow.refl _⟩
  have t34 := beq_f c34
  by_cases c92 : (s[0].toNat : Int) = 92
  · have t92 := beq_t c92
    have HV := Lib.hid (show unescV s.data.toList = .tuple #[.int .u8 (s[0].toNat : Int), .int .i64 1, .bool true] by
      rw [HU.out]; simp only [unescV, unesc]; rw [if_pos (by omega)]; rfl)
    clear c34 c92
    refine calls_of_wE Tryz.func60 rfl Tryz.ntmps60 (by simp) ?_
    repeat' (first | with_reducible (first | refine wE_seq (fun K hK => ?_) | refine wE_block ?_ | refine wE_skip ?_ | refine wE_ret ?_ | refine wE_exit ?_) | ((with_reducible refine wE_region ?_ ?_); (kernel_rfl); simp only [ls, stripO]) | ((with_reducible refine wS_step (fun K hK => ?_)); simp [go_sem, lk, upd, envOf, stepS_value, stepS_skip, stepS_enter, ↓IntWalk.iteOmega, *]; (try go_ints); refine hK.out _ _ ?_; clear hK K) | ((with_reducible refine wS_unit (fun K hK => ?_)); simp [go_sem, lk, upd, envOf, stepS_value, stepS_skip, stepS_enter, ↓IntWalk.iteOmega, *]; (try go_ints); refine hK.out _ _ ?_; clear hK K) | ((with_reducible refine wS_skip ?_ ?_); (focus (simp [lk, upd, envOf, *]; done))) | ((with_reducible refine wS_want ?_ ?_); (focus (simp [lk, upd, envOf, *]; done))) | ((with_reducible refine wS_split (fun hc => ?_) (fun hc => ?_)) <;> simp [lk, upd, envOf, *] at hc <;> try (exfalso; omega)) | with_reducible refine wS_nil ?_ | simp only [thenE, blockE, ↓reduceIte, Nat.reduceEqDiff] | ((with_reducible refine hK.out _ _ ?_); clear hK K) | ((with_reducible refine wE_if ?_ (fun hc => ?_) (fun hc => ?_)); (focus (simp [lk, upd, envOf, *]; done)); all_goals (simp [lk, upd, envOf, *] at hc <;> try (exfalso; omega))) | (clear hK; clear K))
    exact endE_tmp3 rfl ⟨HR.out _ (by rw [HV.out]; simp [upd]), Grow.refl _⟩
  have t92 := beq_f c92
  by_cases c110 : (s[0].toNat : Int) = 110
  · have t110 := beq_t c110
    have HV := Lib.hid (show unescV s.data.toList = .tuple #[.int .u8 10, .int .i64 1, .bool true] by
      rw [HU.out]; simp only [unescV, unesc]; rw [if_neg (by omega), if_pos (by omega)]; rfl)
    clear c34 c92 c110
    refine calls_of_wE Tryz.func60 rfl Tryz.ntmps60 (by simp) ?_
    repeat' (first | with_reducible (first | refine wE_seq (fun K hK => ?_) | refine wE_block ?_ | refine wE_skip ?_ | refine wE_ret ?_ | refine wE_exit ?_) | ((with_reducible refine wE_region ?_ ?_); (kernel_rfl); simp only [ls, stripO]) | ((with_reducible refine wS_step (fun K hK => ?_)); simp [go_sem, lk, upd, envOf, stepS_value, stepS_skip, stepS_enter, ↓IntWalk.iteOmega, *]; (try go_ints); refine hK.out _ _ ?_; clear hK K) | ((with_reducible refine wS_unit (fun K hK => ?_)); simp [go_sem, lk, upd, envOf, stepS_value, stepS_skip, stepS_enter, ↓IntWalk.iteOmega, *]; (try go_ints); refine hK.out _ _ ?_; clear hK K) | ((with_reducible refine wS_skip ?_ ?_); (focus (simp [lk, upd, envOf, *]; done))) | ((with_reducible refine wS_want ?_ ?_); (focus (simp [lk, upd, envOf, *]; done))) | ((with_reducible refine wS_split (fun hc => ?_) (fun hc => ?_)) <;> simp [lk, upd, envOf, *] at hc <;> try (exfalso; omega)) | with_reducible refine wS_nil ?_ | simp only [thenE, blockE, ↓reduceIte, Nat.reduceEqDiff] | ((with_reducible refine hK.out _ _ ?_); clear hK K) | ((with_reducible refine wE_if ?_ (fun hc => ?_) (fun hc => ?_)); (focus (simp [lk, upd, envOf, *]; done)); all_goals (simp [lk, upd, envOf, *] at hc <;> try (exfalso; omega))) | (clear hK; clear K))
    exact endE_tmp3 rfl ⟨HR.out _ (by rw [HV.out]; simp [upd]), Grow.refl _⟩
  have t110 := beq_f c110
  by_cases c120 : (s[0].toNat : Int) = 120
  rotate_left
  · have t120 := beq_f c120
    have HV := Lib.hid (show unescV s.data.toList = .tuple #[.int .u8 0, .int .i64 0, .bool false] by
      rw [HU.out]; simp only [unescV, unesc]; rw [if_neg (by omega), if_neg (by omega), if_neg (by omega)])
    clear c34 c92 c110 c120
    refine calls_of_wE Tryz.func60 rfl Tryz.ntmps60 (by simp) ?_
    repeat' (first | with_reducible (first | refine wE_seq (fun K hK => ?_) | refine wE_block ?_ | refine wE_skip ?_ | refine wE_ret ?_ | refine wE_exit ?_) | ((with_reducible refine wE_region ?_ ?_); (kernel_rfl); simp only [ls, stripO]) | ((with_reducible refine wS_step (fun K hK => ?_)); simp [go_sem, lk, upd, envOf, stepS_value, stepS_skip, stepS_enter, ↓IntWalk.iteOmega, *]; (try go_ints); refine hK.out _ _ ?_; clear hK K) | ((with_reducible refine wS_unit (fun K hK => ?_)); simp [go_sem, lk, upd, envOf, stepS_value, stepS_skip, stepS_enter, ↓IntWalk.iteOmega, *]; (try go_ints); refine hK.out _ _ ?_; clear hK K) | ((with_reducible refine wS_skip ?_ ?_); (focus (simp [lk, upd, envOf, *]; done))) | ((with_reducible refine wS_want ?_ ?_); (focus (simp [lk, upd, envOf, *]; done))) | ((with_reducible refine wS_split (fun hc => ?_) (fun hc => ?_)) <;> simp [lk, upd, envOf, *] at hc <;> try (exfalso; omega)) | with_reducible refine wS_nil ?_ | simp only [thenE, blockE, ↓reduceIte, Nat.reduceEqDiff] | ((with_reducible refine hK.out _ _ ?_); clear hK K) | ((with_reducible refine wE_if ?_ (fun hc => ?_) (fun hc => ?_)); (focus (simp [lk, upd, envOf, *]; done)); all_goals (simp [lk, upd, envOf, *] at hc <;> try (exfalso; omega))) | (clear hK; clear K))
    exact endE_tmp3 rfl ⟨HR.out _ (by rw [HV.out]; simp [upd]), Grow.refl _⟩
  have t120 := beq_t c120
  have HU2 := Lib.hid (show unescV s.data.toList = (match ((hexPair (s.data.toList.drop 1)).map (fun b => (b, 3)) : Option (UInt8 × Nat)) with | some (c, n) => .tuple #[.int .u8 (c.toNat : Int), .int .i64 (n : Int), .bool true] | none => .tuple #[.int .u8 0, .int .i64 0, .bool false]) by
    rw [HU.out]; simp only [unescV, unesc]; rw [if_neg (by omega), if_neg (by omega), if_pos (by omega)])
  clear c34 c92 c110 c120
  by_cases h3 : s.size < 3
  · have HV := Lib.hid (show unescV s.data.toList = .tuple #[.int .u8 0, .int .i64 0, .bool false] by
      have hl : (s.data.toList.drop 1).length < 2 := by simp; omega
      rw [HU2.out]
      have : hexPair (s.data.toList.drop 1) = none := by
        match hd : s.data.toList.drop 1, hl with
        | [], _ => rfl
        | [a], _ => rfl
        | a :: b :: r, hl => simp at hl; omega
      rw [this]; rfl)
    have h3' : ¬ (3 : Int) ≤ s.size := by omega
    clear HU2 HU
    refine calls_of_wE Tryz.func60 rfl Tryz.ntmps60 (by simp) ?_
    repeat' (first | with_reducible (first | refine wE_seq (fun K hK => ?_) | refine wE_block ?_ | refine wE_skip ?_ | refine wE_ret ?_ | refine wE_exit ?_) | ((with_reducible refine wE_region ?_ ?_); (kernel_rfl); simp only [ls, stripO]) | ((with_reducible refine wS_step (fun K hK => ?_)); simp [go_sem, lk, upd, envOf, stepS_value, stepS_skip, stepS_enter, ↓IntWalk.iteOmega, *]; (try go_ints); refine hK.out _ _ ?_; clear hK K) | ((with_reducible refine wS_unit (fun K hK => ?_)); simp [go_sem, lk, upd, envOf, stepS_value, stepS_skip, stepS_enter, ↓IntWalk.iteOmega, *]; (try go_ints); refine hK.out _ _ ?_; clear hK K) | ((with_reducible refine wS_skip ?_ ?_); (focus (simp [lk, upd, envOf, *]; done))) | ((with_reducible refine wS_want ?_ ?_); (focus (simp [lk, upd, envOf, *]; done))) | ((with_reducible refine wS_split (fun hc => ?_) (fun hc => ?_)) <;> simp [lk, upd, envOf, *] at hc <;> try (exfalso; omega)) | with_reducible refine wS_nil ?_ | simp only [thenE, blockE, ↓reduceIte, Nat.reduceEqDiff] | ((with_reducible refine hK.out _ _ ?_); clear hK K) | ((with_reducible refine wE_if ?_ (fun hc => ?_) (fun hc => ?_)); (focus (simp [lk, upd, envOf, *]; done)); all_goals (simp [lk, upd, envOf, *] at hc <;> try (exfalso; omega))) | (clear hK; clear K))
    exact endE_tmp3 rfl ⟨HR.out _ (by rw [HV.out]; simp [upd]), Grow.refl _⟩
  have h2 : 2 < s.size := by omega
  have h3' : (3 : Int) ≤ s.size := by omega
  have h1' : 1 < s.size := by omega
  have i1 : (1 : Int) < s.size := by omega
  have i2 : (2 : Int) < s.size := by omega
  have HP := Lib.hid (show hexPair (s.data.toList.drop 1) = if 0 ≤ hexI s[1] ∧ 0 ≤ hexI s[2] then some (UInt8.ofNat (16 * (hexI s[1]).toNat + (hexI s[2]).toNat)) else none by
    rw [list12 s h2]; exact hexPair_I _ _ _)
  obtain ⟨a1, a2⟩ := hexI_range s[1]
  obtain ⟨b1, b2⟩ := hexI_range s[2]
  clear h3
  refine calls_of_wE Tryz.func60 rfl Tryz.ntmps60 (by simp) ?_
  repeat' (first | with_reducible (first | refine wE_seq (fun K hK => ?_) | refine wE_block ?_ | refine wE_skip ?_ | refine wE_ret ?_ | refine wE_exit ?_) | ((with_reducible refine wE_region ?_ ?_); (kernel_rfl); simp only [ls, stripO]) | ((with_reducible refine wS_step (fun K hK => ?_)); simp [go_sem, lk, upd, envOf, stepS_value, stepS_skip, stepS_enter, ↓IntWalk.iteOmega, *]; (try go_ints); refine hK.out _ _ ?_; clear hK K) | ((with_reducible refine wS_unit (fun K hK => ?_)); simp [go_sem, lk, upd, envOf, stepS_value, stepS_skip, stepS_enter, ↓IntWalk.iteOmega, *]; (try go_ints); refine hK.out _ _ ?_; clear hK K) | ((with_reducible refine wS_skip ?_ ?_); (focus (simp [lk, upd, envOf, *]; done))) | ((with_reducible refine wS_want ?_ ?_); (focus (simp [lk, upd, envOf, *]; done))) | ((with_reducible refine wS_split (fun hc => ?_) (fun hc => ?_)) <;> simp [lk, upd, envOf, *] at hc <;> try (exfalso; omega)) | with_reducible refine wS_nil ?_ | simp only [thenE, blockE, ↓reduceIte, Nat.reduceEqDiff] | ((with_reducible refine hK.out _ _ ?_); clear hK K) | ((with_reducible refine wE_if ?_ (fun hc => ?_) (fun hc => ?_)); (focus (simp [lk, upd, envOf, *]; done)); all_goals (simp [lk, upd, envOf, *] at hc <;> try (exfalso; omega))) | (clear hK; clear K))
  refine wE_drawE (R := Grow) [SPE.val 34 (.string s), SPE.val 35 (.int .u8 (s[1].toNat : Int)), SPE.val 36 (.int .i64 (hexI s[1])), SPE.val 37 (.string s), SPE.val 38 (.int .u8 (s[2].toNat : Int)), SPE.val 39 (.int .i64 (hexI s[2])), SPE.val 5 (.int .i64 (hexI s[1])), SPE.val 6 (.int .i64 (hexI s[2]))] [[34], [35], [36], [37], [38], [39], [5], [6]] [([], [0]), ([0], []), ([1], []), ([], [0]), ([3], []), ([4], []), ([2], []), ([5], [])] (by kernel_rfl) (by kernel_rfl) rfl Grow.refl (fun _ _ _ => Grow.trans) ?_ ?_
  · simp only [ls, stripO, oblE, Nat.zero_add, Nat.reduceAdd]
    refine ⟨?_, ?_, ?_, ?_, ?_, ?_, ?_, ?_, trivial⟩
    · refine oneE_plain (fun σ w' hR hf => ?_); simp only [factsE, getP_succ, getP_zero, SPE.val_p, SPE.of_p, SPE.any_p, and_true, true_and] at hf; skip; simp [go_sem, lk, upd, envOf, stepS_value, stepS_skip, stepS_enter, ↓IntWalk.iteOmega, putS, getP_succ, getP_zero, SPE.val_p, SPE.of_p, SPE.any_p, Grow.refl, hf, *]
    · refine oneE_plain (fun σ w' hR hf => ?_); simp only [factsE, getP_succ, getP_zero, SPE.val_p, SPE.of_p, SPE.any_p, and_true, true_and] at hf; skip; simp [go_sem, lk, upd, envOf, stepS_value, stepS_skip, stepS_enter, ↓IntWalk.iteOmega, putS, getP_succ, getP_zero, SPE.val_p, SPE.of_p, SPE.any_p, Grow.refl, hf, *]
    · refine oneE_plain (fun σ w' hR hf => ?_); simp only [factsE, getP_succ, getP_zero, SPE.val_p, SPE.of_p, SPE.any_p, and_true, true_and] at hf; skip; simp [go_sem, lk, upd, envOf, stepS_value, stepS_skip, stepS_enter, ↓IntWalk.iteOmega, putS, getP_succ, getP_zero, SPE.val_p, SPE.of_p, SPE.any_p, hf, *]; (try go_ints); refine (index_hex s[1] _).mono ?_; rintro e w'' ⟨rfl, rfl⟩; exact ⟨_, rfl, rfl, Grow.refl _⟩
    · refine oneE_plain (fun σ w' hR hf => ?_); simp only [factsE, getP_succ, getP_zero, SPE.val_p, SPE.of_p, SPE.any_p, and_true, true_and] at hf; skip; simp [go_sem, lk, upd, envOf, stepS_value, stepS_skip, stepS_enter, ↓IntWalk.iteOmega, putS, getP_succ, getP_zero, SPE.val_p, SPE.of_p, SPE.any_p, Grow.refl, hf, *]
    · refine oneE_plain (fun σ w' hR hf => ?_); simp only [factsE, getP_succ, getP_zero, SPE.val_p, SPE.of_p, SPE.any_p, and_true, true_and] at hf; skip; simp [go_sem, lk, upd, envOf, stepS_value, stepS_skip, stepS_enter, ↓IntWalk.iteOmega, putS, getP_succ, getP_zero, SPE.val_p, SPE.of_p, SPE.any_p, Grow.refl, hf, *]
    · refine oneE_plain (fun σ w' hR hf => ?_); simp only [factsE, getP_succ, getP_zero, SPE.val_p, SPE.of_p, SPE.any_p, and_true, true_and] at hf; skip; simp [go_sem, lk, upd, envOf, stepS_value, stepS_skip, stepS_enter, ↓IntWalk.iteOmega, putS, getP_succ, getP_zero, SPE.val_p, SPE.of_p, SPE.any_p, hf, *]; (try go_ints); refine (index_hex s[2] _).mono ?_; rintro e w'' ⟨rfl, rfl⟩; exact ⟨_, rfl, rfl, Grow.refl _⟩
    · refine oneE_plain (fun σ w' hR hf => ?_); simp only [factsE, getP_succ, getP_zero, SPE.val_p, SPE.of_p, SPE.any_p, and_true, true_and] at hf; skip; simp [go_sem, lk, upd, envOf, stepS_value, stepS_skip, stepS_enter, ↓IntWalk.iteOmega, putS, getP_succ, getP_zero, SPE.val_p, SPE.of_p, SPE.any_p, Grow.refl, hf, *]
    · refine oneE_plain (fun σ w' hR hf => ?_); simp only [factsE, getP_succ, getP_zero, SPE.val_p, SPE.of_p, SPE.any_p, and_true, true_and] at hf; skip; simp [go_sem, lk, upd, envOf, stepS_value, stepS_skip, stepS_enter, ↓IntWalk.iteOmega, putS, getP_succ, getP_zero, SPE.val_p, SPE.of_p, SPE.any_p, Grow.refl, hf, *]
  intro σ' w2 hg hE
  have e5 := hE.at_ 6 rfl
  have e6 := hE.at_ 7 rfl
  simp only [getP_succ, getP_zero, SPE.val_p, SPE.of_p] at e5 e6
  clear hE
  have HG := Lib.hid ((Grow.drew w).trans hg)
  clear hg
  generalize hexI s[1] = hi at *
  generalize hexI s[2] = lo at *
  by_cases k1 : 0 ≤ hi
  · by_cases k2 : 0 ≤ lo
    · have HV := Lib.hid (show unescV s.data.toList = .tuple #[.int .u8 (16 * hi + lo), .int .i64 3, .bool true] by
        rw [HU2.out, HP.out, if_pos ⟨k1, k2⟩]
        simp only [Option.map_some]
        rw [UInt8.toNat_ofNat', show ((16 * hi.toNat + lo.toNat) % 2 ^ 8 : Nat) = 16 * hi.toNat + lo.toNat by omega]
        congr 3
        simp; omega)
      have HBT := Lib.hid (or_hex hi lo k1 a2 k2 b2)
      repeat' (first | with_reducible (first | refine wE_seq (fun K hK => ?_) | refine wE_block ?_ | refine wE_skip ?_ | refine wE_ret ?_ | refine wE_exit ?_) | ((with_reducible refine wE_region ?_ ?_); (kernel_rfl); simp only [ls, stripO]) | ((with_reducible refine wS_step (fun K hK => ?_)); simp [go_sem, lk, upd, envOf, stepS_value, stepS_skip, stepS_enter, ↓IntWalk.iteOmega, *]; (try go_ints); refine hK.out _ _ ?_; clear hK K) | ((with_reducible refine wS_unit (fun K hK => ?_)); simp [go_sem, lk, upd, envOf, stepS_value, stepS_skip, stepS_enter, ↓IntWalk.iteOmega, *]; (try go_ints); refine hK.out _ _ ?_; clear hK K) | ((with_reducible refine wS_skip ?_ ?_); (focus (simp [lk, upd, envOf, *]; done))) | ((with_reducible refine wS_want ?_ ?_); (focus (simp [lk, upd, envOf, *]; done))) | ((with_reducible refine wS_split (fun hc => ?_) (fun hc => ?_)) <;> simp [lk, upd, envOf, *] at hc <;> try (exfalso; omega)) | with_reducible refine wS_nil ?_ | simp only [thenE, blockE, ↓reduceIte, Nat.reduceEqDiff] | ((with_reducible refine hK.out _ _ ?_); clear hK K) | ((with_reducible refine wE_if ?_ (fun hc => ?_) (fun hc => ?_)); (focus (simp [lk, upd, envOf, *]; done)); all_goals (simp [lk, upd, envOf, *] at hc <;> try (exfalso; omega))) | (clear hK; clear K))
      exact endE_tmp3 rfl ⟨HR.out _ (by rw [HV.out]; simp [upd]; exact HBT.out.symm), HG.out⟩
    · have HV := Lib.hid (show unescV s.data.toList = .tuple #[.int .u8 0, .int .i64 0, .bool false] by
        rw [HU2.out, HP.out, if_neg (by omega)]; rfl)
      repeat' (first | with_reducible (first | refine wE_seq (fun K hK => ?_) | refine wE_block ?_ | refine wE_skip ?_ | refine wE_ret ?_ | refine wE_exit ?_) | ((with_reducible refine wE_region ?_ ?_); (kernel_rfl); simp only [ls, stripO]) | ((with_reducible refine wS_step (fun K hK => ?_)); simp [go_sem, lk, upd, envOf, stepS_value, stepS_skip, stepS_enter, ↓IntWalk.iteOmega, *]; (try go_ints); refine hK.out _ _ ?_; clear hK K) | ((with_reducible refine wS_unit (fun K hK => ?_)); simp [go_sem, lk, upd, envOf, stepS_value, stepS_skip, stepS_enter, ↓IntWalk.iteOmega, *]; (try go_ints); refine hK.out _ _ ?_; clear hK K) | ((with_reducible refine wS_skip ?_ ?_); (focus (simp [lk, upd, envOf, *]; done))) | ((with_reducible refine wS_want ?_ ?_); (focus (simp [lk, upd, envOf, *]; done))) | ((with_reducible refine wS_split (fun hc => ?_) (fun hc => ?_)) <;> simp [lk, upd, envOf, *] at hc <;> try (exfalso; omega)) | with_reducible refine wS_nil ?_ | simp only [thenE, blockE, ↓reduceIte, Nat.reduceEqDiff] | ((with_reducible refine hK.out _ _ ?_); clear hK K) | ((with_reducible refine wE_if ?_ (fun hc => ?_) (fun hc => ?_)); (focus (simp [lk, upd, envOf, *]; done)); all_goals (simp [lk, upd, envOf, *] at hc <;> try (exfalso; omega))) | (clear hK; clear K))
      exact endE_tmp3 rfl ⟨HR.out _ (by rw [HV.out]; simp [upd]), HG.out⟩
  · have HV := Lib.hid (show unescV s.data.toList = .tuple #[.int .u8 0, .int .i64 0, .bool false] by
      rw [HU2.out, HP.out, if_neg (by omega)]; rfl)
    repeat' (first | with_reducible (first | refine wE_seq (fun K hK => ?_) | refine wE_block ?_ | refine wE_skip ?_ | refine wE_ret ?_ | refine wE_exit ?_) | ((with_reducible refine wE_region ?_ ?_); (kernel_rfl); simp only [ls, stripO]) | ((with_reducible refine wS_step (fun K hK => ?_)); simp [go_sem, lk, upd, envOf, stepS_value, stepS_skip, stepS_enter, ↓IntWalk.iteOmega, *]; (try go_ints); refine hK.out _ _ ?_; clear hK K) | ((with_reducible refine wS_unit (fun K hK => ?_)); simp [go_sem, lk, upd, envOf, stepS_value, stepS_skip, stepS_enter, ↓IntWalk.iteOmega, *]; (try go_ints); refine hK.out _ _ ?_; clear hK K) | ((with_reducible refine wS_skip ?_ ?_); (focus (simp [lk, upd, envOf, *]; done))) | ((with_reducible refine wS_want ?_ ?_); (focus (simp [lk, upd, envOf, *]; done))) | ((with_reducible refine wS_split (fun hc => ?_) (fun hc => ?_)) <;> simp [lk, upd, envOf, *] at hc <;> try (exfalso; omega)) | with_reducible refine wS_nil ?_ | simp only [thenE, blockE, ↓reduceIte, Nat.reduceEqDiff] | ((with_reducible refine hK.out _ _ ?_); clear hK K) | ((with_reducible refine wE_if ?_ (fun hc => ?_) (fun hc => ?_)); (focus (simp [lk, upd, envOf, *]; done)); all_goals (simp [lk, upd, envOf, *] at hc <;> try (exfalso; omega))) | (clear hK; clear K))
    exact endE_tmp3 rfl ⟨HR.out _ (by rw [HV.out]; simp [upd]), HG.out⟩
end Go.Proofs.YtglekdhdogjnoaaGreatDoor
