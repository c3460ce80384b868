/- The program's unquote, walked. -/
import Derived.Test.YtglekdhdogjnoaaGreatDoorPrsA
namespace Go.Proofs.YtglekdhdogjnoaaGreatDoor
open Go.RowKit
set_option linter.unusedSimpArgs false
def unqV (l : List UInt8) : Value := match unqF unesc (l.length + 1) l with | some (t, r) => .tuple #[.string (S t), .int .i64 ((l.length : Int) - r.length), .bool true] | none => .tuple #[.string ⟨#[]⟩, .int .i64 0, .bool false]
theorem unesc_le {l : List UInt8} {b : UInt8} {n : Nat} (h : unesc l = some (b, n)) : 1 ≤ n ∧ n ≤ 3 ∧ n ≤ l.length := by
  unfold unesc at h
  cases l with
  | nil => simp at h
  | cons c r =>
    simp only at h
    split at h
    · simp at h; obtain ⟨-, rfl⟩ := h; simp
    · split at h
      · simp at h; obtain ⟨-, rfl⟩ := h; simp
      · split at h
        · unfold hexPair at h
          match r, h with
          | [], h => simp at h
          | [a], h => simp at h
          | a :: b :: r, h =>
            simp only [Option.map_eq_some_iff, Prod.mk.injEq] at h
            obtain ⟨_, _, _, rfl⟩ := h
            simp
        · simp at h
theorem drop_at (s : ByteArray) (k : Nat) (h : k < s.size) : s.data.toList.drop k = s[k] :: s.data.toList.drop (k + 1) := by
  have h' : k < s.data.toList.length := by simpa using h
  rw [show s[k] = s.data.toList[k]'h' from rfl]
  exact List.drop_eq_getElem_cons h'
/-- What stands at the head of the loop. -/
structure UqInv (l : List UInt8) (k f : Nat) (bs : List UInt8) : Prop where
  eq : unqF unesc (l.length + 1) l = (unqF unesc f (l.drop k)).map fun x => (bs ++ x.1, x.2)
  fuel : (l.drop k).length < f
  le : bs.length ≤ k
  k : k ≤ l.length
theorem UqInv.start (l : List UInt8) : UqInv l 0 (l.length + 1) [] := by
  refine ⟨?_, by simp, by simp, by omega⟩
  rw [List.drop_zero]
  cases unqF unesc (l.length + 1) l <;> simp
theorem UqInv.plain {l : List UInt8} {k f : Nat} {bs : List UInt8} {c : UInt8} (h : UqInv l k f bs) (hd : l.drop k = c :: l.drop (k + 1)) (h1 : ¬ c.toNat = 34) (h2 : ¬ c.toNat = 92) : ∃ f', UqInv l (k + 1) f' (bs ++ [c]) := by
  have hf := h.fuel
  have hlt : k < l.length := by
    rcases Nat.lt_or_ge k l.length with h | h
    · exact h
    · rw [List.drop_eq_nil_of_le h] at hd; simp at hd
  cases f with
  | zero => omega
  | succ f =>
    refine ⟨f, ?_, by rw [hd] at hf; simpa using hf, by have := h.le; simp; omega, by omega⟩
    rw [h.eq, hd]
    simp only [unqF, h1, h2, if_false]
    cases unqF unesc f (l.drop (k + 1)) <;> simp
theorem UqInv.esc {l : List UInt8} {k f : Nat} {bs : List UInt8} {c b : UInt8} {n : Nat} (h : UqInv l k f bs) (hd : l.drop k = c :: l.drop (k + 1)) (h2 : c.toNat = 92) (hu : unesc (l.drop (k + 1)) = some (b, n)) : ∃ f', UqInv l (k + 1 + n) f' (bs ++ [b]) := by
  have hf := h.fuel
  obtain ⟨n1, n3, nl⟩ := unesc_le hu
  have hlt : k < l.length := by
    rcases Nat.lt_or_ge k l.length with h | h
    · exact h
    · rw [List.drop_eq_nil_of_le h] at hd; simp at hd
  rw [List.length_drop] at nl
  cases f with
  | zero => omega
  | succ f =>
    refine ⟨f, ?_, ?_, by have := h.le; simp; omega, by omega⟩
    · rw [h.eq, hd]
      simp only [unqF, h2, Nat.reduceEqDiff, if_false, if_true, hu]
      rw [List.drop_drop]
      cases unqF unesc f (l.drop (k + 1 + n)) <;> simp
    · rw [hd] at hf
      simp only [List.length_cons, List.length_drop] at hf ⊢
      omega
theorem UqInv.stuck {l : List UInt8} {k f : Nat} {bs : List UInt8} {c : UInt8} (h : UqInv l k f bs) (hd : l.drop k = c :: l.drop (k + 1)) (h2 : c.toNat = 92) (hu : unesc (l.drop (k + 1)) = none) : unqV l = .tuple #[.string ⟨#[]⟩, .int .i64 0, .bool false] := by
  have hf := h.fuel
  cases f with
  | zero => omega
  | succ f =>
    unfold unqV
    rw [h.eq, hd]
    simp only [unqF, h2, Nat.reduceEqDiff, if_false, if_true, hu, Option.map_none]
theorem UqInv.quote {l : List UInt8} {k f : Nat} {bs : List UInt8} {c : UInt8} (h : UqInv l k f bs) (hd : l.drop k = c :: l.drop (k + 1)) (h2 : c.toNat = 34) : unqV l = .tuple #[.string (S bs), .int .i64 ((k : Int) + 1), .bool true] := by
  have hf := h.fuel
  have hlt : k < l.length := by
    rcases Nat.lt_or_ge k l.length with h | h
    · exact h
    · rw [List.drop_eq_nil_of_le h] at hd; simp at hd
  cases f with
  | zero => omega
  | succ f =>
    unfold unqV
    rw [h.eq, hd]
    simp only [unqF, h2, if_true, Option.map_some, List.append_nil, List.length_drop]
    congr 3
    simp; omega
theorem UqInv.over {l : List UInt8} {k f : Nat} {bs : List UInt8} (h : UqInv l k f bs) (hk : l.length ≤ k) : unqV l = .tuple #[.string ⟨#[]⟩, .int .i64 0, .bool false] := by
  have hf := h.fuel
  cases f with
  | zero => omega
  | succ f =>
    unfold unqV
    rw [h.eq, List.drop_eq_nil_of_le hk]
    simp only [unqF, Option.map_none]
theorem Grow.trans' {a b c : World} (h : Grow a b) (k : Below a.heap.size b c) : Grow a c := Below.trans h k
theorem ext_end (s : ByteArray) (k : Nat) : (s.extract k s.size).data.toList = s.data.toList.drop k := by
  conv => lhs; rw [← S_of s]
  rw [S_extract, S_list, List.take_of_length_le (by rw [S_size]; omega)]
set_option maxHeartbeats 4000000 in
set_option maxRecDepth 100000 in
theorem unquote_any (s : ByteArray) (w : World) (hs : s.size ≤ 10000000) : Calls Tryz.prog 26 #[.string s] w fun e w' => e = .returned (unqV s.data.toList) ∧ Grow w w' := by
  have HR : Hid (∀ v, unqV s.data.toList = v → Ending.returned v = .returned (unqV s.data.toList)) := fun v h => by rw [h]
  have hsz : s.data.toList.length = s.size := by simp
  have HSZ := Lib.hid hsz
  clear hsz
  refine calls_of_wE Tryz.func26 rfl Tryz.ntmps26 (by simp) ?_
  repeat' (first | with_reducible (first | refine wE_seq (fun K hK => ?_) | refine wE_block ?_ | refine wE_skip ?_ | refine wE_ret ?_ | refine wE_exit ?_) | ((with_reducible refine wE_region ?_ ?_); (kernel_rfl); simp only [ls, stripO]) | ((with_reducible refine wS_step (fun K hK => ?_)); simp [go_sem, lk, upd, envOf, stepS_value, stepS_skip, stepS_enter, ↓IntWalk.iteOmega, *]; (try go_ints); refine hK.out _ _ ?_; clear hK K) | ((with_reducible refine wS_unit (fun K hK => ?_)); simp [go_sem, lk, upd, envOf, stepS_value, stepS_skip, stepS_enter, ↓IntWalk.iteOmega, *]; (try go_ints); refine hK.out _ _ ?_; clear hK K) | ((with_reducible refine wS_skip ?_ ?_); (focus (simp [lk, upd, envOf, *]; done))) | ((with_reducible refine wS_want ?_ ?_); (focus (simp [lk, upd, envOf, *]; done))) | ((with_reducible refine wS_split (fun hc => ?_) (fun hc => ?_)) <;> simp [lk, upd, envOf, *] at hc <;> try (exfalso; omega)) | with_reducible refine wS_nil ?_ | simp only [thenE, blockE, ↓reduceIte, Nat.reduceEqDiff] | ((with_reducible refine hK.out _ _ ?_); clear hK K) | ((with_reducible refine wE_if ?_ (fun hc => ?_) (fun hc => ?_)); (focus (simp [lk, upd, envOf, *]; done)); all_goals (simp [lk, upd, envOf, *] at hc <;> try (exfalso; omega))) | (clear hK; clear K))
  refine wE_loop (fun (k : Nat) σ w' => σ 0 = .string s ∧ σ 6 = .int .i64 k ∧ ∃ f bs, UqInv s.data.toList k f bs ∧ w'.ownsRow w.heap.size 5 1 (σ 5) bs.length (bs.map u8v) ∧ Grow w w') (fun k => s.size - k) 0 ?_ ?_
  · refine ⟨by simp [upd, envOf], by simp [upd], _, [], UqInv.start _, ?_, Grow.refl _⟩
    simp [upd]
    exact World.ownsRow_nil _ _ _ _
  rintro k σ w1 ⟨e0, e6, f, bs, hI, ho, hg⟩
  generalize hv : σ 5 = v at ho
  have HI := Lib.hid hI
  have HO := Lib.hid ho
  have HG := Lib.hid hg
  have hk : k ≤ s.size := by have := hI.k; have := HSZ.out; omega
  have hbl : bs.length ≤ k := hI.le
  have hws : w.heap.size ≤ w1.heap.size := hg.size
  clear hI ho hg
  by_cases hlt : k < s.size
  · have HD := Lib.hid (drop_at s k hlt)
    by_cases c34 : s[k].toNat = 34
    · have t34 : ((s[k].toNat : Int) == 34) = true := beq_t (by omega)
      have HV := Lib.hid (HI.out.quote HD.out c34)
      have HCV := Lib.hid (conv_u8 w1 w.heap.size v bs HO.out)
      clear c34
      repeat' (first | with_reducible (first | refine wE_seq (fun K hK => ?_) | refine wE_block ?_ | refine wE_skip ?_ | refine wE_ret ?_ | refine wE_exit ?_) | ((with_reducible refine wE_region ?_ ?_); (kernel_rfl); simp only [ls, stripO]) | ((with_reducible refine wS_step (fun K hK => ?_)); simp [go_sem, lk, upd, envOf, stepS_value, stepS_skip, stepS_enter, ↓IntWalk.iteOmega, *, HCV.out]; (try go_ints); refine hK.out _ _ ?_; clear hK K) | ((with_reducible refine wS_unit (fun K hK => ?_)); simp [go_sem, lk, upd, envOf, stepS_value, stepS_skip, stepS_enter, ↓IntWalk.iteOmega, *, HCV.out]; (try go_ints); refine hK.out _ _ ?_; clear hK K) | ((with_reducible refine wS_skip ?_ ?_); (focus (simp [lk, upd, envOf, *, HCV.out]; done))) | ((with_reducible refine wS_want ?_ ?_); (focus (simp [lk, upd, envOf, *, HCV.out]; done))) | ((with_reducible refine wS_split (fun hc => ?_) (fun hc => ?_)) <;> simp [lk, upd, envOf, *, HCV.out] at hc <;> try (exfalso; omega)) | with_reducible refine wS_nil ?_ | simp only [thenE, blockE, ↓reduceIte, Nat.reduceEqDiff] | ((with_reducible refine hK.out _ _ ?_); clear hK K) | ((with_reducible refine wE_if ?_ (fun hc => ?_) (fun hc => ?_)); (focus (simp [lk, upd, envOf, *, HCV.out]; done)); all_goals (simp [lk, upd, envOf, *, HCV.out] at hc <;> try (exfalso; omega))) | (clear hK; clear K))
      exact endE_tmp3 rfl ⟨HR.out _ (by rw [HV.out]; simp [upd]), HG.out⟩
    have t34 : ((s[k].toNat : Int) == 34) = false := beq_f (by omega)
    by_cases c92 : s[k].toNat = 92
    · have t92 : ((s[k].toNat : Int) == 92) = true := beq_t (by omega)
      have HUV := Lib.hid (unescape_any (s.extract (k + 1) s.size) w1 (by rw [ByteArray.size_extract]; omega))
      rw [ext_end] at HUV
      have HUC := Lib.hid (show unescV (s.data.toList.drop (k + 1)) = match unesc (s.data.toList.drop (k + 1)) with | some (c, n) => .tuple #[.int .u8 (c.toNat : Int), .int .i64 (n : Int), .bool true] | none => .tuple #[.int .u8 0, .int .i64 0, .bool false] from rfl)
      cases hu : unesc (s.data.toList.drop (k + 1)) with
      | none =>
        have HV := Lib.hid (HI.out.stuck HD.out c92 hu)
        rw [HUC.out, hu] at HUV
        simp only [] at HUV
        clear c92 hu HUC
        repeat' (first | with_reducible (first | refine wE_seq (fun K hK => ?_) | refine wE_block ?_ | refine wE_skip ?_ | refine wE_ret ?_ | refine wE_exit ?_) | ((with_reducible refine wE_region ?_ ?_); (kernel_rfl); simp only [ls, stripO]) | ((with_reducible refine wS_step (fun K hK => ?_)); simp [go_sem, lk, upd, envOf, stepS_value, stepS_skip, stepS_enter, ↓IntWalk.iteOmega, *]; (try go_ints); refine hK.out _ _ ?_; clear hK K) | ((with_reducible refine wS_unit (fun K hK => ?_)); simp [go_sem, lk, upd, envOf, stepS_value, stepS_skip, stepS_enter, ↓IntWalk.iteOmega, *]; (try go_ints); refine hK.out _ _ ?_; clear hK K) | ((with_reducible refine wS_skip ?_ ?_); (focus (simp [lk, upd, envOf, *]; done))) | ((with_reducible refine wS_want ?_ ?_); (focus (simp [lk, upd, envOf, *]; done))) | ((with_reducible refine wS_split (fun hc => ?_) (fun hc => ?_)) <;> simp [lk, upd, envOf, *] at hc <;> try (exfalso; omega)) | with_reducible refine wS_nil ?_ | simp only [thenE, blockE, ↓reduceIte, Nat.reduceEqDiff] | ((with_reducible refine hK.out _ _ ?_); clear hK K) | ((with_reducible refine wE_if ?_ (fun hc => ?_) (fun hc => ?_)); (focus (simp [lk, upd, envOf, *]; done)); all_goals (simp [lk, upd, envOf, *] at hc <;> try (exfalso; omega))) | (clear hK; clear K))
        (with_reducible refine wS_step (fun K hK => ?_)); simp [go_sem, lk, upd, envOf, stepS_value, stepS_skip, stepS_enter, ↓IntWalk.iteOmega, *]; (try go_ints); refine (HUV.out).mono ?_; rintro e w2 ⟨rfl, hg2⟩; refine ⟨_, rfl, hK.out _ _ ?_⟩; clear hK K
        have HG2 := Lib.hid (HG.out.trans hg2)
        clear hg2
        repeat' (first | with_reducible (first | refine wE_seq (fun K hK => ?_) | refine wE_block ?_ | refine wE_skip ?_ | refine wE_ret ?_ | refine wE_exit ?_) | ((with_reducible refine wE_region ?_ ?_); (kernel_rfl); simp only [ls, stripO]) | ((with_reducible refine wS_step (fun K hK => ?_)); simp [go_sem, lk, upd, envOf, stepS_value, stepS_skip, stepS_enter, ↓IntWalk.iteOmega, *]; (try go_ints); refine hK.out _ _ ?_; clear hK K) | ((with_reducible refine wS_unit (fun K hK => ?_)); simp [go_sem, lk, upd, envOf, stepS_value, stepS_skip, stepS_enter, ↓IntWalk.iteOmega, *]; (try go_ints); refine hK.out _ _ ?_; clear hK K) | ((with_reducible refine wS_skip ?_ ?_); (focus (simp [lk, upd, envOf, *]; done))) | ((with_reducible refine wS_want ?_ ?_); (focus (simp [lk, upd, envOf, *]; done))) | ((with_reducible refine wS_split (fun hc => ?_) (fun hc => ?_)) <;> simp [lk, upd, envOf, *] at hc <;> try (exfalso; omega)) | with_reducible refine wS_nil ?_ | simp only [thenE, blockE, ↓reduceIte, Nat.reduceEqDiff] | ((with_reducible refine hK.out _ _ ?_); clear hK K) | ((with_reducible refine wE_if ?_ (fun hc => ?_) (fun hc => ?_)); (focus (simp [lk, upd, envOf, *]; done)); all_goals (simp [lk, upd, envOf, *] at hc <;> try (exfalso; omega))) | (clear hK; clear K))
        exact endE_tmp3 rfl ⟨HR.out _ (by rw [HV.out]; simp [upd]), HG2.out⟩
      | some bn =>
        obtain ⟨b, n⟩ := bn
        obtain ⟨n1, n3, nl⟩ := unesc_le hu
        obtain ⟨f', hI'⟩ := HI.out.esc HD.out c92 hu
        have HI' := Lib.hid hI'
        have hk' : k + 1 + n ≤ s.size := by have := hI'.k; have := HSZ.out; omega
        rw [HUC.out, hu] at HUV
        simp only [] at HUV
        clear c92 hu HUC hI' nl
        repeat' (first | with_reducible (first | refine wE_seq (fun K hK => ?_) | refine wE_block ?_ | refine wE_skip ?_ | refine wE_ret ?_ | refine wE_exit ?_) | ((with_reducible refine wE_region ?_ ?_); (kernel_rfl); simp only [ls, stripO]) | ((with_reducible refine wS_step (fun K hK => ?_)); simp [go_sem, lk, upd, envOf, stepS_value, stepS_skip, stepS_enter, ↓IntWalk.iteOmega, *]; (try go_ints); refine hK.out _ _ ?_; clear hK K) | ((with_reducible refine wS_unit (fun K hK => ?_)); simp [go_sem, lk, upd, envOf, stepS_value, stepS_skip, stepS_enter, ↓IntWalk.iteOmega, *]; (try go_ints); refine hK.out _ _ ?_; clear hK K) | ((with_reducible refine wS_skip ?_ ?_); (focus (simp [lk, upd, envOf, *]; done))) | ((with_reducible refine wS_want ?_ ?_); (focus (simp [lk, upd, envOf, *]; done))) | ((with_reducible refine wS_split (fun hc => ?_) (fun hc => ?_)) <;> simp [lk, upd, envOf, *] at hc <;> try (exfalso; omega)) | with_reducible refine wS_nil ?_ | simp only [thenE, blockE, ↓reduceIte, Nat.reduceEqDiff] | ((with_reducible refine hK.out _ _ ?_); clear hK K) | ((with_reducible refine wE_if ?_ (fun hc => ?_) (fun hc => ?_)); (focus (simp [lk, upd, envOf, *]; done)); all_goals (simp [lk, upd, envOf, *] at hc <;> try (exfalso; omega))) | (clear hK; clear K))
        (with_reducible refine wS_step (fun K hK => ?_)); simp [go_sem, lk, upd, envOf, stepS_value, stepS_skip, stepS_enter, ↓IntWalk.iteOmega, *]; (try go_ints); refine (HUV.out).mono ?_; rintro e w2 ⟨rfl, hg2⟩; refine ⟨_, rfl, hK.out _ _ ?_⟩; clear hK K
        have HG2 := Lib.hid (HG.out.trans hg2)
        have ho2 := HO.out.kept (row := none) ⟨hg2.os, hg2.tape, hg2.output, hg2.size, fun k hk _ => hg2.block k hk⟩ (by cases v.ownBlock <;> simp)
        obtain ⟨v', w3, hrun, hown3, hbel3⟩ := app_u8 w2 w.heap.size v bs [b] #[.int .u8 (b.toNat : Int)] 1 ho2 rfl rfl (by simp; omega) (by have := hg2.size; omega)
        have HRN := Lib.hid hrun
        have HO3 := Lib.hid hown3
        have HG3 := Lib.hid (HG2.out.trans' hbel3)
        clear hg2 ho2 hrun hown3 hbel3
        repeat' (first | with_reducible (first | refine wE_seq (fun K hK => ?_) | refine wE_block ?_ | refine wE_skip ?_ | refine wE_ret ?_ | refine wE_exit ?_) | ((with_reducible refine wE_region ?_ ?_); (kernel_rfl); simp only [ls, stripO]) | ((with_reducible refine wS_step (fun K hK => ?_)); simp [go_sem, lk, upd, envOf, stepS_value, stepS_skip, stepS_enter, ↓IntWalk.iteOmega, *]; (try go_ints); refine hK.out _ _ ?_; clear hK K) | ((with_reducible refine wS_unit (fun K hK => ?_)); simp [go_sem, lk, upd, envOf, stepS_value, stepS_skip, stepS_enter, ↓IntWalk.iteOmega, *]; (try go_ints); refine hK.out _ _ ?_; clear hK K) | ((with_reducible refine wS_skip ?_ ?_); (focus (simp [lk, upd, envOf, *]; done))) | ((with_reducible refine wS_want ?_ ?_); (focus (simp [lk, upd, envOf, *]; done))) | ((with_reducible refine wS_split (fun hc => ?_) (fun hc => ?_)) <;> simp [lk, upd, envOf, *] at hc <;> try (exfalso; omega)) | with_reducible refine wS_nil ?_ | simp only [thenE, blockE, ↓reduceIte, Nat.reduceEqDiff] | ((with_reducible refine hK.out _ _ ?_); clear hK K) | ((with_reducible refine wE_if ?_ (fun hc => ?_) (fun hc => ?_)); (focus (simp [lk, upd, envOf, *]; done)); all_goals (simp [lk, upd, envOf, *] at hc <;> try (exfalso; omega))) | (clear hK; clear K))
        refine wS_append v (.slice (some ⟨w2.heap.size, 0, none⟩) 1 1) ?_ ?_ HRN.out ?_
        · simp [evalS_tmp, upd, *]
        · simp [evalS_tmp, upd]
        repeat' (first | with_reducible (first | refine wE_seq (fun K hK => ?_) | refine wE_block ?_ | refine wE_skip ?_ | refine wE_ret ?_ | refine wE_exit ?_) | ((with_reducible refine wE_region ?_ ?_); (kernel_rfl); simp only [ls, stripO]) | ((with_reducible refine wS_step (fun K hK => ?_)); simp [go_sem, lk, upd, envOf, stepS_value, stepS_skip, stepS_enter, ↓IntWalk.iteOmega, *]; (try go_ints); refine hK.out _ _ ?_; clear hK K) | ((with_reducible refine wS_unit (fun K hK => ?_)); simp [go_sem, lk, upd, envOf, stepS_value, stepS_skip, stepS_enter, ↓IntWalk.iteOmega, *]; (try go_ints); refine hK.out _ _ ?_; clear hK K) | ((with_reducible refine wS_skip ?_ ?_); (focus (simp [lk, upd, envOf, *]; done))) | ((with_reducible refine wS_want ?_ ?_); (focus (simp [lk, upd, envOf, *]; done))) | ((with_reducible refine wS_split (fun hc => ?_) (fun hc => ?_)) <;> simp [lk, upd, envOf, *] at hc <;> try (exfalso; omega)) | with_reducible refine wS_nil ?_ | simp only [thenE, blockE, ↓reduceIte, Nat.reduceEqDiff] | ((with_reducible refine hK.out _ _ ?_); clear hK K) | ((with_reducible refine wE_if ?_ (fun hc => ?_) (fun hc => ?_)); (focus (simp [lk, upd, envOf, *]; done)); all_goals (simp [lk, upd, envOf, *] at hc <;> try (exfalso; omega))) | (clear hK; clear K))
        refine ⟨k + 1 + n, ⟨by simp [upd, *], ?_, f', bs ++ [b], HI'.out, ?_, HG3.out⟩, by omega⟩
        · simp [upd]; omega
        · simpa [upd] using HO3.out
    · have t92 : ((s[k].toNat : Int) == 92) = false := beq_f (by omega)
      obtain ⟨f', hI'⟩ := HI.out.plain HD.out c34 c92
      have HI' := Lib.hid hI'
      obtain ⟨v', w3, hrun, hown3, hbel3⟩ := app_u8 w1 w.heap.size v bs [s[k]] #[.int .u8 (s[k].toNat : Int)] 1 HO.out rfl rfl (by simp; omega) hws
      have HRN := Lib.hid hrun
      have HO3 := Lib.hid hown3
      have HG3 := Lib.hid (HG.out.trans' hbel3)
      clear hI' hrun hown3 hbel3 c34 c92
      repeat' (first | with_reducible (first | refine wE_seq (fun K hK => ?_) | refine wE_block ?_ | refine wE_skip ?_ | refine wE_ret ?_ | refine wE_exit ?_) | ((with_reducible refine wE_region ?_ ?_); (kernel_rfl); simp only [ls, stripO]) | ((with_reducible refine wS_step (fun K hK => ?_)); simp [go_sem, lk, upd, envOf, stepS_value, stepS_skip, stepS_enter, ↓IntWalk.iteOmega, *]; (try go_ints); refine hK.out _ _ ?_; clear hK K) | ((with_reducible refine wS_unit (fun K hK => ?_)); simp [go_sem, lk, upd, envOf, stepS_value, stepS_skip, stepS_enter, ↓IntWalk.iteOmega, *]; (try go_ints); refine hK.out _ _ ?_; clear hK K) | ((with_reducible refine wS_skip ?_ ?_); (focus (simp [lk, upd, envOf, *]; done))) | ((with_reducible refine wS_want ?_ ?_); (focus (simp [lk, upd, envOf, *]; done))) | ((with_reducible refine wS_split (fun hc => ?_) (fun hc => ?_)) <;> simp [lk, upd, envOf, *] at hc <;> try (exfalso; omega)) | with_reducible refine wS_nil ?_ | simp only [thenE, blockE, ↓reduceIte, Nat.reduceEqDiff] | ((with_reducible refine hK.out _ _ ?_); clear hK K) | ((with_reducible refine wE_if ?_ (fun hc => ?_) (fun hc => ?_)); (focus (simp [lk, upd, envOf, *]; done)); all_goals (simp [lk, upd, envOf, *] at hc <;> try (exfalso; omega))) | (clear hK; clear K))
      refine wS_append v (.slice (some ⟨w1.heap.size, 0, none⟩) 1 1) ?_ ?_ HRN.out ?_
      · simp [evalS_tmp, upd, *]
      · simp [evalS_tmp, upd]
      repeat' (first | with_reducible (first | refine wE_seq (fun K hK => ?_) | refine wE_block ?_ | refine wE_skip ?_ | refine wE_ret ?_ | refine wE_exit ?_) | ((with_reducible refine wE_region ?_ ?_); (kernel_rfl); simp only [ls, stripO]) | ((with_reducible refine wS_step (fun K hK => ?_)); simp [go_sem, lk, upd, envOf, stepS_value, stepS_skip, stepS_enter, ↓IntWalk.iteOmega, *]; (try go_ints); refine hK.out _ _ ?_; clear hK K) | ((with_reducible refine wS_unit (fun K hK => ?_)); simp [go_sem, lk, upd, envOf, stepS_value, stepS_skip, stepS_enter, ↓IntWalk.iteOmega, *]; (try go_ints); refine hK.out _ _ ?_; clear hK K) | ((with_reducible refine wS_skip ?_ ?_); (focus (simp [lk, upd, envOf, *]; done))) | ((with_reducible refine wS_want ?_ ?_); (focus (simp [lk, upd, envOf, *]; done))) | ((with_reducible refine wS_split (fun hc => ?_) (fun hc => ?_)) <;> simp [lk, upd, envOf, *] at hc <;> try (exfalso; omega)) | with_reducible refine wS_nil ?_ | simp only [thenE, blockE, ↓reduceIte, Nat.reduceEqDiff] | ((with_reducible refine hK.out _ _ ?_); clear hK K) | ((with_reducible refine wE_if ?_ (fun hc => ?_) (fun hc => ?_)); (focus (simp [lk, upd, envOf, *]; done)); all_goals (simp [lk, upd, envOf, *] at hc <;> try (exfalso; omega))) | (clear hK; clear K))
      refine ⟨k + 1, ⟨by simp [upd, *], by simp [upd], f', bs ++ [s[k]], HI'.out, ?_, HG3.out⟩, by omega⟩
      simpa [upd] using HO3.out
  · have HV := Lib.hid (HI.out.over (by have := HSZ.out; omega))
    repeat' (first | with_reducible (first | refine wE_seq (fun K hK => ?_) | refine wE_block ?_ | refine wE_skip ?_ | refine wE_ret ?_ | refine wE_exit ?_) | ((with_reducible refine wE_region ?_ ?_); (kernel_rfl); simp only [ls, stripO]) | ((with_reducible refine wS_step (fun K hK => ?_)); simp [go_sem, lk, upd, envOf, stepS_value, stepS_skip, stepS_enter, ↓IntWalk.iteOmega, *]; (try go_ints); refine hK.out _ _ ?_; clear hK K) | ((with_reducible refine wS_unit (fun K hK => ?_)); simp [go_sem, lk, upd, envOf, stepS_value, stepS_skip, stepS_enter, ↓IntWalk.iteOmega, *]; (try go_ints); refine hK.out _ _ ?_; clear hK K) | ((with_reducible refine wS_skip ?_ ?_); (focus (simp [lk, upd, envOf, *]; done))) | ((with_reducible refine wS_want ?_ ?_); (focus (simp [lk, upd, envOf, *]; done))) | ((with_reducible refine wS_split (fun hc => ?_) (fun hc => ?_)) <;> simp [lk, upd, envOf, *] at hc <;> try (exfalso; omega)) | with_reducible refine wS_nil ?_ | simp only [thenE, blockE, ↓reduceIte, Nat.reduceEqDiff] | ((with_reducible refine hK.out _ _ ?_); clear hK K) | ((with_reducible refine wE_if ?_ (fun hc => ?_) (fun hc => ?_)); (focus (simp [lk, upd, envOf, *]; done)); all_goals (simp [lk, upd, envOf, *] at hc <;> try (exfalso; omega))) | (clear hK; clear K))
    exact endE_tmp3 rfl ⟨HR.out _ (by rw [HV.out]; simp [upd]), HG.out⟩
end Go.Proofs.YtglekdhdogjnoaaGreatDoor
