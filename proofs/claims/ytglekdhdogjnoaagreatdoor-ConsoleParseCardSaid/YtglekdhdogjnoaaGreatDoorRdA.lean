/- The reference's hex, quoted and number, walked. -/
import Derived.Test.YtglekdhdogjnoaaGreatDoorParseLaw
import Derived.Test.YtglekdhdogjnoaaGreatDoorRefB
namespace Go.Proofs.YtglekdhdogjnoaaGreatDoor
open Go.RowKit
set_option linter.unusedSimpArgs false
def hexR (c : UInt8) : Int := match hexV c with | some n => (n : Int) | none => 16
theorem hexV_lt {c : UInt8} {n : Nat} (h : hexV c = some n) : n < 16 := by
  unfold hexV at h
  split at h
  · simp at h; omega
  · split at h
    · simp at h; omega
    · simp at h
theorem hexR_range (c : UInt8) : 0 ≤ hexR c ∧ hexR c ≤ 16 := by
  unfold hexR
  cases h : hexV c with
  | none => simp
  | some n => have := hexV_lt h; simp only; omega
theorem hexPair_R (a b : UInt8) (r : List UInt8) : hexPair (a :: b :: r) = if hexR a < 16 ∧ hexR b < 16 then some (UInt8.ofNat (16 * (hexR a).toNat + (hexR b).toNat)) else none := by
  have key : hexPair (a :: b :: r) = match hexV a, hexV b with | some x, some y => some (UInt8.ofNat (16 * x + y)) | _, _ => none := rfl
  obtain ⟨x, ha⟩ : ∃ x, hexV a = x := ⟨_, rfl⟩
  obtain ⟨y, hb⟩ : ∃ y, hexV b = y := ⟨_, rfl⟩
  rw [key]
  simp only [hexR, ha, hb]
  cases x with
  | none => simp
  | some m =>
    cases y with
    | none => simp
    | some n =>
      have := hexV_lt ha
      have := hexV_lt hb
      simp only
      rw [if_pos (by omega)]
      simp
set_option maxHeartbeats 1000000 in
theorem hex_any (c : UInt8) (w : World) : Calls Tryz.prog 69 #[.int .u8 (c.toNat : Int)] w fun e w' => e = .returned (.int .i64 (hexR c)) ∧ w = w' := by
  have hlt := c.toNat_lt
  by_cases h1 : 48 ≤ c.toNat ∧ c.toNat ≤ 57
  · have HV := Lib.hid (show hexR c = (c.toNat : Int) - 48 by unfold hexR hexV; rw [if_pos h1]; simp only; omega)
    obtain ⟨a1, a2⟩ := h1
    refine calls_of_wE Tryz.func69 rfl Tryz.ntmps69 (by simp) ?_
    repeat' (first | with_reducible (first | refine wE_seq (fun K hK => ?_) | refine wE_block ?_ | refine wE_skip ?_ | refine wE_ret ?_ | refine wE_exit ?_) | ((with_reducible refine wE_region ?_ ?_); (kernel_rfl); simp only [ls, stripO]) | ((with_reducible refine wS_step (fun K hK => ?_)); simp [go_sem, lk, upd, envOf, stepS_value, stepS_skip, stepS_enter, ↓IntWalk.iteOmega, *]; (try go_ints); refine hK.out _ _ ?_; clear hK K) | ((with_reducible refine wS_unit (fun K hK => ?_)); simp [go_sem, lk, upd, envOf, stepS_value, stepS_skip, stepS_enter, ↓IntWalk.iteOmega, *]; (try go_ints); refine hK.out _ _ ?_; clear hK K) | ((with_reducible refine wS_skip ?_ ?_); (focus (simp [lk, upd, envOf, *]; done))) | ((with_reducible refine wS_want ?_ ?_); (focus (simp [lk, upd, envOf, *]; done))) | ((with_reducible refine wS_split (fun hc => ?_) (fun hc => ?_)) <;> simp [lk, upd, envOf, *] at hc <;> try (exfalso; omega)) | with_reducible refine wS_nil ?_ | simp only [thenE, blockE, ↓reduceIte, Nat.reduceEqDiff] | ((with_reducible refine hK.out _ _ ?_); clear hK K) | ((with_reducible refine wE_if ?_ (fun hc => ?_) (fun hc => ?_)); (focus (simp [lk, upd, envOf, *]; done)); all_goals (simp [lk, upd, envOf, *] at hc <;> try (exfalso; omega))) | (clear hK; clear K))
    refine endE_tmp rfl ⟨?_, rfl⟩
    simp [upd, HV.out]
  by_cases h2 : 97 ≤ c.toNat ∧ c.toNat ≤ 102
  · have HV := Lib.hid (show hexR c = (c.toNat : Int) - 87 by unfold hexR hexV; rw [if_neg h1, if_pos h2]; simp only; omega)
    obtain ⟨a1, a2⟩ := h2
    clear h1
    refine calls_of_wE Tryz.func69 rfl Tryz.ntmps69 (by simp) ?_
    repeat' (first | with_reducible (first | refine wE_seq (fun K hK => ?_) | refine wE_block ?_ | refine wE_skip ?_ | refine wE_ret ?_ | refine wE_exit ?_) | ((with_reducible refine wE_region ?_ ?_); (kernel_rfl); simp only [ls, stripO]) | ((with_reducible refine wS_step (fun K hK => ?_)); simp [go_sem, lk, upd, envOf, stepS_value, stepS_skip, stepS_enter, ↓IntWalk.iteOmega, *]; (try go_ints); refine hK.out _ _ ?_; clear hK K) | ((with_reducible refine wS_unit (fun K hK => ?_)); simp [go_sem, lk, upd, envOf, stepS_value, stepS_skip, stepS_enter, ↓IntWalk.iteOmega, *]; (try go_ints); refine hK.out _ _ ?_; clear hK K) | ((with_reducible refine wS_skip ?_ ?_); (focus (simp [lk, upd, envOf, *]; done))) | ((with_reducible refine wS_want ?_ ?_); (focus (simp [lk, upd, envOf, *]; done))) | ((with_reducible refine wS_split (fun hc => ?_) (fun hc => ?_)) <;> simp [lk, upd, envOf, *] at hc <;> try (exfalso; omega)) | with_reducible refine wS_nil ?_ | simp only [thenE, blockE, ↓reduceIte, Nat.reduceEqDiff] | ((with_reducible refine hK.out _ _ ?_); clear hK K) | ((with_reducible refine wE_if ?_ (fun hc => ?_) (fun hc => ?_)); (focus (simp [lk, upd, envOf, *]; done)); all_goals (simp [lk, upd, envOf, *] at hc <;> try (exfalso; omega))) | (clear hK; clear K))
    refine endE_tmp rfl ⟨?_, rfl⟩
    simp [upd, HV.out]; omega
  · have HV := Lib.hid (show hexR c = 16 by unfold hexR hexV; rw [if_neg h1, if_neg h2])
    by_cases a1 : 48 ≤ c.toNat
    · have a2 : ¬ c.toNat ≤ 57 := fun h => h1 ⟨a1, h⟩
      clear h1
      by_cases b1 : 97 ≤ c.toNat
      · have b2 : ¬ c.toNat ≤ 102 := fun h => h2 ⟨b1, h⟩
        clear h2
        refine calls_of_wE Tryz.func69 rfl Tryz.ntmps69 (by simp) ?_
        repeat' (first | with_reducible (first | refine wE_seq (fun K hK => ?_) | refine wE_block ?_ | refine wE_skip ?_ | refine wE_ret ?_ | refine wE_exit ?_) | ((with_reducible refine wE_region ?_ ?_); (kernel_rfl); simp only [ls, stripO]) | ((with_reducible refine wS_step (fun K hK => ?_)); simp [go_sem, lk, upd, envOf, stepS_value, stepS_skip, stepS_enter, ↓IntWalk.iteOmega, *]; (try go_ints); refine hK.out _ _ ?_; clear hK K) | ((with_reducible refine wS_unit (fun K hK => ?_)); simp [go_sem, lk, upd, envOf, stepS_value, stepS_skip, stepS_enter, ↓IntWalk.iteOmega, *]; (try go_ints); refine hK.out _ _ ?_; clear hK K) | ((with_reducible refine wS_skip ?_ ?_); (focus (simp [lk, upd, envOf, *]; done))) | ((with_reducible refine wS_want ?_ ?_); (focus (simp [lk, upd, envOf, *]; done))) | ((with_reducible refine wS_split (fun hc => ?_) (fun hc => ?_)) <;> simp [lk, upd, envOf, *] at hc <;> try (exfalso; omega)) | with_reducible refine wS_nil ?_ | simp only [thenE, blockE, ↓reduceIte, Nat.reduceEqDiff] | ((with_reducible refine hK.out _ _ ?_); clear hK K) | ((with_reducible refine wE_if ?_ (fun hc => ?_) (fun hc => ?_)); (focus (simp [lk, upd, envOf, *]; done)); all_goals (simp [lk, upd, envOf, *] at hc <;> try (exfalso; omega))) | (clear hK; clear K))
        exact endE_tmp rfl ⟨by simp [upd, HV.out], rfl⟩
      · clear h2
        refine calls_of_wE Tryz.func69 rfl Tryz.ntmps69 (by simp) ?_
        repeat' (first | with_reducible (first | refine wE_seq (fun K hK => ?_) | refine wE_block ?_ | refine wE_skip ?_ | refine wE_ret ?_ | refine wE_exit ?_) | ((with_reducible refine wE_region ?_ ?_); (kernel_rfl); simp only [ls, stripO]) | ((with_reducible refine wS_step (fun K hK => ?_)); simp [go_sem, lk, upd, envOf, stepS_value, stepS_skip, stepS_enter, ↓IntWalk.iteOmega, *]; (try go_ints); refine hK.out _ _ ?_; clear hK K) | ((with_reducible refine wS_unit (fun K hK => ?_)); simp [go_sem, lk, upd, envOf, stepS_value, stepS_skip, stepS_enter, ↓IntWalk.iteOmega, *]; (try go_ints); refine hK.out _ _ ?_; clear hK K) | ((with_reducible refine wS_skip ?_ ?_); (focus (simp [lk, upd, envOf, *]; done))) | ((with_reducible refine wS_want ?_ ?_); (focus (simp [lk, upd, envOf, *]; done))) | ((with_reducible refine wS_split (fun hc => ?_) (fun hc => ?_)) <;> simp [lk, upd, envOf, *] at hc <;> try (exfalso; omega)) | with_reducible refine wS_nil ?_ | simp only [thenE, blockE, ↓reduceIte, Nat.reduceEqDiff] | ((with_reducible refine hK.out _ _ ?_); clear hK K) | ((with_reducible refine wE_if ?_ (fun hc => ?_) (fun hc => ?_)); (focus (simp [lk, upd, envOf, *]; done)); all_goals (simp [lk, upd, envOf, *] at hc <;> try (exfalso; omega))) | (clear hK; clear K))
        exact endE_tmp rfl ⟨by simp [upd, HV.out], rfl⟩
    · have b1 : ¬ 97 ≤ c.toNat := by omega
      clear h1 h2
      refine calls_of_wE Tryz.func69 rfl Tryz.ntmps69 (by simp) ?_
      repeat' (first | with_reducible (first | refine wE_seq (fun K hK => ?_) | refine wE_block ?_ | refine wE_skip ?_ | refine wE_ret ?_ | refine wE_exit ?_) | ((with_reducible refine wE_region ?_ ?_); (kernel_rfl); simp only [ls, stripO]) | ((with_reducible refine wS_step (fun K hK => ?_)); simp [go_sem, lk, upd, envOf, stepS_value, stepS_skip, stepS_enter, ↓IntWalk.iteOmega, *]; (try go_ints); refine hK.out _ _ ?_; clear hK K) | ((with_reducible refine wS_unit (fun K hK => ?_)); simp [go_sem, lk, upd, envOf, stepS_value, stepS_skip, stepS_enter, ↓IntWalk.iteOmega, *]; (try go_ints); refine hK.out _ _ ?_; clear hK K) | ((with_reducible refine wS_skip ?_ ?_); (focus (simp [lk, upd, envOf, *]; done))) | ((with_reducible refine wS_want ?_ ?_); (focus (simp [lk, upd, envOf, *]; done))) | ((with_reducible refine wS_split (fun hc => ?_) (fun hc => ?_)) <;> simp [lk, upd, envOf, *] at hc <;> try (exfalso; omega)) | with_reducible refine wS_nil ?_ | simp only [thenE, blockE, ↓reduceIte, Nat.reduceEqDiff] | ((with_reducible refine hK.out _ _ ?_); clear hK K) | ((with_reducible refine wE_if ?_ (fun hc => ?_) (fun hc => ?_)); (focus (simp [lk, upd, envOf, *]; done)); all_goals (simp [lk, upd, envOf, *] at hc <;> try (exfalso; omega))) | (clear hK; clear K))
      exact endE_tmp rfl ⟨by simp [upd, HV.out], rfl⟩
def unqVR (l : List UInt8) : Value := match unqF unescR (l.length + 1) l with | some (t, r) => .tuple #[.string (S t), .int .i64 ((l.length : Int) - r.length), .bool true] | none => .tuple #[.string ⟨#[]⟩, .int .i64 0, .bool false]
theorem unescR_le {l : List UInt8} {b : UInt8} {n : Nat} (h : unescR l = some (b, n)) : 1 ≤ n ∧ n ≤ 3 ∧ n ≤ l.length := by
  unfold unescR at h
  cases l with
  | nil => simp at h
  | cons c r =>
    simp only at h
    split at h
    · simp at h; obtain ⟨-, rfl⟩ := h; simp
    · split at h
      · rename_i b' hb
        split at hb
        · simp at h; obtain ⟨-, rfl⟩ := h
          unfold hexPair at hb
          match r, hb with
          | [], hb => simp at hb
          | [a], hb => simp at hb
          | a :: b :: r, hb => simp
        · simp at hb
      · simp at h; obtain ⟨-, rfl⟩ := h; simp
theorem drop_atR (s : ByteArray) (k : Nat) (h : k < s.size) : s.data.toList.drop k = s[k] :: s.data.toList.drop (k + 1) := by
  have h' : k < s.data.toList.length := by simpa using h
  rw [show s[k] = s.data.toList[k]'h' from rfl]
  exact List.drop_eq_getElem_cons h'
structure UrInv (l : List UInt8) (k f : Nat) (bs : List UInt8) : Prop where
  eq : unqF unescR (l.length + 1) l = (unqF unescR f (l.drop k)).map fun x => (bs ++ x.1, x.2)
  fuel : (l.drop k).length < f
  le : bs.length ≤ k
  k : k ≤ l.length
theorem UrInv.start (l : List UInt8) : UrInv l 0 (l.length + 1) [] := by
  refine ⟨?_, by simp, by simp, by omega⟩
  rw [List.drop_zero]
  cases unqF unescR (l.length + 1) l <;> simp
theorem UrInv.plain {l : List UInt8} {k f : Nat} {bs : List UInt8} {c : UInt8} (h : UrInv l k f bs) (hd : l.drop k = c :: l.drop (k + 1)) (h1 : ¬ c.toNat = 34) (h2 : ¬ c.toNat = 92) : ∃ f', UrInv l (k + 1) f' (bs ++ [c]) := by
  have hf := h.fuel
  have hlt : k < l.length := by
    rcases Nat.lt_or_ge k l.length with h | h
    · exact h
    · rw [List.drop_eq_nil_of_le h] at hd; simp at hd
  cases f with
  | zero => omega
  | succ f =>
    refine ⟨f, ?_, by rw [hd] at hf; simpa using hf, by have := h.le; simp; omega, by omega⟩
    rw [h.eq, hd]
    simp only [unqF, h1, h2, if_false]
    cases unqF unescR f (l.drop (k + 1)) <;> simp
theorem UrInv.esc {l : List UInt8} {k f : Nat} {bs : List UInt8} {c b : UInt8} {n : Nat} (h : UrInv l k f bs) (hd : l.drop k = c :: l.drop (k + 1)) (h2 : c.toNat = 92) (hu : unescR (l.drop (k + 1)) = some (b, n)) : ∃ f', UrInv l (k + 1 + n) f' (bs ++ [b]) := by
  have hf := h.fuel
  obtain ⟨n1, n3, nl⟩ := unescR_le hu
  have hlt : k < l.length := by
    rcases Nat.lt_or_ge k l.length with h | h
    · exact h
    · rw [List.drop_eq_nil_of_le h] at hd; simp at hd
  have h1 : ¬ c.toNat = 34 := by omega
  cases f with
  | zero => omega
  | succ f =>
    rw [List.length_drop] at nl
    refine ⟨f, ?_, by rw [hd] at hf; simp only [List.length_cons, List.length_drop] at hf ⊢; omega, by have := h.le; simp; omega, by omega⟩
    rw [h.eq, hd]
    simp only [unqF, h1, h2, if_false, if_true, hu, List.drop_drop]
    cases unqF unescR f (l.drop (k + 1 + n)) <;> simp
theorem UrInv.stuck {l : List UInt8} {k f : Nat} {bs : List UInt8} {c : UInt8} (h : UrInv l k f bs) (hd : l.drop k = c :: l.drop (k + 1)) (h2 : c.toNat = 92) (hu : l.length ≤ k + 1) : unqVR l = .tuple #[.string ⟨#[]⟩, .int .i64 0, .bool false] := by
  have hf := h.fuel
  have h1 : ¬ c.toNat = 34 := by omega
  cases f with
  | zero => omega
  | succ f =>
    unfold unqVR
    rw [h.eq, hd, List.drop_eq_nil_of_le hu]
    simp only [unqF, h1, h2, if_false, if_true, unescR, Option.map_none, Nat.reduceEqDiff]
theorem UrInv.quote {l : List UInt8} {k f : Nat} {bs : List UInt8} {c : UInt8} (h : UrInv l k f bs) (hd : l.drop k = c :: l.drop (k + 1)) (h2 : c.toNat = 34) : unqVR l = .tuple #[.string (S bs), .int .i64 ((k : Int) + 1), .bool true] := by
  have hf := h.fuel
  have hlt : k < l.length := by
    rcases Nat.lt_or_ge k l.length with h | h
    · exact h
    · rw [List.drop_eq_nil_of_le h] at hd; simp at hd
  cases f with
  | zero => omega
  | succ f =>
    unfold unqVR
    rw [h.eq, hd]
    simp only [unqF, h2, if_true, Option.map_some, List.append_nil, List.length_drop]
    congr 3
    simp; omega
theorem UrInv.over {l : List UInt8} {k f : Nat} {bs : List UInt8} (h : UrInv l k f bs) (hk : l.length ≤ k) : unqVR l = .tuple #[.string ⟨#[]⟩, .int .i64 0, .bool false] := by
  have hf := h.fuel
  cases f with
  | zero => omega
  | succ f =>
    unfold unqVR
    rw [h.eq, List.drop_eq_nil_of_le hk]
    simp only [unqF, Option.map_none]
/-- A row of one byte. -/
def ByteAt (b : Int) (v : Value) (w : World) : Prop := ∃ g, v = .slice (some ⟨g, 0, none⟩) 1 1 ∧ w.cell? ⟨g, 0, none⟩ = some (.int .u8 b)
theorem ByteAt.st (b : Int) : ∀ v w w', Grow w w' → ByteAt b v w → ByteAt b v w' := by
  rintro v w w' h ⟨g, rfl, hc⟩
  exact ⟨g, rfl, Keeps.of_below h _ _ hc⟩
theorem conv_byte (b : Int) (c : UInt8) (hb : b = (c.toNat : Int)) (v : Value) (w : World) (h : ByteAt b v w) : (convert 99 9 v).run Tryz.prog w = .ok (.string (S [c])) w := by
  obtain ⟨g, rfl, hc⟩ := h
  subst hb
  rw [run_convert_bytes_arg (P := Tryz.prog) w 99 5 Tryz.underlying99 Tryz.underlying5 g 0 1 1 [(c.toNat : Int)] rfl (fun i hi => by
    have : i = 0 := by omega
    subst this; simpa using hc) 9 Tryz.underlying9]
  refine congrArg (fun x => Result.ok (Value.string x) w) ?_
  simp [strOfNums, S]
theorem S_snoc (s : ByteArray) (k : Nat) (h : k < s.size) (bs : List UInt8) : S bs ++ s.extract k (k + 1) = S (bs ++ [s[k]]) := by
  rw [ext_one s k h, S_append]
end Go.Proofs.YtglekdhdogjnoaaGreatDoor
