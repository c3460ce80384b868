/- The reference's functions of layer 60, walked: each returns what its plain Lean function computes. -/
import Derived.Test.YtglekdhdogjnoaaGreatDoorRows
import Derived.Test.YtglekdhdogjnoaaGreatDoorPlain
import Derived.WalkKit
import Derived.WalkSpells
import Derived.WalkLawsBesides
import Derived.BigQuiet
import Derived.Deep.QuietTactic
namespace Go.Proofs.YtglekdhdogjnoaaGreatDoor
open Go.RowKit
theorem ret_str {a b : ByteArray} (h : a = b) : Ending.returned (.string a) = .returned (.string b) := by rw [h]
theorem ret_bool {a b : Bool} (h : a = b) : Ending.returned (.bool a) = .returned (.bool b) := by rw [h]
set_option maxHeartbeats 400000 in
theorem large_any (n : Int) (w : World) :
    Calls Tryz.prog 72 #[.int .i64 n] w fun e w' => e = .returned (.bool (largeB n)) ∧ w = w' := by
  go_enter Tryz.func72, Tryz.ntmps72
  go_wp2
  all_goals go_ret
  · exact ⟨rfl, rfl⟩
  · exact ⟨ret_bool (by simp [largeB, *]), rfl⟩
set_option maxHeartbeats 400000 in
theorem decimal_any (k : Nat) : ∀ (n : Int) (w : World), n.natAbs < k → -9223372036854775808 ≤ n → n ≤ 9223372036854775807 →
    Calls Tryz.prog 73 #[.int .i64 n] w fun e w' => e = .returned (.string (S (Lib.itoa n))) ∧ w = w' := by
  induction k with
  | zero => intro n w h; omega
  | succ k ih =>
    intro n w hk h0 h1
    have IH := Lib.hid ih; clear ih
    by_cases hn : 0 ≤ n
    · by_cases h10 : n < 10
      · have t1 : (n / 10 != 0) = false := by rw [bne_eq_false_iff_eq]; omega
        have HE := Lib.hid (itoa_one n hn h10)
        go_enter Tryz.func73, Tryz.ntmps73
        go_wp2_with fail
        go_ret
        refine ⟨ret_str ?_, rfl⟩
        rw [HE.out]
        simp only [show n % 10 = n by omega]
        exact dig_at n hn h10
      · have t1 : (n / 10 != 0) = true := by rw [bne_iff_ne]; omega
        have hl := itoa_le (n / 10) (by omega) (by omega)
        have hz : (S (Lib.itoa (n / 10))).size ≤ 20 := by rw [S_size]; exact hl
        have HE := Lib.hid (itoa_pos n (by omega))
        clear hl
        go_enter Tryz.func73, Tryz.ntmps73
        go_wp2_with fail
        refine (IH.out (n / 10) _ (by omega) (by omega) (by omega)).mono ?_
        rintro e w' ⟨rfl, rfl⟩
        go_wp2_with fail
        go_ret
        refine ⟨ret_str ?_, rfl⟩
        rw [HE.out, ← S_append, ← dig_at (n % 10) (by omega) (by omega)]
    · have d1 : n.tdiv 10 = -((-n) / 10) := by
        have := Int.neg_tdiv (-n) 10; rw [Int.neg_neg] at this; rw [this, Int.tdiv_eq_ediv_of_nonneg (by omega)]
      have d2 : n.tmod 10 = -((-n) % 10) := by
        have := Int.neg_tmod (-n) 10; rw [Int.neg_neg] at this; rw [this, Int.tmod_eq_emod_of_nonneg (by omega)]
      have b1 : n.tmod 10 ≤ 0 := by omega
      have b2 : -9 ≤ n.tmod 10 := by omega
      by_cases h10 : -10 < n
      · have t1 : (n.tdiv 10 != 0) = false := by rw [bne_eq_false_iff_eq]; omega
        have HE := Lib.hid (itoa_one_neg n (by omega) h10)
        have t2 : n.tmod 10 < 0 := by omega
        have t3 : -(n.tmod 10) = -n := by omega
        have D2 := Lib.hid t3
        clear d1 d2 t3
        go_enter Tryz.func73, Tryz.ntmps73
        go_wp2_with fail
        go_ret
        refine ⟨ret_str ?_, rfl⟩
        rw [HE.out, show [(45 : UInt8), UInt8.ofNat (48 + (-n).toNat)] = [45] ++ [UInt8.ofNat (48 + (-n).toNat)] from rfl, ← S_append, ← dig_at (-n) (by omega) (by omega), ← D2.out]
        rfl
      · have t1 : (n.tdiv 10 != 0) = true := by rw [bne_iff_ne]; omega
        have hl := itoa_le (n.tdiv 10) (by omega) (by omega)
        have hz : (S (Lib.itoa (n.tdiv 10))).size ≤ 20 := by rw [S_size]; exact hl
        have HE := Lib.hid (itoa_last n (by omega))
        have HN := Lib.hid (show (n.tmod 10).natAbs = (-(n.tmod 10)).toNat by omega)
        have B1 := Lib.hid (show (n.tdiv 10).natAbs < k by omega)
        have B2 : -9223372036854775808 ≤ n.tdiv 10 := by omega
        have B3 : n.tdiv 10 ≤ 0 := by omega
        clear hl d1 d2
        by_cases t2 : n.tmod 10 < 0
        · go_enter Tryz.func73, Tryz.ntmps73
          go_wp2_with fail
          refine (IH.out (n.tdiv 10) _ B1.out B2 (by omega)).mono ?_
          rintro e w' ⟨rfl, rfl⟩
          go_wp2_with fail
          go_ret
          refine ⟨ret_str ?_, rfl⟩
          rw [HE.out, HN.out, ← S_append, ← dig_at (-(n.tmod 10)) (by omega) (by omega)]
        · have HZ := Lib.hid (show n.tmod 10 = 0 by omega)
          go_enter Tryz.func73, Tryz.ntmps73
          go_wp2_with fail
          refine (IH.out (n.tdiv 10) _ B1.out B2 (by omega)).mono ?_
          rintro e w' ⟨rfl, rfl⟩
          go_wp2_with fail
          go_ret
          refine ⟨ret_str ?_, rfl⟩
          rw [HE.out, HN.out, ← S_append, HZ.out, ← dig_at (-0) (by omega) (by omega)]
          rfl
theorem vstr {a b : ByteArray} (h : a = b) : Value.string a = Value.string b := by rw [h]
set_option maxHeartbeats 1000000 in
theorem Quote_any (s : ByteArray) (w : World) (hs : s.size ≤ 1000000) :
    Calls Tryz.prog 50 #[.string s] w fun e w' => e = .returned (.string (S (quoteL s.data.toList))) ∧ ∃ n, w' = w.drewN n := by
  have Hpost : Hid (∀ k, s.size ≤ k → qs s k ++ ⟨#[34]⟩ = S (quoteL s.data.toList)) := qs_end s
  generalize S (quoteL s.data.toList) = R at *
  go_enter Tryz.func50, Tryz.ntmps50
  go_wp2_with fail
  go_loopw [3, 4] (fun o i w' => ∃ k n : Nat, k ≤ s.size ∧ i = .int .i64 k ∧ o = .string (qs s k) ∧ w' = w.drewN n) (fun _ i _ => s.size - (intOf i).toNat)
  case atStart => exact ⟨0, 0, Nat.zero_le _, rfl, rfl, rfl⟩
  case round =>
    obtain ⟨k, n, hk, rfl, rfl, rfl⟩ := hrel
    have hz := qs_size s k
    by_cases hlt : k < s.size
    · have hc : s[k].toNat < 256 := s[k].toNat_lt
      by_cases c1 : s[k].toNat = 34
      · have t1 : ((s[k].toNat : Int) == 34) = true := beq_t (by omega)
        have HQ := Lib.hid (qs1 s k hlt (Or.inl c1))
        clear c1
        go_wp2_with fail
        go_roundw
        case rel => exact ⟨k + 1, n, by omega, by go_num, vstr HQ.out, rfl⟩
        case measure => simp [intOf]; omega
      · have t1 : ((s[k].toNat : Int) == 34) = false := beq_f (by omega)
        by_cases c2 : s[k].toNat = 92
        · have t2 : ((s[k].toNat : Int) == 92) = true := beq_t (by omega)
          have HQ := Lib.hid (qs1 s k hlt (Or.inr c2))
          clear c1 c2
          go_wp2_with fail
          go_roundw
          case rel => exact ⟨k + 1, n, by omega, by go_num, vstr HQ.out, rfl⟩
          case measure => simp [intOf]; omega
        · have t2 : ((s[k].toNat : Int) == 92) = false := beq_f (by omega)
          by_cases c3 : s[k].toNat = 10
          · have t3 : ((s[k].toNat : Int) == 10) = true := beq_t (by omega)
            have HQ := Lib.hid (qs2 s k hlt c3)
            clear c1 c2 c3
            go_wp2_with fail
            go_roundw
            case rel => exact ⟨k + 1, n, by omega, by go_num, vstr HQ.out, rfl⟩
            case measure => simp [intOf]; omega
          · have t3 : ((s[k].toNat : Int) == 10) = false := beq_f (by omega)
            by_cases c4 : s[k].toNat < 32 ∨ 126 < s[k].toNat
            · have HQ := Lib.hid (qs3 s k hlt c3 c4)
              clear c1 c2 c3
              by_cases c5 : s[k].toNat < 32
              · clear c4
                go_wp2_with fail
                go_quiet (fail)
                go_wp2_with fail
                go_roundw
                case rel => exact ⟨k + 1, _, by omega, by go_num, vstr HQ.out, rfl⟩
                case measure => simp [intOf]; omega
              · have c6 : 126 < s[k].toNat := by omega
                clear c4
                go_wp2_with fail
                go_quiet (fail)
                go_wp2_with fail
                go_roundw
                case rel => exact ⟨k + 1, _, by omega, by go_num, vstr HQ.out, rfl⟩
                case measure => simp [intOf]; omega
            · have HQ := Lib.hid (qs4 s k hlt c1 c2 c3 c4)
              have c5 : ¬ s[k].toNat < 32 := by omega
              have c6 : ¬ 126 < s[k].toNat := by omega
              clear c1 c2 c3 c4
              go_wp2_with fail
              go_roundw
              case rel => exact ⟨k + 1, n, by omega, by go_num, vstr HQ.out, rfl⟩
              case measure => simp [intOf]; omega
    · go_wp2_with fail
      go_ret
      exact ⟨ret_str (Hpost.out k (by omega)), n, rfl⟩
/-- A slice of ints reads as a list. -/
def IntsAt (w : World) (v : Value) (xs : List Int) : Prop :=
  ∃ a c, v = .slice a xs.length c ∧ xs.length ≤ c ∧ (∀ x ∈ xs, I64 x) ∧ (xs = [] ∨ ∃ b o, a = some ⟨b, o, none⟩ ∧ ∀ j x, xs[j]? = some x → w.cell? ⟨b, o + j, none⟩ = some (.int .i64 x))
set_option maxHeartbeats 1000000 in
theorem numbers_any (v : Value) (xs : List Int) (w : World) (hv : IntsAt w v xs) (hl : xs.length ≤ 1000) :
    Calls Tryz.prog 51 #[v] w fun e w' => e = .returned (.string (S (numsL xs))) ∧ w = w' := by
  obtain ⟨a, c, rfl, hc, hr, hcell⟩ := hv
  have HZ := Lib.hid (ns_size xs hr)
  have HR := Lib.hid hr
  have HC := Lib.hid hcell
  have HE := Lib.hid (ns_end xs)
  generalize S (numsL xs) = R at *
  clear hr hcell
  go_enter Tryz.func51, Tryz.ntmps51
  go_wp2_with fail
  go_loop [3, 4] (fun o i => ∃ k : Nat, k ≤ xs.length ∧ i = .int .i64 k ∧ o = .string (ns xs k)) (fun _ i => xs.length - (intOf i).toNat)
  case atStart => exact ⟨0, Nat.zero_le _, rfl, rfl⟩
  case round =>
    obtain ⟨k, hk, rfl, rfl⟩ := hrel
    by_cases hlt : k < xs.length
    · obtain ⟨x, hx⟩ : ∃ x, xs[k]? = some x := ⟨_, List.getElem?_eq_getElem hlt⟩
      rcases HC.out with h | ⟨b, o, rfl, hcell⟩
      · rw [h] at hlt; simp at hlt
      have hcx := hcell k x hx
      have hxr := HR.out x (List.mem_of_getElem? hx)
      have hz := HZ.out k
      have hz2 : (S (Lib.itoa x)).size ≤ 20 := by rw [S_size]; exact itoa_le x hxr.1 hxr.2
      have HS := Lib.hid (ns_succ xs k x hx)
      have HX := Lib.hid hxr
      clear hx hxr hcell
      go_wp2_with fail
      refine (decimal_any (x.natAbs + 1) x _ (by omega) HX.out.1 HX.out.2).mono ?_
      rintro e w' ⟨rfl, rfl⟩
      go_wp2_with fail
      go_round
      case rel => exact ⟨k + 1, by omega, by go_num, vstr HS.out⟩
      case measure => simp [intOf]; omega
    · go_wp2_with fail
      go_ret
      exact ⟨ret_str (HE.out k (by omega)), rfl⟩
end Go.Proofs.YtglekdhdogjnoaaGreatDoor
