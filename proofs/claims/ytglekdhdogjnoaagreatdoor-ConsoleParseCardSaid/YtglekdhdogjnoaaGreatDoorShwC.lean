/- The program's Show. -/
import Derived.Test.YtglekdhdogjnoaaGreatDoorShwB
namespace Go.Proofs.YtglekdhdogjnoaaGreatDoor
open Go.RowKit
set_option linter.unusedSimpArgs false
abbrev rd (O : POut) (k : Nat) : POut := ⟨O.err, O.id, O.events.take k⟩
/-- The words of an outcome, up to its k-th event. -/
def wds (A : PAct) (O : POut) (k : Nat) : List ByteArray := S (wordL A.kind) :: (outWords (rd O k)).map S
theorem wds_succ (A : PAct) (O : POut) (k : Nat) (e : PEvent) (h : O.events[k]? = some e) : wds A O (k + 1) = wds A O k ++ [S (evWordL e.kind)] ++ [itoaS e.change] ++ (withWords e.with_).map S := by
  unfold wds outWords
  rw [flat_take_succ evWords O.events k e h]
  simp [evWords, itoaS]
theorem wds_zero (A : PAct) (O : POut) : wds A O 0 = S (wordL A.kind) :: (errWords O.err ++ idWords O.id).map S := by
  simp [wds, outWords]
theorem evWords_len (e : PEvent) : (evWords e).length ≤ 3 + e.with_.length := by
  simp only [evWords, withWords, List.length_cons]
  split
  · simp only [List.length_nil]; omega
  · simp only [List.length_cons, List.length_map]; omega
theorem flat_ev_len (es : List PEvent) (h : ∀ e ∈ es, e.with_.length ≤ 20) : (es.flatMap evWords).length ≤ 23 * es.length := by
  induction es with
  | nil => simp
  | cons e es ih =>
    have h1 := evWords_len e
    have h2 := h e (by simp)
    have h3 := ih (fun x hx => h x (by simp [hx]))
    simp only [List.flatMap_cons, List.length_append, List.length_cons]; omega
theorem errWords_len (n : Int) : (errWords n).length ≤ 2 := by unfold errWords; split <;> simp
theorem idWords_len (n : Int) : (idWords n).length ≤ 2 := by unfold idWords; split <;> simp
theorem wds_len (A : PAct) (O : POut) (k : Nat) (h : SmallO O) : (wds A O k).length ≤ 500 := by
  have h1 := flat_ev_len (O.events.take k) (fun e he => h.m e (List.mem_of_mem_take he))
  have h2 := List.length_take_le' k O.events
  have h3 := errWords_len O.err
  have h4 := idWords_len O.id
  have h5 := h.n
  simp only [wds, outWords, List.length_cons, List.length_map, List.length_append]; omega
theorem wds_end (A : PAct) (O : POut) (k : Nat) (h : O.events.length ≤ k) : wds A O k = S (wordL A.kind) :: (outWords O).map S := by
  unfold wds
  rw [show rd O k = O by cases O; simp only [rd]; rw [List.take_of_length_le h]]
theorem flat_spS (l : List (List UInt8)) : (l.map S).flatMap (fun y => 32 :: y.data.toList) = l.flatMap sp := by
  induction l with
  | nil => rfl
  | cons x l ih => rw [List.map_cons, List.flatMap_cons, ih, List.flatMap_cons, S_list]; rfl
theorem join_show (A : PAct) (O : POut) : joinS (S (wordL A.kind) :: (outWords O).map S) = showL (wordL A.kind) O := by
  rw [joinS_cons, flat_spS, S_list]; rfl
theorem outWords_le (O : POut) (he : I64 O.err) (hi : I64 O.id) (hv : ∀ e ∈ O.events, I64 e.kind ∧ I64 e.change ∧ ∀ x ∈ e.with_, I64 x) : ∀ x ∈ outWords O, x.length ≤ 26 := by
  have it : ∀ n, I64 n → (Lib.itoa n).length ≤ 26 := fun n h => Nat.le_trans (itoa_le n h.1 h.2) (by omega)
  intro x hx
  simp only [outWords, List.mem_append, List.mem_flatMap] at hx
  rcases hx with (hx | hx) | ⟨e, hm, hx⟩
  · unfold errWords at hx; split at hx
    · simp at hx; subst hx; simp
    · simp at hx; rcases hx with rfl | rfl
      · simp
      · exact it _ he
  · unfold idWords at hx; split at hx
    · simp at hx
    · simp at hx; rcases hx with rfl | rfl
      · simp
      · exact it _ hi
  · obtain ⟨v1, v2, v3⟩ := hv e hm
    simp only [evWords, List.mem_cons] at hx
    rcases hx with rfl | rfl | hx
    · unfold evWordL
      repeat' split
      all_goals try simp
      have := itoa_le e.kind v1.1 v1.2
      omega
    · exact it _ v2
    · unfold withWords at hx; split at hx
      · simp at hx
      · simp only [List.mem_cons, List.mem_map] at hx
        rcases hx with rfl | ⟨n, hn, rfl⟩
        · simp
        · exact it _ (v3 n hn)
theorem flat_sp_le (l : List (List UInt8)) (h : ∀ x ∈ l, x.length ≤ 26) : (l.flatMap sp).length ≤ 27 * l.length := by
  induction l with
  | nil => simp
  | cons x l ih =>
    have h1 := h x (by simp)
    have h2 := ih (fun y hy => h y (by simp [hy]))
    simp only [List.flatMap_cons, List.length_append, List.length_cons, sp]; omega
theorem ev_i64 {w : World} {O : POut} {ve : Value} (h : OutAt w O ve) : ∀ e ∈ O.events, I64 e.kind ∧ I64 e.change ∧ ∀ x ∈ e.with_, I64 x := by
  intro e he
  obtain ⟨a, c, -, -, h3⟩ := h.events
  obtain ⟨j, hj⟩ := List.getElem?_of_mem he
  rcases h3 with h3 | ⟨b, o, -, hc⟩
  · rw [h3] at he; simp at he
  · obtain ⟨-, -, h3, h4, vw, -, _, _, -, -, h6, -⟩ := hc j e hj
    exact ⟨h3, h4, h6⟩
theorem showL_len {w : World} {A : PAct} {O : POut} {ve : Value} (h : OutAt w O ve) (hs : SmallO O) : (showL (wordL A.kind) O).length ≤ 20000 := by
  have h1 := flat_sp_le (outWords O) (outWords_le O h.err h.id (ev_i64 h))
  have h2 := wds_len A O O.events.length hs
  rw [wds_end A O _ (Nat.le_refl _)] at h2
  have h3 := wordL_le A.kind
  simp only [showL, List.length_append, List.length_cons, List.length_map] at *; omega
end Go.Proofs.YtglekdhdogjnoaaGreatDoor
