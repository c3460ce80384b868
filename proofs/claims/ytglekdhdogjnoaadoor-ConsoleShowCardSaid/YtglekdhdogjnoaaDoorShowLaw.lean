/- The text of an outcome, as plain lists of bytes, and that different outcomes have different texts. -/
import Derived.Test.YtglekdhdogjnoaaDoorPlain
namespace Go.Proofs.YtglekdhdogjnoaaDoor
structure PEvent where
  kind : Int
  change : Int
  with_ : List Int
structure POut where
  err : Int
  id : Int
  events : List PEvent
abbrev wOk : List UInt8 := [111, 107]
abbrev wError : List UInt8 := [101, 114, 114, 111, 114]
abbrev wId : List UInt8 := [105, 100]
abbrev wWith : List UInt8 := [119, 105, 116, 104]
abbrev wLand : List UInt8 := [108, 97, 110, 100]
abbrev wRefuse : List UInt8 := [114, 101, 102, 117, 115, 101]
abbrev wRollback : List UInt8 := [114, 111, 108, 108, 98, 97, 99, 107]
abbrev wEvent : List UInt8 := [101, 118, 101, 110, 116, 32]
def evWordL (k : Int) : List UInt8 := if k = 1 then wLand else if k = 2 then wRefuse else if k = 3 then wRollback else wEvent ++ Lib.itoa k
def withWords (xs : List Int) : List (List UInt8) := if xs = [] then [] else wWith :: xs.map Lib.itoa
def evWords (e : PEvent) : List (List UInt8) := evWordL e.kind :: Lib.itoa e.change :: withWords e.with_
def errWords (n : Int) : List (List UInt8) := if n = 0 then [wOk] else [wError, Lib.itoa n]
def idWords (n : Int) : List (List UInt8) := if n = 0 then [] else [wId, Lib.itoa n]
def outWords (o : POut) : List (List UInt8) := errWords o.err ++ idWords o.id ++ o.events.flatMap evWords
def sp (x : List UInt8) : List UInt8 := 32 :: x
def showL (word : List UInt8) (o : POut) : List UInt8 := word ++ (outWords o).flatMap sp
/-! ### Numerals -/
theorem dec_digit (u : Nat) : ∀ c ∈ Lib.decDigits u, 48 ≤ c.toNat ∧ c.toNat ≤ 57 := by
  induction u using Nat.strongRecOn with
  | _ u ih =>
    intro c hc
    rw [Lib.decDigits] at hc
    split at hc
    · rw [List.mem_singleton] at hc; subst hc
      rw [UInt8.toNat_ofNat']; omega
    · rw [List.mem_append] at hc
      rcases hc with hc | hc
      · exact ih (u / 10) (by omega) c hc
      · rw [List.mem_singleton] at hc; subst hc
        rw [UInt8.toNat_ofNat']; omega
theorem dec_ne_nil (u : Nat) : Lib.decDigits u ≠ [] := by
  rw [Lib.decDigits]; split <;> simp
theorem dec_inj : ∀ (u v : Nat), Lib.decDigits u = Lib.decDigits v → u = v := by
  intro u
  induction u using Nat.strongRecOn with
  | _ u ih =>
    intro v h
    have last : ∀ a b : Nat, a < 10 → b < 10 → (UInt8.ofNat (48 + a)) = UInt8.ofNat (48 + b) → a = b := by
      intro a b ha hb hab
      have := congrArg UInt8.toNat hab
      simp only [UInt8.toNat_ofNat'] at this
      omega
    rw [Lib.decDigits] at h
    conv at h => rhs; rw [Lib.decDigits]
    by_cases hu : u < 10 <;> by_cases hv : v < 10 <;> simp only [hu, hv, dif_pos, dif_neg, not_false_eq_true] at h
    · exact last u v hu hv (List.cons.inj h).1
    · exfalso
      have h1 := congrArg List.length h
      have h2 := List.length_pos_iff.2 (dec_ne_nil (v / 10))
      simp only [List.length_cons, List.length_nil, List.length_append] at h1; omega
    · exfalso
      have h1 := congrArg List.length h
      have h2 := List.length_pos_iff.2 (dec_ne_nil (u / 10))
      simp only [List.length_cons, List.length_nil, List.length_append] at h1; omega
    · have h2 := List.append_inj' h rfl
      have a := ih (u / 10) (by omega) (v / 10) h2.1
      have b := last (u % 10) (v % 10) (by omega) (by omega) (List.cons.inj h2.2).1
      omega
theorem itoa_mem (n : Int) : ∀ c ∈ Lib.itoa n, c = 45 ∨ (48 ≤ c.toNat ∧ c.toNat ≤ 57) := by
  intro c hc
  unfold Lib.itoa at hc
  split at hc
  · rcases List.mem_cons.1 hc with h | h
    · exact .inl h
    · exact .inr (dec_digit _ c h)
  · exact .inr (dec_digit _ c hc)
theorem itoa_ne_nil (n : Int) : Lib.itoa n ≠ [] := by
  unfold Lib.itoa; split
  · simp
  · exact dec_ne_nil _
theorem itoa_inj {a b : Int} (h : Lib.itoa a = Lib.itoa b) : a = b := by
  unfold Lib.itoa at h
  have nodash : ∀ u v : Nat, 45 :: Lib.decDigits u ≠ Lib.decDigits v := by
    intro u v e
    have := dec_digit v 45 (by rw [← e]; simp)
    simp at this
  split at h <;> split at h
  · have := dec_inj _ _ (List.cons.inj h).2; omega
  · exact absurd h (nodash _ _)
  · exact absurd h.symm (nodash _ _)
  · have := dec_inj _ _ h; omega
/-! ### Words -/
def Plainw (x : List UInt8) : Prop := (32 : UInt8) ∉ x
theorem flat_sp_inj : ∀ (a b : List (List UInt8)), (∀ x ∈ a, Plainw x) → (∀ x ∈ b, Plainw x) → a.flatMap sp = b.flatMap sp → a = b
  | [], [], _, _, _ => rfl
  | [], y :: ys, _, _, h => by simp [sp] at h
  | x :: xs, [], _, _, h => by simp [sp] at h
  | x :: xs, y :: ys, ha, hb, h => by
    simp only [List.flatMap_cons, sp, List.cons_append, List.cons.injEq, true_and] at h
    have key : ∀ (p q r s : List UInt8), Plainw p → Plainw q → (r = [] ∨ ∃ t, r = 32 :: t) → (s = [] ∨ ∃ t, s = 32 :: t) → p ++ r = q ++ s → p = q ∧ r = s := by
      intro p
      induction p with
      | nil =>
        intro q r s _ hq hr hs e
        cases q with
        | nil => exact ⟨rfl, e⟩
        | cons c q =>
          exfalso
          rcases hr with rfl | ⟨t, rfl⟩
          · simp at e
          · simp only [List.nil_append, List.cons_append, List.cons.injEq] at e
            exact hq (by rw [← e.1]; simp)
      | cons d p ih =>
        intro q r s hp hq hr hs e
        cases q with
        | nil =>
          exfalso
          rcases hs with rfl | ⟨t, rfl⟩
          · simp at e
          · simp only [List.nil_append, List.cons_append, List.cons.injEq] at e
            exact hp (by rw [e.1]; simp)
        | cons c q =>
          simp only [List.cons_append, List.cons.injEq] at e
          have := ih q r s (fun h => hp (by simp [h])) (fun h => hq (by simp [h])) hr hs e.2
          exact ⟨by rw [e.1, this.1], this.2⟩
    have hd : ∀ l : List (List UInt8), (l.flatMap fun x => sp x) = [] ∨ ∃ t, (l.flatMap fun x => sp x) = 32 :: t := by
      intro l; cases l with
      | nil => exact .inl rfl
      | cons a l => exact .inr ⟨_, by simp only [List.flatMap_cons, sp, List.cons_append]; rfl⟩
    obtain ⟨e1, e2⟩ := key x y _ _ (ha x (by simp)) (hb y (by simp)) (hd xs) (hd ys) h
    rw [e1, flat_sp_inj xs ys (fun x hx => ha x (by simp [hx])) (fun x hx => hb x (by simp [hx])) e2]
theorem itoa_plain (n : Int) : Plainw (Lib.itoa n) := by
  intro h
  rcases itoa_mem n _ h with h | h
  · revert h; decide
  · revert h; decide
def evKind (e : PEvent) : Prop := 1 ≤ e.kind ∧ e.kind ≤ 3
theorem evWordL_cases {k : Int} (h : 1 ≤ k ∧ k ≤ 3) : (k = 1 ∧ evWordL k = wLand) ∨ (k = 2 ∧ evWordL k = wRefuse) ∨ (k = 3 ∧ evWordL k = wRollback) := by
  have : k = 1 ∨ k = 2 ∨ k = 3 := by omega
  rcases this with rfl | rfl | rfl
  · exact .inl ⟨rfl, rfl⟩
  · exact .inr (.inl ⟨rfl, rfl⟩)
  · exact .inr (.inr ⟨rfl, rfl⟩)
theorem outWords_plain (o : POut) (h : ∀ e ∈ o.events, evKind e) : ∀ x ∈ outWords o, Plainw x := by
  intro x hx
  simp only [outWords, List.mem_append, List.mem_flatMap] at hx
  rcases hx with (hx | hx) | ⟨e, he, hx⟩
  · unfold errWords at hx; split at hx
    · simp at hx; subst hx; unfold Plainw; decide
    · simp at hx; rcases hx with rfl | rfl
      · unfold Plainw; decide
      · exact itoa_plain _
  · unfold idWords at hx; split at hx
    · simp at hx
    · simp at hx; rcases hx with rfl | rfl
      · unfold Plainw; decide
      · exact itoa_plain _
  · simp only [evWords, List.mem_cons] at hx
    rcases hx with rfl | rfl | hx
    · rcases evWordL_cases (h e he) with ⟨_, h⟩ | ⟨_, h⟩ | ⟨_, h⟩ <;> rw [h] <;> unfold Plainw <;> decide
    · exact itoa_plain _
    · unfold withWords at hx; split at hx
      · simp at hx
      · simp only [List.mem_cons, List.mem_map] at hx
        rcases hx with rfl | ⟨n, _, rfl⟩
        · unfold Plainw; decide
        · exact itoa_plain _
/-- A numeral is none of the words. -/
theorem itoa_ne_word (n : Int) (c : UInt8) (w : List UInt8) (hc : ¬ (c = 45 ∨ (48 ≤ c.toNat ∧ c.toNat ≤ 57))) : Lib.itoa n ≠ c :: w := by
  intro e
  exact hc (itoa_mem n c (by rw [e]; simp))
theorem evWordL_inj {a b : Int} (ha : 1 ≤ a ∧ a ≤ 3) (hb : 1 ≤ b ∧ b ≤ 3) (h : evWordL a = evWordL b) : a = b := by
  rcases evWordL_cases ha with ⟨rfl, e⟩ | ⟨rfl, e⟩ | ⟨rfl, e⟩ <;> rcases evWordL_cases hb with ⟨rfl, f⟩ | ⟨rfl, f⟩ | ⟨rfl, f⟩ <;> first | rfl | (rw [e, f] at h; revert h; decide)
theorem itoa_ne_ev (n k : Int) (h : 1 ≤ k ∧ k ≤ 3) : Lib.itoa n ≠ evWordL k := by
  rcases evWordL_cases h with ⟨_, e⟩ | ⟨_, e⟩ | ⟨_, e⟩ <;> rw [e] <;> exact itoa_ne_word _ _ _ (by decide)
/-- What begins no list of events: its first word is no word of an event. -/
def Ev (l : List (List UInt8)) : Prop := l = [] ∨ ∃ k r, (1 ≤ k ∧ k ≤ 3) ∧ l = evWordL k :: r
theorem ev_events (es : List PEvent) (h : ∀ e ∈ es, evKind e) : Ev (es.flatMap evWords) := by
  cases es with
  | nil => exact .inl rfl
  | cons e es => exact .inr ⟨e.kind, _, h e (by simp), by simp only [List.flatMap_cons, evWords, List.cons_append]; rfl⟩
theorem nums_ev : ∀ (a b : List Int) (r s : List (List UInt8)), Ev r → Ev s → a.map Lib.itoa ++ r = b.map Lib.itoa ++ s → a = b ∧ r = s
  | [], [], _, _, _, _, h => ⟨rfl, h⟩
  | [], y :: ys, r, s, hr, _, h => by
    exfalso
    rcases hr with rfl | ⟨k, t, hk, rfl⟩
    · simp at h
    · simp only [List.map_nil, List.nil_append, List.map_cons, List.cons_append, List.cons.injEq] at h
      exact itoa_ne_ev _ _ hk h.1.symm
  | x :: xs, [], r, s, _, hs, h => by
    exfalso
    rcases hs with rfl | ⟨k, t, hk, rfl⟩
    · simp at h
    · simp only [List.map_nil, List.nil_append, List.map_cons, List.cons_append, List.cons.injEq] at h
      exact itoa_ne_ev _ _ hk h.1
  | x :: xs, y :: ys, r, s, hr, hs, h => by
    simp only [List.map_cons, List.cons_append, List.cons.injEq] at h
    obtain ⟨e1, e2⟩ := nums_ev xs ys r s hr hs h.2
    exact ⟨by rw [itoa_inj h.1, e1], e2⟩
theorem with_ne_ev (k : Int) (h : 1 ≤ k ∧ k ≤ 3) : wWith ≠ evWordL k := by
  rcases evWordL_cases h with ⟨_, e⟩ | ⟨_, e⟩ | ⟨_, e⟩ <;> rw [e] <;> decide
theorem id_ne_ev (k : Int) (h : 1 ≤ k ∧ k ≤ 3) : wId ≠ evWordL k := by
  rcases evWordL_cases h with ⟨_, e⟩ | ⟨_, e⟩ | ⟨_, e⟩ <;> rw [e] <;> decide
theorem with_ev (a b : List Int) (r s : List (List UInt8)) (hr : Ev r) (hs : Ev s) (h : withWords a ++ r = withWords b ++ s) : a = b ∧ r = s := by
  unfold withWords at h
  split at h <;> split at h
  · rename_i h1 h2; exact ⟨h1.trans h2.symm, h⟩
  · exfalso
    rcases hr with rfl | ⟨k, t, hk, rfl⟩
    · simp at h
    · simp only [List.nil_append, List.cons_append, List.cons.injEq] at h
      exact with_ne_ev _ hk h.1.symm
  · exfalso
    rcases hs with rfl | ⟨k, t, hk, rfl⟩
    · simp at h
    · simp only [List.nil_append, List.cons_append, List.cons.injEq] at h
      exact with_ne_ev _ hk h.1
  · simp only [List.cons_append, List.cons.injEq, true_and] at h
    exact nums_ev a b r s hr hs h
theorem events_inj : ∀ (a b : List PEvent), (∀ e ∈ a, evKind e) → (∀ e ∈ b, evKind e) → a.flatMap evWords = b.flatMap evWords → a = b
  | [], [], _, _, _ => rfl
  | [], y :: ys, _, _, h => by simp [evWords] at h
  | x :: xs, [], _, _, h => by simp [evWords] at h
  | x :: xs, y :: ys, ha, hb, h => by
    simp only [List.flatMap_cons, evWords, List.cons_append, List.cons.injEq] at h
    have e1 := evWordL_inj (ha x (by simp)) (hb y (by simp)) h.1
    have e2 := itoa_inj h.2.1
    obtain ⟨e3, e4⟩ := with_ev _ _ _ _ (ev_events xs fun e he => ha e (by simp [he])) (ev_events ys fun e he => hb e (by simp [he])) h.2.2
    have e5 := events_inj xs ys (fun e he => ha e (by simp [he])) (fun e he => hb e (by simp [he])) e4
    obtain ⟨k, c, ww⟩ := x
    obtain ⟨k', c', ww'⟩ := y
    simp only at e1 e2 e3
    rw [e1, e2, e3, e5]
theorem outWords_inj (x y : POut) (hx : ∀ e ∈ x.events, evKind e) (hy : ∀ e ∈ y.events, evKind e) (h : outWords x = outWords y) : x = y := by
  obtain ⟨ex, ix, vx⟩ := x
  obtain ⟨ey, iy, vy⟩ := y
  simp only [outWords, List.append_assoc] at h hx hy
  have h1 : ex = ey ∧ idWords ix ++ vx.flatMap evWords = idWords iy ++ vy.flatMap evWords := by
    unfold errWords at h
    split at h <;> split at h
    · rename_i a b; subst a b; simp only [List.cons_append, List.nil_append, List.cons.injEq, true_and] at h; exact ⟨rfl, h⟩
    · simp at h
    · simp at h
    · simp only [List.cons_append, List.nil_append, List.cons.injEq, true_and] at h
      exact ⟨itoa_inj h.1, h.2⟩
  clear h
  obtain ⟨rfl, h⟩ := h1
  have h2 : ix = iy ∧ vx.flatMap evWords = vy.flatMap evWords := by
    have hr := ev_events vx hx
    have hs := ev_events vy hy
    unfold idWords at h
    split at h <;> split at h
    · rename_i a b; subst a b; exact ⟨rfl, by simpa using h⟩
    · exfalso
      rcases hr with hr | ⟨k, t, hk, hr⟩
      · rw [hr] at h; simp at h
      · rw [hr] at h
        simp only [List.nil_append, List.cons_append, List.cons.injEq] at h
        exact id_ne_ev _ hk h.1.symm
    · exfalso
      rcases hs with hs | ⟨k, t, hk, hs⟩
      · rw [hs] at h; simp at h
      · rw [hs] at h
        simp only [List.nil_append, List.cons_append, List.cons.injEq] at h
        exact id_ne_ev _ hk h.1
    · simp only [List.cons_append, List.nil_append, List.cons.injEq, true_and] at h
      exact ⟨itoa_inj h.1, h.2⟩
  clear h
  obtain ⟨rfl, h⟩ := h2
  rw [events_inj vx vy hx hy h]
theorem showL_inj (w : List UInt8) (x y : POut) (hx : ∀ e ∈ x.events, evKind e) (hy : ∀ e ∈ y.events, evKind e) : showL w x = showL w y ↔ x = y := by
  refine ⟨fun h => ?_, fun h => by rw [h]⟩
  unfold showL at h
  exact outWords_inj x y hx hy (flat_sp_inj _ _ (outWords_plain x hx) (outWords_plain y hy) (List.append_cancel_left h))
end Go.Proofs.YtglekdhdogjnoaaDoor
