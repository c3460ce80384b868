/- The reference's Great, extra, walked. -/
import Derived.Test.YtglekdhdogjnoaaGreatDoorRefA
import Derived.Test.YtglekdhdogjnoaaGreatDoorEnv
namespace Go.Proofs.YtglekdhdogjnoaaGreatDoor
open Go.RowKit
set_option linter.unusedSimpArgs false
/-- What could be read can be read. -/
def Keeps (w w' : World) : Prop := ∀ a v, w.cell? a = some v → w'.cell? a = some v
theorem Keeps.refl (w : World) : Keeps w w := fun _ _ h => h
theorem Keeps.trans {a b c : World} (h : Keeps a b) (k : Keeps b c) : Keeps a c := fun x v hx => k x v (h x v hx)
theorem Keeps.alloc (w : World) (o : Obj) : Keeps w (w.alloc o) := fun _ _ h => (World.grownBy_alloc w o none).cell h (by simp)
theorem Keeps.of_below {w w' : World} (h : Below w.heap.size w w') : Keeps w w' := fun a v ha => by rw [h.cell (World.block_lt_of_cell? w a ha)]; exact ha
theorem Keeps.drewN (w : World) (n : Nat) : Keeps w (w.drewN n) := fun _ _ h => h
abbrev File := ByteArray × ByteArray
/-- A slice of files reads as a list. -/
def FilesAt (w : World) (v : Value) (fs : List File) : Prop :=
  ∃ a c, v = .slice a fs.length c ∧ fs.length ≤ c ∧ (fs = [] ∨ ∃ b o, a = some ⟨b, o, none⟩ ∧ ∀ (j : Nat) (f : File), fs[j]? = some f → w.cell? ⟨b, o + j * 2, none⟩ = some (.string f.1) ∧ w.cell? ⟨b, o + j * 2 + 1, none⟩ = some (.string f.2))
theorem FilesAt.keep {w w' : World} {v : Value} {fs : List File} (h : FilesAt w v fs) (k : Keeps w w') : FilesAt w' v fs := by
  obtain ⟨a, c, h1, h2, h3⟩ := h
  refine ⟨a, c, h1, h2, h3.imp id ?_⟩
  rintro ⟨b, o, ha, hc⟩
  exact ⟨b, o, ha, fun j f hj => ⟨k _ _ (hc j f hj).1, k _ _ (hc j f hj).2⟩⟩
theorem IntsAt.keep {w w' : World} {v : Value} {xs : List Int} (h : IntsAt w v xs) (k : Keeps w w') : IntsAt w' v xs := by
  obtain ⟨a, c, h1, h2, h3, h4⟩ := h
  refine ⟨a, c, h1, h2, h3, h4.imp id ?_⟩
  rintro ⟨b, o, ha, hc⟩
  exact ⟨b, o, ha, fun j f hj => k _ _ (hc j f hj)⟩
/-- An input, as plain data. -/
structure PAct where
  kind : Int
  who : ByteArray
  change : Int
  priority : Int
  at_ : Int
  count : Int
  files : List File
  picks : List Int
def actV (A : PAct) (vf vp : Value) : Value := .agg #[.int .i64 A.kind, .string A.who, .int .i64 A.change, .int .i64 A.priority, .int .i64 A.at_, .int .i64 A.count, vf, vp]
structure ActAt (w : World) (A : PAct) (vf vp : Value) : Prop where
  files : FilesAt w vf A.files
  picks : IntsAt w vp A.picks
  kind : I64 A.kind
  change : I64 A.change
  priority : I64 A.priority
  at_ : I64 A.at_
  count : I64 A.count
theorem any_take_succ {α : Type} (p : α → Bool) (l : List α) (k : Nat) (x : α) (h : l[k]? = some x) : (l.take (k + 1)).any p = ((l.take k).any p || p x) := by
  rw [List.take_add_one, h]; simp
def extra1 (k : Int) (who : ByteArray) : Bool := (!who.toList.isEmpty) && (k != 1) && (k != 2) && (k != 6) && (k != 7)
def extra2 (k ch : Int) : Bool := (ch != 0) && (k != 2) && (k != 7)
def extra3 (k pr : Int) : Bool := (pr != 0) && (k != 1)
def extra4 (k at_ : Int) : Bool := (at_ != 0) && (k != 1) && (k != 6)
def extra5 (k co : Int) : Bool := (co != 0) && (k != 5) && (k != 6) && (k != 8)
def extra6 (k : Int) (nf : Nat) : Bool := decide (0 < nf) && (k != 1)
def extra7 (k : Int) (np : Nat) : Bool := decide (0 < np) && (k != 4)
def extraB (k : Int) (who : ByteArray) (ch pr at_ co : Int) (nf np : Nat) : Bool := extra1 k who || extra2 k ch || extra3 k pr || extra4 k at_ || extra5 k co || extra6 k nf || extra7 k np
set_option maxHeartbeats 4000000 in
set_option maxRecDepth 100000 in
theorem extra_any (k ch pr at_ co : Int) (who : ByteArray) (af ap : Option Addr) (nf cf np cp : Nat) (w : World) :
    Calls Tryz.prog 71 #[.agg #[.int .i64 k, .string who, .int .i64 ch, .int .i64 pr, .int .i64 at_, .int .i64 co, .slice af nf cf, .slice ap np cp]] w fun e w' => e = .returned (.bool (extraB k who ch pr at_ co nf np)) ∧ Below w.heap.size w w' := by
  refine calls_of_wE Tryz.func71 rfl Tryz.ntmps71 (by simp) ?_
  repeat' (first | with_reducible (first | refine wE_seq (fun K hK => ?_) | refine wE_block ?_ | refine wE_skip ?_ | refine wE_ret ?_ | refine wE_exit ?_) | simp only [thenE, blockE, ↓reduceIte, Nat.reduceEqDiff] | ((with_reducible refine hK.out _ _ ?_); clear hK K) | ((with_reducible refine wE_if ?_ (fun hc => ?_) (fun hc => ?_)); (focus (simp [lk, upd, envOf, *]; done)); all_goals (simp [lk, upd, envOf, *] at hc <;> try (exfalso; omega))) | (clear hK; clear K))
  ((with_reducible refine wE_region ?_ ?_); (kernel_rfl); simp only [ls, stripO])
  repeat' (first | ((with_reducible refine wS_step (fun K hK => ?_)); simp [go_sem, lk, upd, envOf, stepS_value, stepS_skip, stepS_enter, ↓IntWalk.iteOmega, *]; (try go_ints); refine hK.out _ _ ?_; clear hK K) | ((with_reducible refine wS_unit (fun K hK => ?_)); simp [go_sem, lk, upd, envOf, stepS_value, stepS_skip, stepS_enter, ↓IntWalk.iteOmega, *]; (try go_ints); refine hK.out _ _ ?_; clear hK K) | ((with_reducible refine wS_skip ?_ ?_); (focus (simp [lk, upd, envOf, *]; done))) | ((with_reducible refine wS_want ?_ ?_); (focus (simp [lk, upd, envOf, *]; done))) | ((with_reducible refine wS_split (fun hc => ?_) (fun hc => ?_)) <;> simp [lk, upd, envOf, *] at hc <;> try (exfalso; omega)) | with_reducible refine wS_nil ?_)
  repeat' (first | with_reducible (first | refine wE_seq (fun K hK => ?_) | refine wE_block ?_ | refine wE_skip ?_ | refine wE_ret ?_ | refine wE_exit ?_) | simp only [thenE, blockE, ↓reduceIte, Nat.reduceEqDiff] | ((with_reducible refine hK.out _ _ ?_); clear hK K) | ((with_reducible refine wE_if ?_ (fun hc => ?_) (fun hc => ?_)); (focus (simp [lk, upd, envOf, *]; done)); all_goals (simp [lk, upd, envOf, *] at hc <;> try (exfalso; omega))) | (clear hK; clear K))
  ((with_reducible refine wE_region ?_ ?_); (kernel_rfl); simp only [ls, stripO])
  repeat' (first | ((with_reducible refine wS_step (fun K hK => ?_)); simp [go_sem, lk, upd, envOf, stepS_value, stepS_skip, stepS_enter, ↓IntWalk.iteOmega, *]; (try go_ints); refine hK.out _ _ ?_; clear hK K) | ((with_reducible refine wS_unit (fun K hK => ?_)); simp [go_sem, lk, upd, envOf, stepS_value, stepS_skip, stepS_enter, ↓IntWalk.iteOmega, *]; (try go_ints); refine hK.out _ _ ?_; clear hK K) | ((with_reducible refine wS_skip ?_ ?_); (focus (simp [lk, upd, envOf, *]; done))) | ((with_reducible refine wS_want ?_ ?_); (focus (simp [lk, upd, envOf, *]; done))) | ((with_reducible refine wS_split (fun hc => ?_) (fun hc => ?_)) <;> simp [lk, upd, envOf, *] at hc <;> try (exfalso; omega)) | with_reducible refine wS_nil ?_)
  repeat' (first | with_reducible (first | refine wE_seq (fun K hK => ?_) | refine wE_block ?_ | refine wE_skip ?_ | refine wE_ret ?_ | refine wE_exit ?_) | simp only [thenE, blockE, ↓reduceIte, Nat.reduceEqDiff] | ((with_reducible refine hK.out _ _ ?_); clear hK K) | ((with_reducible refine wE_if ?_ (fun hc => ?_) (fun hc => ?_)); (focus (simp [lk, upd, envOf, *]; done)); all_goals (simp [lk, upd, envOf, *] at hc <;> try (exfalso; omega))) | (clear hK; clear K))
  ((with_reducible refine wE_region ?_ ?_); (kernel_rfl); simp only [ls, stripO])
  refine wS_cut 20 (fun σ w' => w' = w.alloc (.cells #[.int .i64 k, .string who, .int .i64 ch, .int .i64 pr, .int .i64 at_, .int .i64 co, .slice af nf cf, .slice ap np cp] 26) ∧ σ 1 = .pointer (some ⟨w.heap.size, 0, none⟩) ∧ σ 3 = .int .i64 k ∧ σ 25 = .bool (extra1 k who)) ?_ ?_
  · simp only [List.take_succ_cons, List.take_zero]
    repeat' (first | with_reducible (first | refine wE_seq (fun K hK => ?_) | refine wE_block ?_ | refine wE_skip ?_ | refine wE_ret ?_ | refine wE_exit ?_) | ((with_reducible refine wE_region ?_ ?_); (kernel_rfl); simp only [ls, stripO]) | ((with_reducible refine wS_step (fun K hK => ?_)); simp [go_sem, lk, upd, envOf, stepS_value, stepS_skip, stepS_enter, ↓IntWalk.iteOmega, *]; (try go_ints); refine hK.out _ _ ?_; clear hK K) | ((with_reducible refine wS_unit (fun K hK => ?_)); simp [go_sem, lk, upd, envOf, stepS_value, stepS_skip, stepS_enter, ↓IntWalk.iteOmega, *]; (try go_ints); refine hK.out _ _ ?_; clear hK K) | ((with_reducible refine wS_skip ?_ ?_); (focus (simp [lk, upd, envOf, *]; done))) | ((with_reducible refine wS_want ?_ ?_); (focus (simp [lk, upd, envOf, *]; done))) | ((with_reducible refine wS_split (fun hc => ?_) (fun hc => ?_)) <;> simp [lk, upd, envOf, *] at hc <;> try (exfalso; omega)) | with_reducible refine wS_nil ?_ | simp only [thenE, blockE, ↓reduceIte, Nat.reduceEqDiff] | ((with_reducible refine hK.out _ _ ?_); clear hK K) | ((with_reducible refine wE_if ?_ (fun hc => ?_) (fun hc => ?_)); (focus (simp [lk, upd, envOf, *]; done)); all_goals (simp [lk, upd, envOf, *] at hc <;> try (exfalso; omega))) | (clear hK; clear K))
    all_goals (refine ⟨by first | trivial | simp [*], ?_, ?_, ?_⟩ <;> simp [upd, extra1, *])
  rintro σ _ ⟨rfl, h1, h3, hb0⟩
  simp only [List.drop_succ_cons, List.drop_zero]
  generalize hE0 : (extra1 k who) = b0 at hb0
  have HE0 := Lib.hid hE0
  clear hE0
  refine wS_cut 13 (fun σ w' => w' = w.alloc (.cells #[.int .i64 k, .string who, .int .i64 ch, .int .i64 pr, .int .i64 at_, .int .i64 co, .slice af nf cf, .slice ap np cp] 26) ∧ σ 1 = .pointer (some ⟨w.heap.size, 0, none⟩) ∧ σ 3 = .int .i64 k ∧ σ 38 = .bool (b0 || extra2 k ch)) ?_ ?_
  · simp only [List.take_succ_cons, List.take_zero]
    repeat' (first | with_reducible (first | refine wE_seq (fun K hK => ?_) | refine wE_block ?_ | refine wE_skip ?_ | refine wE_ret ?_ | refine wE_exit ?_) | ((with_reducible refine wE_region ?_ ?_); (kernel_rfl); simp only [ls, stripO]) | ((with_reducible refine wS_step (fun K hK => ?_)); simp [go_sem, lk, upd, envOf, stepS_value, stepS_skip, stepS_enter, ↓IntWalk.iteOmega, *]; (try go_ints); refine hK.out _ _ ?_; clear hK K) | ((with_reducible refine wS_unit (fun K hK => ?_)); simp [go_sem, lk, upd, envOf, stepS_value, stepS_skip, stepS_enter, ↓IntWalk.iteOmega, *]; (try go_ints); refine hK.out _ _ ?_; clear hK K) | ((with_reducible refine wS_skip ?_ ?_); (focus (simp [lk, upd, envOf, *]; done))) | ((with_reducible refine wS_want ?_ ?_); (focus (simp [lk, upd, envOf, *]; done))) | ((with_reducible refine wS_split (fun hc => ?_) (fun hc => ?_)) <;> simp [lk, upd, envOf, *] at hc <;> try (exfalso; omega)) | with_reducible refine wS_nil ?_ | simp only [thenE, blockE, ↓reduceIte, Nat.reduceEqDiff] | ((with_reducible refine hK.out _ _ ?_); clear hK K) | ((with_reducible refine wE_if ?_ (fun hc => ?_) (fun hc => ?_)); (focus (simp [lk, upd, envOf, *]; done)); all_goals (simp [lk, upd, envOf, *] at hc <;> try (exfalso; omega))) | (clear hK; clear K))
    all_goals (refine ⟨by first | trivial | simp [*], ?_, ?_, ?_⟩ <;> simp [upd, extra2, *])
  clear h1 h3 hb0 σ
  rintro σ _ ⟨rfl, h1, h3, hb1⟩
  simp only [List.drop_succ_cons, List.drop_zero]
  generalize hE1 : (b0 || extra2 k ch) = b1 at hb1
  have HE1 := Lib.hid hE1
  clear hE1
  refine wS_cut 9 (fun σ w' => w' = w.alloc (.cells #[.int .i64 k, .string who, .int .i64 ch, .int .i64 pr, .int .i64 at_, .int .i64 co, .slice af nf cf, .slice ap np cp] 26) ∧ σ 1 = .pointer (some ⟨w.heap.size, 0, none⟩) ∧ σ 3 = .int .i64 k ∧ σ 47 = .bool (b1 || extra3 k pr)) ?_ ?_
  · simp only [List.take_succ_cons, List.take_zero]
    repeat' (first | with_reducible (first | refine wE_seq (fun K hK => ?_) | refine wE_block ?_ | refine wE_skip ?_ | refine wE_ret ?_ | refine wE_exit ?_) | ((with_reducible refine wE_region ?_ ?_); (kernel_rfl); simp only [ls, stripO]) | ((with_reducible refine wS_step (fun K hK => ?_)); simp [go_sem, lk, upd, envOf, stepS_value, stepS_skip, stepS_enter, ↓IntWalk.iteOmega, *]; (try go_ints); refine hK.out _ _ ?_; clear hK K) | ((with_reducible refine wS_unit (fun K hK => ?_)); simp [go_sem, lk, upd, envOf, stepS_value, stepS_skip, stepS_enter, ↓IntWalk.iteOmega, *]; (try go_ints); refine hK.out _ _ ?_; clear hK K) | ((with_reducible refine wS_skip ?_ ?_); (focus (simp [lk, upd, envOf, *]; done))) | ((with_reducible refine wS_want ?_ ?_); (focus (simp [lk, upd, envOf, *]; done))) | ((with_reducible refine wS_split (fun hc => ?_) (fun hc => ?_)) <;> simp [lk, upd, envOf, *] at hc <;> try (exfalso; omega)) | with_reducible refine wS_nil ?_ | simp only [thenE, blockE, ↓reduceIte, Nat.reduceEqDiff] | ((with_reducible refine hK.out _ _ ?_); clear hK K) | ((with_reducible refine wE_if ?_ (fun hc => ?_) (fun hc => ?_)); (focus (simp [lk, upd, envOf, *]; done)); all_goals (simp [lk, upd, envOf, *] at hc <;> try (exfalso; omega))) | (clear hK; clear K))
    all_goals (refine ⟨by first | trivial | simp [*], ?_, ?_, ?_⟩ <;> simp [upd, extra3, *])
  clear h1 h3 hb1 σ
  rintro σ _ ⟨rfl, h1, h3, hb2⟩
  simp only [List.drop_succ_cons, List.drop_zero]
  generalize hE2 : (b1 || extra3 k pr) = b2 at hb2
  have HE2 := Lib.hid hE2
  clear hE2
  refine wS_cut 13 (fun σ w' => w' = w.alloc (.cells #[.int .i64 k, .string who, .int .i64 ch, .int .i64 pr, .int .i64 at_, .int .i64 co, .slice af nf cf, .slice ap np cp] 26) ∧ σ 1 = .pointer (some ⟨w.heap.size, 0, none⟩) ∧ σ 3 = .int .i64 k ∧ σ 60 = .bool (b2 || extra4 k at_)) ?_ ?_
  · simp only [List.take_succ_cons, List.take_zero]
    repeat' (first | with_reducible (first | refine wE_seq (fun K hK => ?_) | refine wE_block ?_ | refine wE_skip ?_ | refine wE_ret ?_ | refine wE_exit ?_) | ((with_reducible refine wE_region ?_ ?_); (kernel_rfl); simp only [ls, stripO]) | ((with_reducible refine wS_step (fun K hK => ?_)); simp [go_sem, lk, upd, envOf, stepS_value, stepS_skip, stepS_enter, ↓IntWalk.iteOmega, *]; (try go_ints); refine hK.out _ _ ?_; clear hK K) | ((with_reducible refine wS_unit (fun K hK => ?_)); simp [go_sem, lk, upd, envOf, stepS_value, stepS_skip, stepS_enter, ↓IntWalk.iteOmega, *]; (try go_ints); refine hK.out _ _ ?_; clear hK K) | ((with_reducible refine wS_skip ?_ ?_); (focus (simp [lk, upd, envOf, *]; done))) | ((with_reducible refine wS_want ?_ ?_); (focus (simp [lk, upd, envOf, *]; done))) | ((with_reducible refine wS_split (fun hc => ?_) (fun hc => ?_)) <;> simp [lk, upd, envOf, *] at hc <;> try (exfalso; omega)) | with_reducible refine wS_nil ?_ | simp only [thenE, blockE, ↓reduceIte, Nat.reduceEqDiff] | ((with_reducible refine hK.out _ _ ?_); clear hK K) | ((with_reducible refine wE_if ?_ (fun hc => ?_) (fun hc => ?_)); (focus (simp [lk, upd, envOf, *]; done)); all_goals (simp [lk, upd, envOf, *] at hc <;> try (exfalso; omega))) | (clear hK; clear K))
    all_goals (refine ⟨by first | trivial | simp [*], ?_, ?_, ?_⟩ <;> simp [upd, extra4, *])
  clear h1 h3 hb2 σ
  rintro σ _ ⟨rfl, h1, h3, hb3⟩
  simp only [List.drop_succ_cons, List.drop_zero]
  generalize hE3 : (b2 || extra4 k at_) = b3 at hb3
  have HE3 := Lib.hid hE3
  clear hE3
  refine wS_cut 17 (fun σ w' => w' = w.alloc (.cells #[.int .i64 k, .string who, .int .i64 ch, .int .i64 pr, .int .i64 at_, .int .i64 co, .slice af nf cf, .slice ap np cp] 26) ∧ σ 1 = .pointer (some ⟨w.heap.size, 0, none⟩) ∧ σ 3 = .int .i64 k ∧ σ 77 = .bool (b3 || extra5 k co)) ?_ ?_
  · simp only [List.take_succ_cons, List.take_zero]
    repeat' (first | with_reducible (first | refine wE_seq (fun K hK => ?_) | refine wE_block ?_ | refine wE_skip ?_ | refine wE_ret ?_ | refine wE_exit ?_) | ((with_reducible refine wE_region ?_ ?_); (kernel_rfl); simp only [ls, stripO]) | ((with_reducible refine wS_step (fun K hK => ?_)); simp [go_sem, lk, upd, envOf, stepS_value, stepS_skip, stepS_enter, ↓IntWalk.iteOmega, *]; (try go_ints); refine hK.out _ _ ?_; clear hK K) | ((with_reducible refine wS_unit (fun K hK => ?_)); simp [go_sem, lk, upd, envOf, stepS_value, stepS_skip, stepS_enter, ↓IntWalk.iteOmega, *]; (try go_ints); refine hK.out _ _ ?_; clear hK K) | ((with_reducible refine wS_skip ?_ ?_); (focus (simp [lk, upd, envOf, *]; done))) | ((with_reducible refine wS_want ?_ ?_); (focus (simp [lk, upd, envOf, *]; done))) | ((with_reducible refine wS_split (fun hc => ?_) (fun hc => ?_)) <;> simp [lk, upd, envOf, *] at hc <;> try (exfalso; omega)) | with_reducible refine wS_nil ?_ | simp only [thenE, blockE, ↓reduceIte, Nat.reduceEqDiff] | ((with_reducible refine hK.out _ _ ?_); clear hK K) | ((with_reducible refine wE_if ?_ (fun hc => ?_) (fun hc => ?_)); (focus (simp [lk, upd, envOf, *]; done)); all_goals (simp [lk, upd, envOf, *] at hc <;> try (exfalso; omega))) | (clear hK; clear K))
    all_goals (refine ⟨by first | trivial | simp [*], ?_, ?_, ?_⟩ <;> simp [upd, extra5, *])
  clear h1 h3 hb3 σ
  rintro σ _ ⟨rfl, h1, h3, hb4⟩
  simp only [List.drop_succ_cons, List.drop_zero]
  generalize hE4 : (b3 || extra5 k co) = b4 at hb4
  have HE4 := Lib.hid hE4
  clear hE4
  refine wS_cut 10 (fun σ w' => w' = w.alloc (.cells #[.int .i64 k, .string who, .int .i64 ch, .int .i64 pr, .int .i64 at_, .int .i64 co, .slice af nf cf, .slice ap np cp] 26) ∧ σ 1 = .pointer (some ⟨w.heap.size, 0, none⟩) ∧ σ 3 = .int .i64 k ∧ σ 87 = .bool (b4 || extra6 k nf)) ?_ ?_
  · simp only [List.take_succ_cons, List.take_zero]
    repeat' (first | with_reducible (first | refine wE_seq (fun K hK => ?_) | refine wE_block ?_ | refine wE_skip ?_ | refine wE_ret ?_ | refine wE_exit ?_) | ((with_reducible refine wE_region ?_ ?_); (kernel_rfl); simp only [ls, stripO]) | ((with_reducible refine wS_step (fun K hK => ?_)); simp [go_sem, lk, upd, envOf, stepS_value, stepS_skip, stepS_enter, ↓IntWalk.iteOmega, *]; (try go_ints); refine hK.out _ _ ?_; clear hK K) | ((with_reducible refine wS_unit (fun K hK => ?_)); simp [go_sem, lk, upd, envOf, stepS_value, stepS_skip, stepS_enter, ↓IntWalk.iteOmega, *]; (try go_ints); refine hK.out _ _ ?_; clear hK K) | ((with_reducible refine wS_skip ?_ ?_); (focus (simp [lk, upd, envOf, *]; done))) | ((with_reducible refine wS_want ?_ ?_); (focus (simp [lk, upd, envOf, *]; done))) | ((with_reducible refine wS_split (fun hc => ?_) (fun hc => ?_)) <;> simp [lk, upd, envOf, *] at hc <;> try (exfalso; omega)) | with_reducible refine wS_nil ?_ | simp only [thenE, blockE, ↓reduceIte, Nat.reduceEqDiff] | ((with_reducible refine hK.out _ _ ?_); clear hK K) | ((with_reducible refine wE_if ?_ (fun hc => ?_) (fun hc => ?_)); (focus (simp [lk, upd, envOf, *]; done)); all_goals (simp [lk, upd, envOf, *] at hc <;> try (exfalso; omega))) | (clear hK; clear K))
    all_goals (refine ⟨by first | trivial | simp [*], ?_, ?_, ?_⟩ <;> simp [upd, extra6, *])
  clear h1 h3 hb4 σ
  rintro σ _ ⟨rfl, h1, h3, hb5⟩
  simp only [List.drop_succ_cons, List.drop_zero]
  generalize hE5 : (b4 || extra6 k nf) = b5 at hb5
  have HE5 := Lib.hid hE5
  clear hE5
  have HX := Lib.hid (show extraB k who ch pr at_ co nf np = (b5 || extra7 k np) by unfold extraB; rw [HE0.out, HE1.out, HE2.out, HE3.out, HE4.out, HE5.out])
  repeat' (first | with_reducible (first | refine wE_seq (fun K hK => ?_) | refine wE_block ?_ | refine wE_skip ?_ | refine wE_ret ?_ | refine wE_exit ?_) | ((with_reducible refine wE_region ?_ ?_); (kernel_rfl); simp only [ls, stripO]) | ((with_reducible refine wS_step (fun K hK => ?_)); simp [go_sem, lk, upd, envOf, stepS_value, stepS_skip, stepS_enter, ↓IntWalk.iteOmega, *]; (try go_ints); refine hK.out _ _ ?_; clear hK K) | ((with_reducible refine wS_unit (fun K hK => ?_)); simp [go_sem, lk, upd, envOf, stepS_value, stepS_skip, stepS_enter, ↓IntWalk.iteOmega, *]; (try go_ints); refine hK.out _ _ ?_; clear hK K) | ((with_reducible refine wS_skip ?_ ?_); (focus (simp [lk, upd, envOf, *]; done))) | ((with_reducible refine wS_want ?_ ?_); (focus (simp [lk, upd, envOf, *]; done))) | ((with_reducible refine wS_split (fun hc => ?_) (fun hc => ?_)) <;> simp [lk, upd, envOf, *] at hc <;> try (exfalso; omega)) | with_reducible refine wS_nil ?_ | simp only [thenE, blockE, ↓reduceIte, Nat.reduceEqDiff] | ((with_reducible refine hK.out _ _ ?_); clear hK K) | ((with_reducible refine wE_if ?_ (fun hc => ?_) (fun hc => ?_)); (focus (simp [lk, upd, envOf, *]; done)); all_goals (simp [lk, upd, envOf, *] at hc <;> try (exfalso; omega))) | (clear hK; clear K))
  all_goals (refine endE_tmp rfl ⟨?_, (Below.refl _ _).alloc (Nat.le_refl _) _⟩; rw [HX.out]; simp [upd, extra7, *])
end Go.Proofs.YtglekdhdogjnoaaGreatDoor
