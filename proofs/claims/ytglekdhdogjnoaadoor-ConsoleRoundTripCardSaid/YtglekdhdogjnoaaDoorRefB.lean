/- The reference's Great, extra, walked. -/
import Derived.Test.YtglekdhdogjnoaaDoorRefA
import Derived.Test.YtglekdhdogjnoaaDoorEnv
namespace Go.Proofs.YtglekdhdogjnoaaDoor
open Go.RowKit
set_option linter.unusedSimpArgs false
/-- What could be read can be read. -/
def Keeps (w w' : World) : Prop := ∀ a v, w.cell? a = some v → w'.cell? a = some v
theorem Keeps.refl (w : World) : Keeps w w := fun _ _ h => h
theorem Keeps.trans {a b c : World} (h : Keeps a b) (k : Keeps b c) : Keeps a c := fun x v hx => k x v (h x v hx)
theorem Keeps.alloc (w : World) (o : Obj) : Keeps w (w.alloc o) := fun _ _ h => (World.grownBy_alloc w o none).cell h (by simp)
theorem Keeps.of_below {w w' : World} (h : Below w.heap.size w w') : Keeps w w' := fun a v ha => by rw [h.cell (World.block_lt_of_cell? w a ha)]; exact ha
theorem Keeps.drewN (w : World) (n : Nat) : Keeps w (w.drewN n) := fun _ _ h => h
abbrev File := ByteArray × ByteArray
/-- A slice of files reads as a list. -/
def FilesAt (w : World) (v : Value) (fs : List File) : Prop :=
  ∃ a c, v = .slice a fs.length c ∧ fs.length ≤ c ∧ (fs = [] ∨ ∃ b o, a = some ⟨b, o, none⟩ ∧ ∀ (j : Nat) (f : File), fs[j]? = some f → w.cell? ⟨b, o + j * 2, none⟩ = some (.string f.1) ∧ w.cell? ⟨b, o + j * 2 + 1, none⟩ = some (.string f.2))
theorem FilesAt.keep {w w' : World} {v : Value} {fs : List File} (h : FilesAt w v fs) (k : Keeps w w') : FilesAt w' v fs := by
  obtain ⟨a, c, h1, h2, h3⟩ := h
  refine ⟨a, c, h1, h2, h3.imp id ?_⟩
  rintro ⟨b, o, ha, hc⟩
  exact ⟨b, o, ha, fun j f hj => ⟨k _ _ (hc j f hj).1, k _ _ (hc j f hj).2⟩⟩
theorem IntsAt.keep {w w' : World} {v : Value} {xs : List Int} (h : IntsAt w v xs) (k : Keeps w w') : IntsAt w' v xs := by
  obtain ⟨a, c, h1, h2, h3, h4⟩ := h
  refine ⟨a, c, h1, h2, h3, h4.imp id ?_⟩
  rintro ⟨b, o, ha, hc⟩
  exact ⟨b, o, ha, fun j f hj => k _ _ (hc j f hj)⟩
/-- An input, as plain data. -/
structure PAct where
  kind : Int
  who : ByteArray
  change : Int
  priority : Int
  at_ : Int
  count : Int
  files : List File
  picks : List Int
def actV (A : PAct) (vf vp : Value) : Value := .agg #[.int .i64 A.kind, .string A.who, .int .i64 A.change, .int .i64 A.priority, .int .i64 A.at_, .int .i64 A.count, vf, vp]
structure ActAt (w : World) (A : PAct) (vf vp : Value) : Prop where
  files : FilesAt w vf A.files
  picks : IntsAt w vp A.picks
  kind : I64 A.kind
  change : I64 A.change
  priority : I64 A.priority
  at_ : I64 A.at_
  count : I64 A.count
def fileGreat (f : File) : Bool := decide ((120 : Int) < f.1.size) || decide ((1000 : Int) < f.2.size)
def greatB (A : PAct) : Bool := decide ((100 : Int) < A.who.size) || decide ((10 : Int) < A.files.length) || decide ((20 : Int) < A.picks.length) || A.files.any fileGreat
theorem any_take_succ {α : Type} (p : α → Bool) (l : List α) (k : Nat) (x : α) (h : l[k]? = some x) : (l.take (k + 1)).any p = ((l.take k).any p || p x) := by
  rw [List.take_add_one, h]; simp
theorem great_of {A : PAct} {k : Nat} {x : File} (hx : A.files[k]? = some x) (h : fileGreat x = true) : greatB A = true := by
  unfold greatB
  rw [show A.files.any fileGreat = true from List.any_eq_true.2 ⟨x, List.mem_of_getElem? hx, h⟩]
  simp
set_option maxHeartbeats 1000000 in
set_option maxRecDepth 100000 in
theorem Great_any (A : PAct) (vf vp : Value) (w : World) (hA : ActAt w A vf vp) :
    Calls Tryd.prog 6 #[actV A vf vp] w fun e w' => e = .returned (.bool (greatB A)) ∧ Below w.heap.size w w' := by
  obtain ⟨af, cf, rfl, hcf, hfc⟩ := hA.files
  obtain ⟨ap, cp, rfl, hcp, -, -⟩ := hA.picks
  have HF := Lib.hid hfc
  clear hfc hA hcf hcp
  have HB := Lib.hid (show Below w.heap.size w (w.alloc (.cells #[.int .i64 A.kind, .string A.who, .int .i64 A.change, .int .i64 A.priority, .int .i64 A.at_, .int .i64 A.count, .slice af A.files.length cf, .slice ap A.picks.length cp] 25)) from (Below.refl _ _).alloc (Nat.le_refl _) _)
  unfold actV
  refine calls_of_wE Tryd.func6 rfl Tryd.ntmps6 (by simp) ?_
  repeat' (first | with_reducible refine wE_seq (fun K hK => ?_) | with_reducible refine wE_block ?_ | with_reducible refine wE_skip ?_ | with_reducible refine wE_ret ?_ | with_reducible refine wE_exit ?_ | ((with_reducible refine wE_region ?_ ?_); (kernel_rfl); simp only [List.append_eq, List.cons_append, List.nil_append, List.map_cons, List.map_nil, stripO, Option.map_none, Option.map_some, List.getElem?_toArray, List.getElem?_cons_succ, List.getElem?_cons_zero, Option.bind_some]) | ((with_reducible refine wS_step (fun K hK => ?_)); simp [go_sem, evalS_tmp, evalS_const, evalS_global, evalS_func, upd, envOf, boolS_undef, boolS_bool, stepS_value, stepS_skip, stepS_enter, ↓IntWalk.iteOmega, *]; (try go_ints); refine hK.out _ _ ?_; clear hK K) | ((with_reducible refine wS_unit (fun K hK => ?_)); simp [go_sem, evalS_tmp, evalS_const, evalS_global, evalS_func, upd, envOf, boolS_undef, boolS_bool, stepS_value, stepS_skip, stepS_enter, ↓IntWalk.iteOmega, *]; (try go_ints); refine hK.out _ _ ?_; clear hK K) | ((with_reducible refine wS_skip ?_ ?_); (focus (simp [evalS_tmp, evalS_const, evalS_global, evalS_func, upd, envOf, boolS_undef, boolS_bool, *]; done))) | ((with_reducible refine wS_want ?_ ?_); (focus (simp [evalS_tmp, evalS_const, evalS_global, evalS_func, upd, envOf, boolS_undef, boolS_bool, *]; done))) | ((with_reducible refine wS_split (fun hc => ?_) (fun hc => ?_)) <;> simp [evalS_tmp, evalS_const, evalS_global, evalS_func, upd, envOf, boolS_undef, boolS_bool, *] at hc <;> try (exfalso; omega)) | with_reducible refine wS_nil ?_ | simp only [thenE, blockE, ↓reduceIte, Nat.reduceEqDiff] | ((with_reducible refine hK.out _ _ ?_); clear hK K) | ((with_reducible refine wE_if ?_ (fun hc => ?_) (fun hc => ?_)); (focus (simp [evalS_tmp, evalS_const, evalS_global, evalS_func, upd, envOf, boolS_undef, boolS_bool, *]; done)); all_goals (simp [evalS_tmp, evalS_const, evalS_global, evalS_func, upd, envOf, boolS_undef, boolS_bool, *] at hc <;> try (exfalso; omega))) | (clear hK; clear K))
  all_goals try (refine endE_tmp rfl ⟨?_, HB.out⟩; simp [upd, greatB, *]; done)
  refine wE_loop (fun (k : Nat) σ w' => σ 1 = .pointer (some ⟨w.heap.size, 0, none⟩) ∧ σ 3 = .int .i64 k ∧ k ≤ A.files.length ∧ w' = w.alloc (.cells #[.int .i64 A.kind, .string A.who, .int .i64 A.change, .int .i64 A.priority, .int .i64 A.at_, .int .i64 A.count, .slice af A.files.length cf, .slice ap A.picks.length cp] 25) ∧ (A.files.take k).any fileGreat = false) (fun k => A.files.length - k) 0 ?_ ?_
  · refine ⟨?_, ?_, ?_, ?_, ?_⟩ <;> simp [upd]
  rintro k σ _ ⟨h1, h3, hk, rfl, hn⟩
  have HN := Lib.hid hn
  clear hn
  by_cases hlt : k < A.files.length
  · obtain ⟨x, hx⟩ : ∃ x, A.files[k]? = some x := ⟨_, List.getElem?_eq_getElem hlt⟩
    rcases HF.out with h | ⟨b, o, rfl, hcell⟩
    · rw [h] at hlt; simp at hlt
    obtain ⟨hc1, hc2⟩ := hcell k x hx
    have HS := Lib.hid (any_take_succ fileGreat A.files k x hx)
    have HX := Lib.hid hx
    replace hc1 := Keeps.alloc w (.cells #[.int .i64 A.kind, .string A.who, .int .i64 A.change, .int .i64 A.priority, .int .i64 A.at_, .int .i64 A.count, .slice (some ⟨b, o, none⟩) A.files.length cf, .slice ap A.picks.length cp] 25) _ _ hc1
    replace hc2 := Keeps.alloc w (.cells #[.int .i64 A.kind, .string A.who, .int .i64 A.change, .int .i64 A.priority, .int .i64 A.at_, .int .i64 A.count, .slice (some ⟨b, o, none⟩) A.files.length cf, .slice ap A.picks.length cp] 25) _ _ hc2
    clear hx hcell
    repeat' (first | with_reducible refine wE_seq (fun K hK => ?_) | with_reducible refine wE_block ?_ | with_reducible refine wE_skip ?_ | with_reducible refine wE_ret ?_ | with_reducible refine wE_exit ?_ | ((with_reducible refine wE_region ?_ ?_); (kernel_rfl); simp only [List.append_eq, List.cons_append, List.nil_append, List.map_cons, List.map_nil, stripO, Option.map_none, Option.map_some, List.getElem?_toArray, List.getElem?_cons_succ, List.getElem?_cons_zero, Option.bind_some]) | ((with_reducible refine wS_step (fun K hK => ?_)); simp [go_sem, evalS_tmp, evalS_const, evalS_global, evalS_func, upd, envOf, boolS_undef, boolS_bool, stepS_value, stepS_skip, stepS_enter, ↓IntWalk.iteOmega, *]; (try go_ints); refine hK.out _ _ ?_; clear hK K) | ((with_reducible refine wS_unit (fun K hK => ?_)); simp [go_sem, evalS_tmp, evalS_const, evalS_global, evalS_func, upd, envOf, boolS_undef, boolS_bool, stepS_value, stepS_skip, stepS_enter, ↓IntWalk.iteOmega, *]; (try go_ints); refine hK.out _ _ ?_; clear hK K) | ((with_reducible refine wS_skip ?_ ?_); (focus (simp [evalS_tmp, evalS_const, evalS_global, evalS_func, upd, envOf, boolS_undef, boolS_bool, *]; done))) | ((with_reducible refine wS_want ?_ ?_); (focus (simp [evalS_tmp, evalS_const, evalS_global, evalS_func, upd, envOf, boolS_undef, boolS_bool, *]; done))) | ((with_reducible refine wS_split (fun hc => ?_) (fun hc => ?_)) <;> simp [evalS_tmp, evalS_const, evalS_global, evalS_func, upd, envOf, boolS_undef, boolS_bool, *] at hc <;> try (exfalso; omega)) | with_reducible refine wS_nil ?_ | simp only [thenE, blockE, ↓reduceIte, Nat.reduceEqDiff] | ((with_reducible refine hK.out _ _ ?_); clear hK K) | ((with_reducible refine wE_if ?_ (fun hc => ?_) (fun hc => ?_)); (focus (simp [evalS_tmp, evalS_const, evalS_global, evalS_func, upd, envOf, boolS_undef, boolS_bool, *]; done)); all_goals (simp [evalS_tmp, evalS_const, evalS_global, evalS_func, upd, envOf, boolS_undef, boolS_bool, *] at hc <;> try (exfalso; omega))) | (clear hK; clear K))
    all_goals first
      | (refine endE_tmp rfl ⟨?_, HB.out⟩; rw [great_of HX.out (by simp [fileGreat, *])]; simp [upd]; done)
      | exact ⟨k + 1, ⟨by simp [upd, h1], by simp [upd], by omega, by trivial, by rw [HS.out, HN.out]; simp [fileGreat]; omega⟩, by omega⟩
  · repeat' (first | with_reducible refine wE_seq (fun K hK => ?_) | with_reducible refine wE_block ?_ | with_reducible refine wE_skip ?_ | with_reducible refine wE_ret ?_ | with_reducible refine wE_exit ?_ | ((with_reducible refine wE_region ?_ ?_); (kernel_rfl); simp only [List.append_eq, List.cons_append, List.nil_append, List.map_cons, List.map_nil, stripO, Option.map_none, Option.map_some, List.getElem?_toArray, List.getElem?_cons_succ, List.getElem?_cons_zero, Option.bind_some]) | ((with_reducible refine wS_step (fun K hK => ?_)); simp [go_sem, evalS_tmp, evalS_const, evalS_global, evalS_func, upd, envOf, boolS_undef, boolS_bool, stepS_value, stepS_skip, stepS_enter, ↓IntWalk.iteOmega, *]; (try go_ints); refine hK.out _ _ ?_; clear hK K) | ((with_reducible refine wS_unit (fun K hK => ?_)); simp [go_sem, evalS_tmp, evalS_const, evalS_global, evalS_func, upd, envOf, boolS_undef, boolS_bool, stepS_value, stepS_skip, stepS_enter, ↓IntWalk.iteOmega, *]; (try go_ints); refine hK.out _ _ ?_; clear hK K) | ((with_reducible refine wS_skip ?_ ?_); (focus (simp [evalS_tmp, evalS_const, evalS_global, evalS_func, upd, envOf, boolS_undef, boolS_bool, *]; done))) | ((with_reducible refine wS_want ?_ ?_); (focus (simp [evalS_tmp, evalS_const, evalS_global, evalS_func, upd, envOf, boolS_undef, boolS_bool, *]; done))) | ((with_reducible refine wS_split (fun hc => ?_) (fun hc => ?_)) <;> simp [evalS_tmp, evalS_const, evalS_global, evalS_func, upd, envOf, boolS_undef, boolS_bool, *] at hc <;> try (exfalso; omega)) | with_reducible refine wS_nil ?_ | simp only [thenE, blockE, ↓reduceIte, Nat.reduceEqDiff] | ((with_reducible refine hK.out _ _ ?_); clear hK K) | ((with_reducible refine wE_if ?_ (fun hc => ?_) (fun hc => ?_)); (focus (simp [evalS_tmp, evalS_const, evalS_global, evalS_func, upd, envOf, boolS_undef, boolS_bool, *]; done)); all_goals (simp [evalS_tmp, evalS_const, evalS_global, evalS_func, upd, envOf, boolS_undef, boolS_bool, *] at hc <;> try (exfalso; omega))) | (clear hK; clear K))
    refine endE_tmp rfl ⟨?_, HB.out⟩
    have := HN.out
    rw [List.take_of_length_le (by omega)] at this
    simp [upd, greatB, *]
def extra1 (k : Int) (who : ByteArray) : Bool := (!who.toList.isEmpty) && (k != 1) && (k != 2) && (k != 6) && (k != 7)
def extra2 (k ch : Int) : Bool := (ch != 0) && (k != 2) && (k != 7)
def extra3 (k pr : Int) : Bool := (pr != 0) && (k != 1)
def extra4 (k at_ : Int) : Bool := (at_ != 0) && (k != 1) && (k != 6)
def extra5 (k co : Int) : Bool := (co != 0) && (k != 5) && (k != 6) && (k != 8)
def extra6 (k : Int) (nf : Nat) : Bool := decide (0 < nf) && (k != 1)
def extra7 (k : Int) (np : Nat) : Bool := decide (0 < np) && (k != 4)
def extraB (k : Int) (who : ByteArray) (ch pr at_ co : Int) (nf np : Nat) : Bool := extra1 k who || extra2 k ch || extra3 k pr || extra4 k at_ || extra5 k co || extra6 k nf || extra7 k np
end Go.Proofs.YtglekdhdogjnoaaDoor
