/- From the rows' conditions to what the walks ask: inputs and outcomes as they lie in memory; the listed variables. -/
import Derived.Test.YtglekdhdogjnoaaDoorLawA
import Derived.Test.YtglekdhdogjnoaaDoorTie
import Derived.ProofKit
import Derived.LaidMore
import Derived.OpenShut
import Derived.Stop.Joined
import Derived.Stop.LaidErr
import Derived.Lib.LaidTab
import Derived.Carry
import Derived.Deep.Slices
import Derived.Deep.Fields
import Derived.Deep.Strs
namespace Go.Proofs.YtglekdhdogjnoaaDoor
open Go.ChangeShapes Go.WideShapes Go.ChangeAt Go.WideMaps Go.WideElems Go.RowKit Go.Deep
set_option maxRecDepth 100000
theorem list_choose {α : Type} {p : Nat → α → Prop} : ∀ (n : Nat), (∀ i, i < n → ∃ x, p i x) → ∃ l : List α, l.length = n ∧ ∀ (j : Nat) (x : α), l[j]? = some x → p j x
  | 0, _ => ⟨[], rfl, fun j x h => by simp at h⟩
  | n + 1, h => by
    obtain ⟨l, hl, hp⟩ := list_choose n (fun i hi => h i (by omega))
    obtain ⟨x, hx⟩ := h n (by omega)
    refine ⟨l ++ [x], by simp [hl], fun j y hj => ?_⟩
    rcases Nat.lt_or_ge j l.length with hlt | hge
    · rw [List.getElem?_append_left hlt] at hj; exact hp j y hj
    · rw [List.getElem?_append_right hge] at hj
      cases hz : j - l.length with
      | zero =>
        rw [hz] at hj; simp at hj; subst hj
        rw [show j = n by omega]; exact hx
      | succ m => rw [hz] at hj; simp at hj
theorem i64_of_wf {n : Int} (h : (Lit.int .i64 n).wf = true) : I64 n := by
  unfold Lit.wf at h
  rw [Bool.and_eq_true, decide_eq_true_eq, decide_eq_true_eq] at h
  exact h
section
variable {H : Type} {enc : TypeId × Value → H} {W : World} {sp : Nat → Bool} {held : Bool}
/-- A slice that has an element lies at a plain place. -/
theorem plain_of {a : Addr} {c : Nat} {cs : List Value} (h : W.cells? 0 (a.add (0 * c)) c = some cs) (hc : 0 < c) : ∃ b o, a = ⟨b, o, none⟩ := by
  obtain ⟨_, hl, hat⟩ := World.cells?_some h
  have h0 := hat 0 hc
  rw [Nat.zero_mul, show (a.add 0).add 0 = a from rfl, List.getElem?_eq_getElem (show 0 < cs.length by omega)] at h0
  obtain ⟨b, o, s⟩ := a
  cases s with
  | none => exact ⟨b, o, rfl⟩
  | some s =>
    exfalso
    unfold World.cell? at h0
    split at h0
    · simp at h0
    · simp at h0
theorem elem_cells {b o i c : Nat} {cs : List Value} (h : W.cells? 0 ((⟨b, o, none⟩ : Addr).add (i * c)) c = some cs) : cs.length = c ∧ ∀ j, j < c → W.cell? ⟨b, o + i * c + j, none⟩ = cs[j]? := by
  obtain ⟨_, hl, hat⟩ := World.cells?_some h
  refine ⟨hl, fun j hj => ?_⟩
  rw [← hat j hj, Addr.add_lit, Addr.add_lit]
theorem ints_of {fuel : Nat} {v : Value} {x : DataW H × List MemPlace} (h : DataW.trod enc Tryd.prog W 0 sp held fuel 23 [v] = some x) : ∃ xs, IntsAt W v xs := by
  rcases open_slice Tryd.underlying23 h with ⟨h0, _⟩ | ⟨a, len, cap, m, n, D, Pl, hcs, _, hl, _, hmm, _, hi⟩
  · obtain rfl := (List.cons.inj h0).1
    exact ⟨[], none, 0, rfl, by simp, by simp, .inl rfl⟩
  · obtain rfl := (List.cons.inj hcs).1
    have hm : len ≤ m := by rw [hmm]; split <;> omega
    have c3 : Tryd.prog.cellsOf 3 = 1 := by kernel_rfl
    by_cases hz : len = 0
    · subst hz; exact ⟨[], some a, cap, rfl, by simp, by simp, .inl rfl⟩
    obtain ⟨b, o, rfl⟩ : ∃ b o, a = ⟨b, o, none⟩ := by
      obtain ⟨cs', hc, _⟩ := hi 0 (by omega)
      rw [c3] at hc
      exact plain_of hc (by omega)
    have hone : ∀ i, i < len → ∃ z : Int, W.cell? ⟨b, o + i, none⟩ = some (.int .i64 z) ∧ I64 z := by
      intro i hi'
      obtain ⟨cs', hc, ht⟩ := hi i (by omega)
      rw [c3] at hc
      obtain ⟨hlen, hat⟩ := elem_cells hc
      obtain ⟨z, hz, _, hwf⟩ := DataW.trod_int Tryd.underlying3 ht
      have := hat 0 (by omega)
      rw [hz] at this
      exact ⟨z, by simpa using this, i64_of_wf hwf⟩
    obtain ⟨xs, hxl, hxs⟩ := list_choose len hone
    refine ⟨xs, some ⟨b, o, none⟩, cap, by rw [hxl], by omega, fun x hx => ?_, .inr ⟨b, o, rfl, fun j x hj => (hxs j x hj).1⟩⟩
    obtain ⟨j, hj⟩ := List.getElem?_of_mem hx
    exact (hxs j x hj).2
theorem files_of {fuel : Nat} {v : Value} {x : DataW H × List MemPlace} (h : DataW.trod enc Tryd.prog W 0 sp held fuel 22 [v] = some x) : ∃ fs, FilesAt W v fs := by
  rcases open_slice Tryd.underlying22 h with ⟨h0, _⟩ | ⟨a, len, cap, m, n, D, Pl, hcs, _, hl, _, hmm, _, hi⟩
  · obtain rfl := (List.cons.inj h0).1
    exact ⟨[], none, 0, rfl, by simp, .inl rfl⟩
  · obtain rfl := (List.cons.inj hcs).1
    have hm : len ≤ m := by rw [hmm]; split <;> omega
    have c52 : Tryd.prog.cellsOf 52 = 2 := by kernel_rfl
    have c9 : Tryd.prog.cellsOf 9 = 1 := by kernel_rfl
    by_cases hz : len = 0
    · subst hz; exact ⟨[], some a, cap, rfl, by simp, .inl rfl⟩
    obtain ⟨b, o, rfl⟩ : ∃ b o, a = ⟨b, o, none⟩ := by
      obtain ⟨cs', hc, _⟩ := hi 0 (by omega)
      rw [c52] at hc
      exact plain_of hc (by omega)
    have hone : ∀ i, i < len → ∃ f : File, W.cell? ⟨b, o + i * 2, none⟩ = some (.string f.1) ∧ W.cell? ⟨b, o + i * 2 + 1, none⟩ = some (.string f.2) := by
      intro i hi'
      obtain ⟨cs', hc, ht⟩ := hi i (by omega)
      rw [c52] at hc
      obtain ⟨hlen, hat⟩ := elem_cells hc
      obtain ⟨y0, y1, k, _, _, h0, h1⟩ := trod_struct2 Tryd.underlying52 ht
      match cs', hlen with
      | [u0, u1], _ =>
        simp only [c9, List.drop_zero, List.take_succ_cons, List.take_zero, List.drop_succ_cons] at h0 h1
        obtain ⟨s0, hs0, _, _⟩ := DataW.trod_string Tryd.underlying9 h0
        obtain ⟨s1, hs1, _, _⟩ := DataW.trod_string Tryd.underlying9 h1
        obtain rfl := (List.cons.inj hs0).1
        obtain rfl := (List.cons.inj hs1).1
        exact ⟨(s0, s1), hat 0 (by omega), hat 1 (by omega)⟩
    obtain ⟨xs, hxl, hxs⟩ := list_choose len hone
    exact ⟨xs, some ⟨b, o, none⟩, cap, by rw [hxl], by omega, .inr ⟨b, o, rfl, fun j x hj => hxs j x hj⟩⟩
theorem act_of {r : Reach} {b0 : Nat} {v : Value} {d : DataW H} {p : List MemPlace} (hv : Value.okWide Tryd.prog W r b0 25 v) (h : DataW.Trod enc Tryd.prog W 0 sp held 25 v d p) : ∃ A vf vp, v = actV A vf vp ∧ ActAt W A vf vp := by
  obtain ⟨cs, rfl, hsz⟩ := okWide_struct Tryd.underlying25 hv
  have c25 : Tryd.prog.cellsOf 25 = 8 := by kernel_rfl
  have c3 : Tryd.prog.cellsOf 3 = 1 := by kernel_rfl
  have c9 : Tryd.prog.cellsOf 9 = 1 := by kernel_rfl
  have c22 : Tryd.prog.cellsOf 22 = 1 := by kernel_rfl
  have c23 : Tryd.prog.cellsOf 23 = 1 := by kernel_rfl
  obtain ⟨l⟩ := cs
  match l, hsz.trans c25 with
  | [u0, u1, u2, u3, u4, u5, u6, u7], _ =>
    obtain ⟨fuel, hf⟩ := h
    obtain ⟨xs, n, _, hx, _, hlen, hg⟩ := DataW.trod_struct Tryd.underlying25 hf
    match xs, hlen with
    | [y0, y1, y2, y3, y4, y5, y6, y7], _ =>
      have g0 := hg 0 _ rfl
      have g1 := hg 1 _ rfl
      have g2 := hg 2 _ rfl
      have g3 := hg 3 _ rfl
      have g4 := hg 4 _ rfl
      have g5 := hg 5 _ rfl
      have g6 := hg 6 _ rfl
      have g7 := hg 7 _ rfl
      simp [Value.cells, c3, c9, c22, c23] at g0 g1 g2 g3 g4 g5 g6 g7
      obtain ⟨z0, e0, _, w0⟩ := DataW.trod_int Tryd.underlying3 g0
      obtain ⟨s1, e1, _, _⟩ := DataW.trod_string Tryd.underlying9 g1
      obtain ⟨z2, e2, _, w2⟩ := DataW.trod_int Tryd.underlying3 g2
      obtain ⟨z3, e3, _, w3⟩ := DataW.trod_int Tryd.underlying3 g3
      obtain ⟨z4, e4, _, w4⟩ := DataW.trod_int Tryd.underlying3 g4
      obtain ⟨z5, e5, _, w5⟩ := DataW.trod_int Tryd.underlying3 g5
      obtain ⟨fs, hfs⟩ := files_of g6
      obtain ⟨ns, hns⟩ := ints_of g7
      obtain rfl := (List.cons.inj e0).1
      obtain rfl := (List.cons.inj e1).1
      obtain rfl := (List.cons.inj e2).1
      obtain rfl := (List.cons.inj e3).1
      obtain rfl := (List.cons.inj e4).1
      obtain rfl := (List.cons.inj e5).1
      exact ⟨⟨z0, s1, z2, z3, z4, z5, fs, ns⟩, u6, u7, rfl, hfs, hns, i64_of_wf w0, i64_of_wf w2, i64_of_wf w3, i64_of_wf w4, i64_of_wf w5⟩
end
end Go.Proofs.YtglekdhdogjnoaaDoor
