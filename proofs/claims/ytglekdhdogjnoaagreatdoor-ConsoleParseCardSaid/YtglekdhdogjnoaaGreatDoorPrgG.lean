/- A look-up in the map of forms. -/
import Derived.Test.YtglekdhdogjnoaaGreatDoorPrgF
namespace Go.Proofs.YtglekdhdogjnoaaGreatDoor
open Go.RowKit
def formOf (k : Int) : Value × Bool :=
  if k = 1 then (formV ⟨#[115, 117, 98, 109, 105, 116]⟩ 28 32, true) else if k = 2 then (formV ⟨#[97, 112, 112, 114, 111, 118, 101]⟩ 65 66, true) else if k = 3 then (formV ⟨#[116, 105, 99, 107]⟩ 36 37, true)
  else if k = 4 then (formV ⟨#[99, 117, 116]⟩ 38 40, true) else if k = 5 then (formV ⟨#[112, 111, 119, 101, 114]⟩ 67 68, true) else if k = 6 then (formV ⟨#[119, 111, 114, 107, 101, 114]⟩ 43 44, true)
  else if k = 7 then (formV ⟨#[114, 111, 108, 108, 98, 97, 99, 107]⟩ 65 66, true) else if k = 8 then (formV ⟨#[114, 117, 110]⟩ 67 68, true) else (.agg #[.string ⟨#[]⟩, .nilFunc, .nilFunc], false)
theorem find_forms (k : Int) : ∃ r, Instr.findNow (.int .i64) (.int .i64 k) formsE.toList 0 = some r ∧ (match r with | some x => (x.2, true) | none => (.agg #[.string ⟨#[]⟩, .nilFunc, .nilFunc], false)) = formOf k := by
  by_cases h : 1 ≤ k ∧ k ≤ 8
  · have hc : k = 1 ∨ k = 2 ∨ k = 3 ∨ k = 4 ∨ k = 5 ∨ k = 6 ∨ k = 7 ∨ k = 8 := by omega
    rcases hc with rfl | rfl | rfl | rfl | rfl | rfl | rfl | rfl
    all_goals exact ⟨_, rfl, rfl⟩
  · refine ⟨none, ?_, ?_⟩
    · have hs : ∀ n : Int, k ≠ n → Instr.sameNow (.int .i64) (.int .i64 k) (.int .i64 n) = some false := by
        intro n hn; simp [Instr.sameNow, hn]
      simp [formsE, Instr.findNow, hs 1 (by omega), hs 2 (by omega), hs 3 (by omega), hs 4 (by omega), hs 5 (by omega), hs 6 (by omega), hs 7 (by omega), hs 8 (by omega)]
    · simp only [formOf]
      rw [if_neg (by omega), if_neg (by omega), if_neg (by omega), if_neg (by omega), if_neg (by omega), if_neg (by omega), if_neg (by omega), if_neg (by omega)]
theorem look_forms {w0 w : World} {b : Nat} {c : Nat} (h : MapAt w0 w b formsE c) (k : Int) : (Instr.lookup 47 (.map (some b)) (.int .i64 k) true).run Tryz.prog w = .ok (.tuple #[(formOf k).1, .bool (formOf k).2]) w := by
  obtain ⟨r, hr, he⟩ := find_forms k
  have hk := MapKept.run_findKey (P := Tryz.prog) (w := w) (kt := 3) (d := .int .i64) (k := .int .i64 k) (l := formsE.toList) (a := r) Tryz.underlying3 hr
  have hck := fun e => MapKept.run_checkKey (P := Tryz.prog) (w := w) (kt := 3) (d := .int .i64) (k := .int .i64 k) Tryz.underlying3 (by simp [MapKept.IsKey]) e 9999
  rw [← he]
  unfold Instr.lookup
  cases r with
  | none => simp [Sem.run_bind, run_underlying Tryz.underlying47, Result.andThen, MapKept.run_getObj_map h.map, hck, hk]
  | some x => obtain ⟨i, v⟩ := x; simp [Sem.run_bind, run_underlying Tryz.underlying47, Result.andThen, MapKept.run_getObj_map h.map, hck, hk]
end Go.Proofs.YtglekdhdogjnoaaGreatDoor
