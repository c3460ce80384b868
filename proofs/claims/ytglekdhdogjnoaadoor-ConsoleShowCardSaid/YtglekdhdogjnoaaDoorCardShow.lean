/- ConsoleShow: for every input and any two outcomes the law returns true and leaves its arguments as they were; the listed variables are tied to the program's text. Conditions: those of the given row and card, no others. -/
import Derived.Test.YtglekdhdogjnoaaDoorShlB
import Derived.Test.YtglekdhdogjnoaaDoorRowB
namespace Go.Proofs.YtglekdhdogjnoaaDoor
open Go.ChangeShapes Go.WideShapes Go.ChangeAt Go.WideMaps Go.WideElems Go.RowKit Go.Deep
set_option maxRecDepth 100000
theorem show_lifted (os : Os) (started : os.Started) (H : Type) (enc : TypeId × Value → H) :
    ReturnsInHanded {} Tryd.checked os 4 .any (fun w args => (Rows.consoleShowSpec.pre enc Tryd.prog Tryd.f4 [] false w args ∧ laidMetH Tryd.prog laidL w) ∧ sizedMet enc Tryd.prog Tryd.f4 (OpenSpec.ofChange Rows.consoleShowSpec) false w args)
      (Rows.consoleShowSpec.post enc Tryd.prog Tryd.f4 false true false false) := by
  refine returnsInHanded_of_change_and (C := Tryd.checked) (X := fun w _ => laidMetH Tryd.prog laidL w) (fun _ _ _ hh h => h.of_heap hh) ownK started (by kernel_rfl) Tryd.func4
    (ChangeSpec.witness_shaped (enc := enc) (C := Tryd.checked) (os := os) (X := fun w _ => laidMetH Tryd.prog laidL w) false (World.doorLaid Tryd.prog 62 os) #[.agg #[.int .i64 0, .string ⟨#[]⟩, .int .i64 0, .int .i64 0, .int .i64 0, .int .i64 0, .slice none 0 0, .slice none 0 0], .agg #[.int .i64 0, .int .i64 0, .slice none 0 0], .agg #[.int .i64 0, .int .i64 0, .slice none 0 0]] 8 rfl (World.shaped_of_RefB (by kernel_rfl) (by kernel_rfl)) (by kernel_rfl) (by kernel_rfl) (by kernel_rfl) (door_met os _)) ?_
  intro W base args ds gs before hval0 hW _ _ hL _
  have hval : ∀ (j : Nat) t v, Tryd.f4.params[j]? = some t → args[j]? = some v → Value.okWide Tryd.prog W .any base t v := hval0
  have hW' := hW
  obtain ⟨p, q, hA0, hV, rfl, hfz, hnd⟩ := hW
  have hA : DataW.TrodAll enc Tryd.prog W 0 (fun _ => true) true Tryd.f4.params.toList args.toList ds p := hA0
  rw [Tryd.params4] at hA hval
  obtain ⟨v0, v1, v2, d0, d1, d2, p0, p1, p2, rfl, rfl, rfl, h0, h1, h2⟩ := trodAll_three hA
  obtain ⟨rfl, rfl⟩ := trodVars_none hV
  obtain ⟨A, vf, vp, rfl, hact⟩ := act_of (hval 0 25 v0 rfl rfl) h0
  obtain ⟨X, vx, rfl, hx⟩ := out_of (hval 1 29 v1 rfl rfl) h1
  obtain ⟨Y, vy, rfl, hy⟩ := out_of (hval 2 29 v2 rfl rfl) h2
  clear hA0 hval0
  refine (lawShow_any A vf vp X Y vx vy W hx hy (tab_of_laid hL)).mono fun e W' ⟨he, hB⟩ => ?_
  subst he
  have a0 := Below.trod laidOutP (by kernel_rfl) (of_decide_eq_true (by kernel_rfl)) h0 hB (fun x hx => hW'.lt x (by simp [hx]))
  have a1 := Below.trod laidOutP (by kernel_rfl) (of_decide_eq_true (by kernel_rfl)) h1 hB (fun x hx => hW'.lt x (by simp [hx]))
  have a2 := Below.trod laidOutP (by kernel_rfl) (of_decide_eq_true (by kernel_rfl)) h2 hB (fun x hx => hW'.lt x (by simp [hx]))
  refine ⟨_, rfl, _, _, _, [], p0 ++ (p1 ++ p2), [], hW', ?_, ?_, ?_, hB.frame _, fun h => by cases h⟩
  · exact trodAll_mk1 (shut_bool Tryd.underlying4 _)
  · exact trodAll_mk3 a0 a1 a2
  · exact rfl
theorem show_holds : Rows.ConsoleShowSaid :=
  OpenClaim.holds_of_wide 4 Tryd.f4 rfl rfl rfl rfl rfl rfl rfl ⟨rfl, rfl, rfl, rfl, rfl⟩ rfl rfl rfl rfl rfl (by kernel_rfl) Tryd.func4 (by kernel_rfl)
    (of_decide_eq_true (by kernel_rfl)) (by unfold Func.isWrapper; first | (rw [if_pos (by decide +kernel)]; kernel_rfl) | (rw [if_neg (by decide +kernel)]; exact ⟨rfl, rfl⟩))
    (fun os started H enc _ => show_lifted os started H enc)
theorem consoleShow_card : Rows.ConsoleShowCardSaid :=
  Claim7.holds_tied_plain_at .later [] [.data, .data, .data, .sentinel, .sentinel] true (true, "8540ae786cd3e4f23538c44d3cd3e5fe329b01b04b2e9e757177091dfda544f1") true
    show_holds (fun _ h => by cases h) (by kernel_rfl) (fun _ h => by cases h) consoleShow_row_tie rfl ⟨rfl, rfl⟩ (by kernel_rfl) rfl
    (fun f fn hf hfn => by
      obtain rfl : f = 4 := Option.some.inj ((show Tryd.prog.funcNamed "cordwood/cordwoodlaw60.ConsoleShow" = some 4 by kernel_rfl).symm.trans hf) |>.symm
      obtain rfl : fn = Tryd.f4 := (Option.some.inj (Tryd.func4.symm.trans hfn)).symm
      exact ⟨by kernel_rfl, fun j t ht => by
        rw [Tryd.params4] at ht
        have hm : t ∈ [25, 29, 29] := by simpa using Array.mem_of_getElem? ht
        have hall : ([25, 29, 29].all fun u => !Tryd.prog.wantsStandIn u) = true := by kernel_rfl
        exact (show Tryd.prog.wantsStandIn t = false by simpa using List.all_eq_true.1 hall t hm)⟩)
    (by kernel_rfl)
#print axioms consoleShow_card
end Go.Proofs.YtglekdhdogjnoaaDoor
