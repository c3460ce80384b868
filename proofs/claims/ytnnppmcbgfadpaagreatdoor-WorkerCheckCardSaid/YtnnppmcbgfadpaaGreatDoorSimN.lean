/- Operations: slices, ranges over maps, entries. -/
import Derived.Test.YtnnppmcbgfadpaaGreatDoorSimM
namespace Go.Proofs.YtnnppmcbgfadpaaGreatDoor
open Go.RowKit
section
variable {P : Program} {w0 : World} {q : Bool} {ρ : Ren} {W w : World} {pw pw' : PW}
theorem sim_sliceAt (t : TypeId) {v v' : Value} (hv : VR ρ v v') {lo lo' hi hi' mx mx' : Option Value} (h1 : VRo ρ lo lo') (h2 : VRo ρ hi hi') (h3 : VRo ρ mx mx')
    (hfit : SizeFits P ρ t v) (hnp : ∀ a, v ≠ .pointer a) : Sim P w0 q ρ VR (Instr.sliceAt t v lo hi mx) (Instr.sliceAt t v' lo' hi' mx') := by
  intro ρ1 hle W w hr a W' e
  have key := sim_slice (w0 := w0) (q := q) t hv h1 h2 h3 hfit hnp ρ1 hle W w hr a W'
  unfold Instr.sliceAt at e ⊢
  rw [Sem.run_bind] at e
  have hf := fixed_underlying (P := P) t
  rcases hf with ⟨d, hd⟩ | ⟨x, hx⟩
  · rw [hd] at e
    simp only [Sem.run_bind, hd, Result.andThen_ok] at e ⊢
    cases d with
    | array n elem =>
      exfalso
      have : (Instr.sureAddr v).run P W = .halt (.stuck "an address expected (no nilCheck in front?)") W := by
        cases v with
        | pointer a => exact (hnp a rfl).elim
        | _ => rfl
      rw [Sem.run_bind, this] at e
      cases e
    | _ => exact key e
  · rw [hx] at e; cases e
theorem sim_pick {c c' a a' b b' : Value} (hc : VR ρ c c') (ha : VR ρ a a') (hb : VR ρ b b') : Sim P w0 q ρ NR (do pure (.value (if ← asBool c then a else b))) (do pure (.value (if ← asBool c' then a' else b'))) := by
  cases hc with
  | bool t =>
    refine sim_bind (RA := fun _ x x' => x = t ∧ x' = t) (sim_pure fun _ _ => ⟨rfl, rfl⟩) fun ρ1 x x' hle hx => ?_
    obtain ⟨rfl, rfl⟩ := hx
    refine sim_pure fun ρ2 hle2 => .value ?_
    have hle3 := Ren.le_trans hle hle2
    cases x'
    · exact hb.mono hle3
    · exact ha.mono hle3
  | _ => exact sim_halt
theorem sim_rangeMap (t : TypeId) {v v' : Value} (hv : VR ρ v v') : Sim P w0 false ρ VR (Instr.range t v) (Instr.range t v') := by
  unfold Instr.range
  refine sim_bind (sim_fixed (fixed_underlying t)) fun ρ1 d d' hle hd => ?_
  obtain ⟨rfl, hrun⟩ := hd
  have hv1 := hv.mono hle
  have tail : ∀ {ρ2 : Ren} {o o' : Obj}, liveO o = true → (∀ ρ' L, ρ2.le ρ' → OR P ρ' L o o') → Sim P w0 false ρ2 VR (do pure (.pointer (some ⟨← newObj o, 0, none⟩))) (do pure (.pointer (some ⟨← newObj o', 0, none⟩))) := by
    intro ρ2 o o' hl hor
    refine sim_bind (sim_newObj hl hor) fun ρ3 a a' hle3 ha => ?_
    obtain ⟨L, h1, rfl, h0⟩ := ha
    refine sim_pure fun ρ4 hle4 => ?_
    have := VR.ptr (o := 0) (hle4 _ _ h1)
    rw [h0] at this
    exact this
  cases d with
  | string =>
    cases hv1 with
    | string s =>
      refine sim_bind (RA := fun _ a a' => a = .stringIter s 0 ∧ a' = .stringIter s 0) (sim_pure fun _ _ => ⟨rfl, rfl⟩) fun ρ2 o o' _ ho => ?_
      obtain ⟨rfl, rfl⟩ := ho
      exact tail rfl fun _ _ _ => .str s 0
    | _ => exact sim_halt
  | map kt et =>
    cases hv1 with
    | mnil =>
      refine sim_bind (RA := fun _ a a' => a = .mapIter none 0 #[] 0 ∧ a' = .mapIter none 0 #[] 0) (sim_pure fun _ _ => ⟨rfl, rfl⟩) fun ρ2 o o' _ ho => ?_
      obtain ⟨rfl, rfl⟩ := ho
      exact tail rfl fun _ _ _ => .mapIterNone 0 #[] 0
    | map hL =>
      rename_i m L
      refine sim_bind (sim_getObj hL) fun ρ2 o o' hle2 ho => ?_
      cases ho with
      | map c he => exact tail rfl fun ρ' L' hle3 => .mapIter (hle3 _ _ (hle2 _ _ hL)) c #[] c
      | _ => exact sim_halt
    | _ => exact sim_halt
  | _ => exact sim_halt
theorem ER.find {l l' : List MapEntry} (h : ER ρ l l') (p : Nat → Bool) : (l.find? (fun e => p e.born) = none ∧ l'.find? (fun e => p e.born) = none) ∨ ∃ e e', l.find? (fun e => p e.born) = some e ∧ l'.find? (fun e => p e.born) = some e' ∧ e'.key = e.key ∧ isKey e.key = true ∧ VR ρ e.val e'.val := by
  induction h with
  | nil => exact .inl ⟨rfl, rfl⟩
  | @cons x x' l l' hk hi hb hv hl ih =>
    simp only [List.find?_cons, hb]
    cases p x.born with
    | true => exact .inr ⟨x, x', rfl, rfl, hk, hi, hv⟩
    | false => exact ih
theorem key_VR {k : Value} (h : isKey k = true) (ρ : Ren) : VR ρ k k := by
  cases k <;> first | (cases h; done) | constructor
theorem sim_entry {v v' : Value} (hv : VR ρ v v') (hoff : ∀ b o L, v = .pointer (some ⟨b, o, none⟩) → ρ b = some L → L.off = 0) : Sim P w0 q ρ VR (Instr.entry v) (Instr.entry v') := by
  unfold Instr.entry
  cases hv with
  | ptr hL =>
    rename_i b o L
    have h0 := hoff b o L rfl hL
    rw [h0]
    cases o with
    | succ o => exact sim_halt
    | zero =>
      refine sim_bind (sim_getObj hL) fun ρ2 o o' hle2 ho => ?_
      cases ho with
      | mapIter hm a seen c =>
        dsimp only
        cases hb : seen.back? with
        | none => exact sim_halt
        | some stamp =>
          refine sim_bind (sim_getObj hm) fun ρ3 o o' hle3 ho => ?_
          cases ho with
          | map cl he =>
            rename_i es es'
            dsimp only
            split
            · exact sim_halt
            · have := he.find (fun n => n == stamp)
              rw [Array.find?_toList, Array.find?_toList] at this
              rcases this with ⟨h1, h2⟩ | ⟨e, e', h1, h2, h3, h4, h5⟩
              · simp only [h1, h2]; exact sim_halt
              · simp only [h1, h2]
                refine sim_pure fun ρ4 hle4 => ?_
                rw [h3]
                have : AR ρ4 #[e.key, e.val] #[e.key, e'.val] := ((AR.nil ρ4).push (key_VR h4 ρ4)).push (h5.mono hle4)
                exact .tuple this.size this.get
          | _ => exact sim_halt
      | _ => exact sim_halt
  | _ => exact sim_halt
theorem ER.filter {l l' : List MapEntry} (h : ER ρ l l') (p : Nat → Bool) : ER ρ (l.filter (fun e => p e.born)) (l'.filter (fun e => p e.born)) := by
  induction h with
  | nil => exact .nil
  | @cons x x' l l' hk hi hb hv hl ih =>
    simp only [List.filter_cons, hb]
    cases p x.born with
    | true => exact .cons hk hi hb hv ih
    | false => exact ih
theorem ER.app {l l' m m' : List MapEntry} (h : ER ρ l l') (k : ER ρ m m') : ER ρ (l ++ m) (l' ++ m') := by
  induction h with
  | nil => exact k
  | cons hk hi hb hv hl ih => exact .cons hk hi hb hv ih
theorem ER.len {l l' : List MapEntry} (h : ER ρ l l') : l.length = l'.length := by
  induction h with
  | nil => rfl
  | cons _ _ _ _ _ ih => simp [ih]
theorem ER.allb {l l' : List MapEntry} (h : ER ρ l l') (p : Nat → Bool) : l.all (fun e => p e.born) = l'.all (fun e => p e.born) := by
  induction h with
  | nil => rfl
  | @cons x x' l l' hk hi hb hv hl ih => simp only [List.all_cons, hb, ih]
end
end Go.Proofs.YtnnppmcbgfadpaaGreatDoor
