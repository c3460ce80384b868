/- A pattern of a run: values and worlds up to the numbers of their own blocks. What a run of the pattern's world shows holds in each world that fits the pattern. -/
import Derived.WalkKit
namespace Go.Proofs.YtnnppmcbgfadpaaGreatDoor
/-- Where a block of the pattern lies. -/
structure Loc where
  blk : Nat
  off : Nat
  size : Nat
  room : Nat
  z : Nat
abbrev Ren := Nat → Option Loc
def Ren.le (ρ ρ' : Ren) : Prop := ∀ b L, ρ b = some L → ρ' b = some L
theorem Ren.le_refl (ρ : Ren) : ρ.le ρ := fun _ _ h => h
theorem Ren.le_trans {a b c : Ren} (h : a.le b) (k : b.le c) : a.le c := fun x L e => k x L (h x L e)
def Ren.add (ρ : Ren) (b : Nat) (L : Loc) : Ren := fun i => if i = b then some L else ρ i
theorem Ren.add_same (ρ : Ren) (b : Nat) (L : Loc) : ρ.add b L b = some L := if_pos rfl
theorem Ren.add_ne (ρ : Ren) (b i : Nat) (L : Loc) (h : i ≠ b) : ρ.add b L i = ρ i := if_neg h
theorem Ren.le_add (ρ : Ren) (b : Nat) (L : Loc) (h : ρ b = none) : ρ.le (ρ.add b L) := by
  intro i M e
  rw [Ren.add_ne]
  · exact e
  · rintro rfl; rw [h] at e; cases e
inductive VR (ρ : Ren) : Value → Value → Prop
  | bool (b : Bool) : VR ρ (.bool b) (.bool b)
  | int (k : IntKind) (n : Int) : VR ρ (.int k n) (.int k n)
  | string (s : ByteArray) : VR ρ (.string s) (.string s)
  | pnil : VR ρ (.pointer none) (.pointer none)
  | ptr {b o : Nat} {L : Loc} (h : ρ b = some L) : VR ρ (.pointer (some ⟨b, o, none⟩)) (.pointer (some ⟨L.blk, L.off + o, none⟩))
  | snil : VR ρ (.slice none 0 0) (.slice none 0 0)
  | sfresh {b o : Nat} {L : Loc} (a' : Addr) (h : ρ b = some L) (hs : L.size = 0) : VR ρ (.slice (some ⟨b, o, none⟩) 0 0) (.slice (some a') 0 0)
  | sempty {b o : Nat} {L : Loc} (a' : Addr) (c' : Nat) (h : ρ b = some L) (hs : 0 < L.size) : VR ρ (.slice (some ⟨b, o, none⟩) 0 0) (.slice (some a') 0 c')
  | slice {b o n c c' : Nat} {L : Loc} (h : ρ b = some L) (hs : 0 < L.size) (hn : n ≤ c) (hc : 0 < c) (hcc : c' = c ∨ (c < c' ∧ L.off + o + c' * L.z ≤ L.room)) :
      VR ρ (.slice (some ⟨b, o, none⟩) n c) (.slice (some ⟨L.blk, L.off + o, none⟩) n c')
  | mnil : VR ρ (.map none) (.map none)
  | map {b : Nat} {L : Loc} (h : ρ b = some L) : VR ρ (.map (some b)) (.map (some L.blk))
  | func (fn : Fn) {f c f' c' : Array Value} (hy : ∀ l, fn ≠ .yield l) (hf : f.size = f'.size) (hc : c.size = c'.size)
      (h1 : ∀ (i : Nat) (v v' : Value), f[i]? = some v → f'[i]? = some v' → VR ρ v v') (h2 : ∀ (i : Nat) (v v' : Value), c[i]? = some v → c'[i]? = some v' → VR ρ v v') : VR ρ (.func fn f c) (.func fn f' c')
  | yield {l : Nat} {L : Loc} (h : ρ l = some L) : VR ρ (.func (.yield l) #[] #[]) (.func (.yield L.blk) #[] #[])
  | nilFunc : VR ρ .nilFunc .nilFunc
  | nilIface : VR ρ .nilIface .nilIface
  | iface (t : TypeId) {v v' : Value} (h : VR ρ v v') : VR ρ (.iface t v) (.iface t v')
  | agg {cs cs' : Array Value} (hs : cs.size = cs'.size) (h : ∀ (i : Nat) (v v' : Value), cs[i]? = some v → cs'[i]? = some v' → VR ρ v v') : VR ρ (.agg cs) (.agg cs')
  | tuple {cs cs' : Array Value} (hs : cs.size = cs'.size) (h : ∀ (i : Nat) (v v' : Value), cs[i]? = some v → cs'[i]? = some v' → VR ρ v v') : VR ρ (.tuple cs) (.tuple cs')
theorem VR.mono {ρ ρ' : Ren} (hle : ρ.le ρ') {v v' : Value} (h : VR ρ v v') : VR ρ' v v' := by
  induction h with
  | bool b => exact .bool b
  | int k n => exact .int k n
  | string s => exact .string s
  | pnil => exact .pnil
  | ptr h => exact .ptr (hle _ _ h)
  | snil => exact .snil
  | sfresh a h hs => exact .sfresh a (hle _ _ h) hs
  | sempty a c h hs => exact .sempty a c (hle _ _ h) hs
  | slice h hs hn hc hcc => exact .slice (hle _ _ h) hs hn hc hcc
  | mnil => exact .mnil
  | map h => exact .map (hle _ _ h)
  | func fn hy hf hc _ _ i1 i2 => exact .func fn hy hf hc i1 i2
  | yield h => exact .yield (hle _ _ h)
  | nilFunc => exact .nilFunc
  | nilIface => exact .nilIface
  | iface t _ ih => exact .iface t ih
  | agg hs _ ih => exact .agg hs ih
  | tuple hs _ ih => exact .tuple hs ih
/-- Rows of values, place by place. -/
structure AR (ρ : Ren) (a a' : Array Value) : Prop where
  size : a.size = a'.size
  get : ∀ (i : Nat) (v v' : Value), a[i]? = some v → a'[i]? = some v' → VR ρ v v'
theorem AR.mono {ρ ρ' : Ren} (hle : ρ.le ρ') {a a' : Array Value} (h : AR ρ a a') : AR ρ' a a' := ⟨h.size, fun i v v' x y => (h.get i v v' x y).mono hle⟩
theorem AR.some {ρ : Ren} {a a' : Array Value} (h : AR ρ a a') {i : Nat} {v : Value} (hv : a[i]? = some v) : ∃ v', a'[i]? = some v' ∧ VR ρ v v' := by
  have hi : i < a'.size := by rw [← h.size]; exact (Array.getElem?_eq_some_iff.1 hv).1
  exact ⟨a'[i], Array.getElem?_eq_getElem hi, h.get i v _ hv (Array.getElem?_eq_getElem hi)⟩
theorem AR.none {ρ : Ren} {a a' : Array Value} (h : AR ρ a a') {i : Nat} (hv : a[i]? = none) : a'[i]? = none := by
  rw [Array.getElem?_eq_none_iff] at hv ⊢; rw [← h.size]; exact hv
theorem AR.nil (ρ : Ren) : AR ρ #[] #[] := ⟨rfl, fun i v v' h => by simp at h⟩
theorem AR.push {ρ : Ren} {a a' : Array Value} (h : AR ρ a a') {v v' : Value} (hv : VR ρ v v') : AR ρ (a.push v) (a'.push v') := by
  refine ⟨by simp [h.size], fun i x y hx hy => ?_⟩
  rw [Array.getElem?_push] at hx hy
  split at hx
  · rename_i hi
    rw [if_pos (by rw [← h.size]; exact hi)] at hy
    cases hx; cases hy; exact hv
  · rename_i hi
    rw [if_neg (by rw [← h.size]; exact hi)] at hy
    exact h.get i x y hx hy
theorem AR.append {ρ : Ren} {a a' b b' : Array Value} (h : AR ρ a a') (k : AR ρ b b') : AR ρ (a ++ b) (a' ++ b') := by
  refine ⟨by simp [h.size, k.size], fun i x y hx hy => ?_⟩
  rw [Array.getElem?_append] at hx hy
  split at hx
  · rename_i hi
    rw [if_pos (by rw [← h.size]; exact hi)] at hy
    exact h.get i x y hx hy
  · rename_i hi
    rw [if_neg (by rw [← h.size]; exact hi), ← h.size] at hy
    exact k.get _ x y hx hy
theorem AR.extract {ρ : Ren} {a a' : Array Value} (h : AR ρ a a') (i j : Nat) : AR ρ (a.extract i j) (a'.extract i j) := by
  refine ⟨by simp [h.size], fun k x y hx hy => ?_⟩
  rw [Array.getElem?_extract] at hx hy
  split at hx
  · rename_i hi
    rw [if_pos (by rw [← h.size]; exact hi)] at hy
    exact h.get _ x y hx hy
  · cases hx
theorem AR.set {ρ : Ren} {a a' : Array Value} (h : AR ρ a a') (i : Nat) {v v' : Value} (hv : VR ρ v v') : AR ρ (a.setIfInBounds i v) (a'.setIfInBounds i v') := by
  refine ⟨by simp [h.size], fun k x y hx hy => ?_⟩
  rw [Array.getElem?_setIfInBounds] at hx hy
  split at hx
  · rename_i e
    rw [if_pos e] at hy
    subst e
    split at hx
    · split at hy
      · cases hx; cases hy; exact hv
      · cases hy
    · cases hx
  · rename_i e
    rw [if_neg e] at hy
    exact h.get _ x y hx hy
theorem AR.one {ρ : Ren} {v v' : Value} (h : VR ρ v v') : AR ρ #[v] #[v'] := (AR.nil ρ).push h
theorem VR.cells {ρ : Ren} {v v' : Value} (h : VR ρ v v') : AR ρ v.cells v'.cells := by
  cases h with
  | agg hs h => exact ⟨hs, h⟩
  | func fn hy hf hc h1 h2 => exact AR.one (.func fn hy hf hc h1 h2)
  | tuple hs h => exact AR.one (.tuple hs h)
  | iface t h => exact AR.one (.iface t h)
  | bool b => exact AR.one (.bool b)
  | int k n => exact AR.one (.int k n)
  | string s => exact AR.one (.string s)
  | pnil => exact AR.one .pnil
  | ptr h => exact AR.one (.ptr h)
  | snil => exact AR.one .snil
  | sfresh a h hs => exact AR.one (.sfresh a h hs)
  | sempty a c h hs => exact AR.one (.sempty a c h hs)
  | slice h hs hn hc hcc => exact AR.one (.slice h hs hn hc hcc)
  | mnil => exact AR.one .mnil
  | map h => exact AR.one (.map h)
  | yield h => exact AR.one (.yield h)
  | nilFunc => exact AR.one .nilFunc
  | nilIface => exact AR.one .nilIface
/-- A value that holds no address. -/
def plainV : Nat → Value → Bool
  | _, .bool _ | _, .int .. | _, .string _ | _, .pointer none | _, .slice none 0 0 | _, .map none | _, .nilFunc | _, .nilIface => true
  | n + 1, .func (.func _) f c => f.toList.all (plainV n) && c.toList.all (plainV n)
  | n + 1, .iface _ v => plainV n v
  | n + 1, .agg cs | n + 1, .tuple cs => cs.toList.all (plainV n)
  | _, _ => false
theorem plainAll {ρ : Ren} {n : Nat} (ih : ∀ v, plainV n v = true → VR ρ v v) {cs : Array Value} (h : cs.toList.all (plainV n) = true) : ∀ (i : Nat) (v v' : Value), cs[i]? = some v → cs[i]? = some v' → VR ρ v v' := by
  intro i v v' hv hv'
  rw [hv] at hv'; cases hv'
  refine ih v (List.all_eq_true.1 h v ?_)
  exact Array.mem_toList_iff.2 (Array.mem_of_getElem? hv)
theorem plain_VR (ρ : Ren) : ∀ (n : Nat) (v : Value), plainV n v = true → VR ρ v v := by
  intro n
  induction n with
  | zero =>
    intro v h
    unfold plainV at h
    split at h <;> first | (rename_i heq; cases heq; done) | constructor | cases h
  | succ n ih =>
    intro v h
    unfold plainV at h
    split at h
    all_goals first
      | (rename_i heq; cases heq; simp only [Bool.and_eq_true] at h; exact .func _ (fun l e => by cases e) rfl rfl (plainAll ih h.1) (plainAll ih h.2))
      | (rename_i heq; cases heq; exact .iface _ (ih _ h))
      | (rename_i heq; cases heq; exact .agg rfl (plainAll ih h))
      | (rename_i heq; cases heq; exact .tuple rfl (plainAll ih h))
      | constructor
      | cases h
end Go.Proofs.YtnnppmcbgfadpaaGreatDoor
