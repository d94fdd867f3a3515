/- A part of the proof: GmRw: an abstract machine, what it does, and what the functions of the program come to on it. -/
import Derived.Test.YtdpmglimjmecgaaGmE
set_option linter.unusedVariables false
set_option linter.unusedSimpArgs false
namespace Go.Gm
/- Raw expressions: trees of two numbers, and how they lie in a heap. -/

inductive Rw where
  | mk (k n : Int) (l : List Rw)
  deriving Inhabited
def Rw.kids : Rw → List Rw
  | .mk _ _ l => l
theorem Rw.kid_lt {c r : Rw} (h : c ∈ r.kids) : SizeOf.sizeOf c < SizeOf.sizeOf r := by
  cases r with
  | mk k n l => have := List.sizeOf_lt_of_mem (show c ∈ l from h); simp only [Rw.mk.sizeOf_spec]; omega
theorem Rw.ind {p : Rw → Prop} (h : ∀ r, (∀ c ∈ r.kids, p c) → p r) (r : Rw) : p r := by
  have : ∀ (N : Nat) (r : Rw), SizeOf.sizeOf r ≤ N → p r := by
    intro N
    induction N with
    | zero => intro r hr; exact h r fun c hc => by have := Rw.kid_lt hc; omega
    | succ N ih => intro r hr; exact h r fun c hc => ih c (by have := Rw.kid_lt hc; omega)
  exact this _ r (Nat.le_refl _)
mutual
inductive RV (h : Heap) : Rw → List AV → Prop
  | mk {k n : Int} {l : List Rw} {s : AV} {css : List (List AV)} : Sl h 3 s css → RVs h l css → RV h (.mk k n l) [I k, I n, s]
inductive RVs (h : Heap) : List Rw → List (List AV) → Prop
  | nil : RVs h [] []
  | cons {r : Rw} {cs : List AV} {l : List Rw} {css : List (List AV)} : RV h r cs → RVs h l css → RVs h (r :: l) (cs :: css)
end
mutual
theorem RV.ext {h h' : Heap} (e : Ext h h') : ∀ {r : Rw} {cs : List AV}, RV h r cs → RV h' r cs
  | _, _, .mk a b => .mk (a.ext e) (RVs.ext e b)
theorem RVs.ext {h h' : Heap} (e : Ext h h') : ∀ {l : List Rw} {css : List (List AV)}, RVs h l css → RVs h' l css
  | _, _, .nil => .nil
  | _, _, .cons a b => .cons (RV.ext e a) (RVs.ext e b)
end
theorem RVs.len {h : Heap} : ∀ {l : List Rw} {css : List (List AV)}, RVs h l css → l.length = css.length
  | _, _, .nil => rfl
  | _, _, .cons _ b => by simp [RVs.len b]
theorem RVs.get {h : Heap} : ∀ {l : List Rw} {css : List (List AV)}, RVs h l css → ∀ {i : Nat} {r : Rw}, l[i]? = some r → ∃ cs, css[i]? = some cs ∧ RV h r cs
  | _, _, .nil, i, r, q => by simp at q
  | _, _, .cons a b, 0, r, q => by
    simp only [List.getElem?_cons_zero, Option.some.injEq] at q
    subst q; exact ⟨_, rfl, a⟩
  | _, _, .cons a b, i + 1, r, q => by
    obtain ⟨cs, h1, h2⟩ := RVs.get b (i := i) (by simpa using q)
    exact ⟨cs, by simpa using h1, h2⟩
theorem RV.len {h : Heap} {r : Rw} {cs : List AV} (a : RV h r cs) : cs.length = 3 := by cases a; rfl
theorem RV.one {h : Heap} {r : Rw} {cs : List AV} (a : RV h r cs) : cs.all AV.one = true := by
  cases a with
  | mk a b => simp only [List.all_cons, List.all_nil, one_int, a.one, Bool.and_self]

end Go.Gm
