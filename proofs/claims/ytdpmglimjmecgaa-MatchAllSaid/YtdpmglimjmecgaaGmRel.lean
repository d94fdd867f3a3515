/- A part of the proof: GmRel: an abstract machine, what it does, and what the functions of the program come to on it. -/
import Derived.Test.YtdpmglimjmecgaaGmCore
import Derived.Below
import Derived.Laws.AppendOwn
import Derived.Laws.CopyRow
set_option linter.unusedVariables false
set_option linter.unusedSimpArgs false
namespace Go.Gm
open Go.RowKit

/-- Where a row of cells lies: its block, from which cell on, how many cells the block has, how many of the row's stand there. -/
structure Loc where
  b : Nat
  d : Nat
  N : Nat
  n : Nat
structure Ren where
  c : Nat → Nat → Option Loc
  m : Nat → Option Nat

mutual
inductive VR (φ : Ren) : AV → Value → Prop
  | undef (v : Value) : VR φ .undef v
  | bool (b : Bool) : VR φ (.bool b) (.bool b)
  | int (k : IntKind) (n : Int) : VR φ (.int k n) (.int k n)
  | str (s : ByteArray) : VR φ (.str s) (.string s)
  | nilp : VR φ .nilp (.pointer none)
  | ptr {o off hi g : Nat} {l : Loc} : φ.c o g = some l → hi ≤ l.n → VR φ (.ptr o off hi g) (.pointer (some ⟨l.b, l.d + off, none⟩))
  | nils : VR φ .nils (.slice none 0 0)
  | sl {o off len sz g cap : Nat} {lim : Option Nat} {l : Loc} : φ.c o g = some l → off + len * sz ≤ l.n → len ≤ cap → cap ≤ maxLen → l.d + off + cap * sz ≤ l.N →
      (∀ c, lim = some c → cap = c) → VR φ (.sl o off len sz lim g) (.slice (some ⟨l.b, l.d + off, none⟩) len cap)
  | sl0 {o off sz g : Nat} {lim : Option Nat} {a : Addr} : (lim = none → ∃ l, φ.c o g = some l ∧ off ≤ l.n) → (∀ c, lim = some c → c = 0) → VR φ (.sl o off 0 sz lim g) (.slice (some a) 0 0)
  | nilmap : VR φ .nilmap (.map none)
  | map {o b : Nat} : φ.m o = some b → VR φ (.map o) (.map (some b))
  | nilfn : VR φ .nilfn .nilFunc
  | fn {f : FuncId} {xs ys : List AV} {xs' ys' : List Value} : VRs φ xs xs' → VRs φ ys ys' → VR φ (.fn f xs ys) (.func (.func f) xs'.toArray ys'.toArray)
  | nilifc : VR φ .nilifc .nilIface
  | ifc {t : TypeId} {v : AV} {v' : Value} : VR φ v v' → VR φ (.ifc t v) (.iface t v')
  | agg {cs : List AV} {cs' : List Value} : VRs φ cs cs' → VR φ (.agg cs) (.agg cs'.toArray)
  | tup {cs : List AV} {cs' : List Value} : VRs φ cs cs' → VR φ (.tup cs) (.tuple cs'.toArray)
inductive VRs (φ : Ren) : List AV → List Value → Prop
  | nil : VRs φ [] []
  | cons {v : AV} {v' : Value} {vs : List AV} {vs' : List Value} : VR φ v v' → VRs φ vs vs' → VRs φ (v :: vs) (v' :: vs')
end

/-- More is told. -/
structure Ren.le (φ ψ : Ren) : Prop where
  c : ∀ o g l, φ.c o g = some l → ψ.c o g = some l
  m : ∀ o b, φ.m o = some b → ψ.m o = some b
theorem Ren.le.refl (φ : Ren) : φ.le φ := ⟨fun _ _ _ h => h, fun _ _ h => h⟩
theorem Ren.le.trans {φ ψ χ : Ren} (h : φ.le ψ) (k : ψ.le χ) : φ.le χ := ⟨fun o g l e => k.c o g l (h.c o g l e), fun o b e => k.m o b (h.m o b e)⟩

mutual
theorem VR.mono {φ ψ : Ren} (h : φ.le ψ) : ∀ {x : AV} {v : Value}, VR φ x v → VR ψ x v
  | _, _, .undef v => .undef v
  | _, _, .bool b => .bool b
  | _, _, .int k n => .int k n
  | _, _, .str s => .str s
  | _, _, .nilp => .nilp
  | _, _, .ptr e e2 => .ptr (h.c _ _ _ e) e2
  | _, _, .nils => .nils
  | _, _, .sl e a b c d f => .sl (h.c _ _ _ e) a b c d f
  | _, _, .sl0 e b => .sl0 (fun q => let ⟨l, h1, h2⟩ := e q; ⟨l, h.c _ _ _ h1, h2⟩) b
  | _, _, .nilmap => .nilmap
  | _, _, .map e => .map (h.m _ _ e)
  | _, _, .nilfn => .nilfn
  | _, _, .fn a b => .fn (VRs.mono h a) (VRs.mono h b)
  | _, _, .nilifc => .nilifc
  | _, _, .ifc a => .ifc (VR.mono h a)
  | _, _, .agg a => .agg (VRs.mono h a)
  | _, _, .tup a => .tup (VRs.mono h a)
theorem VRs.mono {φ ψ : Ren} (h : φ.le ψ) : ∀ {xs : List AV} {vs : List Value}, VRs φ xs vs → VRs ψ xs vs
  | _, _, .nil => .nil
  | _, _, .cons a b => .cons (VR.mono h a) (VRs.mono h b)
end

section
variable {φ : Ren}
theorem VRs.length : ∀ {xs : List AV} {vs : List Value}, VRs φ xs vs → xs.length = vs.length
  | _, _, .nil => rfl
  | _, _, .cons _ b => by simp [VRs.length b]
theorem VRs.get : ∀ {xs : List AV} {vs : List Value}, VRs φ xs vs → ∀ {i : Nat} {x : AV}, xs[i]? = some x → ∃ v, vs[i]? = some v ∧ VR φ x v
  | _, _, .nil, i, x, h => by simp at h
  | _, _, .cons a b, 0, x, h => by simp at h; subst h; exact ⟨_, by simp, a⟩
  | _, _, .cons a b, i + 1, x, h => by
    obtain ⟨v, hv, hr⟩ := VRs.get b (i := i) (by simpa using h)
    exact ⟨v, by simpa using hv, hr⟩
theorem VRs.get' {xs : List AV} {vs : List Value} (h : VRs φ xs vs) {i : Nat} {v : Value} (hv : vs[i]? = some v) : ∃ x, xs[i]? = some x ∧ VR φ x v := by
  have hl := h.length
  have hi : i < vs.length := (List.getElem?_eq_some_iff.1 hv).1
  obtain ⟨v', hv', hr⟩ := h.get (i := i) (x := xs[i]'(by omega)) (List.getElem?_eq_getElem (by omega))
  rw [hv] at hv'
  injection hv' with hv'
  subst hv'
  exact ⟨_, List.getElem?_eq_getElem (by omega), hr⟩
theorem VRs.append : ∀ {xs ys : List AV} {vs us : List Value}, VRs φ xs vs → VRs φ ys us → VRs φ (xs ++ ys) (vs ++ us)
  | _, _, _, _, .nil, k => k
  | _, _, _, _, .cons a b, k => .cons a (b.append k)
theorem VRs.of_get : ∀ {xs : List AV} {vs : List Value}, xs.length = vs.length → (∀ (i : Nat) (x : AV) (v : Value), xs[i]? = some x → vs[i]? = some v → VR φ x v) → VRs φ xs vs
  | [], [], _, _ => .nil
  | x :: xs, v :: vs, hl, h => .cons (h 0 x v (by simp) (by simp)) (VRs.of_get (by simpa using hl) (fun i y u hy hu => h (i + 1) y u (by simpa using hy) (by simpa using hu)))
  | [], _ :: _, hl, _ => by simp at hl
  | _ :: _, [], hl, _ => by simp at hl
theorem VRs.drop {xs : List AV} {vs : List Value} (h : VRs φ xs vs) (n : Nat) : VRs φ (xs.drop n) (vs.drop n) :=
  VRs.of_get (by simp [h.length]) (fun i x v hx hv => by
    obtain ⟨v', hv', hr⟩ := h.get (i := n + i) (by simpa [List.getElem?_drop] using hx)
    rw [List.getElem?_drop, hv'] at hv
    injection hv with hv; subst hv; exact hr)
theorem VRs.take {xs : List AV} {vs : List Value} (h : VRs φ xs vs) (n : Nat) : VRs φ (xs.take n) (vs.take n) :=
  VRs.of_get (by simp [h.length]) (fun i x v hx hv => by
    rw [List.getElem?_take] at hx hv
    split at hx
    · rename_i hi
      rw [if_pos hi] at hv
      obtain ⟨v', hv', hr⟩ := h.get hx
      rw [hv'] at hv
      injection hv with hv; subst hv; exact hr
    · cases hx)
theorem VR.one_of {x : AV} {v : Value} (h : VR φ x v) (h1 : x.one = true) : v.oneCell' = true := by
  cases h <;> first | rfl | simp [AV.one] at h1
theorem VRs.one_of : ∀ {xs : List AV} {vs : List Value}, VRs φ xs vs → xs.all AV.one = true → ∀ v ∈ vs, v.oneCell' = true
  | _, _, .nil, _ => by simp
  | _, _, .cons a b, h => by
    simp only [List.all_cons, Bool.and_eq_true] at h
    intro v hv
    rcases List.mem_cons.1 hv with rfl | hv
    · exact a.one_of h.1
    · exact VRs.one_of b h.2 v hv
end

/-- The cells of a row, held against the block in which they lie. -/
def CellsAt (φ : Ren) (cs : List AV) (l : Loc) (C : Array Value) : Prop :=
  l.n ≤ cs.length ∧ l.d + l.n ≤ l.N ∧ ∀ i, i < l.n → ∃ x v, cs[i]? = some x ∧ C[l.d + i]? = some v ∧ VR φ x v ∧ x.one = true

/-- The entries of a map. -/
inductive ERs (φ : Ren) (ks : KS) : List (AV × AV) → List MapEntry → Prop
  | nil : ERs φ ks [] []
  | cons {k v : AV} {e : MapEntry} {es : List (AV × AV)} {es' : List MapEntry} : fitK ks k = true → (∀ p ∈ es, p.1 ≠ k) → VR φ k e.key → VR φ v e.val → ERs φ ks es es' → ERs φ ks ((k, v) :: es) (e :: es')
theorem ERs.mono {φ ψ : Ren} (h : φ.le ψ) {ks : KS} : ∀ {es : List (AV × AV)} {es' : List MapEntry}, ERs φ ks es es' → ERs ψ ks es es'
  | _, _, .nil => .nil
  | _, _, .cons f n a b c => .cons f n (a.mono h) (b.mono h) (c.mono h)

def isRo (h : Heap) (o : Nat) : Bool := match h[o]? with | some (.cells c) => c.ro | _ => false

structure CellOk (φ : Ren) (w : World) (B : Nat) (c : CObj) (g : Nat) (l : Loc) : Prop where
  gen : g ≤ c.gen
  wg : c.wg ≤ c.gen
  blk : ∃ C e fr, w.heap[l.b]? = some (.cells C e fr) ∧ C.size = l.N ∧ (c.ro = false → fr = (0, 0) ∧ B ≤ l.b) ∧ (c.wg ≤ g → CellsAt φ c.cells l C)
  last : g = c.gen → l.n = c.cells.length

structure WR (φ : Ren) (h : Heap) (w : World) (B : Nat) : Prop where
  cell : ∀ o g l, φ.c o g = some l → ∃ c, h[o]? = some (.cells c) ∧ CellOk φ w B c g l
  map : ∀ o b, φ.m o = some b → ∃ ks es, h[o]? = some (.map ks es) ∧ B ≤ b ∧ ∃ es' clk, w.heap[b]? = some (.map es' clk) ∧ ERs φ ks es es'.toList
  sep : ∀ o g l o' g' l', φ.c o g = some l → φ.c o' g' = some l' → l.b = l'.b → (o = o' ∧ l.d = l'.d) ∨ (isRo h o = true ∧ isRo h o' = true)
  msep : ∀ o b o' b', φ.m o = some b → φ.m o' = some b' → b = b' → o = o'

/-- The two machines stand alike: below block B the world is the first one. -/
structure S (B : Nat) (w0 : World) (φ : Ren) (h : Heap) (w : World) : Prop where
  wr : WR φ h w B
  below : Below B w0 w
  base : B ≤ w.heap.size

/-- What a step leaves alone: what is told stays told; what isn't told of stays as it is, untold. -/
structure Kept (φ : Ren) (h : Heap) (ψ : Ren) (h' : Heap) : Prop where
  le : φ.le ψ
  len : h.length ≤ h'.length
  un : ∀ o, o < h.length → (∀ g, φ.c o g = none) → φ.m o = none → (∀ g, ψ.c o g = none) ∧ ψ.m o = none ∧ h'[o]? = h[o]?
theorem Kept.refl (φ : Ren) (h : Heap) : Kept φ h φ h := ⟨.refl φ, Nat.le_refl _, fun _ _ a b => ⟨a, b, rfl⟩⟩
theorem Kept.trans {φ ψ χ : Ren} {h h' h'' : Heap} (a : Kept φ h ψ h') (b : Kept ψ h' χ h'') : Kept φ h χ h'' :=
  ⟨a.le.trans b.le, Nat.le_trans a.len b.len, fun o ho hc hm => by
    obtain ⟨h1, h2, h3⟩ := a.un o ho hc hm
    obtain ⟨k1, k2, k3⟩ := b.un o (Nat.lt_of_lt_of_le ho a.len) h1 h2
    exact ⟨k1, k2, k3.trans h3⟩⟩

theorem CellsAt.mono {φ ψ : Ren} {cs : List AV} {l : Loc} {C : Array Value} (h : CellsAt φ cs l C) (hl : φ.le ψ) : CellsAt ψ cs l C :=
  ⟨h.1, h.2.1, fun i hi => by
    obtain ⟨x, v, a, b, c, d⟩ := h.2.2 i hi
    exact ⟨x, v, a, b, c.mono hl, d⟩⟩
theorem CellOk.mono {φ ψ : Ren} {w : World} {B : Nat} {c : CObj} {g : Nat} {l : Loc} (h : CellOk φ w B c g l) (hl : φ.le ψ) : CellOk ψ w B c g l :=
  ⟨h.gen, h.wg, by
    obtain ⟨C, e, fr, a, b, c1, d⟩ := h.blk
    exact ⟨C, e, fr, a, b, c1, fun hw => (d hw).mono hl⟩, h.last⟩
/-- Its block stands as it did. -/
theorem CellOk.move {φ : Ren} {w w' : World} {B : Nat} {c : CObj} {g : Nat} {l : Loc} (h : CellOk φ w B c g l) (hb : w'.heap[l.b]? = w.heap[l.b]?) : CellOk φ w' B c g l :=
  ⟨h.gen, h.wg, by
    obtain ⟨C, e, fr, a, b, c1, d⟩ := h.blk
    exact ⟨C, e, fr, hb.trans a, b, c1, d⟩, h.last⟩
theorem CellOk.lt {φ : Ren} {w : World} {B : Nat} {c : CObj} {g : Nat} {l : Loc} (h : CellOk φ w B c g l) : l.b < w.heap.size := by
  obtain ⟨C, e, fr, a, _⟩ := h.blk
  exact (Array.getElem?_eq_some_iff.1 a).1
theorem heap_lt {w : World} {b : Nat} {o : Obj} (h : w.heap[b]? = some o) : b < w.heap.size := (Array.getElem?_eq_some_iff.1 h).1

/-! ### A new row told of -/
def Ren.setC (φ : Ren) (o g : Nat) (l : Loc) : Ren := { φ with c := fun o' g' => if o' = o ∧ g' = g then some l else φ.c o' g' }
theorem Ren.setC_le {φ : Ren} {o g : Nat} {l : Loc} (h : φ.c o g = none) : φ.le (φ.setC o g l) := by
  refine ⟨fun o' g' l' e => ?_, fun _ _ e => e⟩
  simp only [Ren.setC]
  split
  · rename_i hc
    obtain ⟨rfl, rfl⟩ := hc
    rw [h] at e; cases e
  · exact e
theorem WR.unm_of_len {φ : Ren} {h : Heap} {w : World} {B : Nat} (hw : WR φ h w B) {o : Nat} (ho : h.length ≤ o) : (∀ g, φ.c o g = none) ∧ φ.m o = none := by
  refine ⟨fun g => ?_, ?_⟩
  · cases hc : φ.c o g with
    | none => rfl
    | some l =>
      obtain ⟨c, he, _⟩ := hw.cell o g l hc
      rw [List.getElem?_eq_none ho] at he; cases he
  · cases hc : φ.m o with
    | none => rfl
    | some l =>
      obtain ⟨_, c, he, _⟩ := hw.map o l hc
      rw [List.getElem?_eq_none ho] at he; cases he

theorem alloc_heap_new (w : World) (o : Obj) : (w.alloc o).heap[w.heap.size]? = some o := heap_alloc_new w o
theorem alloc_heap_old (w : World) (o : Obj) (k : Nat) (h : k < w.heap.size) : (w.alloc o).heap[k]? = w.heap[k]? := Below.heap_alloc w o k h

/-- A row of the abstract machine's that isn't told of yet is laid: its cells, and room behind them. -/
theorem S.lay {B : Nat} {w0 : World} {φ : Ren} {h : Heap} {w : World} (hs : S B w0 φ h w) {o : Nat} {cs : List AV} (ho : h[o]? = some (.cells ⟨cs, 0, 0, false⟩)) (hc : ∀ g, φ.c o g = none)
    {vs rest : List Value} (hv : VRs φ cs vs) (h1 : cs.all AV.one = true) (e : TypeId) :
    S B w0 (φ.setC o 0 ⟨w.heap.size, 0, (vs ++ rest).length, cs.length⟩) h (w.alloc (.cells (vs ++ rest).toArray e)) := by
  have hle : φ.le (φ.setC o 0 ⟨w.heap.size, 0, (vs ++ rest).length, cs.length⟩) := Ren.setC_le (hc 0)
  refine ⟨⟨fun o' g' l' hl' => ?_, fun o' b' hb' => ?_, ?_, ?_⟩, hs.below.alloc hs.base _, by simp; have := hs.base; omega⟩
  · simp only [Ren.setC] at hl'
    split at hl'
    · rename_i hcc
      obtain ⟨rfl, rfl⟩ := hcc
      injection hl' with hl'
      subst hl'
      refine ⟨_, ho, ⟨Nat.le_refl _, Nat.le_refl _, ⟨_, e, (0, 0), alloc_heap_new w _, by simp, fun _ => ⟨rfl, hs.base⟩, fun _ => ⟨Nat.le_refl _, by simp [hv.length], fun i hi => ?_⟩⟩, fun _ => rfl⟩⟩
      obtain ⟨v, hv', hr⟩ := hv.get (i := i) (x := cs[i]'hi) (List.getElem?_eq_getElem hi)
      refine ⟨cs[i]'hi, v, List.getElem?_eq_getElem hi, ?_, hr.mono hle, ?_⟩
      · have : i < vs.length := by rw [← hv.length]; exact hi
        simp only [Nat.zero_add, List.getElem?_toArray]
        rw [List.getElem?_append_left this]
        exact hv'
      · exact List.all_eq_true.1 h1 _ (List.getElem_mem hi)
    · obtain ⟨c, h2, h3⟩ := hs.wr.cell o' g' l' hl'
      exact ⟨c, h2, (h3.move (alloc_heap_old w _ _ h3.lt)).mono hle⟩
  · obtain ⟨ks, es, h2, h3, es', clk, h4, h5⟩ := hs.wr.map o' b' hb'
    exact ⟨ks, es, h2, h3, es', clk, (alloc_heap_old w _ _ (heap_lt h4)).trans h4, h5.mono hle⟩
  · intro o1 g1 l1 o2 g2 l2 e1 e2 hb
    have new : ∀ o' g' l', φ.c o' g' = some l' → l'.b < w.heap.size := fun o' g' l' hl' => by
      obtain ⟨c, _, h3⟩ := hs.wr.cell o' g' l' hl'
      exact h3.lt
    simp only [Ren.setC] at e1 e2
    split at e1
    · rename_i c1
      injection e1 with e1
      subst e1
      split at e2
      · rename_i c2
        injection e2 with e2
        subst e2
        exact .inl ⟨c1.1.trans c2.1.symm, rfl⟩
      · have := new _ _ _ e2
        simp only at hb
        omega
    · split at e2
      · injection e2 with e2
        subst e2
        have := new _ _ _ e1
        simp only at hb
        omega
      · exact hs.wr.sep _ _ _ _ _ _ e1 e2 hb
  · exact hs.wr.msep

/-- One object more, of which nothing is told yet. -/
theorem S.push {B : Nat} {w0 : World} {φ : Ren} {h : Heap} {w : World} (hs : S B w0 φ h w) (x : AObj) : S B w0 φ (h ++ [x]) w := by
  have old : ∀ o y, h[o]? = some y → (h ++ [x])[o]? = some y := fun o y hy => by
    rw [List.getElem?_append_left (List.getElem?_eq_some_iff.1 hy).1]; exact hy
  have ro : ∀ o y, h[o]? = some y → isRo (h ++ [x]) o = isRo h o := fun o y hy => by simp only [isRo, old o y hy, hy]
  refine ⟨⟨fun o g l hl => ?_, fun o b hb => ?_, ?_, hs.wr.msep⟩, hs.below, hs.base⟩
  · obtain ⟨c, h2, h3⟩ := hs.wr.cell o g l hl
    exact ⟨c, old _ _ h2, h3⟩
  · obtain ⟨ks, es, h2, h3⟩ := hs.wr.map o b hb
    exact ⟨ks, es, old _ _ h2, h3⟩
  · intro o1 g1 l1 o2 g2 l2 e1 e2 hb
    obtain ⟨c1, k1, _⟩ := hs.wr.cell _ _ _ e1
    obtain ⟨c2, k2, _⟩ := hs.wr.cell _ _ _ e2
    rw [ro _ _ k1, ro _ _ k2]
    exact hs.wr.sep _ _ _ _ _ _ e1 e2 hb
theorem Kept.push (φ : Ren) (h : Heap) (x : AObj) : Kept φ h φ (h ++ [x]) :=
  ⟨.refl φ, by simp, fun o ho a b => ⟨a, b, List.getElem?_append_left ho⟩⟩
theorem Kept.set {φ : Ren} {h : Heap} {o g : Nat} {l : Loc} (ho : h.length ≤ o ∨ ∃ g' l', φ.c o g' = some l') (hn : φ.c o g = none) : Kept φ h (φ.setC o g l) h := by
  refine ⟨Ren.setC_le hn, Nat.le_refl _, fun o' ho' hc hm => ⟨fun g' => ?_, hm, rfl⟩⟩
  simp only [Ren.setC]
  split
  · rename_i hcc
    obtain ⟨rfl, rfl⟩ := hcc
    rcases ho with ho | ⟨g2, l2, h2⟩
    · omega
    · rw [hc] at h2; cases h2
  · exact hc g'
end Go.Gm
