/- A part of the proof (GmA5P): an abstract machine, what it does, and what the functions of the program come to on it. -/
import Derived.Test.YtdpmglimjmecgaaGmA5P3
import Derived.Test.YtdpmglimjmecgaaGmPr
set_option linter.unusedVariables false
set_option linter.unusedSimpArgs false
namespace Go.Gm.A5
open Go Go.Gm

section
variable {S : ByteArray} {ro : Nat}
theorem next_t {h : Heap} {p d c : Nat} (hr : h[ro]? = some (.cells ⟨[.str S, I p, I d, I 0], 0, 0, false⟩)) (hb : bt S p = some c) :
    Tot tab f_milestoneref4_reader_next [.ptr ro 0 4 0] h fun v h' => v = .tup [U8 c, .bool true] ∧ h = h' := by
  refine WP.tot (fun k => (call_milestoneref4_reader_next k _ h).trans (milestoneref4_reader_next_eq tab k _ h)) ?_
  have hlt := bt_lt hb
  have hix := bt_ix hb
  have hlb : lenB (.str S) = some (I S.size) := rfl
  simp -implicitDefEqProofs (disch := first | assumption | omega | (simp only [gL] <;> omega) | ((repeat (first | exact Ext.refl _ | assumption | apply Ext.app | apply Ext.mk | (refine Ext.setr ?_ (by (first | omega | (simp only [gL] <;> omega))) _))); done) | (simp only [gL, gA, hr, hlb, hix] <;> omega) | fail) only [gB, setAll, partL, fldV, reduceIte, Nat.reduceAdd, Nat.reduceMul, hr, hlb, hix]
  exact WP.ret ⟨rfl, rfl⟩
theorem next_f {h : Heap} {p d : Nat} (hr : h[ro]? = some (.cells ⟨[.str S, I p, I d, I 0], 0, 0, false⟩)) (hb : bt S p = none) :
    Tot tab f_milestoneref4_reader_next [.ptr ro 0 4 0] h fun v h' => v = .tup [U8 0, .bool false] ∧ h = h' := by
  refine WP.tot (fun k => (call_milestoneref4_reader_next k _ h).trans (milestoneref4_reader_next_eq tab k _ h)) ?_
  have hle := bt_none hb
  have hlb : lenB (.str S) = some (I S.size) := rfl
  simp -implicitDefEqProofs (disch := first | assumption | omega | (simp only [gL] <;> omega) | ((repeat (first | exact Ext.refl _ | assumption | apply Ext.app | apply Ext.mk | (refine Ext.setr ?_ (by (first | omega | (simp only [gL] <;> omega))) _))); done) | (simp only [gL, gA, hr, hlb] <;> omega) | fail) only [gB, setAll, partL, fldV, reduceIte, Nat.reduceAdd, Nat.reduceMul, hr, hlb]
  exact WP.ret ⟨rfl, rfl⟩
def mdI (c : Nat) : Int := match md c with
  | some m => m
  | none => -1
theorem mode_spec {c : Nat} (h : Heap) : Tot tab f_milestoneref4_mode [U8 c] h fun v h' => v = I (mdI c) ∧ h = h' := by
  refine WP.tot (fun k => (call_milestoneref4_mode k _ h).trans (milestoneref4_mode_eq tab k _ h)) ?_
  have hix : ∀ (i b : Nat), ([119, 98, 99, 102, 116] : List Nat)[i]? = some b → ixS (.str ⟨#[119, 98, 99, 102, 116]⟩) (I (i : Int)) = some (U8 b) := by
    intro i b hi
    have hi5 := (List.getElem?_eq_some_iff.1 hi).1
    simp only [List.length_cons, List.length_nil] at hi5
    have : i = 0 ∨ i = 1 ∨ i = 2 ∨ i = 3 ∨ i = 4 := by omega
    rcases this with rfl | rfl | rfl | rfl | rfl <;> (simp at hi; subst hi; rfl)
  have loop : ∀ (d i : Nat), i + d = 5 → (∀ (j b : Nat), j < i → ([119, 98, 99, 102, 116] : List Nat)[j]? = some b → c ≠ b) → WP (fun p : Nat × Nat => milestoneref4_mode_l1 tab p.1 p.2 (U8 c) (I i) h) fun v h' => v = I (mdI c) ∧ h = h' := by
    intro d
    induction d with
    | zero =>
      intro i hi hn
      refine WP.rnd (fun i' j => milestoneref4_mode_l1_eq tab i' j (U8 c) (I i) h) ?_
      simp -implicitDefEqProofs (disch := first | assumption | omega | (simp only [gL] <;> omega) | ((repeat (first | exact Ext.refl _ | assumption | apply Ext.app | apply Ext.mk | (refine Ext.setr ?_ (by (first | omega | (simp only [gL] <;> omega))) _))); done) | (simp only [gL, gA] <;> omega) | fail) only [gB, setAll, partL, fldV, reduceIte, Nat.reduceAdd, Nat.reduceMul]
      refine WP.lv (WP.ret ⟨?_, rfl⟩) fun i j => rfl
      have h0 := hn 0 119 (by omega) rfl
      have h1 := hn 1 98 (by omega) rfl
      have h2 := hn 2 99 (by omega) rfl
      have h3 := hn 3 102 (by omega) rfl
      have h4 := hn 4 116 (by omega) rfl
      simp [mdI, md, h0, h1, h2, h3, h4]
    | succ d ih =>
      intro i hi hn
      refine WP.rnd (fun i' j => milestoneref4_mode_l1_eq tab i' j (U8 c) (I i) h) ?_
      obtain ⟨b, hb⟩ : ∃ b, ([119, 98, 99, 102, 116] : List Nat)[i]? = some b := ⟨_, List.getElem?_eq_getElem (by simp; omega)⟩
      have hx := hix i b hb
      by_cases hc : b = c
      · subst hc
        have he : binV .eql .scalar (U8 b) (U8 b) = some (.bool true) := equ_t rfl
        simp -implicitDefEqProofs (disch := first | assumption | omega | (simp only [gL] <;> omega) | ((repeat (first | exact Ext.refl _ | assumption | apply Ext.app | apply Ext.mk | (refine Ext.setr ?_ (by (first | omega | (simp only [gL] <;> omega))) _))); done) | (simp only [gL, gA, hx, he] <;> omega) | fail) only [gB, setAll, partL, fldV, reduceIte, Nat.reduceAdd, Nat.reduceMul, hx, he]
        refine WP.lv (WP.ret ⟨?_, rfl⟩) fun i j => rfl
        have : i = 0 ∨ i = 1 ∨ i = 2 ∨ i = 3 ∨ i = 4 := by omega
        rcases this with rfl | rfl | rfl | rfl | rfl <;> (simp at hb; subst hb; rfl)
      · have he : binV .eql .scalar (U8 b) (U8 c) = some (.bool false) := equ_f (by omega)
        simp -implicitDefEqProofs (disch := first | assumption | omega | (simp only [gL] <;> omega) | ((repeat (first | exact Ext.refl _ | assumption | apply Ext.app | apply Ext.mk | (refine Ext.setr ?_ (by (first | omega | (simp only [gL] <;> omega))) _))); done) | (simp only [gL, gA, hx, he] <;> omega) | fail) only [gB, setAll, partL, fldV, reduceIte, Nat.reduceAdd, Nat.reduceMul, hx, he]
        refine ih (i + 1) (by omega) fun j b' hj hb' => ?_
        by_cases hji : j = i
        · subst hji
          rw [hb] at hb'; injection hb' with hb'
          subst hb'; exact fun q => hc q.symm
        · exact hn j b' (by omega) hb'
  rw [show AV.int .i64 0 = I ((0 : Nat) : Int) from rfl]
  exact WP.ent (loop 5 0 rfl fun j b hj => by omega) fun i => rfl
theorem mdI_t {c m : Nat} (h : md c = some m) : mdI c = m ∧ m < 5 := by
  refine ⟨by simp [mdI, h], ?_⟩
  simp only [md] at h
  split at h
  · injection h; omega
  split at h
  · injection h; omega
  split at h
  · injection h; omega
  split at h
  · injection h; omega
  split at h
  · injection h; omega
  · cases h
theorem mdI_f {c : Nat} (h : md c = none) : mdI c = -1 := by simp [mdI, h]
/-- What a reader's call tells. -/
def PR (S : ByteArray) (ro : Nat) (h : Heap) (d : Nat) (n : Nd) (q : Nat) (v : AV) (h' : Heap) : Prop :=
  FrS (fun o => o = ro) h h' ∧ h'[ro]? = some (.cells ⟨[.str S, I q, I d, I 0], 0, 0, false⟩) ∧ ∃ c5, v = .agg c5 ∧ NVD h' (fun o => h.length ≤ o ∧ o < h'.length) n c5
theorem PR.fin {h H : Heap} {d q : Nat} {n : Nd} {c5 : List AV} (hro : ro < h.length) (f : FrS (fun o => o = ro) h H) (hr : H[ro]? = some (.cells ⟨[.str S, I q, I d, I 0], 0, 0, false⟩)) (nv : NVD H (fun o => h.length < o ∧ o < H.length) n c5) :
    PR S ro h d n q (.agg c5) (H.set h.length (.cells ⟨c5, 0, 0, false⟩)) := by
  refine ⟨⟨by simp; exact f.len, fun o h1 h2 => ?_⟩, ?_, c5, rfl, nv.frs (FrS.set1 H h.length _) (fun o h1 h2 h3 => by omega) fun o h1 h2 => ⟨by omega, by simp; exact h1⟩⟩
  · rw [List.getElem?_set_ne (by omega)]; exact f.get h1 h2
  · rw [List.getElem?_set_ne (by omega)]; exact hr
/-- The reader's place is set. -/
theorem fr_set {h H : Heap} (f : FrS (fun o => o = ro) h H) (x : AObj) : FrS (fun o => o = ro) h (H.set ro x) :=
  ⟨by simp; exact f.len, fun o h1 h2 => by rw [List.getElem?_set_ne (fun q => h1 q.symm)]; exact f.get h1 h2⟩
theorem fr_app {h H : Heap} (f : FrS (fun o => o = ro) h H) (x : List AObj) : FrS (fun o => o = ro) h (H ++ x) :=
  ⟨by simp; have := f.len; omega, fun o h1 h2 => by rw [List.getElem?_append_left (by have := f.len; omega)]; exact f.get h1 h2⟩
theorem cls_l1 {h : Heap} (hro : ro < h.length) {d : Nat} : ∀ (f p s s' q : Nat) (H : Heap), clsF S f p s = some (s', q) → S.size ≤ 200 → s < 32 → FrS (fun o => o = ro) h H → H[ro]? = some (.cells ⟨[.str S, I p, I d, I 0], 0, 0, false⟩) → H[h.length]? = some (.cells ⟨[I 0, I 0, I 0, I 0, .nils], 0, 0, false⟩) →
    WP (fun p' : Nat × Nat => milestoneref4_reader_class_l1 tab p'.1 p'.2 (.ptr ro 0 4 0) (.ptr h.length 0 5 0) (I s) H) (PR S ro h d (.set s') q) := by
  intro f
  induction f with
  | zero => intro p s s' q H hc; simp [clsF] at hc
  | succ f ih =>
    intro p s s' q H hc hS hs fr hr ht
    refine WP.rnd (fun i' j => milestoneref4_reader_class_l1_eq tab i' j (.ptr ro 0 4 0) (.ptr h.length 0 5 0) (I s) H) ?_
    have hlen := fr.len
    have hHl : h.length < H.length := (List.getElem?_eq_some_iff.1 ht).1
    simp only [clsF] at hc
    cases hb : bt S p with
    | none => rw [hb] at hc; cases hc
    | some c =>
      rw [hb] at hc
      simp only at hc
      have hp := bt_lt hb
      refine WP.call (next_t hr hb) ?_
      rintro _ _ ⟨rfl, rfl⟩
      have hne : ¬ ro = h.length := by omega
      have hne' : ¬ h.length = ro := by omega
      by_cases h93 : c = 93 ∧ 0 < s
      · rw [if_pos h93] at hc
        injection hc with hc
        injection hc with hc1 hc2
        subst hc1 hc2
        obtain ⟨rfl, hs0⟩ := h93
        have he : binV .eql .scalar (U8 93) (.int .u8 93) = some (.bool true) := equ_t rfl
        have hg : binV .gtr .scalar (I (s : Int)) (.int .i64 0) = some (.bool true) := gtr_t (by omega)
        have hrl : ro < H.length := by omega
        simp -implicitDefEqProofs (disch := first | assumption | omega | (simp only [gL] <;> omega) | ((repeat (first | exact Ext.refl _ | assumption | apply Ext.app | apply Ext.mk | (refine Ext.setr ?_ (by (first | omega | (simp only [gL] <;> omega))) _))); done) | (simp only [gL, gA, extr_tup, he, hg, hr, ht] <;> omega) | fail) only [gB, setAll, partL, fldV, reduceIte, Nat.reduceAdd, Nat.reduceMul, extr_tup, he, hg, hr, ht]
        refine WP.lv (WP.ret ?_) fun i j => rfl
        refine PR.fin hro (fr_set fr _) (by rw [List.getElem?_set_self hrl]; simp) (nvd_leaf (n := .set s) rfl)
      · rw [if_neg h93] at hc
        cases hm : md c with
        | none => rw [hm] at hc; cases hc
        | some m =>
          rw [hm] at hc
          simp only at hc
          obtain ⟨hmi, hm5⟩ := mdI_t hm
          have hor : s ||| 2 ^ m < 32 := Nat.or_lt_two_pow (n := 5) hs (Nat.pow_lt_pow_right (by omega) hm5)
          have hori := or_i (a := s) (b := 2 ^ m) (by omega) (Nat.pow_lt_pow_right (by omega) (by omega))
          have hrl : ro < H.length := by omega
          have h93' : ¬ ((c : Int) = 93) := by
            rintro q
            have : c = 93 := by omega
            subst this; simp [md] at hm
          have he := equ_f h93'
          simp -implicitDefEqProofs (disch := first | assumption | omega | (simp only [gL] <;> omega) | ((repeat (first | exact Ext.refl _ | assumption | apply Ext.app | apply Ext.mk | (refine Ext.setr ?_ (by (first | omega | (simp only [gL] <;> omega))) _))); done) | (simp only [gL, gA, extr_tup, he] <;> omega) | fail) only [gB, setAll, partL, fldV, reduceIte, Nat.reduceAdd, Nat.reduceMul, extr_tup, he]
          refine WP.call (mode_spec H) ?_
          rintro _ _ ⟨rfl, rfl⟩
          rw [hmi]
          simp -implicitDefEqProofs (disch := first | assumption | omega | (simp only [gL] <;> omega) | ((repeat (first | exact Ext.refl _ | assumption | apply Ext.app | apply Ext.mk | (refine Ext.setr ?_ (by (first | omega | (simp only [gL] <;> omega))) _))); done) | (simp only [gL, gA] <;> omega) | fail) only [gB, setAll, partL, fldV, reduceIte, Nat.reduceAdd, Nat.reduceMul]
          refine WP.call (mode_spec H) ?_
          rintro _ _ ⟨rfl, rfl⟩
          rw [hmi]
          have hcv : convV .u64 (I (m : Int)) = some (.int .u64 m) := conv_u64 (by omega) (by omega)
          have hsh : binV .shl .scalar (.int .i64 1) (.int .u64 (m : Int)) = some (I ((2 ^ m : Nat) : Int)) := by
            have := shl_i (k := .u64) (m := (m : Int)) (by omega) (by omega)
            simpa using this
          simp -implicitDefEqProofs (disch := first | assumption | omega | (simp only [gL] <;> omega) | ((repeat (first | exact Ext.refl _ | assumption | apply Ext.app | apply Ext.mk | (refine Ext.setr ?_ (by (first | omega | (simp only [gL] <;> omega))) _))); done) | (simp only [gL, gA, hcv, hsh, hori, hr] <;> omega) | fail) only [gB, setAll, partL, fldV, reduceIte, Nat.reduceAdd, Nat.reduceMul, hcv, hsh, hori, hr]
          refine ih (p + 1) (s ||| 2 ^ m) s' q _ hc hS hor (fr_set fr _) (by rw [List.getElem?_set_self hrl]; simp) (by rw [List.getElem?_set_ne hne]; exact ht)
theorem cls_spec {h : Heap} {f p d s' q : Nat} (hS : S.size ≤ 200) (hc : clsF S f p 0 = some (s', q)) (hr : h[ro]? = some (.cells ⟨[.str S, I p, I d, I 0], 0, 0, false⟩)) :
    Tot tab f_milestoneref4_reader_class [.ptr ro 0 4 0] h (PR S ro h d (.set s') q) := by
  refine WP.tot (fun k => (call_milestoneref4_reader_class k _ h).trans (milestoneref4_reader_class_eq tab k _ h)) ?_
  have hro := (List.getElem?_eq_some_iff.1 hr).1
  have e1 : Ext h (h ++ [AObj.cells ⟨[I 0, I 0, I 0, I 0, .nils], 0, 0, false⟩]) := Ext.push _ _
  simp -implicitDefEqProofs (disch := first | assumption | omega | (simp only [gL] <;> omega) | ((repeat (first | exact Ext.refl _ | assumption | apply Ext.app | apply Ext.mk | (refine Ext.setr ?_ (by (first | omega | (simp only [gL] <;> omega))) _))); done) | (simp only [gL, gA] <;> omega) | fail) only [gB, setAll, partL, fldV, reduceIte, Nat.reduceAdd, Nat.reduceMul]
  exact WP.ent (cls_l1 hro f p 0 s' q _ hc hS (by omega) (FrS.ofExt e1) (e1.get hr) (by simp)) fun i => rfl
theorem subu {a : Nat} (h : 48 ≤ a) (h2 : a ≤ 57) : binV .sub .scalar (U8 a) (.int .u8 48) = some (U8 (a - 48)) := by
  show some (AV.int .u8 (IntKind.u8.wrap ((a : Int) - 48))) = _
  congr 2
  simp [IntKind.wrap, IntKind.bits, IntKind.signed]
  omega
theorem convu {a : Nat} (h : a ≤ 255) : convV .i64 (U8 a) = some (I a) := by
  show some (AV.int .i64 (IntKind.i64.wrap (a : Int))) = _
  rw [wrap_id (by omega) (by omega)]
theorem idxA_i {o n : Nat} {i : Int} (h0 : 0 ≤ i) (h1 : i < n) : idxA n 1 (.ptr o 0 n 0) (I i) = some (.ptr o (i.toNat) (i.toNat + 1) 0) := by
  simp [idxA, h0, h1]
theorem times_rd {dd n3 t4 : Nat} {at_ : AV} {H : Heap} {i p d c : Nat} {x y : AV} {Q : AV → Heap → Prop} (hi : i < 2) (hS : S.size ≤ 200) (hb : bt S p = some c) (h48 : 48 ≤ c) (h57 : c ≤ 57) (hs : bt S (p + 1) = some (if i = 0 then 44 else 125))
    (hr : H[ro]? = some (.cells ⟨[.str S, I p, I d, I 0], 0, 0, false⟩)) (hd : H[dd]? = some (.cells ⟨[x, y], 0, 0, false⟩)) (hne : ro ≠ dd)
    (hK : ∀ H', FrS (fun o => o = ro ∨ o = dd) H H' → H'.length = H.length → H'[ro]? = some (.cells ⟨[.str S, I ((p + 2 : Nat) : Int), I d, I 0], 0, 0, false⟩) → H'[dd]? = some (.cells ⟨[x, y].set i (I ((c - 48 : Nat) : Int)), 0, 0, false⟩) →
      WP (fun p' : Nat × Nat => milestoneref4_reader_times_l1 tab p'.1 p'.2 (.ptr ro 0 4 0) (.ptr n3 0 5 0) (.ptr t4 0 5 0) at_ (.ptr dd 0 2 0) (I ((i + 1 : Nat) : Int)) H') Q) :
    WP (fun p' : Nat × Nat => milestoneref4_reader_times_l1 tab p'.1 p'.2 (.ptr ro 0 4 0) (.ptr n3 0 5 0) (.ptr t4 0 5 0) at_ (.ptr dd 0 2 0) (I i) H) Q := by
  refine WP.rnd (fun i' j => milestoneref4_reader_times_l1_eq tab i' j (.ptr ro 0 4 0) (.ptr n3 0 5 0) (.ptr t4 0 5 0) at_ (.ptr dd 0 2 0) (I i) H) ?_
  have hp := bt_lt hb
  have hp1 := bt_lt hs
  have hrl := (List.getElem?_eq_some_iff.1 hr).1
  have hdl := (List.getElem?_eq_some_iff.1 hd).1
  simp -implicitDefEqProofs (disch := first | assumption | omega | (simp only [gL] <;> omega) | ((repeat (first | exact Ext.refl _ | assumption | apply Ext.app | apply Ext.mk | (refine Ext.setr ?_ (by (first | omega | (simp only [gL] <;> omega))) _))); done) | (simp only [gL, gA] <;> omega) | fail) only [gB, setAll, partL, fldV, reduceIte, Nat.reduceAdd, Nat.reduceMul]
  refine WP.call (next_t hr hb) ?_
  rintro _ _ ⟨rfl, rfl⟩
  have a1 := lsu_f (a := c) (b := 48) (by omega)
  have a2 := gtu_f (a := c) (b := 57) (by omega)
  have a3 := subu h48 h57
  have a4 : convV .i64 (U8 (c - 48)) = some (I ((c - 48 : Nat) : Int)) := convu (by omega)
  have a5 := idxA_i (o := dd) (n := 2) (i := (i : Int)) (by omega) (by omega)
  have hi2 : i = 0 ∨ i = 1 := by omega
  have hne' : ¬ dd = ro := fun q => hne q.symm
  rcases hi2 with rfl | rfl
  · have hs' : bt S (p + 1) = some 44 := by simpa using hs
    simp -implicitDefEqProofs (disch := first | assumption | omega | (simp only [gL] <;> omega) | ((repeat (first | exact Ext.refl _ | assumption | apply Ext.app | apply Ext.mk | (refine Ext.setr ?_ (by (first | omega | (simp only [gL] <;> omega))) _))); done) | (simp only [gL, gA, extr_tup, a1, a2, a3, a4, a5, hr, hd] <;> omega) | fail) only [gB, setAll, partL, fldV, reduceIte, Nat.reduceAdd, Nat.reduceMul, extr_tup, a1, a2, a3, a4, a5, hr, hd]
    obtain ⟨H1, hH1⟩ : ∃ H1, H1 = (H.set dd (.cells ⟨[I ((c - 48 : Nat) : Int), y], 0, 0, false⟩)).set ro (.cells ⟨[.str S, I ((p : Int) + 1), I d, I 0], 0, 0, false⟩) := ⟨_, rfl⟩
    have r1 : H1[ro]? = some (.cells ⟨[.str S, I ((p + 1 : Nat) : Int), I d, I 0], 0, 0, false⟩) := by rw [hH1, List.getElem?_set_self (by simp; exact hrl)]; rfl
    have d1 : H1[dd]? = some (.cells ⟨[I ((c - 48 : Nat) : Int), y], 0, 0, false⟩) := by rw [hH1, List.getElem?_set_ne hne, List.getElem?_set_self hdl]
    have f1 : FrS (fun o => o = ro ∨ o = dd) H H1 := ⟨by rw [hH1]; simp, fun o h1 h2 => by rw [hH1, List.getElem?_set_ne (fun q => h1 (.inl q.symm)), List.getElem?_set_ne (fun q => h1 (.inr q.symm))]⟩
    have l1 : H1.length = H.length := by rw [hH1]; simp
    rw [← hH1]
    refine WP.call (next_t r1 hs') ?_
    rintro _ _ ⟨rfl, rfl⟩
    have b1 := neu_f (a := 44) (b := 44) rfl
    have hrl1 : ro < H1.length := by omega
    simp -implicitDefEqProofs (disch := first | assumption | omega | (simp only [gL] <;> omega) | ((repeat (first | exact Ext.refl _ | assumption | apply Ext.app | apply Ext.mk | (refine Ext.setr ?_ (by (first | omega | (simp only [gL] <;> omega))) _))); done) | (simp only [gL, gA, extr_tup, b1, r1] <;> omega) | fail) only [gB, setAll, partL, fldV, reduceIte, Nat.reduceAdd, Nat.reduceMul, extr_tup, b1, r1]
    refine hK _ ⟨by simp; omega, fun o h1 h2 => ?_⟩ (by simp; exact l1) (by rw [List.getElem?_set_self hrl1]; rfl) (by rw [List.getElem?_set_ne hne]; exact d1)
    rw [List.getElem?_set_ne (fun q => h1 (.inl q.symm))]
    exact f1.get h1 h2
  · have hs' : bt S (p + 1) = some 125 := by simpa using hs
    simp -implicitDefEqProofs (disch := first | assumption | omega | (simp only [gL] <;> omega) | ((repeat (first | exact Ext.refl _ | assumption | apply Ext.app | apply Ext.mk | (refine Ext.setr ?_ (by (first | omega | (simp only [gL] <;> omega))) _))); done) | (simp only [gL, gA, extr_tup, a1, a2, a3, a4, a5, hr, hd] <;> omega) | fail) only [gB, setAll, partL, fldV, reduceIte, Nat.reduceAdd, Nat.reduceMul, extr_tup, a1, a2, a3, a4, a5, hr, hd]
    obtain ⟨H1, hH1⟩ : ∃ H1, H1 = (H.set dd (.cells ⟨[x, I ((c - 48 : Nat) : Int)], 0, 0, false⟩)).set ro (.cells ⟨[.str S, I ((p : Int) + 1), I d, I 0], 0, 0, false⟩) := ⟨_, rfl⟩
    have r1 : H1[ro]? = some (.cells ⟨[.str S, I ((p + 1 : Nat) : Int), I d, I 0], 0, 0, false⟩) := by rw [hH1, List.getElem?_set_self (by simp; exact hrl)]; rfl
    have d1 : H1[dd]? = some (.cells ⟨[x, I ((c - 48 : Nat) : Int)], 0, 0, false⟩) := by rw [hH1, List.getElem?_set_ne hne, List.getElem?_set_self hdl]
    have f1 : FrS (fun o => o = ro ∨ o = dd) H H1 := ⟨by rw [hH1]; simp, fun o h1 h2 => by rw [hH1, List.getElem?_set_ne (fun q => h1 (.inl q.symm)), List.getElem?_set_ne (fun q => h1 (.inr q.symm))]⟩
    have l1 : H1.length = H.length := by rw [hH1]; simp
    rw [← hH1]
    refine WP.call (next_t r1 hs') ?_
    rintro _ _ ⟨rfl, rfl⟩
    have b1 := neu_f (a := 125) (b := 125) rfl
    have hrl1 : ro < H1.length := by omega
    simp -implicitDefEqProofs (disch := first | assumption | omega | (simp only [gL] <;> omega) | ((repeat (first | exact Ext.refl _ | assumption | apply Ext.app | apply Ext.mk | (refine Ext.setr ?_ (by (first | omega | (simp only [gL] <;> omega))) _))); done) | (simp only [gL, gA, extr_tup, b1, r1] <;> omega) | fail) only [gB, setAll, partL, fldV, reduceIte, Nat.reduceAdd, Nat.reduceMul, extr_tup, b1, r1]
    refine hK _ ⟨by simp; omega, fun o h1 h2 => ?_⟩ (by simp; exact l1) (by rw [List.getElem?_set_self hrl1]; rfl) (by rw [List.getElem?_set_ne hne]; exact d1)
    rw [List.getElem?_set_ne (fun q => h1 (.inl q.symm))]
    exact f1.get h1 h2
theorem tms_inv {p a b q : Nat} (h : tms S p = some (a, b, q)) : ∃ c0 c1, bt S p = some c0 ∧ 48 ≤ c0 ∧ c0 ≤ 57 ∧ a = c0 - 48 ∧ bt S (p + 1) = some 44 ∧ bt S (p + 2) = some c1 ∧ 48 ≤ c1 ∧ c1 ≤ 57 ∧ b = c1 - 48 ∧ bt S (p + 3) = some 125 ∧ a ≤ b ∧ q = p + 4 := by
  have hd : ∀ {x : Option Nat} {m : Nat}, dig x = some m → ∃ c, x = some c ∧ 48 ≤ c ∧ c ≤ 57 ∧ m = c - 48 := by
    intro x m hx
    cases x with
    | none => simp [dig] at hx
    | some c =>
      simp only [dig] at hx
      split at hx
      · rename_i hc
        injection hx with hx
        exact ⟨c, rfl, hc.1, hc.2, hx.symm⟩
      · cases hx
  simp only [tms] at h
  split at h
  · rename_i x y h1 h2
    split at h
    · rename_i hc
      injection h with h
      injection h with h3 h4
      injection h4 with h4 h5
      subst h3 h4 h5
      obtain ⟨c0, k1, k2, k3, k4⟩ := hd h1
      obtain ⟨c1, m1, m2, m3, m4⟩ := hd h2
      exact ⟨c0, c1, k1, k2, k3, k4, hc.1, m1, m2, m3, m4, hc.2.1, hc.2.2, rfl⟩
    · cases h
  · cases h
theorem tms_spec {h : Heap} {p d a b q : Nat} {n : Nd} {c5 : List AV} {D : Nat → Prop} (hS : S.size ≤ 200) (hc : tms S p = some (a, b, q)) (hp0 : 0 < p) (hr : h[ro]? = some (.cells ⟨[.str S, I p, I d, I 0], 0, 0, false⟩)) (nv : NVD h D n c5) (hD : ∀ o, D o → o ≠ ro) :
    Tot tab f_milestoneref4_reader_times [.ptr ro 0 4 0, .agg c5] h fun v h' => FrS (fun o => o = ro) h h' ∧ h'[ro]? = some (.cells ⟨[.str S, I q, I d, I 0], 0, 0, false⟩) ∧ ∃ c, v = .agg c ∧ NVD h' (fun o => (D o ∧ o < h.length) ∨ (h.length ≤ o ∧ o < h'.length)) (.rep a b n) c := by
  refine WP.tot (fun k => (call_milestoneref4_reader_times k _ _ h).trans (milestoneref4_reader_times_eq tab k _ _ h)) ?_
  obtain ⟨c0, c1, k1, k2, k3, rfl, k5, m1, m2, m3, rfl, m5, hab, rfl⟩ := tms_inv hc
  have hro := (List.getElem?_eq_some_iff.1 hr).1
  have hp := bt_lt k1
  obtain ⟨s5, rfl, ho5⟩ := nv.inv
  obtain ⟨H, hH⟩ : ∃ H, H = ((h ++ [AObj.cells ⟨[I n.kind, I n.st, I n.lo, I n.hi, s5], 0, 0, false⟩]) ++ [AObj.cells ⟨[I 0, I 0, I 0, I 0, .nils], 0, 0, false⟩]) ++ [AObj.cells ⟨[I 0, I 0], 0, 0, false⟩] := ⟨_, rfl⟩
  have eH : Ext h H := by rw [hH]; ((repeat (first | exact Ext.refl _ | assumption | apply Ext.app | apply Ext.mk | (refine Ext.setr ?_ (by (first | omega | (simp only [gL] <;> omega))) _))))
  have x0 : H[h.length]? = some (.cells ⟨[I n.kind, I n.st, I n.lo, I n.hi, s5], 0, 0, false⟩) := by rw [hH]; simp
  have x1 : H[h.length + 1]? = some (.cells ⟨[I 0, I 0, I 0, I 0, .nils], 0, 0, false⟩) := by rw [hH]; simp
  have x2 : H[h.length + 2]? = some (.cells ⟨[I 0, I 0], 0, 0, false⟩) := by rw [hH]; simp
  have hl : H.length = h.length + 3 := by rw [hH]; simp
  have hrH := eH.get hr
  have hp2 : h.length + 1 + 1 = h.length + 2 := rfl
  simp -implicitDefEqProofs (disch := first | assumption | omega | (simp only [gL] <;> omega) | ((repeat (first | exact Ext.refl _ | assumption | apply Ext.app | apply Ext.mk | (refine Ext.setr ?_ (by (first | omega | (simp only [gL] <;> omega))) _))); done) | (simp only [gL, gA, ho5, hr, hp2] <;> omega) | fail) only [gB, setAll, partL, fldV, reduceIte, Nat.reduceAdd, Nat.reduceMul, ho5, hr, hp2]
  rw [← hH, show AV.int .i64 0 = I ((0 : Nat) : Int) from rfl]
  refine WP.ent (times_rd (i := 0) (p := p) (d := d) (c := c0) (by omega) hS k1 k2 k3 (by simpa using k5) hrH x2 (by omega) fun H1 f1 l1 r1 d1 => ?_) fun i => rfl
  refine times_rd (i := 1) (p := p + 2) (d := d) (c := c1) (x := I ((c0 - 48 : Nat) : Int)) (y := I 0) (by omega) hS m1 m2 m3 (by simpa using m5) r1 d1 (by omega) fun H2 f2 l2 r2 d2 => ?_
  refine WP.rnd (fun i' j => milestoneref4_reader_times_l1_eq tab i' j (.ptr ro 0 4 0) (.ptr h.length 0 5 0) (.ptr (h.length + 1) 0 5 0) _ (.ptr (h.length + 2) 0 2 0) (I ((1 + 1 : Nat) : Int)) H2) ?_
  simp -implicitDefEqProofs (disch := first | assumption | omega | (simp only [gL] <;> omega) | ((repeat (first | exact Ext.refl _ | assumption | apply Ext.app | apply Ext.mk | (refine Ext.setr ?_ (by (first | omega | (simp only [gL] <;> omega))) _))); done) | (simp only [gL, gA] <;> omega) | fail) only [gB, setAll, partL, fldV, reduceIte, Nat.reduceAdd, Nat.reduceMul]
  refine WP.lv (WP.congr (fun i => milestoneref4_reader_times_b2_eq tab i (.ptr ro 0 4 0) (.ptr h.length 0 5 0) (.ptr (h.length + 1) 0 5 0) _ (.ptr (h.length + 2) 0 2 0) H2) ?_) fun i j => rfl
  have f12 := f1.trans f2
  have y0 : H2[h.length]? = some (.cells ⟨[I n.kind, I n.st, I n.lo, I n.hi, s5], 0, 0, false⟩) := (f12.get (by omega) (by omega)).trans x0
  have y1 : H2[h.length + 1]? = some (.cells ⟨[I 0, I 0, I 0, I 0, .nils], 0, 0, false⟩) := (f12.get (by omega) (by omega)).trans x1
  have y2 : H2[h.length + 2]? = some (.cells ⟨[I ((c0 - 48 : Nat) : Int), I ((c1 - 48 : Nat) : Int)], 0, 0, false⟩) := d2
  have a0 := idxA_i (o := h.length + 2) (n := 2) (i := 0) (by omega) (by omega)
  have a1 := idxA_i (o := h.length + 2) (n := 2) (i := 1) (by omega) (by omega)
  have hl2 : H2.length = h.length + 3 := by omega
  simp -implicitDefEqProofs (disch := first | assumption | omega | (simp only [gL] <;> omega) | ((repeat (first | exact Ext.refl _ | assumption | apply Ext.app | apply Ext.mk | (refine Ext.setr ?_ (by (first | omega | (simp only [gL] <;> omega))) _))); done) | (simp only [gL, gA, a0, a1, y0, y1, y2, ho5, show Int.toNat 0 = 0 from rfl, show Int.toNat 1 = 1 from rfl] <;> omega) | fail) only [gB, setAll, partL, fldV, reduceIte, Nat.reduceAdd, Nat.reduceMul, a0, a1, y0, y1, y2, ho5, show Int.toNat 0 = 0 from rfl, show Int.toNat 1 = 1 from rfl]
  have nvH : NVD H (fun o => D o ∧ o < h.length) n [I n.kind, I n.st, I n.lo, I n.hi, s5] := nv.ext eH fun o h1 h2 => ⟨h2, h1⟩
  have nv2 : NVD H2 (fun o => D o ∧ o < h.length) n [I n.kind, I n.st, I n.lo, I n.hi, s5] := nvH.frs f12 (fun o h1 h2 h3 => by
    rcases h3 with h3 | h3
    · exact hD o h2.1 h3
    · omega) fun _ _ z => z
  have e3 : Ext H2 (H2 ++ [AObj.cells ⟨[I n.kind, I n.st, I n.lo, I n.hi, s5], 0, 0, false⟩]) := Ext.push _ _
  have row3 : (H2 ++ [AObj.cells ⟨[I n.kind, I n.st, I n.lo, I n.hi, s5], 0, 0, false⟩])[H2.length]? = some (.cells ⟨[I n.kind, I n.st, I n.lo, I n.hi, s5], 0, 0, false⟩) := by simp
  generalize H2 ++ [AObj.cells ⟨[I n.kind, I n.st, I n.lo, I n.hi, s5], 0, 0, false⟩] = H3 at *
  have l3 := e3.len
  have f3 : ∀ (x : AObj), FrS (fun o => o = h.length + 1) H3 (H3.set (h.length + 1) x) := fun x => FrS.set1 ..
  have row3l := (List.getElem?_eq_some_iff.1 row3).1
  have nv3 : ∀ x, NVD (H3.set (h.length + 1) x) (fun o => D o ∧ o < h.length) n [I n.kind, I n.st, I n.lo, I n.hi, s5] := fun x =>
    (nv2.ext e3 (D' := fun o => D o ∧ o < h.length) fun _ _ z => z).frs (f3 x) (fun o h1 h2 h3 => by omega) fun _ _ z => z
  refine WP.ret ⟨⟨by simp; omega, fun o h1 h2 => ?_⟩, ?_, _, rfl, .mk (n := .rep (c0 - 48) (c1 - 48) n) (css := [[I n.kind, I n.st, I n.lo, I n.hi, s5]]) (sl_nodes (by rw [List.getElem?_set_ne (by omega)]; simpa using row3) rfl (by simp)) (fun _ => ?_) ?_⟩
  · rw [List.getElem?_set_ne (by omega), (ext_iff.1 e3).2 o (by omega), f12.get (by omega) (by omega), (ext_iff.1 eH).2 o h2]
  · rw [List.getElem?_set_ne (by omega)]
    exact e3.get r2
  · exact .inr ⟨by simp [AV.obj]; omega, by simp [AV.obj]; omega⟩
  · refine .cons ((nv3 _).frs (FrS.refl (fun _ => False) _) (fun _ _ _ z => z) fun o _ z => .inl z) .nil
end
end Go.Gm.A5
