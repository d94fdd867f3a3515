/- A part of the proof: GmX: an abstract machine, what it does, and what the functions of the program come to on it. -/
import Derived.Test.YtdpmglimjmecgaaGmV
set_option linter.unusedVariables false
set_option linter.unusedSimpArgs false
set_option linter.unusedSectionVars false
namespace Go.Gm
/- Steps by rewriting: what stands first is reckoned first. -/

mutual
theorem AV.beq_refl : ∀ a : AV, AV.beq a a = true
  | .undef => rfl
  | .bool b => by simp [AV.beq]
  | .int k n => by simp [AV.beq]
  | .str s => by simp [AV.beq]
  | .nilp => rfl
  | .ptr .. => by simp [AV.beq]
  | .nils => rfl
  | .sl .. => by simp [AV.beq]
  | .nilmap => rfl
  | .map _ => by simp [AV.beq]
  | .nilfn => rfl
  | .fn f a b => by simp [AV.beq, AV.beqs_refl a, AV.beqs_refl b]
  | .nilifc => rfl
  | .ifc t v => by simp [AV.beq, AV.beq_refl v]
  | .agg a => by simp [AV.beq, AV.beqs_refl a]
  | .tup a => by simp [AV.beq, AV.beqs_refl a]
theorem AV.beqs_refl : ∀ a : List AV, AV.beqs a a = true
  | [] => rfl
  | a :: r => by simp [AV.beqs, AV.beq_refl a, AV.beqs_refl r]
end

section
variable {R : Type}
@[congr] theorem oa_cg {x y : Option AV} {K : AV → Option R} (h : x = y) : oa x K = oa y K := by rw [h]
@[congr] theorem oh_cg {x y : Option Heap} {K : Heap → Option R} (h : x = y) : oh x K = oh y K := by rw [h]
@[congr] theorem ob_cg {x y : Option (AV × Heap)} {K : AV → Heap → Option R} (h : x = y) : ob x K = ob y K := by rw [h]
@[congr] theorem gd_cg {g g' : AV} {b : Bool} {x : Option (AV × Heap)} {h : Heap} (e : g = g') : gd g b x h = gd g' b x h := by rw [e]
@[congr] theorem cond2_cg {c d : AV} {a b : Option R} (e : c = d) : cond2 c a b = cond2 d a b := by rw [e]
@[congr] theorem chk_cg {c d : Bool} {x : Option R} (e : c = d) : chk c x = chk d x := by rw [e]
theorem gd_tt (x : Option (AV × Heap)) (h : Heap) : gd (.bool true) true x h = x := rfl
theorem gd_ft (x : Option (AV × Heap)) (h : Heap) : gd (.bool false) true x h = some (.tup [], h) := rfl
theorem gd_ff (x : Option (AV × Heap)) (h : Heap) : gd (.bool false) false x h = x := rfl
theorem gd_tf (x : Option (AV × Heap)) (h : Heap) : gd (.bool true) false x h = some (.tup [], h) := rfl
theorem gd_n (b : Bool) (x : Option (AV × Heap)) (h : Heap) : gd (.tup []) b x h = some (.tup [], h) := rfl
theorem ob_pure1 (x : Option AV) (h : Heap) (K : AV → Heap → Option R) : ob (pure1 h x) K = oa x fun v => K v h := by cases x <;> rfl
theorem pick_t (a b : AV) : pickV (.bool true) a b = some a := rfl
theorem pick_f (a b : AV) : pickV (.bool false) a b = some b := rfl
theorem pure1_some' (h : Heap) (v : AV) : pure1 h (some v) = some (v, h) := rfl
theorem sameB_self (v : AV) (h : Heap) : sameB (some (v, h)) v = true := AV.beq_refl v
theorem callVal_fn (call : CallF) (f : FuncId) (a b args : List AV) (h : Heap) : callVal call (.fn f a b) args h = call f (a ++ args ++ b) h := rfl
theorem if_t {α : Type} {p : Prop} [Decidable p] {a b : α} (h : p) : (if p then a else b) = a := if_pos h
end
section
variable {ι : Type} [Fuel ι]
@[congr] theorem WP_cg {c d : ι → Option (AV × Heap)} {Q : AV → Heap → Prop} (h : ∀ i, c i = d i) : WP c Q = WP d Q := by rw [funext h]
end

section
variable {ι : Type} [Fuel ι]
theorem WP.rnd {c : ι × Nat → Option (AV × Heap)} {d : ι → Nat → Option (AV × Heap)} {Q : AV → Heap → Prop} (he : ∀ i j, c (i, j + 1) = d i j) (hl : WP (fun p : ι × Nat => d p.1 p.2) Q) : WP c Q :=
  WP.round (L := fun i j => c (i, j)) (d := d) he hl
theorem WP.ent {c : ι → Option (AV × Heap)} {c2 : ι × Nat → Option (AV × Heap)} {Q : AV → Heap → Prop} (hl : WP c2 Q) (hc : ∀ i, c i = c2 (i, Fuel.k i)) : WP c Q :=
  WP.congr hc (WP.enter (L := fun i j => c2 (i, j)) hl)
theorem WP.lv {c : ι × Nat → Option (AV × Heap)} {d : ι → Option (AV × Heap)} {Q : AV → Heap → Prop} (hd : WP d Q) (hc : ∀ i j, c (i, j) = d i) : WP c Q :=
  WP.congr (fun p => hc p.1 p.2) (WP.leave hd)
end

/-! ### Whole numbers -/
section
variable {a b : Int}
theorem lss_t (h : a < b) : binV .lss .scalar (I a) (I b) = some (.bool true) := by rw [bin_lss, decide_eq_true h]
theorem lss_f (h : ¬ a < b) : binV .lss .scalar (I a) (I b) = some (.bool false) := by rw [bin_lss, decide_eq_false h]
theorem leq_t (h : a ≤ b) : binV .leq .scalar (I a) (I b) = some (.bool true) := by rw [bin_leq, decide_eq_true h]
theorem leq_f (h : ¬ a ≤ b) : binV .leq .scalar (I a) (I b) = some (.bool false) := by rw [bin_leq, decide_eq_false h]
theorem gtr_t (h : b < a) : binV .gtr .scalar (I a) (I b) = some (.bool true) := by rw [bin_gtr, decide_eq_true h]
theorem gtr_f (h : ¬ b < a) : binV .gtr .scalar (I a) (I b) = some (.bool false) := by rw [bin_gtr, decide_eq_false h]
theorem geq_t (h : b ≤ a) : binV .geq .scalar (I a) (I b) = some (.bool true) := by rw [bin_geq, decide_eq_true h]
theorem geq_f (h : ¬ b ≤ a) : binV .geq .scalar (I a) (I b) = some (.bool false) := by rw [bin_geq, decide_eq_false h]
theorem eql_t (h : a = b) : binV .eql .scalar (I a) (I b) = some (.bool true) := by rw [bin_eql, beq_iff_eq.2 h]
theorem eql_f (h : ¬ a = b) : binV .eql .scalar (I a) (I b) = some (.bool false) := by rw [bin_eql, beq_eq_false_iff_ne.2 h]
theorem neq_t (h : ¬ a = b) : binV .neq .scalar (I a) (I b) = some (.bool true) := by rw [bin_neq, bne_iff_ne.2 h]
theorem neq_f (h : a = b) : binV .neq .scalar (I a) (I b) = some (.bool false) := by rw [bin_neq]; simp [h]
theorem add_i (h1 : -9223372036854775808 ≤ a + b) (h2 : a + b ≤ 9223372036854775807) : binV .add .scalar (I a) (I b) = some (I (a + b)) := bin_add a b ⟨h1, h2⟩
theorem sub_i (h1 : -9223372036854775808 ≤ a - b) (h2 : a - b ≤ 9223372036854775807) : binV .sub .scalar (I a) (I b) = some (I (a - b)) := bin_sub a b ⟨h1, h2⟩
theorem rem_i (h1 : ¬ b = 0) : binV .rem .scalar (I a) (I b) = some (I (a.tmod b)) := bin_rem a b h1
theorem quo_w (h1 : ¬ b = 0) : binV .quo .scalar (I a) (I b) = some (I (IntKind.i64.wrap (a.tdiv b))) := by
  show (if b = 0 then none else some (AV.int .i64 (IntKind.i64.wrap (a.tdiv b)))) = _
  rw [if_neg h1]
theorem mul_w : binV .mul .scalar (I a) (I b) = some (I (IntKind.i64.wrap (a * b))) := rfl
theorem eql_b (a b : Bool) : binV .eql .bool (.bool a) (.bool b) = some (.bool (a == b)) := rfl
theorem neq_b (a b : Bool) : binV .neq .bool (.bool a) (.bool b) = some (.bool (!(a == b))) := rfl
theorem eql_sl_nil (o off len sz : Nat) (lim : Option Nat) (g : Nat) : binV .eql .slice (.sl o off len sz lim g) .nils = some (.bool false) := rfl
theorem eql_nil_nil : binV .eql .slice .nils .nils = some (.bool true) := rfl
theorem mm_max : mmV true (I a) (I b) = some (I (max a b)) := by
  show some (AV.int .i64 (if (true : Bool) = true then (if b > a then b else a) else _)) = _
  simp only [if_true]
  congr 2
  omega
theorem mm_min : mmV false (I a) (I b) = some (I (min a b)) := by
  show some (AV.int .i64 (if (false : Bool) = true then _ else (if b < a then b else a))) = _
  simp only [Bool.false_eq_true, if_false]
  congr 2
  omega
end

/-! ### Places -/
def AV.obj : AV → Nat
  | .ptr o _ _ _ => o
  | .sl o _ _ _ _ _ => o
  | .map o => o
  | _ => 0
def elP (sz : Nat) (s : AV) (i : Int) : AV := match s with
  | .sl o off _ _ _ g => .ptr o (off + i.toNat * sz) (off + i.toNat * sz + sz) g
  | _ => .ptr 0 0 0 0
def fldP (d : Nat) : AV → AV
  | .ptr o off hi g => .ptr o (off + d) hi g
  | v => v
theorem fldP_ptr (d o off hi g : Nat) : fldP d (.ptr o off hi g) = .ptr o (off + d) hi g := rfl
theorem fldP_fldP (d e : Nat) (p : AV) : fldP d (fldP e p) = fldP (e + d) p := by cases p <;> simp [fldP, Nat.add_assoc]
theorem fldA_ptr (d o off hi g : Nat) : fldA d (.ptr o off hi g) = some (.ptr o (off + d) hi g) := rfl
theorem nil_ptr (o off hi g : Nat) : nilCk (.ptr o off hi g) = some (.ptr o off hi g) := rfl
theorem fldA_el (sz d : Nat) (s : AV) (i : Int) : fldA d (elP sz s i) = some (fldP d (elP sz s i)) := by cases s <;> rfl
theorem fldA_elf (sz d e : Nat) (s : AV) (i : Int) : fldA d (fldP e (elP sz s i)) = some (fldP (e + d) (elP sz s i)) := by cases s <;> simp [elP, fldP, fldA, Nat.add_assoc]
theorem nil_el (sz : Nat) (s : AV) (i : Int) : nilCk (elP sz s i) = some (elP sz s i) := by cases s <;> rfl
theorem nil_elf (sz e : Nat) (s : AV) (i : Int) : nilCk (fldP e (elP sz s i)) = some (fldP e (elP sz s i)) := by cases s <;> rfl
theorem len_sl (o off len sz : Nat) (lim : Option Nat) (g : Nat) : lenS (.sl o off len sz lim g) = some (I len) := rfl
theorem len_nil : lenS .nils = some (I 0) := rfl
theorem idx_sl {o off len sz : Nat} {lim : Option Nat} {g : Nat} {i : Int} (h0 : 0 ≤ i) (h1 : i < len) : idxS sz (.sl o off len sz lim g) (I i) = some (.ptr o (off + i.toNat * sz) (off + i.toNat * sz + sz) g) := by
  simp [idxS, h0, h1]

/-! ### Reads and writes, by the row -/
def rdAt (x : Option AObj) (off hi g : Nat) : Option AV := match x with
  | some (.cells c) => if c.wg ≤ g ∧ off < hi then c.cells[off]? else none
  | _ => none
theorem ld1_ptr (h : Heap) (o off hi g : Nat) : ld1 h (.ptr o off hi g) = rdAt h[o]? off hi g := rfl
theorem rdAt_row {cs : List AV} {gen wg : Nat} {ro : Bool} {off hi g : Nat} (h1 : wg ≤ g) (h2 : off < hi) : rdAt (some (.cells ⟨cs, gen, wg, ro⟩)) off hi g = cs[off]? := if_pos ⟨h1, h2⟩
def rdNAt (n : Nat) (x : Option AObj) (off hi g : Nat) : Option AV := match x with
  | some (.cells c) => if off + n ≤ hi ∧ c.wg ≤ g then some (.agg ((c.cells.drop off).take n)) else none
  | _ => none
theorem ldN_ptr (n : Nat) (h : Heap) (o off hi g : Nat) : ldN n h (.ptr o off hi g) = rdNAt n h[o]? off hi g := by
  simp only [ldN, rdc, rdNAt]
  cases hx : h[o]? with
  | none => simp
  | some x =>
    cases x with
    | cells c =>
      simp only
      by_cases h1 : off + n ≤ hi
      · by_cases h2 : c.wg ≤ g
        · simp [h1, h2]
        · simp [h1, h2]
      · simp [h1]
    | map m => simp
theorem rdNAt_row {n : Nat} {cs : List AV} {gen wg : Nat} {ro : Bool} {off hi g : Nat} (h1 : wg ≤ g) (h2 : off + n ≤ hi) : rdNAt n (some (.cells ⟨cs, gen, wg, ro⟩)) off hi g = some (.agg ((cs.drop off).take n)) := if_pos ⟨h2, h1⟩
def wrAt (n : Nat) (h : Heap) (x : Option AObj) (o off hi g : Nat) (vs : List AV) : Option Heap := match x with
  | some (.cells c) => if vs.length = n ∧ c.ro = false ∧ c.gen = g ∧ off + vs.length ≤ hi ∧ vs.all AV.one = true then some (h.set o (.cells { c with cells := setAll c.cells off vs, wg := g })) else none
  | _ => none
theorem stN_ptr (n : Nat) (h : Heap) (o off hi g : Nat) (v : AV) : stN n h (.ptr o off hi g) v = wrAt n h h[o]? o off hi g v.cells := by
  simp only [stN, wrc, wrAt]
  by_cases h1 : v.cells.length = n
  · simp only [if_pos h1]
    cases hx : h[o]? with
    | none => rfl
    | some x =>
      cases x with
      | cells c => simp only [h1, true_and]
      | map m => rfl
  · simp only [if_neg h1]
    cases hx : h[o]? with
    | none => rfl
    | some x =>
      cases x with
      | cells c => simp only [h1, false_and, if_false]
      | map m => rfl
theorem wrAt_row {n : Nat} {h : Heap} {cs : List AV} {gen wg : Nat} {o off hi g : Nat} {vs : List AV} (h1 : vs.length = n) (h2 : gen = g) (h3 : off + n ≤ hi) (h4 : vs.all AV.one = true) :
    wrAt n h (some (.cells ⟨cs, gen, wg, false⟩)) o off hi g vs = some (h.set o (.cells ⟨setAll cs off vs, gen, g, false⟩)) := by
  subst h1 h2
  exact if_pos ⟨rfl, rfl, rfl, h3, h4⟩
theorem get_set_ne {h : Heap} {o p : Nat} {x : AObj} (hne : ¬ o = p) : (h.set o x)[p]? = h[p]? := List.getElem?_set_ne hne
theorem get_set_eq {h : Heap} {o : Nat} {x : AObj} (ho : o < h.length) : (h.set o x)[o]? = some x := by simp [ho]
theorem get_app_l {h t : Heap} {o : Nat} (ho : o < h.length) : (h ++ t)[o]? = h[o]? := List.getElem?_append_left ho
theorem get_app_r {h t : Heap} {o : Nat} (ho : h.length ≤ o) : (h ++ t)[o]? = t[o - h.length]? := List.getElem?_append_right ho
theorem mkObj_eq (h : Heap) (cs : List AV) : mkObj h cs = h ++ [.cells ⟨cs, 0, 0, false⟩] := rfl
theorem newVar_i {cs : List AV} {h : Heap} (h1 : cs.all AV.one = true) : newVar h cs = some (.ptr h.length 0 cs.length 0, mkObj h cs) := newVar_eq h h1

section
variable (k : IntKind) (n : Int) (b : Bool) (s : ByteArray) (o off hi g sz : Nat) (lim : Option Nat) (cs : List AV) (t : TypeId) (v : AV)
theorem one_int : (AV.int k n).one = true := rfl
theorem one_bool : (AV.bool b).one = true := rfl
theorem one_str : (AV.str s).one = true := rfl
theorem one_ptr : (AV.ptr o off hi g).one = true := rfl
theorem one_sl : (AV.sl o off hi sz lim g).one = true := rfl
theorem one_nils : AV.nils.one = true := rfl
theorem one_nilp : AV.nilp.one = true := rfl
theorem one_ifc : (AV.ifc t v).one = true := rfl
theorem one_map : (AV.map o).one = true := rfl
theorem cells_int : (AV.int k n).cells = [.int k n] := rfl
theorem cells_bool : (AV.bool b).cells = [.bool b] := rfl
theorem cells_str : (AV.str s).cells = [.str s] := rfl
theorem cells_ptr : (AV.ptr o off hi g).cells = [.ptr o off hi g] := rfl
theorem cells_sl : (AV.sl o off hi sz lim g).cells = [.sl o off hi sz lim g] := rfl
theorem cells_nils : AV.nils.cells = [.nils] := rfl
theorem cells_nilp : AV.nilp.cells = [.nilp] := rfl
theorem cells_ifc : (AV.ifc t v).cells = [.ifc t v] := rfl
theorem cells_map : (AV.map o).cells = [.map o] := rfl
theorem cells_agg : (AV.agg cs).cells = cs := rfl
end
theorem fillP_n (cs : List AV) : fillP cs [] = some cs := rfl
theorem fillP_i {cs : List AV} {off size : Nat} {v : AV} {r : List (Nat × Nat × AV)} (h1 : v.cells.length = size) (h2 : off + size ≤ cs.length) (h3 : v.cells.all AV.one = true) : fillP cs ((off, size, v) :: r) = fillP (setAll cs off v.cells) r := if_pos ⟨h1, h2, h3⟩
theorem buildV_i (z : List AV) (ps : List (Nat × Nat × AV)) : buildV z ps = (fillP z ps).map .agg := rfl
/-- A row of what is laid in. -/
def bsl (sz len : Nat) (h : Heap) (x : Option (List AV)) : Option (AV × Heap) := match x with
  | some cs => if cs.all AV.one = true ∧ cs.length = len * sz then some (.sl h.length 0 len sz none 0, mkObj h cs) else none
  | none => none
theorem buildSl_i (sz len : Nat) (z : List AV) (ps : List (Nat × Nat × AV)) (h : Heap) : buildSl sz len z ps h = bsl sz len h (fillP z ps) := rfl
theorem bsl_i {sz len : Nat} {h : Heap} {cs : List AV} (h1 : cs.all AV.one = true) (h2 : cs.length = len * sz) : bsl sz len h (some cs) = some (.sl h.length 0 len sz none 0, mkObj h cs) := if_pos ⟨h1, h2⟩
theorem mkSl_i {zero : List AV} {sz bytes : Nat} {l c : Int} {h : Heap} (h1 : 0 ≤ l) (h2 : l ≤ c) (h3 : c * bytes ≤ 140737488355328) (h4 : c ≤ 140737488355328) (h5 : zero.length = sz) (h6 : zero.all AV.one = true) :
    mkSl zero sz bytes (I l) (I c) h = some (.sl h.length 0 l.toNat sz none 0, mkObj h ((List.replicate l.toNat zero).flatten)) := if_pos ⟨h1, h2, h3, h4, h5, h6⟩

/-! ### More heap -/
theorem Ext.app {h H : Heap} (a : Ext h H) (t : Heap) : Ext h (H ++ t) := a.trans (Ext.push H t)
theorem Ext.mk {h H : Heap} (a : Ext h H) (cs : List AV) : Ext h (mkObj H cs) := a.trans (Ext.push H _)
theorem Ext.setr {h H : Heap} (a : Ext h H) {o : Nat} (ho : h.length ≤ o) (x : AObj) : Ext h (H.set o x) := a.set ho x
theorem Ext.def {h h' : Heap} (a : Ext h h') : ∃ t, h' = h ++ t := let ⟨t, e⟩ := a; ⟨t, e.symm⟩

/-! ### Views that stay -/
def gi {α : Type} [Inhabited α] (xs : List α) (i : Int) : α := xs.getD i.toNat default
theorem gi_some {α : Type} [Inhabited α] {xs : List α} {i : Int} (h0 : 0 ≤ i) (h1 : i < xs.length) : xs[i.toNat]? = some (gi xs i) := by
  have : i.toNat < xs.length := by omega
  simp [gi, List.getD_eq_getElem?_getD, this]
theorem gi_mem {α : Type} [Inhabited α] {xs : List α} {i : Int} (h0 : 0 ≤ i) (h1 : i < xs.length) : gi xs i ∈ xs := List.mem_of_getElem? (gi_some h0 h1)
theorem gi_nat {α : Type} [Inhabited α] {xs : List α} {n : Nat} (h1 : n < xs.length) : gi xs (n : Int) = xs[n] := by
  simp [gi, List.getD_eq_getElem?_getD, h1]

section
variable {h H : Heap} {sz : Nat} {s : AV} {α : Type} [Inhabited α] {enc : α → List AV} {xs : List α} {i : Int}
theorem Sl.idxG (a : Sl h sz s (xs.map enc)) {i : Int} (h0 : 0 ≤ i) (h1 : i < xs.length) : idxS sz s (I i) = some (elP sz s i) := by
  rcases a with ⟨rfl, h2⟩ | ⟨o, off, lim, g, c, rfl, _⟩
  · rw [List.map_eq_nil_iff] at h2; subst h2; simp at h1; omega
  · simp [idxS, elP, h0, h1]
theorem Sl.lenG (a : Sl h sz s (xs.map enc)) : lenS s = some (I xs.length) := by rw [a.len, List.length_map]
theorem Sl.atG (a : Sl h sz s (xs.map enc)) {H : Heap} {i : Int} (e : Ext h H) (h0 : 0 ≤ i) (h1 : i < xs.length) : At H (elP sz s i) (enc (gi xs i)) := by
  have hx : (xs.map enc)[i.toNat]? = some (enc (gi xs i)) := by simp [gi_some h0 h1]
  obtain ⟨p, h2, h3⟩ := (a.ext e).idx hx
  have h4 := a.idxG h0 h1
  rw [show ((i.toNat : Nat) : Int) = i by omega] at h2
  rw [h2] at h4
  injection h4 with h4
  rw [← h4]; exact h3
theorem At.ldf {p : AV} {cs : List AV} (a : At h p cs) {d : Nat} (hd : d < cs.length) : Gm.ld1 h (fldP d p) = some (cs.getD d .undef) := by
  obtain ⟨p', h1, h2⟩ := a.cell (d := d) (List.getElem?_eq_getElem hd)
  obtain ⟨o, off, hi, g, c, rfl, _⟩ := a
  injection h1 with h1
  rw [fldP_ptr, h1, h2, List.getD_eq_getElem?_getD, List.getElem?_eq_getElem hd]; rfl
theorem At.ld0 {p : AV} {cs : List AV} (a : At h p cs) (hd : 0 < cs.length) : Gm.ld1 h p = some (cs.getD 0 .undef) := by
  have := a.ldf hd
  obtain ⟨o, off, hi, g, c, rfl, _⟩ := a
  exact this
theorem At.ldNf {p : AV} {cs : List AV} (a : At h p cs) {d n : Nat} (hd : d + n ≤ cs.length) : Gm.ldN n h (fldP d p) = some (.agg ((cs.drop d).take n)) := by
  obtain ⟨p', h1, h2⟩ := a.fld (d := d) (by omega)
  obtain ⟨o, off, hi, g, c, rfl, _⟩ := a
  injection h1 with h1
  rw [fldP_ptr, h1]
  exact h2.ldN (by simp; omega)
theorem Sl.encLen (a : Sl h sz s (xs.map enc)) {i : Int} (h0 : 0 ≤ i) (h1 : i < xs.length) : (enc (gi xs i)).length = sz := by
  rcases a with ⟨rfl, h2⟩ | ⟨o, off, lim, g, c, rfl, _, _, _, h5⟩
  · rw [List.map_eq_nil_iff] at h2; subst h2; simp at h1; omega
  · exact h5 _ (List.mem_map_of_mem (gi_mem h0 h1))
theorem Sl.ldf (a : Sl h sz s (xs.map enc)) (d : Nat) {H : Heap} {i : Int} (e : Ext h H) (h0 : 0 ≤ i) (h1 : i < xs.length) (hd : d < sz) : Gm.ld1 H (fldP d (elP sz s i)) = some ((enc (gi xs i)).getD d .undef) := (a.atG e h0 h1).ldf (by rw [a.encLen h0 h1]; exact hd)
theorem Sl.ld0 (a : Sl h sz s (xs.map enc)) {H : Heap} {i : Int} (e : Ext h H) (h0 : 0 ≤ i) (h1 : i < xs.length) (hd : 0 < sz) : Gm.ld1 H (elP sz s i) = some ((enc (gi xs i)).getD 0 .undef) := (a.atG e h0 h1).ld0 (by rw [a.encLen h0 h1]; exact hd)
theorem Sl.ldN (a : Sl h sz s (xs.map enc)) {H : Heap} {i : Int} (e : Ext h H) (h0 : 0 ≤ i) (h1 : i < xs.length) : Gm.ldN sz H (elP sz s i) = some (.agg (enc (gi xs i))) := by
  have h2 := (a.atG e h0 h1).ldN (n := sz) (by rw [a.encLen h0 h1]; exact Nat.le_refl _)
  rw [h2, List.take_of_length_le (by rw [a.encLen h0 h1]; exact Nat.le_refl _)]
end
section
variable {h H : Heap} {p : AV} {cs : List AV}
theorem At.fldA0 (a : At h p cs) (d : Nat) : fldA d p = some (fldP d p) := by
  obtain ⟨o, off, hi, g, c, rfl, _⟩ := a; rfl
theorem At.fldAf (a : At h p cs) (d e : Nat) : fldA d (fldP e p) = some (fldP (e + d) p) := by
  obtain ⟨o, off, hi, g, c, rfl, _⟩ := a; simp [fldP, fldA, Nat.add_assoc]
theorem At.nilf (a : At h p cs) (e : Nat) : nilCk (fldP e p) = some (fldP e p) := by
  obtain ⟨o, off, hi, g, c, rfl, _⟩ := a; rfl
theorem At.ldfE (a : At h p cs) (d : Nat) {H : Heap} (e : Ext h H) (hd : d < cs.length) : Gm.ld1 H (fldP d p) = some (cs.getD d .undef) := (a.ext e).ldf hd
theorem At.ld0E (a : At h p cs) {H : Heap} (e : Ext h H) (hd : 0 < cs.length) : Gm.ld1 H p = some (cs.getD 0 .undef) := (a.ext e).ld0 hd
theorem At.ldNE (a : At h p cs) {n : Nat} {H : Heap} (e : Ext h H) (hd : n ≤ cs.length) : Gm.ldN n H p = some (.agg (cs.take n)) := (a.ext e).ldN hd
theorem At.ldNfE (a : At h p cs) {d n : Nat} {H : Heap} (e : Ext h H) (hd : d + n ≤ cs.length) : Gm.ldN n H (fldP d p) = some (.agg ((cs.drop d).take n)) := (a.ext e).ldNf hd
theorem At.neq (a : At h p cs) : binV .neq .ptr p .nilp = some (.bool true) := by
  obtain ⟨o, off, hi, g, c, rfl, _⟩ := a; rfl
theorem At.eql (a : At h p cs) : binV .eql .ptr p .nilp = some (.bool false) := by
  obtain ⟨o, off, hi, g, c, rfl, _⟩ := a; rfl
end
end Go.Gm
