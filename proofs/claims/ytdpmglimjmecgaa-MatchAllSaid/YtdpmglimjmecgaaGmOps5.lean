/- A part of the proof: GmOps5: an abstract machine, what it does, and what the functions of the program come to on it. -/
import Derived.Test.YtdpmglimjmecgaaGmMap
set_option linter.unusedVariables false
set_option linter.unusedSimpArgs false
namespace Go.Gm
open Go.RowKit

section
variable {B : Nat} {w0 : World} {φ : Ren} {h h' : Heap} {w : World} {P : Program} {fr : Frm} {cmp : Operand → Option Opd} {ρ : Operand → Value}

theorem optOpd (hf : EvOk φ cmp fr ρ) {x : Option Operand} {y : Option Opd} (hc : compOpdO cmp x = some y) :
    (∀ z, y.map (·.ev fr) = some z → ∃ u, x.map ρ = some u ∧ VR φ z u) ∧ (y.map (·.ev fr) = none → x.map ρ = none) ∧ y.isSome = x.isSome := by
  cases x with
  | none => injection hc with hc; subst hc; exact ⟨fun _ q => by simp at q, fun _ => rfl, rfl⟩
  | some x =>
    simp only [compOpdO, Option.map_eq_some_iff] at hc
    obtain ⟨z, e, rfl⟩ := hc
    exact ⟨fun u q => ⟨_, rfl, by simp only [Option.map_some, Option.some.injEq] at q; subst q; exact hf.ev e⟩, fun q => by simp at q, rfl⟩

theorem partsL_ok (hf : EvOk φ cmp fr ρ) {pl : List (Nat × Nat)} : ∀ {ps : List (Nat × Operand)} {qs : List (Nat × Nat × Opd)}, compPartsL cmp pl ps = some qs →
    ps.length = qs.length ∧ ∀ (i : Nat) p q, (ps.map fun (i, x) => (i, ρ x))[i]? = some p → (qs.map fun (o, s, x) => (o, s, x.ev fr))[i]? = some q → pl[p.1]? = some (q.1, q.2.1) ∧ VR φ q.2.2 p.2
  | [], qs, h => by injection h with h; subst h; exact ⟨rfl, fun i p q h => by simp at h⟩
  | p :: ps, qs, h => by
    simp only [compPartsL, Option.bind_eq_some_iff, Option.map_eq_some_iff, compPartL] at h
    obtain ⟨x, ⟨y, h0, z, hz, rfl⟩, xs, h2, rfl⟩ := h
    obtain ⟨k1, k2⟩ := partsL_ok hf h2
    refine ⟨by simp [k1], fun i => ?_⟩
    cases i with
    | zero =>
      intro p' q' e1 e2
      simp only [List.map_cons, List.getElem?_cons_zero, Option.some.injEq] at e1 e2
      subst e1 e2
      exact ⟨hz, hf.ev h0⟩
    | succ i => intro p' q' e1 e2; exact k2 i p' q' (by simpa using e1) (by simpa using e2)
theorem partsS_ok (hf : EvOk φ cmp fr ρ) {s : Nat} : ∀ {ps : List (Nat × Operand)} {qs : List (Nat × Nat × Opd)}, compPartsS cmp s ps = some qs →
    ps.length = qs.length ∧ ∀ (i : Nat) p q, (ps.map fun (i, x) => (i, ρ x))[i]? = some p → (qs.map fun (o, s, x) => (o, s, x.ev fr))[i]? = some q → some (p.1 * s, s) = some (q.1, q.2.1) ∧ VR φ q.2.2 p.2
  | [], qs, h => by injection h with h; subst h; exact ⟨rfl, fun i p q h => by simp at h⟩
  | p :: ps, qs, h => by
    simp only [compPartsS, Option.bind_eq_some_iff, Option.map_eq_some_iff, compPartS] at h
    obtain ⟨x, ⟨y, h0, rfl⟩, xs, h2, rfl⟩ := h
    obtain ⟨k1, k2⟩ := partsS_ok hf h2
    refine ⟨by simp [k1], fun i => ?_⟩
    cases i with
    | zero =>
      intro p' q' e1 e2
      simp only [List.map_cons, List.getElem?_cons_zero, Option.some.injEq] at e1 e2
      subst e1 e2
      exact ⟨rfl, hf.ev h0⟩
    | succ i => intro p' q' e1 e2; exact k2 i p' q' (by simpa using e1) (by simpa using e2)

theorem VRs.all_one_of {cs : List AV} {us : List Value} : VRs φ cs us → cs.all AV.one = true → ∀ v ∈ us, v.oneCell' = true := VRs.one_of

theorem VR.bool_inv {b : Bool} {v : Value} (h : VR φ (.bool b) v) : v = .bool b := by cases h; rfl
theorem VR.int_inv {k : IntKind} {n : Int} {v : Value} (h : VR φ (.int k n) v) : v = .int k n := by cases h; rfl
theorem VR.str_inv {s : ByteArray} {v : Value} (h : VR φ (.str s) v) : v = .string s := by cases h; rfl
theorem build_run {t : TypeId} {zv : Value} {us us' : List Value} {ps : List (Nat × Value)} {w : World} (hz : ∀ w, (zeroValue t).run P w = .ok zv w) (hzc : zv.cells = us.toArray) {place : Nat → Option (Nat × Nat)}
    (hp : (∃ fs pl, P.underlying t = some (.struct fs) ∧ placesOf P fs.toList = some pl ∧ place = fun i : Nat => pl[i]?) ∨ (∃ n e s, P.underlying t = some (.array n e) ∧ szOf P e = some s ∧ place = fun i => some (i * s, s)))
    (hf : Instr.fill place us.toArray ps = some us'.toArray) : (Instr.build t ps.toArray).run P w = .ok (.agg us'.toArray) w := by
  rcases hp with ⟨fs, pl, hu, hpl, rfl⟩ | ⟨n, e, s, hu, hs, rfl⟩
  · have := run_places (P := P) w fs.toList pl hpl
    have e : (fun i : Nat => pl.toArray[i]?) = fun i : Nat => pl[i]? := by funext i; simp
    simp [Instr.build, run_underlying hu, hz, Array.mapM_eq_mapM_toList, this, hzc, e, hf]
  · simp [Instr.build, run_underlying hu, hz, run_sizeOf hs, hzc, hf]

theorem flat_get {z : List AV} {sz : Nat} (hz : z.length = sz) (hs : 0 < sz) : ∀ (n j : Nat), j < n * sz → ((List.replicate n z).flatten)[j]? = z[j % sz]?
  | 0, j, h => by omega
  | n + 1, j, h => by
    rw [List.replicate_succ, List.flatten_cons]
    by_cases hj : j < sz
    · rw [List.getElem?_append_left (by omega), Nat.mod_eq_of_lt hj]
    · have h' : j - sz < n * sz := by rw [Nat.add_mul, Nat.one_mul] at h; omega
      rw [List.getElem?_append_right (by omega), hz, flat_get hz hs n (j - sz) h', ← Nat.mod_eq_sub_mod (show j ≥ sz by omega)]
theorem flat_len {z : List AV} {sz : Nat} (hz : z.length = sz) (n : Nat) : ((List.replicate n z).flatten).length = n * sz := by
  simp [hz]
theorem wrap64_small {n : Int} (h0 : 0 ≤ n) (h1 : n ≤ 140737488355328) : IntKind.i64.wrap n = n := by
  simp [IntKind.wrap, IntKind.bits, IntKind.signed]
  omega
/-- How a new row is laid. -/
def Maker (φ : Ren) (w : World) (h : Heap) (G : Ren → Heap → World → Prop) : Prop :=
  ∀ (cs : List AV) (vs rest : List Value), VRs φ cs vs → cs.all AV.one = true → ∀ e : TypeId, ∃ ψ, G ψ (mkObj h cs) (w.alloc (.cells (vs ++ rest).toArray e)) ∧ ψ.c h.length 0 = some ⟨w.heap.size, 0, (vs ++ rest).length, cs.length⟩
theorem S.maker (hs : S B w0 φ h w) : Maker φ w h fun ψ h' w' => S B w0 ψ h' w' ∧ Kept φ h ψ h' := fun cs vs rest hv h1 e => by
  obtain ⟨ψ, p1, p2, p3⟩ := hs.make (rest := rest) hv h1 e
  exact ⟨ψ, ⟨p1, p2⟩, p3⟩
theorem mkSlG {G : Ren → Heap → World → Prop} (hs : Maker φ w h G) {t e : TypeId} {i : TypeInfo} {zv : Value} {y : AV} {sz by_ : Nat} (he : ElemOk P t e i zv sz by_) (hz : ofVal zv = some y) (hsz : 0 < sz) {l c : AV} {l' c' : Value} (hl : VR φ l l') (hc : VR φ c c')
    {v : AV} {h' : Heap} (hv : mkSl y.cells sz by_ l c h = some (v, h')) : ∃ ψ v' w', (Instr.makeSlice t l' c').run P w = .ok v' w' ∧ VR ψ v v' ∧ G ψ h' w' := by
  obtain ⟨hu, hi, hzv, hsize, hby, hzc⟩ := he
  obtain ⟨hzr, hz1⟩ := ofVal_cells (φ := φ) hz
  unfold mkSl at hv
  split at hv
  · rename_i ln cn
    split at hv
    · rename_i hcond
      obtain ⟨c1, c2, c3, c4, c5, c6⟩ := hcond
      injection hv with hv
      injection hv with e1 e2
      subst e1 e2
      cases hl
      cases hc
      obtain ⟨ln, rfl⟩ := Int.eq_ofNat_of_zero_le c1
      obtain ⟨cn, rfl⟩ := Int.eq_ofNat_of_zero_le (show 0 ≤ cn by omega)
      have hlc : ln ≤ cn := by omega
      simp only [Int.toNat_natCast]
      have hcell : ∀ N, ((Array.range (N * sz)).map (fun x => zv.cells[x % zv.cells.size]!)).toList = (List.range (N * sz)).map fun j => zv.cells.toList.getD (j % sz) undef := by
        intro N
        simp only [Array.toList_map, Array.toList_range]
        refine List.map_congr_left (fun j hj => ?_)
        have hm : j % sz < sz := Nat.mod_lt _ hsz
        rw [hzc, List.getD_eq_getElem?_getD, Array.getElem?_toList, getElem!_def, Array.getElem?_eq_getElem (by omega)]
        rfl
      have hsplit : (List.range (cn * sz)).map (fun j => zv.cells.toList.getD (j % sz) undef) = ((List.range (cn * sz)).map (fun j => zv.cells.toList.getD (j % sz) undef)).take (ln * sz) ++ ((List.range (cn * sz)).map (fun j => zv.cells.toList.getD (j % sz) undef)).drop (ln * sz) := (List.take_append_drop _ _).symm
      have hls : ln * sz ≤ cn * sz := Nat.mul_le_mul_right _ hlc
      have hvrs : VRs φ ((List.replicate ln y.cells).flatten) (((List.range (cn * sz)).map (fun j => zv.cells.toList.getD (j % sz) undef)).take (ln * sz)) := by
        refine VRs.of_get (by rw [flat_len c5, List.length_take, List.length_map, List.length_range, Nat.min_eq_left hls]) (fun j x v hx hv' => ?_)
        have hj : j < ln * sz := by have := (List.getElem?_eq_some_iff.1 hx).1; rw [flat_len c5] at this; exact this
        rw [flat_get c5 hsz ln j hj] at hx
        rw [List.getElem?_take, if_pos hj, List.getElem?_map, List.getElem?_range (by omega)] at hv'
        simp only [Option.map_some, Option.some.injEq] at hv'
        subst hv'
        obtain ⟨v', e', r⟩ := hzr.get hx
        rw [List.getD_eq_getElem?_getD, e']
        exact r
      have hone : ((List.replicate ln y.cells).flatten).all AV.one = true := by
        rw [List.all_eq_true]
        intro x hx
        simp only [List.mem_flatten, List.mem_replicate] at hx
        obtain ⟨l, ⟨_, rfl⟩, hx⟩ := hx
        exact List.all_eq_true.1 hz1 x hx
      obtain ⟨ψ, p1, p3⟩ := hs ((List.replicate ln y.cells).flatten) (((List.range (cn * sz)).map (fun j => zv.cells.toList.getD (j % sz) undef)).take (ln * sz)) (((List.range (cn * sz)).map (fun j => zv.cells.toList.getD (j % sz) undef)).drop (ln * sz)) hvrs hone e
      rw [← hsplit] at p1 p3
      have hcn : cn ≤ 140737488355328 := by omega
      refine ⟨ψ, .slice (some ⟨w.heap.size, 0, none⟩) ln cn, _, ?_, VR.sl (φ := ψ) (off := 0) (lim := none) p3 (by simp only [flat_len c5]; omega) hlc (by unfold maxLen; omega) (by simp) (fun _ q => by cases q), p1⟩
      have w1 := wrap64_small (n := (ln : Int)) (by omega) (by omega)
      have w2 := wrap64_small (n := (cn : Int)) (by omega) (by omega)
      have hb : ¬ ((by_ : Int) * cn > 2 ^ 48) := by
        have : (by_ : Int) * cn = cn * by_ := Int.mul_comm ..
        omega
      have harr : (Array.range (cn * sz)).map (fun x => zv.cells[x % zv.cells.size]!) = ((List.range (cn * sz)).map fun j => zv.cells.toList.getD (j % sz) undef).toArray := by
        apply Array.ext'; rw [hcell]
      have hcond : ((decide ((cn : Int) < 0) || decide ((by_ : Int) * cn > 2 ^ 48)) || decide ((ln : Int) < 0) || decide ((ln : Int) > cn)) = false := by
        simp only [Bool.or_eq_false_iff, decide_eq_false_iff_not]
        omega
      by_cases h0 : cn * sz = 0
      · have e0 : (Array.range (cn * sz)).map (fun x => (#[] : Array Value)[x % (#[] : Array Value).size]!) = (Array.range (cn * sz)).map (fun x => zv.cells[x % zv.cells.size]!) := by
          have : Array.range (cn * sz) = #[] := by rw [h0]; simp
          rw [this]; simp
        simp only [Instr.makeSlice, Sem.run_bind, run_underlying hu, Result.andThen_ok, asInt, asIntOf, Sem.run_pure, typeInfo, run_program, hi, hby, w1, w2, hcond, Bool.false_eq_true, if_false, Sem.run_ite, run_askRoom, Int.toNat_natCast, sizeOf, hsize, if_pos h0, e0, harr, newRow, run_newObj]
        rfl
      · simp only [Instr.makeSlice, Sem.run_bind, run_underlying hu, Result.andThen_ok, asInt, asIntOf, Sem.run_pure, typeInfo, run_program, hi, hby, w1, w2, hcond, Bool.false_eq_true, if_false, Sem.run_ite, run_askRoom, Int.toNat_natCast, sizeOf, hsize, if_neg h0, zeroValue, hzv, harr, newRow, run_newObj]
        rfl
    · cases hv
  · cases hv
theorem mkSl_ok (hs : S B w0 φ h w) {t e : TypeId} {i : TypeInfo} {zv : Value} {y : AV} {sz by_ : Nat} (he : ElemOk P t e i zv sz by_) (hz : ofVal zv = some y) (hsz : 0 < sz) {l c : AV} {l' c' : Value} (hl : VR φ l l') (hc : VR φ c c')
    {v : AV} {h' : Heap} (hv : mkSl y.cells sz by_ l c h = some (v, h')) : ∃ ψ v' w', (Instr.makeSlice t l' c').run P w = .ok v' w' ∧ VR ψ v v' ∧ S B w0 ψ h' w' ∧ Kept φ h ψ h' := mkSlG hs.maker he hz hsz hl hc hv
theorem buildSlG {G : Ren → Heap → World → Prop} (hs : Maker φ w h G) (hf : EvOk φ cmp fr ρ) {t e : TypeId} {i : TypeInfo} {zv : Value} {y : AV} {sz by_ n : Nat} (hel : ElemOk P t e i zv sz by_) (hzo : ofVal zv = some y) (hzl : y.cells.length = sz) (hsz : n * sz ≤ 16777216 ∧ 0 < sz)
    {ps : Array (Nat × Operand)} {qs : List (Nat × Nat × Opd)} (h3 : compPartsS cmp sz ps.toList = some qs) {v : AV} {h' : Heap}
    (he : buildSl sz n ((List.range (n * sz)).map fun j => y.cells.getD (j % sz) .undef) (qs.map fun (o, s, x) => (o, s, x.ev fr)) h = some (v, h')) :
    ∃ ψ v' w', (Instr.buildSlice t n (ps.map fun (i, x) => (i, ρ x))).run P w = .ok v' w' ∧ VR ψ v v' ∧ G ψ h' w' := by
  unfold buildSl at he
  obtain ⟨hu, hi, hz, hsize, hby, hzc⟩ := hel
  obtain ⟨hzr, hz1⟩ := ofVal_cells (φ := φ) hzo
  cases ps with
  | mk pl0 =>
  obtain ⟨k1, k2⟩ := partsS_ok hf h3
  have htmpl : VRs φ ((List.range (n * sz)).map fun j => y.cells.getD (j % sz) .undef) ((List.range (n * sz)).map fun j => zv.cells.toList.getD (j % sz) undef) := by
    refine VRs.of_get (by simp) (fun j x v hx hv => ?_)
    have hj : j < n * sz := by have := (List.getElem?_eq_some_iff.1 hx).1; simpa using this
    simp only [List.getElem?_map, List.getElem?_range hj, Option.map_some, Option.some.injEq] at hx hv
    subst hx hv
    have hm : j % sz < sz := Nat.mod_lt _ hsz.2
    have h4 : y.cells[j % sz]? = some (y.cells[j % sz]'(by omega)) := List.getElem?_eq_getElem (by omega)
    obtain ⟨v', e', r⟩ := hzr.get h4
    rw [List.getD_eq_getElem?_getD, List.getD_eq_getElem?_getD, h4, e']
    exact r
  cases hfill : fillP ((List.range (n * sz)).map fun j => y.cells.getD (j % sz) .undef) (qs.map fun (o, s, x) => (o, s, x.ev fr)) with
  | none => rw [hfill] at he; cases he
  | some cs =>
    rw [hfill] at he
    simp only at he
    split at he
    · rename_i hcs
      injection he with he
      injection he with e1 e2
      subst e1 e2
      obtain ⟨us', m1, m2, m3⟩ := fill_ok (place := fun i => some (i * sz, sz)) htmpl (by simpa using k1) k2 hfill
      obtain ⟨ψ, p1, p3⟩ := hs cs us' [] m2 hcs.1 e
      rw [List.append_nil] at p1 p3
      have hus : us'.length = n * sz := by rw [← m2.length]; exact hcs.2
      have hn : n ≤ n * sz := Nat.le_mul_of_pos_right _ hsz.2
      refine ⟨ψ, .slice (some ⟨w.heap.size, 0, none⟩) n n, _, ?_, VR.sl (φ := ψ) (off := 0) (lim := none) p3 (by simp only [hcs.2]; omega) (Nat.le_refl _) (by unfold maxLen; omega) (by simp only [hus]; omega) (fun _ q => by cases q), p1⟩
      have hbig : ¬ (n * sz > 2 ^ 24) := by omega
      have harr : (Array.range (n * sz)).map (fun x => zv.cells[x % zv.cells.size]!) = ((List.range (n * sz)).map fun j => zv.cells.toList.getD (j % sz) undef).toArray := by
        apply Array.ext'
        simp only [Array.toList_map, Array.toList_range]
        refine List.map_congr_left (fun j hj => ?_)
        have hm : j % sz < sz := Nat.mod_lt _ hsz.2
        rw [hzc, List.getD_eq_getElem?_getD, Array.getElem?_toList, getElem!_def, Array.getElem?_eq_getElem (by omega)]
        rfl
      have hszr := run_sizeOf (show szOf P e = some sz by simp [szOf, hi, hsize])
      have hfin : Instr.fill (fun i => some (i * sz, sz)) ((Array.range (n * sz)).map (fun x => zv.cells[x % zv.cells.size]!)) (pl0.map fun (i, x) => (i, ρ x)) = some us'.toArray := by rw [harr]; exact m1
      by_cases h0 : n * sz = 0
      · have e0 : (Array.range (n * sz)).map (fun x => (#[] : Array Value)[x % (#[] : Array Value).size]!) = (Array.range (n * sz)).map (fun x => zv.cells[x % zv.cells.size]!) := by
          have : Array.range (n * sz) = #[] := by rw [h0]; simp
          rw [this]; simp
        simp only [Instr.buildSlice, Sem.run_bind, run_underlying hu, Result.andThen_ok, hszr, if_neg hbig, if_pos h0, Sem.run_pure, List.map_toArray]
        rw [e0, hfin]
        simp [newRow]
      · simp only [Instr.buildSlice, Sem.run_bind, run_underlying hu, Result.andThen_ok, hszr, if_neg hbig, if_neg h0, Sem.run_pure, zeroValue, typeInfo, run_program, hi, hz, List.map_toArray]
        rw [hfin]
        simp [newRow]
    · cases he
theorem idxA_ok {t e : TypeId} {n sz : Nat} (hu : P.underlying t = some (.array n e)) (hsz : szOf P e = some sz) {x i v : AV} {x' i' : Value} (hr : VR φ x x') (hi : VR φ i i') (hv : idxA n sz x i = some v) (w : World) :
    ∃ v', (Instr.indexAt t x' i').run P w = .ok v' w ∧ VR φ v v' := by
  unfold idxA at hv
  split at hv
  · rename_i o off hhi g k m
    split at hv
    · rename_i hc
      injection hv with hv
      subst hv
      cases hr
      cases hi
      rename_i l hn hl
      have hb : (0 : Int) ≤ m ∧ m < (n : Int) := ⟨hc.1, hc.2.1⟩
      refine ⟨.pointer (some ⟨l.b, l.d + (off + m.toNat * sz), none⟩), by simp only [Instr.indexAt, asIntOf, Sem.run_bind, Sem.run_pure, run_underlying hu, Result.andThen_ok, Instr.sureAddr, hb, and_self, if_true, run_sizeOf hsz, add_at, Nat.add_assoc], .ptr hl ?_⟩
      have hm := Nat.mul_le_mul_right sz (show m.toNat + 1 ≤ n by omega)
      rw [Nat.add_mul, Nat.one_mul] at hm
      omega
    · cases hv
  · cases hv
theorem idxS_ok {t e : TypeId} {sz : Nat} (hu : P.underlying t = some (.slice e)) (hsz : szOf P e = some sz) {x i v : AV} {x' i' : Value} (hr : VR φ x x') (hi : VR φ i i') (hv : idxS sz x i = some v) (w : World) :
    ∃ v', (Instr.indexAt t x' i').run P w = .ok v' w ∧ VR φ v v' := by
  unfold idxS at hv
  split at hv
  · rename_i o off len sz' lim g k m
    split at hv
    · rename_i hc
      injection hv with hv
      subst hv
      cases hi
      obtain ⟨c1, c2, c3⟩ := hc
      rcases hr.slice_form rfl with ⟨l, hl, hoff, hform⟩ | hform
      · obtain ⟨cap, rfl, q1, _⟩ := hform
        rw [c3] at q1
        have hb : (0 : Int) ≤ m ∧ m < (len : Int) := ⟨c1, c2⟩
        refine ⟨.pointer (some ⟨l.b, l.d + (off + m.toNat * sz), none⟩), by simp only [Instr.indexAt, asIntOf, Sem.run_bind, Sem.run_pure, run_underlying hu, Result.andThen_ok, hb, and_self, if_true, run_sizeOf hsz, add_at, Nat.add_assoc], .ptr hl ?_⟩
        have hm := Nat.mul_le_mul_right sz (show m.toNat + 1 ≤ len by omega)
        rw [Nat.add_mul, Nat.one_mul] at hm
        omega
      · omega
    · cases hv
  · cases hv
theorem S.makeMap (hs : S B w0 φ h w) (ks : KS) : ∃ ψ, S B w0 ψ (h ++ [.map ks []]) (w.alloc (.map #[] 0)) ∧ Kept φ h ψ (h ++ [.map ks []]) ∧ ψ.m h.length = some w.heap.size := by
  have hun := hs.wr.unm_of_len (o := h.length) (Nat.le_refl _)
  have hp := hs.push (.map ks [])
  have hle : φ.le { φ with m := fun o => if o = h.length then some w.heap.size else φ.m o } := ⟨fun _ _ _ e => e, fun o b e => by
    simp only
    split
    · rename_i q; subst q; rw [hun.2] at e; cases e
    · exact e⟩
  have lt : ∀ o b, φ.m o = some b → b < w.heap.size := fun o b hb => by
    obtain ⟨_, es, _, _, es', clk, k, _⟩ := hs.wr.map o b hb
    exact heap_lt k
  refine ⟨{ φ with m := fun o => if o = h.length then some w.heap.size else φ.m o }, ⟨⟨fun o g l hl => ?_, fun o b hb => ?_, hp.wr.sep, fun o b o' b' e1 e2 e3 => ?_⟩, hs.below.alloc hs.base _, by simp; have := hs.base; omega⟩,
    ⟨hle, by simp, fun o ho hc hm => ⟨hc, by simp only; rw [if_neg (by omega)]; exact hm, List.getElem?_append_left ho⟩⟩, by simp⟩
  · obtain ⟨c, h2, h3⟩ := hp.wr.cell o g l hl
    exact ⟨c, h2, (h3.move (alloc_heap_old w _ _ h3.lt)).mono hle⟩
  · simp only at hb
    split at hb
    · rename_i q
      subst q
      injection hb with hb
      subst hb
      exact ⟨ks, [], by simp, hs.base, #[], 0, alloc_heap_new w _, .nil⟩
    · obtain ⟨k0, es, h2, h3, es', clk, h4, h5⟩ := hp.wr.map o b hb
      exact ⟨k0, es, h2, h3, es', clk, (alloc_heap_old w _ _ (heap_lt h4)).trans h4, h5.mono hle⟩
  · simp only at e1 e2
    subst e3
    split at e1
    · rename_i q1
      injection e1 with e1
      subst e1
      split at e2
      · rename_i q2; rw [q1, q2]
      · have := lt _ _ e2; omega
    · split at e2
      · injection e2 with e2
        subst e2
        have := lt _ _ e1; omega
      · exact hs.wr.msep _ _ _ _ e1 e2 rfl

theorem opSim (hs : S B w0 φ h w) (hf : EvOk φ cmp fr ρ) {o : Oper} {m : MOp} (hc : compOp P cmp o.op = some m) {v : AV} (he : evalM m fr h = some (v, h')) : OpOk P B w0 φ h w (execOp ρ o) v h' := by
  obtain ⟨dst, op, type, pos, after, guard⟩ := o
  replace hc : compOp P cmp op = some m := hc
  unfold execOp
  have pureStep : ∀ {x : Option AV} {s : Sem Value}, pure1 h x = some (v, h') → (x = some v → ∃ v', s.run P w = .ok v' w ∧ VR φ v v') → OpOk P B w0 φ h w (do pure (.value (← s))) v h' := by
    intro x s hp hx
    obtain ⟨h1, h2⟩ := pure1_some hp
    subst h2
    obtain ⟨v', k1, k2⟩ := hx h1
    exact opOk_pure hs k1 k2
  cases op with
  | move x =>
    simp only [compOp, Option.map_eq_some_iff] at hc
    obtain ⟨y, h1, rfl⟩ := hc
    injection he with he; injection he with e1 e2; subst e1 e2
    exact ⟨φ, _, w, .inl rfl, hf.ev h1, hs, .refl _ _⟩
  | assign x =>
    simp only [compOp, Option.map_eq_some_iff] at hc
    obtain ⟨y, h1, rfl⟩ := hc
    injection he with he; injection he with e1 e2; subst e1 e2
    exact ⟨φ, _, w, .inl rfl, hf.ev h1, hs, .refl _ _⟩
  | pick c x y =>
    simp only [compOp, Option.bind_eq_some_iff, Option.map_eq_some_iff] at hc
    obtain ⟨c', h1, x', h2, y', h3, rfl⟩ := hc
    simp only [evalM] at he
    obtain ⟨he1, e2⟩ := pure1_some he
    clear he
    subst e2
    simp only [Option.map_eq_some_iff] at he1
    obtain ⟨b, hb, rfl⟩ := he1
    have hr := hf.ev h1
    cases hcv : c'.ev fr <;> rw [hcv] at hb hr <;> simp only [bool?] at hb <;> try (cases hb; done)
    injection hb with hb
    subst hb
    have hcc := hr.bool_inv
    rename_i b
    cases b
    · exact ⟨φ, _, w, .inl (by simp [asBool, hcc]), hf.ev h3, hs, .refl _ _⟩
    · exact ⟨φ, _, w, .inl (by simp [asBool, hcc]), hf.ev h2, hs, .refl _ _⟩
  | alloc t =>
    simp only [compOp, Option.map_eq_some_iff] at hc
    obtain ⟨z, h1, rfl⟩ := hc
    obtain ⟨zv, hz, hzo⟩ := zeroOf_run h1
    simp only [evalM] at he
    obtain ⟨ψ, v', k1, k2, k3, rfl⟩ := hs.newVar (ofVal_cells hzo).1 he t
    refine opOk_value ⟨ψ, _, _, ?_, k1, k2, k3⟩
    simp only [Instr.alloc, Sem.run_bind, hz, Result.andThen_ok, Go.newVar, newRow, run_newObj, Sem.run_pure, Array.toArray_toList]
    rfl
  | box t x =>
    simp only [compOp, Option.map_eq_some_iff] at hc
    obtain ⟨y, h1, rfl⟩ := hc
    simp only [evalM] at he
    have hu : y.ev fr ≠ .undef := by
      intro q; rw [q] at he; simp [Gm.newVar, AV.cells, AV.one] at he
    obtain ⟨ψ, v', k1, k2, k3, rfl⟩ := hs.newVar ((hf.ev h1).cells_of hu) he t
    refine opOk_value ⟨ψ, _, _, ?_, k1, k2, k3⟩
    simp only [Instr.box, Sem.run_bind, Result.andThen_ok, Go.newVar, newRow, run_newObj, Sem.run_pure, Array.toArray_toList]
    rfl
  | build t ps =>
    simp only [compOp, Option.bind_eq_some_iff] at hc
    obtain ⟨z, h1, hc⟩ := hc
    obtain ⟨zv, hz, hzo⟩ := zeroOf_run h1
    have hzc := (ofVal_cells (φ := φ) hzo).1
    cases ps with
    | mk pl0 =>
    split at hc
    · rename_i fs hu
      simp only [Option.bind_eq_some_iff, Option.map_eq_some_iff] at hc
      obtain ⟨pl, h2, qs, h3, rfl⟩ := hc
      simp only [evalM] at he
      refine pureStep he (fun he1 => ?_)
      simp only [buildV, Option.map_eq_some_iff] at he1
      obtain ⟨cs, he1, rfl⟩ := he1
      obtain ⟨k1, k2⟩ := partsL_ok hf h3
      obtain ⟨us', m1, m2, _⟩ := fill_ok hzc (by simpa using k1) k2 he1
      refine ⟨_, ?_, .agg m2⟩
      simpa using build_run (P := P) hz (us := zv.cells.toList) (by simp) (.inl ⟨fs, pl, hu, h2, rfl⟩) m1
    · rename_i n e hu
      simp only [Option.bind_eq_some_iff, Option.map_eq_some_iff] at hc
      obtain ⟨s, h2, qs, h3, rfl⟩ := hc
      simp only [evalM] at he
      refine pureStep he (fun he1 => ?_)
      simp only [buildV, Option.map_eq_some_iff] at he1
      obtain ⟨cs, he1, rfl⟩ := he1
      obtain ⟨k1, k2⟩ := partsS_ok hf h3
      obtain ⟨us', m1, m2, _⟩ := fill_ok (place := fun i => some (i * s, s)) hzc (by simpa using k1) k2 he1
      refine ⟨_, ?_, .agg m2⟩
      simpa using build_run (P := P) hz (us := zv.cells.toList) (by simp) (.inr ⟨n, e, s, hu, h2, rfl⟩) m1
    · cases hc
  | load t x =>
    simp only [compOp, Option.bind_eq_some_iff, Option.map_eq_some_iff] at hc
    obtain ⟨n, h1, y, h2, rfl⟩ := hc
    have hx := hf.ev h2
    cases n with
    | none =>
      simp only [evalM] at he
      refine pureStep he (fun he1 => ?_)
      obtain ⟨ad, v', e, k1, k2⟩ := hs.loadVar h1 hx (x := v) (by exact he1)
      exact ⟨v', by rw [e]; simp [Instr.loadAt, Instr.sureAddr, k1], k2⟩
    | some n =>
      simp only [evalM] at he
      refine pureStep he (fun he1 => ?_)
      obtain ⟨ad, v', e, k1, k2⟩ := hs.loadVar h1 hx (x := v) (by exact he1)
      exact ⟨v', by rw [e]; simp [Instr.loadAt, Instr.sureAddr, k1], k2⟩
  | store t x y =>
    simp only [compOp, Option.bind_eq_some_iff, Option.map_eq_some_iff] at hc
    obtain ⟨n, h1, x', h2, y', h3, rfl⟩ := hc
    simp only [evalM, Option.map_eq_some_iff] at he
    obtain ⟨h2', he, e⟩ := he
    injection e with e1 e2
    subst e1 e2
    obtain ⟨ad, w', e, k1, k2, k3⟩ := hs.storeVar h1 (hf.ev h2) (hf.ev h3) he
    refine ⟨φ, undef, w', .inr ⟨?_, rfl⟩, .undef _, k2, k3⟩
    show (do Instr.storeAt t (ρ x) (ρ y); pure Next.skip : Sem Next).run P w = _
    rw [e]
    simp [Instr.storeAt, Instr.sureAddr, k1]
  | nilCheck x =>
    simp only [compOp, Option.map_eq_some_iff] at hc
    obtain ⟨y, h1, rfl⟩ := hc
    simp only [evalM] at he
    obtain ⟨he1, e2⟩ := pure1_some he
    clear he pureStep
    subst e2
    have hr := hf.ev h1
    generalize hxv : ρ x = xv at hr
    generalize y.ev fr = yv at hr he1
    cases yv <;> simp only [nilCk] at he1 <;> try (cases he1; done)
    all_goals
      injection he1 with he1
      subst he1
      cases hr
      exact ⟨φ, ρ x, w, .inl (by simp [hxv]), by rw [hxv]; constructor <;> assumption, hs, .refl _ _⟩
  | binOp op t x y u =>
    simp only [compOp, Option.bind_eq_some_iff, Option.map_eq_some_iff] at hc
    obtain ⟨k, h1, x', h2, y', h3, rfl⟩ := hc
    simp only [evalM] at he
    exact pureStep he (fun he1 => binV_ok h1 (hf.ev h2) (hf.ev h3) he1 _ _ w)
  | unOp op t x =>
    simp only [compOp, Option.map_eq_some_iff] at hc
    obtain ⟨y, h1, rfl⟩ := hc
    simp only [evalM] at he
    exact pureStep he (fun he1 => unV_ok (hf.ev h1) he1 w)
  | buildSlice t n ps =>
    simp only [compOp, Option.bind_eq_some_iff] at hc
    obtain ⟨e, h1, ⟨sz, by_, z⟩, h2, hc⟩ := hc
    simp only at hc
    split at hc
    · rename_i hsz
      simp only [Option.map_eq_some_iff] at hc
      obtain ⟨qs, h3, rfl⟩ := hc
      simp only [evalM] at he
      obtain ⟨i, zv, hel, y, hzo, rfl, hzl⟩ := elemOf_ok (sliceElem_under h1) h2
      exact opOk_value (buildSlG hs.maker hf hel hzo hzl hsz h3 he)
    · cases hc
  | convert s d x =>
    simp only [compOp, Option.bind_eq_some_iff] at hc
    obtain ⟨y, h1, hc⟩ := hc
    have hr := hf.ev h1
    split at hc
    · rename_i k1 k2 hu1 hu2
      injection hc with hc
      subst hc
      simp only [evalM] at he
      refine pureStep he (fun he1 => ?_)
      generalize ρ x = xv at hr
      generalize y.ev fr = yv at hr he1
      cases yv <;> simp only [convV] at he1 <;> try (cases he1; done)
      injection he1 with he1
      subst he1
      cases hr
      exact ⟨_, by simp only [convert, Sem.run_bind, run_underlying hu1, run_underlying hu2, Result.andThen_ok, Conv.intToInt, Sem.run_pure], .int _ _⟩
    · cases hc
  | makeInterface t x =>
    simp only [compOp] at hc
    split at hc
    · cases hc
    · rename_i d hd hu
      simp only [Option.map_eq_some_iff] at hc
      obtain ⟨y, h1, rfl⟩ := hc
      simp only [evalM, Option.some.injEq, Prod.mk.injEq] at he
      obtain ⟨rfl, rfl⟩ := he
      refine opOk_pure hs (v' := .iface t (ρ x)) ?_ (.ifc (hf.ev h1))
      simp only [Instr.makeInterface, Sem.run_bind, run_underlying hu, Result.andThen_ok]
      cases d <;> first | rfl | exact absurd rfl (hd _)
    · cases hc
  | makeFunc f xs ys =>
    cases f with
    | func f =>
      simp only [compOp, Option.bind_eq_some_iff, Option.map_eq_some_iff] at hc
      obtain ⟨xs', h1, ys', h2, rfl⟩ := hc
      simp only [evalM, Option.some.injEq, Prod.mk.injEq] at he
      obtain ⟨rfl, rfl⟩ := he
      refine opOk_pure hs (v' := .func (.func f) (xs.toList.map ρ).toArray (ys.toList.map ρ).toArray) ?_ (.fn (hf.evs h1) (hf.evs h2))
      have e1 : Array.map ρ xs = (List.map ρ xs.toList).toArray := by apply Array.ext'; simp
      have e2 : Array.map ρ ys = (List.map ρ ys.toList).toArray := by apply Array.ext'; simp
      simp only [Instr.makeFunc, e1, e2, Sem.run_pure]
    | _ => simp [compOp] at hc
  | makeSlice t l c =>
    simp only [compOp, Option.bind_eq_some_iff] at hc
    obtain ⟨e, h1, ⟨sz, by_, z⟩, h2, hc⟩ := hc
    simp only at hc
    split at hc
    · rename_i hsz
      simp only [Option.bind_eq_some_iff, Option.map_eq_some_iff] at hc
      obtain ⟨l', h3, c', h4, rfl⟩ := hc
      simp only [evalM] at he
      obtain ⟨i, zv, hel, y, hzo, rfl, hzl⟩ := elemOf_ok (sliceElem_under h1) h2
      exact opOk_value (mkSl_ok hs hel hzo hsz (hf.ev h3) (hf.ev h4) he)
    · cases hc
  | slice t x lo hi mx =>
    simp only [compOp, Option.bind_eq_some_iff] at hc
    obtain ⟨y, h1, lo', h2, hi', h3, mx', h4, hc⟩ := hc
    obtain ⟨l1, l2, l3⟩ := optOpd hf h2
    obtain ⟨u1, u2, u3⟩ := optOpd hf h3
    obtain ⟨m1, m2, m3⟩ := optOpd hf h4
    split at hc
    · rename_i e hu
      simp only [Option.bind_eq_some_iff] at hc
      obtain ⟨sz, hsz, hc⟩ := hc
      split at hc
      · cases hc
      · rename_i hmh
        injection hc with hc
        subst hc
        simp only [evalM] at he
        refine pureStep he (fun he1 => slice_run_ok hu hsz (hf.ev h1) l1 l2 u1 u2 m1 m2 (fun q => ?_) he1 w)
        cases mx' <;> cases hi' <;> simp_all
    · rename_i hu
      split at hc
      · cases hc
      · rename_i hmx
        injection hc with hc
        subst hc
        simp only [evalM] at he
        refine pureStep he (fun he1 => ?_)
        have e0 : mx.map ρ = none := m2 (by cases mx' <;> simp_all)
        rw [e0]
        exact str_slice_ok hu (hf.ev h1) l1 l2 u1 u2 he1 w
    · cases hc
  | fieldAddr t x f =>
    simp only [compOp, Option.bind_eq_some_iff] at hc
    obtain ⟨y, h1, hc⟩ := hc
    split at hc
    · rename_i fs hu
      simp only [Option.bind_eq_some_iff] at hc
      obtain ⟨fd, hfd, s, hsz, hc⟩ := hc
      split at hc
      · cases hc
      · rename_i hs0
        injection hc with hc
        subst hc
        simp only [evalM] at he
        refine pureStep he (fun he1 => ?_)
        have hr := hf.ev h1
        generalize ρ x = xv at hr
        generalize y.ev fr = yv at hr he1
        cases yv <;> simp only [fldA] at he1 <;> try (cases he1; done)
        injection he1 with he1
        subst he1
        cases hr
        rename_i l hn hl
        refine ⟨.pointer (some ⟨l.b, l.d + (_ + fd.offset), none⟩), ?_, .ptr hl hn⟩
        simp only [Instr.fieldAt, Sem.run_bind, run_underlying hu, Result.andThen_ok, hfd, Instr.sureAddr, Sem.run_pure, fieldPlace, run_sizeOf hsz, if_neg hs0, add_at, Nat.add_assoc]
    · cases hc
  | field t x f =>
    simp only [compOp, Option.bind_eq_some_iff] at hc
    obtain ⟨y, h1, hc⟩ := hc
    split at hc
    · rename_i fs hu
      simp only [Option.bind_eq_some_iff, Option.map_eq_some_iff] at hc
      obtain ⟨fd, hfd, n, hn, rfl⟩ := hc
      simp only [evalM] at he
      refine pureStep he (fun he1 => ?_)
      have hr := hf.ev h1
      generalize ρ x = xv at hr
      generalize y.ev fr = yv at hr he1
      cases yv <;> simp only [fldV] at he1 <;> try (cases he1; done)
      cases hr
      rename_i hcs
      obtain ⟨v', k1, k2⟩ := part_ok hn hcs he1 w
      exact ⟨v', by simp only [Instr.field, Sem.run_bind, run_underlying hu, Result.andThen_ok, hfd, asAgg, Sem.run_pure, k1], k2⟩
    · cases hc
  | indexAddr t x i =>
    simp only [compOp, Option.bind_eq_some_iff] at hc
    obtain ⟨y, h1, j, h2, hc⟩ := hc
    have hr := hf.ev h1
    have hi := hf.ev h2
    split at hc
    · rename_i n e hu
      simp only [Option.map_eq_some_iff] at hc
      obtain ⟨sz, hsz, rfl⟩ := hc
      simp only [evalM] at he
      refine pureStep he (fun he1 => ?_)
      generalize ρ x = xv at hr
      generalize ρ i = iv at hi
      generalize y.ev fr = yv at hr he1
      generalize j.ev fr = jv at hi he1
      exact idxA_ok hu hsz hr hi he1 w
    · rename_i e hu
      simp only [Option.map_eq_some_iff] at hc
      obtain ⟨sz, hsz, rfl⟩ := hc
      simp only [evalM] at he
      refine pureStep he (fun he1 => ?_)
      exact idxS_ok hu hsz hr hi he1 w
    · cases hc
  | index t x i =>
    simp only [compOp, Option.bind_eq_some_iff] at hc
    obtain ⟨y, h1, j, h2, hc⟩ := hc
    have hr := hf.ev h1
    have hi := hf.ev h2
    split at hc
    · rename_i n e hu
      simp only [Option.bind_eq_some_iff, Option.map_eq_some_iff] at hc
      obtain ⟨sz, hsz, m', hm', rfl⟩ := hc
      simp only [evalM] at he
      refine pureStep he (fun he1 => ?_)
      generalize ρ x = xv at hr
      generalize ρ i = iv at hi
      generalize y.ev fr = yv at hr he1
      generalize j.ev fr = jv at hi he1
      cases yv <;> cases jv <;> simp only [ixA] at he1 <;> try (cases he1; done)
      split at he1
      · rename_i hcond
        cases hr
        cases hi
        rename_i hcs
        obtain ⟨v', k1, k2⟩ := part_ok hm' hcs he1 w
        exact ⟨v', by simp only [Instr.index, asIntOf, Sem.run_bind, Sem.run_pure, run_underlying hu, Result.andThen_ok, hcond, and_self, if_true, run_sizeOf hsz, k1], k2⟩
      · cases he1
    · rename_i hu
      injection hc with hc
      subst hc
      simp only [evalM] at he
      refine pureStep he (fun he1 => ?_)
      generalize ρ x = xv at hr
      generalize ρ i = iv at hi
      generalize y.ev fr = yv at hr he1
      generalize j.ev fr = jv at hi he1
      cases yv <;> cases jv <;> simp only [ixS] at he1 <;> try (cases he1; done)
      split at he1
      · rename_i h0
        simp only [Option.map_eq_some_iff] at he1
        obtain ⟨b, hb, rfl⟩ := he1
        cases hr
        cases hi
        exact ⟨_, by simp only [Instr.index, asIntOf, Sem.run_bind, Sem.run_pure, run_underlying hu, Result.andThen_ok, h0, if_true, hb], .int _ _⟩
      · cases he1
    · cases hc
  | typeAssert x xt t ok =>
    simp only [compOp] at hc
    split at hc
    · cases hc
    · rename_i d hd hu
      simp only [Option.bind_eq_some_iff, Option.map_eq_some_iff] at hc
      obtain ⟨y, h1, z, h2, rfl⟩ := hc
      obtain ⟨zv, hz, hzo⟩ := zeroOf_run h2
      simp only [evalM] at he
      refine pureStep he (fun he1 => ?_)
      have hr := hf.ev h1
      generalize ρ x = xv at hr
      generalize y.ev fr = yv at hr he1
      cases yv <;> simp only [tAssert] at he1 <;> try (cases he1; done)
      cases hr
      rename_i u x0 v0 hv0
      have hmain : (Instr.typeAssert (.iface u v0) xt t ok).run P w = (if u = t then (pure (if ok then .tuple #[v0, .bool true] else v0) : Sem Value) else (if ok then do pure (.tuple #[← zeroValue t, .bool false]) else runtimePanic (.typeAssertion (some xt) (some u) t ""))).run P w := by
        simp only [Instr.typeAssert, Sem.run_bind, run_underlying hu, Result.andThen_ok]
        all_goals (cases d <;> first | rfl | exact absurd rfl (hd _))
      rw [hmain]
      split at he1
      · rename_i hut
        rw [if_pos hut]
        injection he1 with he1
        subst he1
        refine ⟨_, rfl, ?_⟩
        cases ok
        · exact hv0
        · exact .tup (cs' := [_, _]) (.cons hv0 (.cons (.bool _) .nil))
      · rename_i hut
        rw [if_neg hut]
        split at he1
        · rename_i hok
          injection he1 with he1
          subst he1
          refine ⟨.tuple #[zv, .bool false], by rw [if_pos hok]; simp [hz], .tup (cs' := [_, _]) (.cons (ofVal_ok hzo) (.cons (.bool _) .nil))⟩
        · cases he1
    · cases hc
  | extract x i =>
    simp only [compOp, Option.map_eq_some_iff] at hc
    obtain ⟨y, h1, rfl⟩ := hc
    simp only [evalM] at he
    refine pureStep he (fun he1 => ?_)
    have hr := hf.ev h1
    generalize ρ x = xv at hr
    generalize y.ev fr = yv at hr he1
    cases yv <;> simp only [extr] at he1 <;> try (cases he1; done)
    cases hr
    rename_i hcs
    obtain ⟨v', k1, k2⟩ := hcs.get he1
    exact ⟨v', by simp [Instr.extract, k1], k2⟩
  | lookup t x k ok =>
    simp only [compOp] at hc
    split at hc
    · rename_i kt et hu
      simp only [Option.bind_eq_some_iff, Option.map_eq_some_iff] at hc
      obtain ⟨ks, hks, z, hz, x1, h1, k1, h2, rfl⟩ := hc
      obtain ⟨zv, hzr, hzo⟩ := zeroOf_run hz
      simp only [evalM] at he
      exact pureStep he (fun he1 => lookM_ok hs hu hks hzr (ofVal_ok hzo) (hf.ev h1) (hf.ev h2) he1)
    · cases hc
  | mapUpdate t x k u =>
    simp only [compOp] at hc
    split at hc
    · rename_i kt et hu
      simp only [Option.bind_eq_some_iff, Option.map_eq_some_iff] at hc
      obtain ⟨ks, hks, x1, h1, k1, h2, u1, h3, rfl⟩ := hc
      simp only [evalM, Option.map_eq_some_iff] at he
      obtain ⟨h1', he1, he2⟩ := he
      injection he2 with e1 e2
      subst e1 e2
      obtain ⟨w', g1, g2, g3⟩ := updM_ok hs hu hks (hf.ev h1) (hf.ev h2) (hf.ev h3) he1
      refine ⟨φ, undef, w', .inr ⟨?_, rfl⟩, .undef _, g2, g3⟩
      show (do Instr.mapUpdate t (ρ x) (ρ k) (ρ u); pure Next.skip : Sem Next).run P w = _
      simp [g1]
    · cases hc
  | insert t x k u =>
    simp only [compOp] at hc
    split at hc
    · rename_i kt et hu
      simp only [Option.bind_eq_some_iff, Option.map_eq_some_iff] at hc
      obtain ⟨ks, hks, x1, h1, k1, h2, u1, h3, rfl⟩ := hc
      simp only [evalM, Option.map_eq_some_iff] at he
      obtain ⟨h1', he1, he2⟩ := he
      injection he2 with e1 e2
      subst e1 e2
      obtain ⟨w', g1, g2, g3⟩ := updM_ok hs hu hks (hf.ev h1) (hf.ev h2) (hf.ev h3) he1
      refine ⟨φ, undef, w', .inr ⟨?_, rfl⟩, .undef _, g2, g3⟩
      show (do Instr.mapUpdate t (ρ x) (ρ k) (ρ u); pure Next.skip : Sem Next).run P w = _
      simp [g1]
    · cases hc
  | makeMap t r =>
    cases r with
    | none =>
      simp only [compOp] at hc
      split at hc
      · rename_i kt et hu
        simp only [Option.map_eq_some_iff] at hc
        obtain ⟨ks, _, rfl⟩ := hc
        simp only [evalM, Option.some.injEq, Prod.mk.injEq] at he
        obtain ⟨rfl, rfl⟩ := he
        obtain ⟨ψ, p1, p2, p3⟩ := hs.makeMap ks
        exact opOk_value ⟨ψ, .map (some w.heap.size), _, by simp [Instr.makeMap], .map p3, p1, p2⟩
      · cases hc
    | some r => simp [compOp] at hc
  | call c =>
    obtain ⟨callee, args, argTypes⟩ := c
    have hargs : args = args.toList.toArray := by simp
    have htys : argTypes = argTypes.toList.toArray := by simp
    cases callee with
    | builtin b =>
      simp only [compOp, compBuiltin] at hc
      split at hc
      · rename_i x t e1 e2
        rw [e1] at hargs
        rw [e2] at htys
        subst hargs htys
        simp only [Option.bind_eq_some_iff] at hc
        obtain ⟨y, h1, hc⟩ := hc
        have hr := hf.ev h1
        split at hc
        · rename_i e hu
          injection hc with hc
          subst hc
          simp only [evalM] at he
          obtain ⟨he1, e3⟩ := pure1_some he
          clear he pureStep
          subst e3
          generalize hxv : ρ x = xv at hr
          generalize y.ev fr = yv at hr he1
          cases yv <;> simp only [lenS] at he1 <;> try (cases he1; done)
          · injection he1 with he1
            subst he1
            cases hr
            exact ⟨φ, .int .i64 0, w, .inl (by simp [resolve, invoke, builtin, Builtin.len_, run_underlying hu, goInt, hxv]), .int _ _, hs, .refl _ _⟩
          · injection he1 with he1
            subst he1
            rcases hr.slice_form rfl with ⟨l, hl, hoff, hform⟩ | hform
            · obtain ⟨cap, rfl, _⟩ := hform
              exact ⟨φ, .int .i64 _, w, .inl (by simp [resolve, invoke, builtin, Builtin.len_, run_underlying hu, goInt, hxv]), .int _ _, hs, .refl _ _⟩
            · obtain ⟨rfl, ad, rfl, _⟩ := hform
              exact ⟨φ, .int .i64 _, w, .inl (by simp [resolve, invoke, builtin, Builtin.len_, run_underlying hu, goInt, hxv]), .int _ _, hs, .refl _ _⟩
        · rename_i hu
          injection hc with hc
          subst hc
          simp only [evalM] at he
          obtain ⟨he1, e3⟩ := pure1_some he
          clear he pureStep
          subst e3
          generalize hxv : ρ x = xv at hr
          generalize y.ev fr = yv at hr he1
          cases yv <;> simp only [lenB] at he1 <;> try (cases he1; done)
          injection he1 with he1
          subst he1
          cases hr
          exact ⟨φ, .int .i64 _, w, .inl (by simp [resolve, invoke, builtin, Builtin.len_, run_underlying hu, goInt, hxv]), .int _ _, hs, .refl _ _⟩
        · cases hc
      · rename_i s x t u e1 e2
        rw [e1] at hargs
        rw [e2] at htys
        subst hargs htys
        split at hc
        · rename_i htu
          subst htu
          simp only [Option.bind_eq_some_iff, Option.map_eq_some_iff] at hc
          obtain ⟨e, h1, ⟨sz, by_, z⟩, h2, s', h3, x', h4, rfl⟩ := hc
          obtain ⟨i, zv, hel, y, hzo, rfl, hzl⟩ := elemOf_ok (sliceElem_under h1) h2
          simp only [evalM] at he
          obtain ⟨ψ, v', w', k1, k2, k3, k4⟩ := hs.apnd hel (ty := type) (hf.ev h3) (hf.ev h4) he
          exact ⟨ψ, v', w', .inl (by simp [resolve, invoke, builtin, k1]), k2, k3, k4⟩
        · cases hc
      · rename_i x y e1
        rw [e1] at hargs
        subst hargs
        simp only [Option.bind_eq_some_iff, Option.map_eq_some_iff] at hc
        obtain ⟨x', h1, y', h2, rfl⟩ := hc
        have hx := hf.ev h1
        have hy := hf.ev h2
        simp only [evalM] at he
        obtain ⟨he1, e3⟩ := pure1_some he
        clear he pureStep
        subst e3
        generalize hxv : ρ x = xv at hx
        generalize hyv : ρ y = yv at hy
        generalize x'.ev fr = xa at hx he1
        generalize y'.ev fr = ya at hy he1
        unfold mmV at he1
        split at he1
        · injection he1 with he1
          subst he1
          cases hx; cases hy
          exact ⟨φ, _, w, .inl (by simp [resolve, invoke, builtin, Builtin.max_, Builtin.max2, hxv, hyv]), .int _ _, hs, .refl _ _⟩
        · cases he1
      · rename_i x y e1
        rw [e1] at hargs
        subst hargs
        simp only [Option.bind_eq_some_iff, Option.map_eq_some_iff] at hc
        obtain ⟨x', h1, y', h2, rfl⟩ := hc
        have hx := hf.ev h1
        have hy := hf.ev h2
        simp only [evalM] at he
        obtain ⟨he1, e3⟩ := pure1_some he
        clear he pureStep
        subst e3
        generalize hxv : ρ x = xv at hx
        generalize hyv : ρ y = yv at hy
        generalize x'.ev fr = xa at hx he1
        generalize y'.ev fr = ya at hy he1
        unfold mmV at he1
        split at he1
        · injection he1 with he1
          subst he1
          cases hx; cases hy
          exact ⟨φ, _, w, .inl (by simp [resolve, invoke, builtin, Builtin.min_, Builtin.min2, hxv, hyv]), .int _ _, hs, .refl _ _⟩
        · cases he1
      · cases hc
    | _ => simp [compOp] at hc
  | _ => simp [compOp] at hc
end
end Go.Gm
