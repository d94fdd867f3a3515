/- A part of the proof: GmOps4: an abstract machine, what it does, and what the functions of the program come to on it. -/
import Derived.Test.YtdpmglimjmecgaaGmOps3
set_option linter.unusedVariables false
set_option linter.unusedSimpArgs false
namespace Go.Gm
open Go.RowKit

theorem pure1_some {h h' : Heap} {x : Option AV} {v : AV} (hp : pure1 h x = some (v, h')) : x = some v ∧ h' = h := by
  unfold pure1 at hp
  cases x with
  | none => cases hp
  | some y => injection hp with hp; injection hp with h1 h2; subst h1 h2; exact ⟨rfl, rfl⟩

section
variable {B : Nat} {w0 : World} {φ : Ren} {h : Heap} {w : World} {P : Program} {fr : Frm} {a : Act}

/-- The step of one operation, in short. -/
def OpOk (P : Program) (B : Nat) (w0 : World) (φ : Ren) (h : Heap) (w : World) (s : Sem Next) (v : AV) (h' : Heap) : Prop :=
  ∃ ψ v' w', Gives P s w v' w' ∧ VR ψ v v' ∧ S B w0 ψ h' w' ∧ Kept φ h ψ h'
theorem opOk_pure (hs : S B w0 φ h w) {s : Sem Value} {v : AV} {v' : Value} (hr : s.run P w = .ok v' w) (hv : VR φ v v') : OpOk P B w0 φ h w (do pure (.value (← s))) v h :=
  ⟨φ, v', w, .inl (by rw [Sem.run_bind, hr]; rfl), hv, hs, .refl _ _⟩
theorem opOk_value {s : Sem Value} {v : AV} {h' : Heap} (hr : ∃ ψ v' w', s.run P w = .ok v' w' ∧ VR ψ v v' ∧ S B w0 ψ h' w' ∧ Kept φ h ψ h') : OpOk P B w0 φ h w (do pure (.value (← s))) v h' := by
  obtain ⟨ψ, v', w', h1, h2, h3, h4⟩ := hr
  exact ⟨ψ, v', w', .inl (by rw [Sem.run_bind, h1]; rfl), h2, h3, h4⟩

theorem part_ok {t : TypeId} {n : Option Nat} (hn : aggOf P t = some n) {cs : List AV} {us : List Value} (hc : VRs φ cs us) {off : Nat} {v : AV} (hv : partL cs off n = some v) (w : World) :
    ∃ v', (part t us.toArray off).run P w = .ok v' w ∧ VR φ v v' := by
  obtain ⟨h1, h2⟩ := run_isAgg hn w
  cases n with
  | none =>
    obtain ⟨v', e, r⟩ := hc.get hv
    exact ⟨v', by simp [part, h1, e], r⟩
  | some k =>
    injection hv with hv
    subst hv
    refine ⟨_, by simp only [part, Sem.run_bind, h1, Result.andThen_ok, Option.isSome_some, if_true, run_sizeOf (h2 k rfl)]; rfl, ?_⟩
    have e : us.toArray.extract off (off + k) = ((us.drop off).take k).toArray := by
      simp [List.extract_eq_take_drop, Nat.add_sub_cancel_left]
    rw [e]
    exact .agg ((hc.drop off).take k)

theorem bound_ok {d n : Nat} {lo : Option AV} {lo' : Option Value} (hlo : ∀ y, lo = some y → ∃ z, lo' = some z ∧ VR φ y z) (hlon : lo = none → lo' = none) (hb : bnd d lo = some n) :
    (lo' = none ∧ n = d) ∨ ∃ k, lo' = some (.int k n) := by
  cases lo with
  | none => injection hb with hb; exact .inl ⟨hlon rfl, hb.symm⟩
  | some y =>
    obtain ⟨z, e, hr⟩ := hlo y rfl
    unfold bnd at hb
    split at hb
    · rename_i q; cases q
    · rename_i k m q
      injection q with q
      subst q
      split at hb
      · rename_i h0
        injection hb with hb
        subst hb
        cases hr
        exact .inr ⟨k, by rw [e, Int.toNat_of_nonneg h0]⟩
      · cases hb
    · cases hb
theorem sliceBound_run {k : IntKind} {n y : Nat} (h : n ≤ y) (code : BoundsCode) (w : World) : (Instr.sliceBound (.int k n) y code).run P w = .ok n w := by
  have : (0 : Int) ≤ n ∧ (n : Int) ≤ y := by omega
  simp [Instr.sliceBound, asIntOf, this]
theorem sliceBounds_run {isS : Bool} {len cap l h m : Nat} {lo hi mx : Option Value} (hlo : (lo = none ∧ l = 0) ∨ ∃ k, lo = some (.int k l)) (hhi : (hi = none ∧ h = len) ∨ ∃ k, hi = some (.int k h))
    (hmx : (mx = none ∧ m = cap) ∨ ((∃ k, mx = some (.int k m)) ∧ hi ≠ none)) (h1 : l ≤ h) (h2 : h ≤ m) (h3 : m ≤ cap) (w : World) : (Instr.sliceBounds isS len cap lo hi mx).run P w = .ok (l, h, m) w := by
  unfold Instr.sliceBounds
  rcases hmx with ⟨rfl, rfl⟩ | ⟨⟨km, rfl⟩, hne⟩
  · rcases hhi with ⟨rfl, rfl⟩ | ⟨kh, rfl⟩
    · rcases hlo with ⟨rfl, rfl⟩ | ⟨kl, rfl⟩
      · rfl
      · simp [sliceBound_run h1]
    · rcases hlo with ⟨rfl, rfl⟩ | ⟨kl, rfl⟩
      · simp [sliceBound_run h2]
      · simp [sliceBound_run h2, sliceBound_run h1]
  · rcases hhi with ⟨rfl, rfl⟩ | ⟨kh, rfl⟩
    · exact absurd rfl hne
    · rcases hlo with ⟨rfl, rfl⟩ | ⟨kl, rfl⟩
      · simp [sliceBound_run h3, sliceBound_run h2]
      · simp [sliceBound_run h3, sliceBound_run h2, sliceBound_run h1]
theorem slice_run_ok {t e sz : Nat} (hu : P.underlying t = some (.slice e)) (hsz : szOf P e = some sz) {x v : AV} {x' : Value} (hx : VR φ x x') {lo hi mx : Option AV} {lo' hi' mx' : Option Value}
    (hlo : ∀ y, lo = some y → ∃ z, lo' = some z ∧ VR φ y z) (hlon : lo = none → lo' = none) (hhi : ∀ y, hi = some y → ∃ z, hi' = some z ∧ VR φ y z) (hhin : hi = none → hi' = none)
    (hmx : ∀ y, mx = some y → ∃ z, mx' = some z ∧ VR φ y z) (hmxn : mx = none → mx' = none) (hmh : mx.isSome = true → hi.isSome = true) (hv : slSl sz x lo hi mx = some v) (w : World) :
    ∃ v', (Instr.sliceAt t x' lo' hi' mx').run P w = .ok v' w ∧ VR φ v v' := by
  have hine : mx.isSome = true → hi' ≠ none := fun q => by
    have := hmh q
    cases hi with
    | none => cases this
    | some y => obtain ⟨z, e, _⟩ := hhi y rfl; rw [e]; simp
  cases x with
  | sl o off len sz' lim g =>
    simp only [slSl] at hv
    cases hl : bnd 0 lo with
    | none => rw [hl] at hv; cases hv
    | some l =>
      cases hh : bnd len hi with
      | none => rw [hl, hh] at hv; cases hv
      | some hh' =>
        rw [hl, hh] at hv
        simp only at hv
        have L := bound_ok hlo hlon hl
        have H := bound_ok hhi hhin hh
        split at hv
        · rename_i hc
          obtain ⟨c1, c2, c3⟩ := hc
          subst c3
          have hform := hx.slice_form rfl
          have hls : l * sz' ≤ len * sz' := Nat.mul_le_mul_right _ (by omega)
          have hsub : ∀ m, l ≤ m → l * sz' + (m - l) * sz' = m * sz' := fun m hm => by rw [← Nat.add_mul, Nat.add_sub_cancel' hm]
          have fin : ∀ m (lim' : Option Nat), hh' ≤ m → (∀ q cap, x' = .slice q len cap → m ≤ cap ∧ ((mx' = none ∧ m = cap) ∨ ((∃ k, mx' = some (.int k m)) ∧ hi' ≠ none)) ∧ ∀ c, lim' = some c → c = m - l) → (lim' = none → lim = none) →
              ∃ v', (Instr.sliceAt t x' lo' hi' mx').run P w = .ok v' w ∧ VR φ (.sl o (off + l * sz') (hh' - l) sz' lim' g) v' := by
            intro m lim' hm hq hlm
            rcases hform with ⟨lc, hlc, hoff, cap, rfl, k1, k2, k3, k4, k5⟩ | ⟨hl0, ad, rfl, k5, k6⟩
            · obtain ⟨q1, q2, q3⟩ := hq _ cap rfl
              have hb := sliceBounds_run (P := P) (isS := true) (len := len) (cap := cap) L H q2 c1 hm q1 w
              refine ⟨.slice (if m = l then some ⟨lc.b, lc.d + off, none⟩ else some ⟨lc.b, lc.d + (off + l * sz'), none⟩) (hh' - l) (m - l), ?_, ?_⟩
              · simp only [Instr.sliceAt, Instr.slice, Sem.run_bind, run_underlying hu, Result.andThen_ok, hb, run_sizeOf hsz, Sem.run_pure, Option.map_some, add_at, Nat.add_assoc]
              · by_cases hml : m = l
                · rw [if_pos hml, show hh' - l = 0 by omega, show m - l = 0 by omega]
                  exact .sl0 (fun _ => ⟨lc, hlc, by omega⟩) (fun c q => by have := q3 c q; omega)
                · rw [if_neg hml]
                  have e1 := hsub hh' c1
                  have e2 := hsub m (by omega)
                  have e3 : hh' * sz' ≤ len * sz' := Nat.mul_le_mul_right _ c2
                  have e4 : m * sz' ≤ cap * sz' := Nat.mul_le_mul_right _ q1
                  exact .sl hlc (by omega) (by omega) (by omega) (by omega) (fun c q => (q3 c q).symm)
            · subst hl0
              obtain ⟨q1, q2, q3⟩ := hq _ 0 rfl
              have hb := sliceBounds_run (P := P) (isS := true) (len := 0) (cap := 0) L H q2 c1 hm q1 w
              have hm0 : m = 0 := by omega
              have hl0 : l = 0 := by omega
              have hh0 : hh' = 0 := by omega
              subst hm0 hl0 hh0
              refine ⟨.slice (some ad) 0 0, ?_, ?_⟩
              · simp only [Instr.sliceAt, Instr.slice, Sem.run_bind, run_underlying hu, Result.andThen_ok, hb, run_sizeOf hsz, Sem.run_pure, if_true, Nat.sub_self]
              · exact .sl0 (fun q => by
                  obtain ⟨lc, hlc, ho⟩ := k6 (hlm q)
                  exact ⟨lc, hlc, by omega⟩) (fun c q => by have := q3 c q; omega)
          cases mx with
          | none =>
            simp only at hv
            injection hv with hv
            subst hv
            rcases hform with ⟨lc, hlc, hoff, cap, rfl, k1, k2, k3, k4, k5⟩ | ⟨hl0, ad, rfl, k5, k6⟩
            · exact fin cap _ (by omega) (fun q cap' e => by
                injection e with _ _ e; subst e
                exact ⟨Nat.le_refl _, .inl ⟨hmxn rfl, rfl⟩, fun c q => by
                  cases lim with
                  | none => cases q
                  | some c0 => simp only [Option.map_some, Option.some.injEq] at q; rw [← k5 c0 rfl] at q; exact q.symm⟩) (fun q => by cases lim <;> first | rfl | cases q)
            · subst hl0
              exact fin 0 _ (by omega) (fun q cap' e => by
                injection e with _ _ e; subst e
                exact ⟨Nat.le_refl _, .inl ⟨hmxn rfl, rfl⟩, fun c q => by
                  cases lim with
                  | none => cases q
                  | some c0 => simp only [Option.map_some, Option.some.injEq] at q; have := k5 c0 rfl; omega⟩) (fun q => by cases lim <;> first | rfl | cases q)
          | some my =>
            simp only at hv
            cases hm : bnd 0 (some my) with
            | none => rw [hm] at hv; cases hv
            | some m =>
              rw [hm] at hv
              simp only at hv
              split at hv
              · rename_i hc2
                injection hv with hv
                subst hv
                have M := bound_ok hmx hmxn hm
                have M' : ∃ k, mx' = some (.int k m) := by
                  rcases M with ⟨e, _⟩ | q
                  · obtain ⟨z, e2, _⟩ := hmx my rfl; rw [e] at e2; cases e2
                  · exact q
                refine fin m _ hc2.1 (fun q cap' e => ?_) (fun q => by cases q)
                have hlen : len ≤ cap' := by
                  rcases hform with ⟨lc, hlc, hoff, cap, rfl, k1, k2, k3, k4, k5⟩ | ⟨hl0, ad, rfl, k5, k6⟩
                  · injection e with _ _ e; subst e; exact k2
                  · omega
                exact ⟨by omega, .inr ⟨M', hine rfl⟩, fun c q => by injection q with q; exact q.symm⟩
              · cases hv
        · cases hv
  | nils =>
    cases hx
    simp only [slSl] at hv
    split at hv
    · rename_i e1 e2 e3
      injection hv with hv
      subst hv
      have L := bound_ok hlo hlon e1
      have H := bound_ok hhi hhin e2
      have M := bound_ok hmx hmxn e3
      have hb := sliceBounds_run (P := P) (isS := true) (len := 0) (cap := 0) (lo := lo') (hi := hi') (mx := mx') L H (by
        rcases M with q | q
        · exact .inl q
        · refine .inr ⟨q, hine ?_⟩
          cases mx with
          | none => obtain ⟨k, q⟩ := q; rw [hmxn rfl] at q; cases q
          | some _ => rfl) (Nat.le_refl _) (Nat.le_refl _) (Nat.le_refl _) w
      exact ⟨.slice none 0 0, by simp only [Instr.sliceAt, Instr.slice, Sem.run_bind, run_underlying hu, Result.andThen_ok, hb, run_sizeOf hsz, Sem.run_pure, if_true, Nat.sub_self], .nils⟩
    · cases hv
  | _ => simp [slSl] at hv
theorem str_slice_ok {t : Nat} (hu : P.underlying t = some .string) {x v : AV} {x' : Value} (hx : VR φ x x') {lo hi : Option AV} {lo' hi' : Option Value}
    (hlo : ∀ y, lo = some y → ∃ z, lo' = some z ∧ VR φ y z) (hlon : lo = none → lo' = none) (hhi : ∀ y, hi = some y → ∃ z, hi' = some z ∧ VR φ y z) (hhin : hi = none → hi' = none)
    (hv : slStr x lo hi = some v) (w : World) : ∃ v', (Instr.sliceAt t x' lo' hi' none).run P w = .ok v' w ∧ VR φ v v' := by
  cases x with
  | str s =>
    cases hx
    simp only [slStr] at hv
    cases hl : bnd 0 lo with
    | none => rw [hl] at hv; cases hv
    | some l =>
      cases hh : bnd s.size hi with
      | none => rw [hl, hh] at hv; cases hv
      | some r =>
        rw [hl, hh] at hv
        simp only at hv
        split at hv
        · rename_i hc
          injection hv with hv
          subst hv
          have hb := sliceBounds_run (P := P) (isS := false) (len := s.size) (cap := s.size) (mx := none) (bound_ok hlo hlon hl) (bound_ok hhi hhin hh) (.inl ⟨rfl, rfl⟩) hc.1 hc.2 (Nat.le_refl _) w
          exact ⟨_, by simp only [Instr.sliceAt, Instr.slice, Sem.run_bind, run_underlying hu, Result.andThen_ok, hb, Option.isSome_none, Bool.false_eq_true, if_false, Sem.run_pure], .str _⟩
        · cases hv
  | _ => simp [slStr] at hv
end
end Go.Gm
