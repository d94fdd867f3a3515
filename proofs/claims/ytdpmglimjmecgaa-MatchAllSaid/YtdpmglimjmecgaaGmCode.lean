/- A part of the proof: GmCode: an abstract machine, what it does, and what the functions of the program come to on it. -/
import Derived.Test.YtdpmglimjmecgaaGmDraw
set_option linter.unusedVariables false
set_option linter.unusedSimpArgs false
namespace Go.Gm
open Go.RowKit

section
variable {B : Nat} {w0 : World} {φ : Ren} {h h' : Heap} {w : World} {P : Program} {fr : Frm} {a : Act} {T : Tab} {call : CallF}

/-- A region in the text's order. -/
theorem regSim (hco : CallOk P B w0 call) (hme : MethOk P T) {ops : Array Oper} {Q : Exit → Act → World → Prop} : ∀ {l : List Oper} {ms : List MOper} {φ : Ren} {h : Heap} {w : World} {fr : Frm} {a : Act} {fr' : Frm} {h' : Heap},
    compOpers P ops l = some ms → S B w0 φ h w → FR φ fr a → evalR T call ms fr h = some (fr', h') →
    (∀ ψ a' w', FR ψ fr' a' → a'.defers = a.defers → S B w0 ψ h' w' → Kept φ h ψ h' → Q .normal a' w') → wpList P ops Q l a w
  | [], ms, φ, h, w, fr, a, fr', h', hc, hs, hf, he, hQ => by
    injection hc with hc
    subst hc
    injection he with he
    injection he with e1 e2
    subst e1 e2
    exact hQ φ a w hf rfl hs (.refl _ _)
  | o :: l, ms, φ, h, w, fr, a, fr', h', hc, hs, hf, he, hQ => by
    simp only [compOpers, Option.bind_eq_some_iff, Option.map_eq_some_iff] at hc
    obtain ⟨m, h1, ms', h2, rfl⟩ := hc
    simp only [evalR, Option.bind_eq_some_iff] at he
    obtain ⟨b, hw, he⟩ := he
    obtain ⟨hwb, hd⟩ := want_ok hf h1 hw
    unfold wpList
    rw [hwb]
    cases b with
    | false =>
      rw [if_neg (by simp)] at he ⊢
      refine regSim hco hme h2 hs (fr := put fr m.dst (.tup [])) ?_ he (fun ψ a' w' k1 k2 k3 k4 => hQ ψ a' w' k1 (k2.trans ?_) k3 k4)
      · rw [hd]; exact hf.put (.tup (cs' := []) .nil) o.dst
      · cases o.dst <;> rfl
    | true =>
      rw [if_pos rfl] at he ⊢
      simp only [Option.bind_eq_some_iff] at he
      obtain ⟨⟨v, h1'⟩, he1, he2⟩ := he
      have hca : compAny P compOpd o.op = some m.op := by
        unfold compOper at h1
        simp only [Option.bind_eq_some_iff] at h1
        obtain ⟨x, hx, h1⟩ := h1
        split at h1
        · injection h1 with h1; subst h1; exact hx
        · simp only [Option.map_eq_some_iff] at h1; obtain ⟨d, _, rfl⟩ := h1; exact hx
      refine .inl (operSim hco hme hs hf.evOk hca he1 (fun ψ v' w' k1 k2 k3 => ?_))
      refine regSim hco hme h2 k2 (fr := put fr m.dst v) ?_ he2 (fun χ a' w'' l1 l2 l3 l4 => hQ χ a' w'' l1 (l2.trans ?_) l3 (k3.trans l4))
      · rw [hd]; exact (hf.mono k3.le).put k1 o.dst
      · cases o.dst <;> rfl

theorem FR.forget (hf : FR φ fr a) : ∀ (l : List Nat), FR φ (forget fr l) a := by
  intro l
  induction l generalizing fr with
  | nil => exact hf
  | cons t l ih =>
    refine ih ?_
    refine VRs.of_get (by simpa using VRs.length hf) (fun i x u hx hu => ?_)
    rw [List.getElem?_set] at hx
    split at hx
    · split at hx
      · injection hx with hx; subst hx; exact .undef _
      · cases hx
    · obtain ⟨v, hv, hr⟩ := VRs.get hf hx
      rw [hu] at hv
      injection hv with hv
      subst hv
      exact hr

def toExit : MExit → Exit
  | .normal => .normal
  | .exit id => .exit id
  | .ret => .ret

theorem evalC_lab {R : Type} (T : Tab) (call : CallF) (k : Nat) (b : Bool) (c : MCode) (fr : Frm) (h : Heap) (K : Kont R) : evalC T call k (labIf b c) fr h K = evalC T call k c fr h K := by
  cases b <;> rfl
/-- Code. -/
theorem codeSim (hco : CallOk P B w0 call) (hme : MethOk P T) {F : Hint} {R : Type} {k : Nat} {r : R} : ∀ {c : Code} {n n' : Nat} {m : MCode}, compC P F c n = some (m, n') →
    ∀ {K : Kont R} {fr : Frm} {h : Heap} {φ : Ren} {w : World} {a : Act} {Q : Exit → Act → World → Prop}, evalC T call k m fr h K = some r → FR φ fr a → S B w0 φ h w →
    (∀ e fr' h' ψ a' w', K e fr' h' = some r → FR ψ fr' a' → a'.defers = a.defers → S B w0 ψ h' w' → Kept φ h ψ h' → Q (toExit e) a' w') → c.wp P Q a w
  | .skip, n, n', m, hc, K, fr, h, φ, w, a, Q, he, hf, hs, hQ => by
    injection hc with hc; injection hc with e1 e2; subst e1
    exact wp_skip (hQ .normal _ _ _ _ _ he hf rfl hs (.refl _ _))
  | .region id ops d, n, n', m, hc, K, fr, h, φ, w, a, Q, he, hf, hs, hQ => by
    cases d with
    | true =>
      simp only [compC] at hc
      split at hc
      · rename_i hm
        simp only [Option.map_eq_some_iff, Prod.mk.injEq] at hc
        obtain ⟨m', h1, rfl, _⟩ := hc
        exact drawSim hco hme hm h1 he hf hs (fun fr' h' ψ a' w' hk k1 k2 k3 k4 => hQ .normal _ _ _ _ _ hk k1 k2 k3 k4)
      · cases hc
    | false =>
      simp only [compC, Option.map_eq_some_iff, Prod.mk.injEq] at hc
      obtain ⟨ms, h1, rfl, _⟩ := hc
      simp only [evalC, Option.bind_eq_some_iff] at he
      obtain ⟨⟨fr', h'⟩, he1, he2⟩ := he
      exact wp_region_list (regSim hco hme h1 hs hf he1 (fun ψ a' w' k1 k2 k3 k4 => hQ .normal _ _ _ _ _ he2 k1 k2 k3 k4))
  | .seq x y, n, n', m, hc, K, fr, h, φ, w, a, Q, he, hf, hs, hQ => by
    simp only [compC, Option.bind_eq_some_iff, Option.map_eq_some_iff, Prod.mk.injEq] at hc
    obtain ⟨⟨x', n1⟩, h1, ⟨y', n2⟩, h2, rfl, _⟩ := hc
    simp only [evalC] at he
    refine wp_seq (codeSim hco hme h1 he hf hs (fun e fr' h' ψ a' w' hk k1 k2 k3 k4 => ?_))
    cases e with
    | normal =>
      simp only [evalC_lab] at hk
      exact codeSim hco hme h2 hk (k1.forget _) k3 (fun e fr2 h2 χ a2 w2 hk2 l1 l2 l3 l4 => hQ e _ _ _ _ _ hk2 l1 (l2.trans k2) l3 (k4.trans l4))
    | exit id => exact hQ _ _ _ _ _ _ hk k1 k2 k3 k4
    | ret => exact hQ _ _ _ _ _ _ hk k1 k2 k3 k4
  | .cond c x y, n, n', m, hc, K, fr, h, φ, w, a, Q, he, hf, hs, hQ => by
    simp only [compC, Option.bind_eq_some_iff, Option.map_eq_some_iff, Prod.mk.injEq] at hc
    obtain ⟨c', h0, ⟨x', n1⟩, h1, ⟨y', n2⟩, h2, rfl, _⟩ := hc
    simp only [evalC] at he
    have hr := hf.ev h0
    split at he
    · rename_i e
      rw [e] at hr
      exact wp_cond_true hr.bool_inv (codeSim hco hme h1 he hf hs hQ)
    · rename_i e
      rw [e] at hr
      exact wp_cond_false hr.bool_inv (codeSim hco hme h2 he hf hs hQ)
    · cases he
  | .block id c, n, n', m, hc, K, fr, h, φ, w, a, Q, he, hf, hs, hQ => by
    simp only [compC, Option.map_eq_some_iff, Prod.mk.injEq] at hc
    obtain ⟨⟨c', n1⟩, h1, rfl, _⟩ := hc
    simp only [evalC] at he
    refine wp_block (codeSim hco hme h1 he hf hs (fun e fr' h' ψ a' w' hk k1 k2 k3 k4 => ?_))
    cases e with
    | normal => exact hQ .normal _ _ _ _ _ (by simpa using hk) k1 k2 k3 k4
    | exit id' =>
      simp only [toExit, Exit.inBlock]
      by_cases hid : id' = id
      · subst hid
        rw [if_pos rfl]
        exact hQ .normal _ _ _ _ _ (by simpa using hk) k1 k2 k3 k4
      · rw [if_neg hid]
        exact hQ (.exit id') _ _ _ _ _ (by simpa [hid] using hk) k1 k2 k3 k4
    | ret => exact hQ .ret _ _ _ _ _ (by simpa using hk) k1 k2 k3 k4
  | .loop c, n, n', m, hc, K, fr, h, φ, w, a, Q, he, hf, hs, hQ => by
    simp only [compC, Option.map_eq_some_iff, Prod.mk.injEq] at hc
    obtain ⟨⟨c', n1⟩, h1, rfl, _⟩ := hc
    simp only [evalC] at he
    refine wp_loop_rounds k ?_
    have key : ∀ (j : Nat) (fr : Frm) (h1' : Heap) (φ1 : Ren) (w1 : World) (a1 : Act), loopN (fun fr h K => evalC T call k c' fr h K) (F.F n) j fr h1' K = some r → FR φ1 fr a1 → a1.defers = a.defers → S B w0 φ1 h1' w1 → Kept φ h φ1 h1' → Code.rounds P c Q j a1 w1 := by
      intro j
      induction j with
      | zero => intro fr h1' φ1 w1 a1 hl; simp [loopN] at hl
      | succ j ih =>
        intro fr h1' φ1 w1 a1 hl k1 k2 k3 k4
        simp only [loopN] at hl
        rw [rounds_succ]
        refine codeSim hco hme h1 hl k1 k3 (fun e fr' h' ψ a' w' hk l1 l2 l3 l4 => ?_)
        cases e with
        | normal => exact ih _ _ _ _ _ hk (l1.forget _) (l2.trans k2) l3 (k4.trans l4)
        | exit id => exact hQ _ _ _ _ _ _ hk l1 (l2.trans k2) l3 (k4.trans l4)
        | ret => exact hQ _ _ _ _ _ _ hk l1 (l2.trans k2) l3 (k4.trans l4)
    exact key k _ _ _ _ _ he (hf.forget _) rfl hs (.refl _ _)
  | .exit id, n, n', m, hc, K, fr, h, φ, w, a, Q, he, hf, hs, hQ => by
    injection hc with hc; injection hc with e1 e2; subst e1
    exact wp_exit (hQ (.exit id) _ _ _ _ _ he hf rfl hs (.refl _ _))
  | .ret, n, n', m, hc, K, fr, h, φ, w, a, Q, he, hf, hs, hQ => by
    injection hc with hc; injection hc with e1 e2; subst e1
    exact wp_ret (hQ .ret _ _ _ _ _ he hf rfl hs (.refl _ _))
  | .scope _, n, n', m, hc, _, _, _, _, _, _, _, _, _, _, _ => by simp [compC] at hc
  | .label _, n, n', m, hc, _, _, _, _, _, _, _, _, _, _, _ => by simp [compC] at hc
  | .goto _, n, n', m, hc, _, _, _, _, _, _, _, _, _, _, _ => by simp [compC] at hc
  | .refuse _, n, n', m, hc, _, _, _, _, _, _, _, _, _, _, _ => by simp [compC] at hc
  | .rangeFunc .., n, n', m, hc, _, _, _, _, _, _, _, _, _, _, _ => by simp [compC] at hc

def resSem (tmps : Array Value) : ResultVar → Sem Value
  | .tmp t => pure (tmps.getD t undef)
  | .cell b t => do loadVar t (← asAddr (tmps.getD b undef))
theorem results_eq (fn : Func) (tmps : Array Value) : results fn tmps = (do let vs ← fn.results.mapM (resSem tmps); pure (if h : vs.size = 1 then vs[0] else .tuple vs)) := by
  unfold results
  have e : (fun r : ResultVar => match r with
    | .tmp t => (pure (tmps.getD t undef) : Sem Value)
    | .cell a t => do loadVar t (← asAddr (tmps.getD a undef))) = resSem tmps := by
    funext r; cases r <;> rfl
  rw [← e]
  rfl
theorem resOne (hs : S B w0 φ h w) (hf : FR φ fr a) {r : ResultVar} {x : Nat × Option (Option Nat)} (hc : compRes P r = some x) {v : AV} (hv : result fr h x = some v) :
    ∃ v', (resSem a.tmps r).run P w = .ok v' w ∧ VR φ v v' := by
  cases r with
  | tmp t =>
    injection hc with hc
    subst hc
    injection hv with hv
    subst hv
    exact ⟨_, rfl, hf.getD t⟩
  | cell b t =>
    simp only [compRes, Option.map_eq_some_iff] at hc
    obtain ⟨n, hn, rfl⟩ := hc
    cases n with
    | none =>
      obtain ⟨ad, v', e, k1, k2⟩ := hs.loadVar hn (hf.getD b) (x := v) (by exact hv)
      exact ⟨v', by simp only [resSem, e, Sem.run_bind, asAddr, Sem.run_pure, Result.andThen_ok, k1], k2⟩
    | some n =>
      obtain ⟨ad, v', e, k1, k2⟩ := hs.loadVar hn (hf.getD b) (x := v) (by exact hv)
      exact ⟨v', by simp only [resSem, e, Sem.run_bind, asAddr, Sem.run_pure, Result.andThen_ok, k1], k2⟩
theorem resL (hs : S B w0 φ h w) (hf : FR φ fr a) : ∀ {rs : List ResultVar} {xs : List (Nat × Option (Option Nat))} {vs : List AV}, compRess P rs = some xs → resultsL fr h xs = some vs →
    ∃ vs', (rs.mapM (resSem a.tmps)).run P w = .ok vs' w ∧ VRs φ vs vs'
  | [], xs, vs, hc, hv => by
    injection hc with hc; subst hc
    injection hv with hv; subst hv
    exact ⟨[], rfl, .nil⟩
  | r :: rs, xs, vs, hc, hv => by
    simp only [compRess, Option.bind_eq_some_iff, Option.map_eq_some_iff] at hc
    obtain ⟨x, h1, xs', h2, rfl⟩ := hc
    simp only [resultsL, Option.bind_eq_some_iff, Option.map_eq_some_iff] at hv
    obtain ⟨v, h3, vs', h4, rfl⟩ := hv
    obtain ⟨v', k1, k2⟩ := resOne hs hf h1 h3
    obtain ⟨vs'', k3, k4⟩ := resL hs hf h2 h4
    exact ⟨v' :: vs'', by simp only [List.mapM_cons, Sem.run_bind, k1, k3, Result.andThen_ok, Sem.run_pure], .cons k2 k4⟩
theorem results_ok (hs : S B w0 φ h w) (hf : FR φ fr a) {fn : Func} {xs : List (Nat × Option (Option Nat))} (hc : compRess P fn.results.toList = some xs) {v : AV} (hv : resultsV fr h xs = some v) :
    ∃ v', (results fn a.tmps).run P w = .ok v' w ∧ VR φ v v' := by
  simp only [resultsV, Option.map_eq_some_iff] at hv
  obtain ⟨vs, h1, rfl⟩ := hv
  obtain ⟨vs', k1, k2⟩ := resL hs hf hc h1
  have hrun : (results fn a.tmps).run P w = .ok (if h : vs'.toArray.size = 1 then vs'.toArray[0] else .tuple vs'.toArray) w := by
    rw [results_eq, Array.mapM_eq_mapM_toList]
    simp only [Sem.run_bind, Sem.run_map, k1, Result.andThen_ok, Sem.run_pure]
  refine ⟨_, hrun, ?_⟩
  match vs, vs', k2 with
  | [v], [v'], .cons r .nil => exact r
  | [], [], .nil => exact .tup .nil
  | x :: y :: r, x' :: y' :: r', k2 =>
    rw [dif_neg (by simp)]
    exact .tup k2

/-- The program is what the table says. -/
structure Valid (P : Program) (T : Tab) : Prop where
  fn : ∀ f mf, T.fn f = some mf → ∃ fn F, P.funcs[f]? = some fn ∧ compFn P F fn = some mf
  meth : MethOk P T

theorem fnSim (hv : Valid P T) : ∀ k, CallOk P B w0 (evalFn T k)
  | 0 => fun f args h v h' he => by simp [evalFn] at he
  | k + 1 => fun f args h v h' he => by
    simp only [evalFn] at he
    split at he
    · rename_i mf hmf
      obtain ⟨fn, F, h1, h2⟩ := hv.fn f mf hmf
      simp only [compFn, Option.bind_eq_some_iff] at h2
      obtain ⟨c, hb, ⟨m, n'⟩, hcc, rs, hr, hcf⟩ := h2
      split at hcf
      · cases hcf
      · rename_i hname
        injection hcf with hcf
        subst hcf
        refine ⟨⟨fn, h1, by rw [hb]; rfl, by simpa using hname⟩, fun φ w args' hargs hs => ?_⟩
        refine calls_of_wp h1 hb ?_
        have hf : FR φ (args ++ List.replicate (fn.ntmps - args.length) .undef) { tmps := args'.toArray ++ Array.replicate (fn.ntmps - args'.toArray.size) undef, defers := [] } := by
          unfold FR
          have hl := hargs.length
          simp only [Array.toList_append, Array.toList_replicate, List.size_toArray, ← hl]
          refine hargs.append (VRs.of_get (by simp) (fun i x u hx hu => ?_))
          rw [List.getElem?_replicate] at hx
          split at hx
          · injection hx with hx; subst hx; exact .undef _
          · cases hx
        refine codeSim (fnSim hv k) hv.meth hcc he hf hs (fun e fr' h'' ψ a' w' hk k1 k2 k3 k4 => ?_)
        have fin : ∀ {fr' : Frm}, (resultsV fr' h'' rs).map (fun v => (v, h'')) = some (v, h') → FR ψ fr' a' → bodyPost P fn (RetOk B w0 φ h v h') .ret a' w' := by
          intro fr' hk1 k1
          simp only [Option.map_eq_some_iff, Prod.mk.injEq] at hk1
          obtain ⟨v2, hk2, e1, e2⟩ := hk1
          subst e1 e2
          obtain ⟨v', r1, r2⟩ := results_ok k3 k1 hr hk2
          exact ⟨k2, v', r1, ψ, v', rfl, r2, k3, k4⟩
        cases e with
        | normal => exact fin hk k1
        | ret => exact fin hk k1
        | exit id => cases hk
    · cases he
end
end Go.Gm
