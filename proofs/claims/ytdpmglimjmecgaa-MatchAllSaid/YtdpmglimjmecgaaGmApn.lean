/- A part of the proof: GmApn: an abstract machine, what it does, and what the functions of the program come to on it. -/
import Derived.Test.YtdpmglimjmecgaaGmApp
set_option linter.unusedVariables false
set_option linter.unusedSimpArgs false
namespace Go.Gm
open Go.RowKit

section
variable {P : Program} (w : World)
theorem run_append_room_at (t ty e : TypeId) (i : TypeInfo) (ht : P.underlying t = some (.slice e)) (hi : P.info? e = some i)
    (g d sLen sCap : Nat) (cur : Array Value) (et : TypeId) (hg : w.heap[g]? = some (.cells cur et (0, 0)))
    (a : Addr) (m c : Nat) (news : List Value) (hl : news.length = m * i.size) (hnews : ∀ j u, news[j]? = some u → w.cell? (a.add j) = some u) (h1 : ∀ u ∈ news, u.oneCell' = true)
    (hroom : sLen + m ≤ sCap) (hfit : d + sLen * i.size + news.length ≤ cur.size) :
    (Builtin.append_ #[t, t] ty #[.slice (some ⟨g, d, none⟩) sLen sCap, .slice (some a) m c]).run P w =
      .ok (.slice (some ⟨g, d, none⟩) (sLen + m) sCap) (w.setRow g (cur.toList.take (d + sLen * i.size) ++ news ++ cur.toList.drop (d + sLen * i.size + news.length)).toArray) := by
  have hf := run_firstCells_some (P := P) w i.size m a m c news hl hnews
  have hst := run_storeCells_at P g (d + sLen * i.size) et news 0 cur w hg (by simpa using hfit) h1
  simp only [Nat.add_zero] at hst
  simp [Builtin.append_, run_underlying ht, sizeOf, typeInfo, hi, Builtin.lenOf, hroom, hf, add_at, hst]
theorem run_append_zero (t ty e : TypeId) (i : TypeInfo) (ht : P.underlying t = some (.slice e)) (hi : P.info? e = some i) (b : Option Addr) (sLen sCap : Nat) (hcap : sLen ≤ sCap) (a : Option Addr) (c : Nat) :
    (Builtin.append_ #[t, t] ty #[.slice b sLen sCap, .slice a 0 c]).run P w = .ok (.slice b sLen sCap) w := by
  cases a <;> cases b <;> simp [Builtin.append_, run_underlying ht, sizeOf, typeInfo, hi, Builtin.lenOf, Builtin.firstCells, loadCells, loadCellsFrom, storeCells, hcap]
end

/-- What the element type of a slice is. -/
structure ElemOk (P : Program) (t e : TypeId) (i : TypeInfo) (z : Value) (sz bytes : Nat) : Prop where
  under : P.underlying t = some (.slice e)
  info : P.info? e = some i
  zero : i.zero = some z
  size : i.size = sz
  bytes : i.bytes = bytes
  cells : z.cells.size = sz

theorem cap_room {m G sz : Nat} (h : m ≤ G) : G * sz = m * sz + (G - m) * sz := by rw [← Nat.add_mul, Nat.add_sub_cancel' h]
theorem grownCap_le_max (w : World) (need old : Nat) (e : TypeId) (h : need ≤ 140737488355328) : grownCap w need old e ≤ maxLen := grownCap_le_maxLen w need old e (by unfold maxLen; omega)

section
variable {B : Nat} {w0 : World} {φ : Ren} {h : Heap} {w : World} {P : Program}
theorem VR.slice_form {x : AV} {o off len sz g : Nat} {lim : Option Nat} {v : Value} (hv : VR φ x v) (hx : x = .sl o off len sz lim g) :
    (∃ l, φ.c o g = some l ∧ off ≤ l.n ∧ ∃ cap, v = .slice (some ⟨l.b, l.d + off, none⟩) len cap ∧ off + len * sz ≤ l.n ∧ len ≤ cap ∧ cap ≤ maxLen ∧ l.d + off + cap * sz ≤ l.N ∧ ∀ c, lim = some c → cap = c) ∨
      (len = 0 ∧ ∃ a, v = .slice (some a) 0 0 ∧ (∀ c, lim = some c → c = 0) ∧ (lim = none → ∃ l, φ.c o g = some l ∧ off ≤ l.n)) := by
  cases hv with
  | sl e a b c d f =>
    injection hx with h1 h2 h3 h4 h5 h6
    subst h1 h2 h3 h4 h5 h6
    exact .inl ⟨_, e, by omega, _, rfl, a, b, c, d, f⟩
  | sl0 e b =>
    injection hx with h1 h2 h3 h4 h5 h6
    subst h1 h2 h3 h4 h5 h6
    exact .inr ⟨rfl, _, rfl, b, e⟩
  | _ => cases hx

/-- The cells that an append lays behind. -/
theorem S.news (hs : S B w0 φ h w) {sz m : Nat} {x : AV} {ns : List AV} {x' : Value} (hx : VR φ x x') (hn : news sz x h = some (m, ns)) :
    (m = 0 ∧ ∃ a c, x' = .slice a 0 c) ∨ ∃ a c us, x' = .slice (some a) m c ∧ us.length = m * sz ∧ ns.length = m * sz ∧ VRs φ ns us ∧ ns.all AV.one = true ∧ ∀ (j : Nat) u, us[j]? = some u → w.cell? (a.add j) = some u := by
  cases x with
  | nils =>
    simp only [Gm.news, Option.some.injEq, Prod.mk.injEq] at hn
    obtain ⟨rfl, rfl⟩ := hn
    cases hx
    exact .inl ⟨rfl, none, 0, rfl⟩
  | sl o off len sz' lim g =>
    simp only [Gm.news] at hn
    split at hn
    · rename_i hsz
      subst hsz
      cases hr : rdc h o off (len * sz') g with
      | none => rw [hr] at hn; cases hn
      | some cs =>
        rw [hr] at hn
        simp only [Option.map_some, Option.some.injEq, Prod.mk.injEq] at hn
        obtain ⟨rfl, rfl⟩ := hn
        rcases hx.slice_form rfl with ⟨l, hl, _, hc⟩ | hc
        · obtain ⟨cap, rfl, h1, h2, h3, h4, h5⟩ := hc
          obtain ⟨us, k1, k2, k3, k4, k5⟩ := hs.cellsAt hl (n := len * sz') h1 hr
          exact .inr ⟨_, cap, us, rfl, k1, k4, k2, k3, k5⟩
        · obtain ⟨rfl, a, rfl, _⟩ := hc
          exact .inl ⟨rfl, some a, 0, rfl⟩
    · cases hn
  | _ => simp [Gm.news] at hn

theorem S.apnd (hs : S B w0 φ h w) {t ty e : TypeId} {i : TypeInfo} {z : Value} {sz bytes : Nat} (he : ElemOk P t e i z sz bytes) {s x : AV} {s' x' : Value} (hsv : VR φ s s') (hx : VR φ x x')
    {v : AV} {h' : Heap} (ha : apnd sz bytes s x h = some (v, h')) :
    ∃ ψ v' w', (Builtin.append_ #[t, t] ty #[s', x']).run P w = .ok v' w' ∧ VR ψ v v' ∧ S B w0 ψ h' w' ∧ Kept φ h ψ h' := by
  obtain ⟨hu, hi, hz, hsz, hby, hzc⟩ := he
  unfold Gm.apnd at ha
  cases hn : Gm.news sz x h with
  | none => rw [hn] at ha; cases ha
  | some p =>
    obtain ⟨m, ns⟩ := p
    rw [hn] at ha
    simp only at ha
    have hnews := hs.news hx hn
    cases s with
    | nils =>
      cases hsv
      simp only at ha
      split at ha
      · rename_i hm
        injection ha with ha
        injection ha with ha1 ha2
        subst ha1 ha2
        rcases hnews with ⟨_, a, c, rfl⟩ | ⟨a, c, us, rfl, _⟩
        · exact ⟨φ, _, w, run_append_zero w t ty e i hu hi none 0 0 (Nat.le_refl _) a c, .nils, hs, .refl _ _⟩
        · subst hm
          exact ⟨φ, _, w, run_append_zero w t ty e i hu hi none 0 0 (Nat.le_refl _) (some a) c, .nils, hs, .refl _ _⟩
      · rename_i hm
        split at ha
        · rename_i hb
          obtain ⟨hb1, hb2, hb3, hb4⟩ := hb
          injection ha with ha
          injection ha with ha1 ha2
          subst ha1 ha2
          rcases hnews with ⟨h0, _⟩ | ⟨a, c, us, rfl, k1, k2, k3, k4, k5⟩
          · exact absurd h0 hm
          · have hmb : m ≤ m * bytes := Nat.le_mul_of_pos_right m hb4
            have hrun := run_append_nil (P := P) w t ty e i z hu hi hz a m c us (by rw [hsz]; exact k1) k5 (by omega) (by omega) (by rw [hby]; omega)
            have hcell : us.toArray ++ Builtin.zeroCells z.cells (grownCap w m 0 e - m) = (us ++ (Builtin.zeroCells z.cells (grownCap w m 0 e - m)).toList).toArray := by
              apply Array.ext'; simp
            rw [hcell] at hrun
            obtain ⟨ψ, p1, p2, p3⟩ := hs.drew.make (cs := ns) (vs := us) (rest := (Builtin.zeroCells z.cells (grownCap w m 0 e - m)).toList) k3 k4 e
            refine ⟨ψ, _, _, hrun, ?_, p1, p2⟩
            have hcap := grownCap_ge w m 0 e
            have hr := cap_room (sz := sz) hcap
            exact VR.sl (φ := ψ) (off := 0) (len := m) (sz := sz) (cap := grownCap w m 0 e) (lim := none) p3 (by simp only; omega) hcap (grownCap_le_max w m 0 e (by omega))
              (by simp only [List.length_append, Array.length_toList, size_zeroCells, hzc, Nat.zero_add]; omega) (fun _ q => by cases q)
        · cases ha
    | sl o off len sz' lim g =>
      have hform := hsv.slice_form rfl
      simp only at ha
      split at ha
      · rename_i hm
        injection ha with ha
        injection ha with ha1 ha2
        subst ha1 ha2 hm
        have hx0 : ∃ a c, x' = .slice a 0 c := by
          rcases hnews with ⟨_, q⟩ | ⟨a, c, us, rfl, _⟩
          · exact q
          · exact ⟨_, _, rfl⟩
        obtain ⟨a, c, rfl⟩ := hx0
        rcases hform with ⟨_, _, _, cap, rfl, _, hcap, _⟩ | ⟨rfl, b, rfl, _⟩
        · exact ⟨φ, _, w, run_append_zero w t ty e i hu hi _ len cap hcap a c, hsv, hs, .refl _ _⟩
        · exact ⟨φ, _, w, run_append_zero w t ty e i hu hi _ 0 0 (Nat.le_refl _) a c, hsv, hs, .refl _ _⟩
      · rename_i hm
        split at ha
        · cases ha
        · rename_i hb
          simp only [Decidable.not_not] at hb
          obtain ⟨hsz', hb1, hb2, hb3, hb4⟩ := hb
          subst hsz'
          obtain ⟨a, c, us, rfl, k1, k2, k3, k4, k5⟩ : ∃ a c us, x' = .slice (some a) m c ∧ us.length = m * sz' ∧ ns.length = m * sz' ∧ VRs φ ns us ∧ ns.all AV.one = true ∧ ∀ (j : Nat) u, us[j]? = some u → w.cell? (a.add j) = some u := by
            rcases hnews with ⟨h0, _⟩ | q
            · exact absurd h0 hm
            · exact q
          have hmb : len + m ≤ (len + m) * bytes := Nat.le_mul_of_pos_right _ hb4
          -- growing into a new block, from whatever stands
          have grow : ∀ (b : Addr) (cap : Nat) (olds : List Value), olds.length = len * sz' → (∀ (j : Nat) u, olds[j]? = some u → w.cell? (b.add j) = some u) → cap < len + m →
              ∃ rest : List Value, (Builtin.append_ #[t, t] ty #[.slice (some b) len cap, .slice (some a) m c]).run P w = .ok (.slice (some ⟨w.heap.size, 0, none⟩) (len + m) (grownCap w (len + m) cap e)) (w.drew.alloc (.cells ((olds ++ us) ++ rest).toArray e)) ∧ ((olds ++ us) ++ rest).length = grownCap w (len + m) cap e * sz' := by
            intro b cap olds ho1 ho2 hlt
            have hrun := run_append_grow (P := P) w t ty e i z hu hi hz b len cap olds (by rw [hsz]; exact ho1) ho2 a m c us (by rw [hsz]; exact k1) k5 hlt (by omega) (growslice_fits hlt (by rw [hby]; exact hb1))
            have hcell : olds.toArray ++ us.toArray ++ Builtin.zeroCells z.cells (grownCap w (len + m) cap e - (len + m)) = ((olds ++ us) ++ (Builtin.zeroCells z.cells (grownCap w (len + m) cap e - (len + m))).toList).toArray := by
              apply Array.ext'; simp
            rw [hcell] at hrun
            refine ⟨_, hrun, ?_⟩
            have hr := cap_room (sz := sz') (grownCap_ge w (len + m) cap e)
            have hlm : (len + m) * sz' = len * sz' + m * sz' := Nat.add_mul ..
            simp only [List.length_append, Array.length_toList, size_zeroCells, hzc, ho1, k1]
            omega
          cases lim with
          | some cl =>
            simp only at ha
            split at ha
            · cases ha
            · rename_i hfull
              cases hr : rdc h o off (len * sz') g with
              | none => rw [hr] at ha; cases ha
              | some old =>
                rw [hr] at ha
                simp only [Option.map_some, Option.some.injEq, Prod.mk.injEq] at ha
                obtain ⟨rfl, rfl⟩ := ha
                have fin : ∀ (b : Addr) (cap : Nat) (olds : List Value), s' = .slice (some b) len cap → cap < len + m → olds.length = len * sz' → VRs φ old olds → old.all AV.one = true → old.length = len * sz' → (∀ (j : Nat) u, olds[j]? = some u → w.cell? (b.add j) = some u) →
                    ∃ ψ v' w', (Builtin.append_ #[t, t] ty #[s', .slice (some a) m c]).run P w = .ok v' w' ∧ VR ψ (.sl h.length 0 (len + m) sz' none 0) v' ∧ S B w0 ψ (mkObj h (old ++ ns)) w' ∧ Kept φ h ψ (mkObj h (old ++ ns)) := by
                  intro b cap olds hs' hlt q1 q2 q3 q4 q5
                  subst hs'
                  obtain ⟨rest, hrun, hlen⟩ := grow b cap olds q1 q5 hlt
                  obtain ⟨ψ, p1, p2, p3⟩ := hs.drew.make (cs := old ++ ns) (vs := olds ++ us) (rest := rest) (q2.append k3) (by rw [List.all_append, q3, k4]; rfl) e
                  refine ⟨ψ, _, _, hrun, ?_, p1, p2⟩
                  have hlm : (len + m) * sz' = len * sz' + m * sz' := Nat.add_mul ..
                  exact VR.sl (φ := ψ) (off := 0) (lim := none) p3 (by simp only [List.length_append]; omega) (grownCap_ge ..) (grownCap_le_max w _ _ e (by omega)) (by simp only [hlen]; omega) (fun _ q => by cases q)
                rcases hform with ⟨l, hl, hoff, cap, hsv', h1, h2, h3, h4, h5⟩ | ⟨hl0, b, hsv', h5, _⟩
                · have := h5 cl rfl
                  obtain ⟨olds, q1, q2, q3, q4, q5⟩ := hs.cellsAt hl h1 hr
                  exact fin _ cap olds hsv' (by omega) q1 q2 q3 q4 q5
                · subst hl0
                  have ho0 : old = [] := by
                    unfold rdc at hr
                    split at hr
                    · split at hr
                      · injection hr with hr; rw [← hr]; simp
                      · cases hr
                    · cases hr
                  subst ho0
                  exact fin b 0 [] hsv' (by omega) (by simp) .nil rfl (by simp) (fun j u q => by simp at q)
          | none =>
            simp only at ha
            split at ha
            · rename_i c2 ho
              split at ha
              · rename_i hcond
                obtain ⟨hro, hg, hoff0⟩ := hcond
                injection ha with ha
                injection ha with ha1 ha2
                subst ha1 ha2 hg hoff0
                obtain ⟨l, hl, hoff⟩ : ∃ l, φ.c o c2.gen = some l ∧ 0 ≤ l.n := by
                  rcases hform with ⟨l, hl, hoff, _⟩ | ⟨_, _, _, _, q⟩
                  · exact ⟨l, hl, hoff⟩
                  · exact q rfl
                obtain ⟨_, hcell⟩ := hs.gen_le hl ho
                have hln := hcell.last rfl
                have hlm : (len + m) * sz' = len * sz' + m * sz' := Nat.add_mul ..
                have regrow : ∀ (b : Addr) (cap : Nat) (olds : List Value), s' = .slice (some b) len cap → cap < len + m → len * sz' ≤ c2.cells.length → olds.length = len * sz' → VRs φ (c2.cells.take (len * sz')) olds → (c2.cells.take (len * sz')).all AV.one = true → (∀ (j : Nat) u, olds[j]? = some u → w.cell? (b.add j) = some u) →
                    ∃ ψ v' w', (Builtin.append_ #[t, t] ty #[s', .slice (some a) m c]).run P w = .ok v' w' ∧ VR ψ (.sl o 0 (len + m) sz' none (c2.gen + 1)) v' ∧ S B w0 ψ (h.set o (.cells { c2 with cells := c2.cells.take (len * sz') ++ ns, gen := c2.gen + 1, wg := if len * sz' = c2.cells.length then c2.wg else c2.gen + 1 })) w' ∧ Kept φ h ψ (h.set o (.cells { c2 with cells := c2.cells.take (len * sz') ++ ns, gen := c2.gen + 1, wg := if len * sz' = c2.cells.length then c2.wg else c2.gen + 1 })) := by
                  intro b cap olds hs' hlt q0 q1 q2 q3 q5
                  subst hs'
                  obtain ⟨rest, hrun, hlen⟩ := grow b cap olds q1 q5 hlt
                  obtain ⟨ψ, p1, p2, p3⟩ := hs.drew.regrow ho hro (k := len * sz') (ns := ns) (us := olds ++ us) (rest := rest) q0 (q2.append k3) (by rw [List.all_append, q3, k4]; rfl) e hcell.wg ⟨l, hl⟩
                  refine ⟨ψ, _, _, hrun, ?_, p1, p2⟩
                  exact VR.sl (φ := ψ) (off := 0) (lim := none) p3 (by simp only [List.length_append, List.length_take]; omega) (grownCap_ge ..) (grownCap_le_max w _ _ e (by omega)) (by simp only [hlen]; omega) (fun _ q => by cases q)
                rcases hform with ⟨l', hl', hoff', cap, hsv', h1, h2, h3, h4, h5⟩ | ⟨hl0, b, hsv', h5, _⟩
                · obtain rfl : l = l' := by rw [hl] at hl'; injection hl'
                  have hle : len * sz' ≤ c2.cells.length := by omega
                  by_cases hroom : len + m ≤ cap
                  · subst hsv'
                    obtain ⟨C, et, fr, m1, m2, m3, m4⟩ := hcell.blk
                    obtain ⟨rfl, hB⟩ := m3 hro
                    have hcs : (len + m) * sz' ≤ cap * sz' := Nat.mul_le_mul_right _ hroom
                    have hrun := run_append_room_at (P := P) w t ty e i hu hi l.b (l.d + 0) len cap C et m1 a m c us (by rw [hsz]; exact k1) k5 (k3.one_of k4) hroom (by rw [hsz]; omega)
                    obtain ⟨ψ, p1, p2, p3⟩ := hs.grow ho hro hl (k := len * sz') (ns := ns) (us := us) hle k3 k4 m1 (by omega)
                    rw [hsz] at hrun
                    refine ⟨ψ, _, _, hrun, ?_, p1, p2⟩
                    exact VR.sl (φ := ψ) (off := 0) (lim := none) (l := ⟨l.b, l.d, l.N, (c2.cells.take (len * sz') ++ ns).length⟩) p3 (by simp only [List.length_append, List.length_take]; omega) hroom h3 h4 (fun _ q => by cases q)
                  · have hrd : rdc h o 0 (len * sz') c2.gen = some (c2.cells.take (len * sz')) := by
                      simp [rdc, ho, hcell.wg]
                    obtain ⟨olds, q1, q2, q3, q4, q5⟩ := hs.cellsAt hl h1 hrd
                    exact regrow _ cap olds hsv' (by omega) hle q1 q2 q3 q5
                · subst hl0
                  exact regrow b 0 [] hsv' (by omega) (by simp) (by simp) (by simpa using VRs.nil) (by simp) (fun j u q => by simp at q)
              · cases ha
            · cases ha
    | _ => simp at ha
end
end Go.Gm
