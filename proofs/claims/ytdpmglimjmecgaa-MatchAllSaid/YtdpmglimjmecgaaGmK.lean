/- A part of the proof: GmK: an abstract machine, what it does, and what the functions of the program come to on it. -/
import Derived.Test.YtdpmglimjmecgaaGmCode
set_option linter.unusedVariables false
set_option linter.unusedSimpArgs false
namespace Go.Gm
/- The same machine, operation by operation with what follows as a function: so that a function's text unfolds to plain Lean. -/

section
variable {R : Type}
def oa (x : Option AV) (K : AV → Option R) : Option R := match x with | some v => K v | none => none
def oh (x : Option Heap) (K : Heap → Option R) : Option R := match x with | some h => K h | none => none
def ob (x : Option (AV × Heap)) (K : AV → Heap → Option R) : Option R := match x with | some p => K p.1 p.2 | none => none
@[simp] theorem oa_some (v : AV) (K : AV → Option R) : oa (some v) K = K v := rfl
@[simp] theorem oh_some (h : Heap) (K : Heap → Option R) : oh (some h) K = K h := rfl
@[simp] theorem ob_some (v : AV) (h : Heap) (K : AV → Heap → Option R) : ob (some (v, h)) K = K v h := rfl
theorem ob_bind (x : Option (AV × Heap)) (K : AV → Heap → Option R) : ob x K = x.bind fun p => K p.1 p.2 := by cases x <;> rfl
theorem oa_pure1 (x : Option AV) (h : Heap) (K : AV → Heap → Option R) : (oa x fun v => K v h) = (pure1 h x).bind fun p => K p.1 p.2 := by cases x <;> rfl

def pickV (c a b : AV) : Option AV := (bool? c).map fun t => if t then a else b
def callVal (call : CallF) (x : AV) (args : List AV) (h : Heap) : Option (AV × Heap) := match x with
  | .fn f a b => call f (a ++ args ++ b) h
  | _ => none
def callMeth (T : Tab) (call : CallF) (nm : String) (x : AV) (args : List AV) (h : Heap) : Option (AV × Heap) := match x with
  | .ifc t (.ptr o off hi g) => match T.meth t nm with
    | some f => call f (.ptr o off hi g :: args) h
    | none => none
  | _ => none

abbrev evalMK (op : MOp) (fr : Frm) (h : Heap) (K : AV → Heap → Option R) : Option R :=
  match op with
  | .mv x => K (x.ev fr) h
  | .pick c a b => oa (pickV (c.ev fr) (a.ev fr) (b.ev fr)) fun v => K v h
  | .alloc z => ob (newVar h z) K
  | .box x => ob (newVar h (x.ev fr).cells) K
  | .build z ps => oa (buildV z (ps.map fun p => (p.1, p.2.1, p.2.2.ev fr))) fun v => K v h
  | .buildSlice sz len z ps => ob (buildSl sz len z (ps.map fun p => (p.1, p.2.1, p.2.2.ev fr)) h) K
  | .load none a => oa (ld1 h (a.ev fr)) fun v => K v h
  | .load (some n) a => oa (ldN n h (a.ev fr)) fun v => K v h
  | .store n a x => oh (stN n h (a.ev fr) (x.ev fr)) fun h' => K .undef h'
  | .nilCheck x => oa (nilCk (x.ev fr)) fun v => K v h
  | .bin op ek x y => oa (binV op ek (x.ev fr) (y.ev fr)) fun v => K v h
  | .un op x => oa (unV op (x.ev fr)) fun v => K v h
  | .convI k x => oa (convV k (x.ev fr)) fun v => K v h
  | .b2s x => oa (b2sV h (x.ev fr)) fun v => K v h
  | .mkIfc t x => K (.ifc t (x.ev fr)) h
  | .mkFn f a b => K (.fn f (a.map fun x => x.ev fr) (b.map fun x => x.ev fr)) h
  | .mkSlice z sz by_ l c => ob (mkSl z sz by_ (l.ev fr) (c.ev fr) h) K
  | .sliceStr x lo hi => oa (slStr (x.ev fr) (lo.map fun x => x.ev fr) (hi.map fun x => x.ev fr)) fun v => K v h
  | .sliceSl sz x lo hi mx => oa (slSl sz (x.ev fr) (lo.map fun x => x.ev fr) (hi.map fun x => x.ev fr) (mx.map fun x => x.ev fr)) fun v => K v h
  | .fieldAddr d x => oa (fldA d (x.ev fr)) fun v => K v h
  | .field d n x => oa (fldV d n (x.ev fr)) fun v => K v h
  | .idxArr n sz x i => oa (idxA n sz (x.ev fr) (i.ev fr)) fun v => K v h
  | .idxSl sz x i => oa (idxS sz (x.ev fr) (i.ev fr)) fun v => K v h
  | .ixArr n sz m x i => oa (ixA n sz m (x.ev fr) (i.ev fr)) fun v => K v h
  | .ixStr x i => oa (ixS (x.ev fr) (i.ev fr)) fun v => K v h
  | .typeAssert t z ok x => oa (tAssert t z ok (x.ev fr)) fun v => K v h
  | .extract i x => oa (extr i (x.ev fr)) fun v => K v h
  | .append sz by_ s x => ob (apnd sz by_ (s.ev fr) (x.ev fr) h) K
  | .lookup ks z ok x k => oa (lookM ks z ok h (x.ev fr) (k.ev fr)) fun v => K v h
  | .mapUpd ks x k v => oh (updM ks h (x.ev fr) (k.ev fr) (v.ev fr)) fun h' => K .undef h'
  | .lenSl x => oa (lenS (x.ev fr)) fun v => K v h
  | .lenStr x => oa (lenB (x.ev fr)) fun v => K v h
  | .mm mx x y => oa (mmV mx (x.ev fr) (y.ev fr)) fun v => K v h
  | op => ob (evalM op fr h) K
theorem evalMK_eq (op : MOp) (fr : Frm) (h : Heap) (K : AV → Heap → Option R) : evalMK op fr h K = (evalM op fr h).bind fun p => K p.1 p.2 := by
  cases op with
  | load n a => cases n <;> simp only [evalMK, evalM, oa_pure1]
  | pick c a b => simp only [evalMK, evalM, oa_pure1, pickV]
  | store n a x => simp only [evalMK, evalM]; cases stN n h (a.ev fr) (x.ev fr) <;> rfl
  | mapUpd ks x k v => simp only [evalMK, evalM]; cases updM ks h (x.ev fr) (k.ev fr) (v.ev fr) <;> rfl
  | mv x => rfl
  | mkIfc t x => rfl
  | mkFn f a b => rfl
  | _ => first | exact oa_pure1 _ _ _ | (simp only [evalMK, evalM, ob_bind]; done) | (simp only [evalMK, ob_bind]; done) | (simp only [evalMK, evalM, ob_bind]; rfl)

abbrev evalOK (T : Tab) (call : CallF) (op : MAny) (fr : Frm) (h : Heap) (K : AV → Heap → Option R) : Option R :=
  match op with
  | .call f xs => ob (call f (xs.map fun x => x.ev fr) h) K
  | .callV x xs => ob (callVal call (x.ev fr) (xs.map fun x => x.ev fr) h) K
  | .invoke nm x xs => ob (callMeth T call nm (x.ev fr) (xs.map fun x => x.ev fr) h) K
  | .op m => evalMK m fr h K
theorem evalOK_eq (T : Tab) (call : CallF) (op : MAny) (fr : Frm) (h : Heap) (K : AV → Heap → Option R) : evalOK T call op fr h K = (evalO T call op fr h).bind fun p => K p.1 p.2 := by
  cases op with
  | op m => exact evalMK_eq m fr h K
  | call f xs => simp only [evalOK, evalO, ob_bind]
  | callV x xs =>
    simp only [evalOK, evalO, ob_bind, callVal]
    generalize x.ev fr = y
    cases y <;> rfl
  | invoke nm x xs =>
    simp only [evalOK, evalO, ob_bind, callMeth]
    generalize x.ev fr = y
    cases y with
    | ifc t v => cases v <;> first | rfl | (simp only; cases T.meth t nm <;> rfl)
    | _ => rfl

/-- Guarded: carried out, or not. -/
def gd (g : AV) (b : Bool) (x : Option (AV × Heap)) (h : Heap) : Option (AV × Heap) := match g with
  | .bool c => if c == b then x else some (.tup [], h)
  | .tup [] => some (.tup [], h)
  | _ => none
theorem gd_eq (fr : Frm) (d : Nat) (b : Bool) (x : Option (AV × Heap)) (h : Heap) (K : AV → Heap → Option R) :
    ob (gd (fr.getD d .undef) b x h) K = (want fr (some (d, b))).bind fun w => if w then x.bind fun p => K p.1 p.2 else K (.tup []) h := by
  simp only [want]
  generalize fr.getD d .undef = g
  cases g with
  | bool c => cases c <;> cases b <;> simp [gd, ob_bind]
  | tup l => cases l <;> simp [gd, ob_bind]
  | _ => simp [gd, ob_bind]

abbrev evalRK (T : Tab) (call : CallF) : List MOper → Frm → Heap → (Frm → Heap → Option R) → Option R
  | [], fr, h, K => K fr h
  | ⟨dst, op, none⟩ :: r, fr, h, K => evalOK T call op fr h fun v h' => evalRK T call r (put fr dst v) h' K
  | ⟨dst, op, some g⟩ :: r, fr, h, K => ob (gd (fr.getD g.1 .undef) g.2 (evalO T call op fr h) h) fun v h' => evalRK T call r (put fr dst v) h' K
theorem evalRK_eq (T : Tab) (call : CallF) : ∀ (l : List MOper) (fr : Frm) (h : Heap) (K : Frm → Heap → Option R), evalRK T call l fr h K = (evalR T call l fr h).bind fun p => K p.1 p.2
  | [], fr, h, K => rfl
  | ⟨dst, op, none⟩ :: r, fr, h, K => by
    simp only [evalRK, evalR, evalOK_eq, want, Option.bind_some, if_true, Option.bind_assoc]
    congr 1
    funext p
    exact evalRK_eq T call r _ _ K
  | ⟨dst, op, some (d, b)⟩ :: r, fr, h, K => by
    simp only [evalRK, evalR, gd_eq, Option.bind_assoc]
    congr 1
    funext w
    cases w with
    | false => simp only [Bool.false_eq_true, if_false]; exact evalRK_eq T call r _ _ K
    | true =>
      simp only [if_true, Option.bind_assoc]
      congr 1
      funext p
      exact evalRK_eq T call r _ _ K

/-- Is a value the one that was read? -/
def sameB (x : Option (AV × Heap)) (v : AV) : Bool := match x with
  | some u => u.1.beq v
  | none => false
def gdB (g : AV) (b : Bool) (x : Bool) : Bool := match g with
  | .bool c => if c == b then x else true
  | .tup [] => true
  | _ => false
def againK (fr : Frm) (h : Heap) : List (Nat × MOper) → Bool
  | [] => true
  | (j, ⟨_, .op m, none⟩) :: r => sameB (evalM m fr h) (fr.getD j .undef) && againK fr h r
  | (j, ⟨_, .op m, some g⟩) :: r => gdB (fr.getD g.1 .undef) g.2 (sameB (evalM m fr h) (fr.getD j .undef)) && againK fr h r
  | p :: r => againB fr h p && againK fr h r
theorem againK_eq (fr : Frm) (h : Heap) : ∀ l, againK fr h l = l.all (againB fr h)
  | [] => rfl
  | (j, ⟨_, .op m, none⟩) :: r => by
    simp only [againK, List.all_cons, againK_eq fr h r, againB, want, sameB]
    cases evalM m fr h <;> rfl
  | (j, ⟨_, .op m, some (d, b)⟩) :: r => by
    simp only [againK, List.all_cons, againK_eq fr h r, againB, want, sameB]
    congr 1
    generalize fr.getD d .undef = g
    unfold gdB
    cases g with
    | bool c => cases c <;> cases b <;> rfl
    | tup l => cases l <;> rfl
    | _ => rfl
  | (j, ⟨_, .call f a, _⟩) :: r => by simp only [againK, List.all_cons, againK_eq fr h r]
  | (j, ⟨_, .callV f a, _⟩) :: r => by simp only [againK, List.all_cons, againK_eq fr h r]
  | (j, ⟨_, .invoke n f a, _⟩) :: r => by simp only [againK, List.all_cons, againK_eq fr h r]
def chk (b : Bool) (x : Option R) : Option R := if b then x else none
@[simp] theorem chk_true (x : Option R) : chk true x = x := rfl
/-- An item: with its reads done again behind it. -/
abbrev evalDK (T : Tab) (call : CallF) : List DItem → Frm → Heap → (Frm → Heap → Option R) → Option R
  | [], fr, h, K => K fr h
  | ⟨_, ⟨dst, op, none⟩, []⟩ :: r, fr, h, K => evalOK T call op fr h fun v h' => evalDK T call r (put fr dst v) h' K
  | ⟨_, ⟨dst, op, none⟩, ag⟩ :: r, fr, h, K => evalOK T call op fr h fun v h' => chk (againK (put fr dst v) h' ag) (evalDK T call r (put fr dst v) h' K)
  | ⟨_, ⟨dst, op, some g⟩, []⟩ :: r, fr, h, K => ob (gd (fr.getD g.1 .undef) g.2 (evalO T call op fr h) h) fun v h' => evalDK T call r (put fr dst v) h' K
  | ⟨_, ⟨dst, op, some g⟩, ag⟩ :: r, fr, h, K => ob (gd (fr.getD g.1 .undef) g.2 (evalO T call op fr h) h) fun v h' => chk (gdB (fr.getD g.1 .undef) g.2 (againK (put fr dst v) h' ag)) (evalDK T call r (put fr dst v) h' K)
theorem evalDK_eq (T : Tab) (call : CallF) : ∀ (l : List DItem) (fr : Frm) (h : Heap) (K : Frm → Heap → Option R), evalDK T call l fr h K = (evalD T call l fr h).bind fun p => K p.1 p.2
  | [], fr, h, K => rfl
  | ⟨_, ⟨dst, op, none⟩, []⟩ :: r, fr, h, K => by
    simp only [evalDK, evalD, evalOK_eq, want, Option.bind_some, if_true, Option.bind_assoc, List.all_nil]
    congr 1
    funext p
    exact evalDK_eq T call r _ _ K
  | ⟨_, ⟨dst, op, none⟩, x :: ag⟩ :: r, fr, h, K => by
    simp only [evalDK, evalD, evalOK_eq, want, Option.bind_some, if_true, Option.bind_assoc, againK_eq]
    congr 1
    funext p
    unfold chk
    split
    · exact evalDK_eq T call r _ _ K
    · rfl
  | ⟨_, ⟨dst, op, some (d, b)⟩, []⟩ :: r, fr, h, K => by
    simp only [evalDK, evalD, gd_eq, Option.bind_assoc, List.all_nil, if_true]
    congr 1
    funext w
    cases w with
    | false => simp only [Bool.false_eq_true, if_false]; exact evalDK_eq T call r _ _ K
    | true =>
      simp only [if_true, Option.bind_assoc]
      congr 1
      funext p
      exact evalDK_eq T call r _ _ K
  | ⟨_, ⟨dst, op, some (d, b)⟩, x :: ag⟩ :: r, fr, h, K => by
    simp only [evalDK, evalD, gd_eq, Option.bind_assoc, againK_eq]
    cases hw : want fr (some (d, b)) with
    | none => rfl
    | some w =>
      have hg : ∀ y, gdB (fr.getD d .undef) b y = if w then y else true := by
        intro y
        simp only [want] at hw
        generalize fr.getD d .undef = g at hw
        unfold gdB
        cases g with
        | bool c => injection hw with hw; subst hw; cases c <;> cases b <;> rfl
        | tup l => cases l with
          | nil => injection hw with hw; subst hw; rfl
          | cons _ _ => cases hw
        | _ => cases hw
      simp only [Option.bind_some, hg]
      cases w with
      | false => simp only [Bool.false_eq_true, if_false, chk_true]; exact evalDK_eq T call r _ _ K
      | true =>
        simp only [if_true, Option.bind_assoc]
        congr 1
        funext p
        unfold chk
        split
        · exact evalDK_eq T call r _ _ K
        · rfl

abbrev seqK (g : Frm → Heap → Kont R → Option R) (fgt : List Nat) (K : Kont R) : Kont R := fun e fr h => match e with
  | .normal => g (forget fr fgt) h K
  | e => K e fr h
abbrev blockK (id : Nat) (K : Kont R) : Kont R := fun e fr h => K (if e = .exit id then .normal else e) fr h
/-- A loop: j rounds at most. -/
def loopK (B : Frm → Heap → Kont R → Option R) (fgt : List Nat) : Nat → Frm → Heap → Kont R → Option R
  | 0, _, _, _ => none
  | k + 1, fr, h, K => B fr h (seqK (fun fr' h' K' => loopK B fgt k fr' h' K') fgt K)
def cond2 (c : AV) (a b : Option R) : Option R := match c with
  | .bool true => a
  | .bool false => b
  | _ => none
@[simp] theorem cond2_true (a b : Option R) : cond2 (.bool true) a b = a := rfl
@[simp] theorem cond2_false (a b : Option R) : cond2 (.bool false) a b = b := rfl
abbrev lenIs (fr : Frm) (n : Nat) (x : Option R) : Option R := if fr.length = n then x else none
def evalCK (T : Tab) (call : CallF) (k : Nat) : MCode → Frm → Heap → Kont R → Option R
  | .skip, fr, h, K => K .normal fr h
  | .region ops, fr, h, K => evalRK T call ops fr h (K .normal)
  | .regionD N items outs, fr, h, K => lenIs fr N (evalDK T call items (fr ++ List.replicate items.length .undef) h fun frE h' => K .normal (outFr fr frE outs) h')
  | .seq fgt a b, fr, h, K => evalCK T call k a fr h (seqK (fun fr h K => evalCK T call k b fr h K) fgt K)
  | .cond c a b, fr, h, K => cond2 (c.ev fr) (evalCK T call k a fr h K) (evalCK T call k b fr h K)
  | .block id c, fr, h, K => evalCK T call k c fr h (blockK id K)
  | .loop fgt c, fr, h, K => loopK (fun fr h K => evalCK T call k c fr h K) fgt k (forget fr fgt) h K
  | .exit id, fr, h, K => K (.exit id) fr h
  | .ret, fr, h, K => K .ret fr h
  | .bad, _, _, _ => none
  | .lab c, fr, h, K => evalCK T call k c fr h K
theorem loopK_eq {B B' : Frm → Heap → Kont R → Option R} (hB : ∀ fr h K, B fr h K = B' fr h K) (fgt : List Nat) : ∀ k fr h K, loopK B fgt k fr h K = loopN B' fgt k fr h K
  | 0, _, _, _ => rfl
  | k + 1, fr, h, K => by
    simp only [loopK, loopN, hB]
    congr 1
    funext e fr' h'
    cases e <;> simp only [seqK]
    exact loopK_eq hB fgt k _ _ _
theorem evalCK_eq (T : Tab) (call : CallF) (k : Nat) : ∀ (c : MCode) (fr : Frm) (h : Heap) (K : Kont R), evalCK T call k c fr h K = evalC T call k c fr h K
  | .skip, _, _, _ => rfl
  | .region ops, fr, h, K => evalRK_eq T call ops fr h _
  | .regionD N items outs, fr, h, K => by
    simp only [evalCK, evalC, evalDK_eq, lenIs]
  | .seq fgt a b, fr, h, K => by
    simp only [evalCK, evalC]
    rw [evalCK_eq T call k a]
    congr 1
    funext e fr' h'
    cases e <;> simp only [seqK]
    exact evalCK_eq T call k b _ _ _
  | .cond c a b, fr, h, K => by
    simp only [evalCK, evalC, evalCK_eq T call k a, evalCK_eq T call k b]
    generalize c.ev fr = y
    cases y with
    | bool b => cases b <;> rfl
    | _ => rfl
  | .block id c, fr, h, K => by
    simp only [evalCK, evalC]
    exact evalCK_eq T call k c _ _ _
  | .loop fgt c, fr, h, K => by
    simp only [evalCK, evalC]
    exact loopK_eq (fun fr h K => evalCK_eq T call k c fr h K) fgt k _ _ _
  | .exit _, _, _, _ => rfl
  | .ret, _, _, _ => rfl
  | .bad, _, _, _ => rfl
  | .lab c, fr, h, K => by
    simp only [evalCK, evalC]
    exact evalCK_eq T call k c _ _ _
end
def tupOf : List AV → AV
  | [v] => v
  | vs => .tup vs
abbrev resultsK {R : Type} (fr : Frm) (h : Heap) : List (Nat × Option (Option Nat)) → (List AV → Option R) → Option R
  | [], K => K []
  | (t, none) :: rs, K => resultsK fr h rs fun vs => K (fr.getD t .undef :: vs)
  | (t, some none) :: rs, K => oa (ld1 h (fr.getD t .undef)) fun v => resultsK fr h rs fun vs => K (v :: vs)
  | (t, some (some n)) :: rs, K => oa (ldN n h (fr.getD t .undef)) fun v => resultsK fr h rs fun vs => K (v :: vs)
theorem resultsK_eq {R : Type} (fr : Frm) (h : Heap) : ∀ (rs : List (Nat × Option (Option Nat))) (K : List AV → Option R), resultsK fr h rs K = (resultsL fr h rs).bind K
  | [], K => rfl
  | (t, none) :: rs, K => by
    simp only [resultsK, resultsL, result, resultsK_eq fr h rs, Option.bind_some]
    cases resultsL fr h rs <;> rfl
  | (t, some none) :: rs, K => by
    simp only [resultsK, resultsL, result, resultsK_eq fr h rs]
    cases ld1 h (fr.getD t .undef) with
    | none => rfl
    | some v => simp only [oa_some, Option.bind_some]; cases resultsL fr h rs <;> rfl
  | (t, some (some n)) :: rs, K => by
    simp only [resultsK, resultsL, result, resultsK_eq fr h rs]
    cases ldN n h (fr.getD t .undef) with
    | none => rfl
    | some v => simp only [oa_some, Option.bind_some]; cases resultsL fr h rs <;> rfl
abbrev resK (rs : List (Nat × Option (Option Nat))) : Kont (AV × Heap) := fun e fr h => match e with
  | .exit _ => none
  | _ => resultsK fr h rs fun vs => some (tupOf vs, h)
theorem resK_eq (fn : MFn) : resK fn.results = kend fn := by
  funext e fr h
  have key : (resultsK fr h fn.results fun vs => some (tupOf vs, h)) = (resultsV fr h fn.results).map fun v => (v, h) := by
    rw [resultsK_eq, resultsV]
    cases resultsL fr h fn.results with
    | none => rfl
    | some vs =>
      simp only [Option.bind_some, Option.map_some]
      congr 2
  cases e with
  | normal => exact key
  | ret => exact key
  | exit _ => rfl
/-- A function's text at its arguments. -/
def runF (T : Tab) (k : Nat) (mf : MFn) (args : List AV) (h : Heap) : Option (AV × Heap) :=
  evalCK T (evalFn T k) k mf.body (args ++ List.replicate (mf.ntmps - args.length) .undef) h (resK mf.results)
theorem evalFn_run {T : Tab} {f : FuncId} {mf : MFn} (hf : T.fn f = some mf) (k : Nat) (args : List AV) (h : Heap) : evalFn T (k + 1) f args h = runF T k mf args h := by
  simp only [evalFn, hf, runF, evalCK_eq, resK_eq]

/-! ### What follows, as data -/
inductive SF where
  | seq (fgt : List Nat) (b : MCode)
  | blk (id : Nat)
  | lp (j : Nat) (fgt : List Nat) (c : MCode)
abbrev Res := List (Nat × Option (Option Nat))
def kontOf (T : Tab) (k : Nat) (rs : Res) : List SF → Kont (AV × Heap)
  | [] => resK rs
  | .seq fgt b :: s => seqK (fun fr h K => evalCK T (evalFn T k) k b fr h K) fgt (kontOf T k rs s)
  | .blk id :: s => blockK id (kontOf T k rs s)
  | .lp j fgt c :: s => seqK (fun fr' h' K' => loopK (fun fr h K => evalCK T (evalFn T k) k c fr h K) fgt j fr' h' K') fgt (kontOf T k rs s)
/-- Code with what follows. -/
def evB (T : Tab) (k : Nat) (rs : Res) (c : MCode) (s : List SF) (fr : Frm) (h : Heap) : Option (AV × Heap) := evalCK T (evalFn T k) k c fr h (kontOf T k rs s)
/-- A loop with what follows: j rounds at most. -/
def loopB (T : Tab) (k : Nat) (rs : Res) (j : Nat) (fgt : List Nat) (c : MCode) (s : List SF) (fr : Frm) (h : Heap) : Option (AV × Heap) :=
  loopK (fun fr h K => evalCK T (evalFn T k) k c fr h K) fgt j fr h (kontOf T k rs s)
theorem loopB_succ (T : Tab) (k : Nat) (rs : Res) (j : Nat) (fgt : List Nat) (c : MCode) (s : List SF) (fr : Frm) (h : Heap) : loopB T k rs (j + 1) fgt c s fr h = evB T k rs c (.lp j fgt c :: s) fr h := rfl
abbrev popS (T : Tab) (k : Nat) (rs : Res) (ev : MCode → List SF → Frm → Heap → Option (AV × Heap)) (e : MExit) : List SF → Frm → Heap → Option (AV × Heap)
  | [], fr, h => resK rs e fr h
  | .seq fgt b :: s, fr, h => match e with
    | .normal => ev b s (forget fr fgt) h
    | .exit id => popS T k rs ev (.exit id) s fr h
    | .ret => popS T k rs ev .ret s fr h
  | .blk id :: s, fr, h => popS T k rs ev (if e = .exit id then .normal else e) s fr h
  | .lp j fgt c :: s, fr, h => match e with
    | .normal => loopB T k rs j fgt c s (forget fr fgt) h
    | .exit id => popS T k rs ev (.exit id) s fr h
    | .ret => popS T k rs ev .ret s fr h
/-- Step by step; it halts where a piece has a name. -/
abbrev evS (T : Tab) (k : Nat) (rs : Res) : Nat → MCode → List SF → Frm → Heap → Option (AV × Heap)
  | 0, c, s, fr, h => evB T k rs c s fr h
  | n + 1, c, s, fr, h => match c with
    | .skip => popS T k rs (evS T k rs n) .normal s fr h
    | .region ops => evalRK T (evalFn T k) ops fr h fun fr' h' => popS T k rs (evS T k rs n) .normal s fr' h'
    | .regionD N items outs => lenIs fr N (evalDK T (evalFn T k) items (fr ++ List.replicate items.length .undef) h fun frE h' => popS T k rs (evS T k rs n) .normal s (outFr fr frE outs) h')
    | .seq fgt a b => evS T k rs n a (.seq fgt b :: s) fr h
    | .cond c a b => cond2 (c.ev fr) (evS T k rs n a s fr h) (evS T k rs n b s fr h)
    | .block id c => evS T k rs n c (.blk id :: s) fr h
    | .loop fgt c => loopB T k rs k fgt c s (forget fr fgt) h
    | .exit id => popS T k rs (evS T k rs n) (.exit id) s fr h
    | .ret => popS T k rs (evS T k rs n) .ret s fr h
    | .bad => none
    | .lab c => evB T k rs c s fr h
theorem popS_eq (T : Tab) (k : Nat) (rs : Res) {ev : MCode → List SF → Frm → Heap → Option (AV × Heap)} (hev : ∀ c s fr h, ev c s fr h = evB T k rs c s fr h) : ∀ (s : List SF) (e : MExit) (fr : Frm) (h : Heap), popS T k rs ev e s fr h = kontOf T k rs s e fr h
  | [], e, fr, h => rfl
  | .seq fgt b :: s, e, fr, h => by
    cases e <;> simp only [popS, kontOf, seqK]
    · exact hev _ _ _ _
    · exact popS_eq T k rs hev s _ fr h
    · exact popS_eq T k rs hev s _ fr h
  | .blk id :: s, e, fr, h => by
    simp only [popS, kontOf, blockK]
    exact popS_eq T k rs hev s _ fr h
  | .lp j fgt c :: s, e, fr, h => by
    cases e <;> simp only [popS, kontOf, seqK]
    · rfl
    · exact popS_eq T k rs hev s _ fr h
    · exact popS_eq T k rs hev s _ fr h
theorem evS_eq (T : Tab) (k : Nat) (rs : Res) : ∀ (n : Nat) (c : MCode) (s : List SF) (fr : Frm) (h : Heap), evS T k rs n c s fr h = evB T k rs c s fr h
  | 0, _, _, _, _ => rfl
  | n + 1, c, s, fr, h => by
    have hp := popS_eq T k rs (evS_eq T k rs n)
    cases c with
    | skip => exact hp s _ fr h
    | region ops =>
      simp only [evS, evB, evalCK, hp]
    | regionD N items outs => simp only [evS, evB, evalCK, hp]
    | seq fgt a b => simp only [evS, evS_eq T k rs n]; rfl
    | cond c a b => simp only [evS, evS_eq T k rs n]; rfl
    | block id c => simp only [evS, evS_eq T k rs n]; rfl
    | loop fgt c => rfl
    | exit id => exact hp s _ fr h
    | ret => exact hp s _ fr h
    | bad => rfl
    | lab c => rfl
/-- How many steps a piece may take: enough for any text. -/
abbrev fuelS : Nat := 1000000
theorem blockEq {T : Tab} {k : Nat} {rs : Res} {c : MCode} {s : List SF} {fr : Frm} {h : Heap} {t : Option (AV × Heap)} (he : evS T k rs fuelS c s fr h = t) : evB T k rs c s fr h = t := (evS_eq ..).symm.trans he
theorem loopEq {T : Tab} {k : Nat} {rs : Res} {j : Nat} {fgt : List Nat} {c : MCode} {s : List SF} {fr : Frm} {h : Heap} {t : Option (AV × Heap)} (he : evS T k rs fuelS c (.lp j fgt c :: s) fr h = t) : loopB T k rs (j + 1) fgt c s fr h = t := (evS_eq ..).symm.trans he
theorem runEq {T : Tab} {k : Nat} {mf : MFn} {args : List AV} {h : Heap} {t : Option (AV × Heap)} (he : evS T k mf.results fuelS mf.body [] (args ++ List.replicate (mf.ntmps - args.length) .undef) h = t) : runF T k mf args h = t := (evS_eq ..).symm.trans he

def mkHint (N : Nat) (F : List (List Nat)) (D : List (Nat × List (List Nat) × List Nat)) (J : List Nat) : Hint :=
  ⟨N, fun n => F.getD n [], fun id => match D.lookup id with
    | some (p, o) => (fun i => p.getD i [], o)
    | none => (fun _ => [], []), J⟩
/-- The table of a program, where the orders and what is forgotten are told. -/
def tabOf (P : Program) (Hs : FuncId → Option Hint) (meth : TypeId → String → Option FuncId) : Tab := ⟨fun f => (Hs f).bind fun H => (P.funcs[f]?).bind fun fn => compFn P H fn, meth⟩
theorem tabOf_fn {P : Program} {Hs : FuncId → Option Hint} {meth : TypeId → String → Option FuncId} {f : FuncId} {H : Hint} {fn : Func} {mf : MFn} (h1 : Hs f = some H) (h2 : P.funcs[f]? = some fn) (h3 : compFn P H fn = some mf) : (tabOf P Hs meth).fn f = some mf := by
  simp only [tabOf, h1, h2, Option.bind_some, h3]
theorem tabOf_valid {P : Program} {Hs : FuncId → Option Hint} {meth : TypeId → String → Option FuncId} (hm : MethOk P (tabOf P Hs meth)) : Valid P (tabOf P Hs meth) := by
  refine ⟨fun f mf h => ?_, hm⟩
  simp only [tabOf, Option.bind_eq_some_iff] at h
  obtain ⟨H, h1, fn, h2, h3⟩ := h
  exact ⟨fn, H, h2, h3⟩
end Go.Gm
