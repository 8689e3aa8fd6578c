/-
  One operation by symbols, whatever its kind: that what is left to show suffices. Conditions: none (definitions and plain lemmas).
-/
import Derived.Test.YtibdneedfopcoaaEvA
set_option linter.unusedVariables false
set_option linter.unusedSimpArgs false
namespace Go.Proofs.Ytibdneedfopcoaa
open Go

/-! ### Calls -/
def resSh (P : Program) (t : TypeId) : Option (Bool × List Sh) :=
  match aggB P t, shapesOf P t with
  | some true, some l => some (true, l)
  | some false, some l => if l.length.beq 1 then some (false, l) else none
  | _, _ => none
def resShs (P : Program) : List TypeId → Option (List (Bool × List Sh))
  | [] => some []
  | t :: l => match resSh P t, resShs P l with
    | some r, some rs => some (r :: rs)
    | _, _ => none
def okRs : List (Bool × List Sh) → Bool
  | [] => true
  | (true, _) :: rs => okRs rs
  | (false, l) :: rs => l.length.beq 1 && okRs rs
def rsvs (i : Nat) : List (Bool × List Sh) → List SV
  | [] => []
  | (true, l) :: rs => .agg (Sh.svs i l) :: rsvs (i + l.length) rs
  | (false, l) :: rs => SV.get (Sh.svs i l) 0 :: rsvs (i + l.length) rs
def rsv (i : Nat) (rs : List (Bool × List Sh)) : SV :=
  match rs with
  | [_] => SV.get (rsvs i rs) 0
  | _ => .tup (rsvs i rs)
theorem FitsL.split : ∀ {l m : List Sh} {xs : List Value}, FitsL (l ++ m) xs → FitsL l (xs.take l.length) ∧ FitsL m (xs.drop l.length)
  | [], m, xs, h => by simpa using ⟨trivial, h⟩
  | s :: l, m, [], h => h.elim
  | s :: l, m, v :: xs, h => by
    obtain ⟨h1, h2⟩ := FitsL.split (l := l) h.2
    exact ⟨⟨h.1, h1⟩, h2⟩
section
variable {P : Program} {B : Beg} {G : List Value} {E : Nat → CE} {h : H} {st : St} {a : Act} {w : World}
theorem rsvs_den : ∀ {rs : List (Bool × List Sh)} {xs F : List Value}, okRs rs = true → FitsL (rshs rs) xs → SV.denL (F ++ xs) E (rsvs F.length rs) = rvals rs xs ∧ allPlain (rsvs F.length rs) = true
  | [], xs, F, _, h => ⟨rfl, rfl⟩
  | (b, l) :: rs, xs, F, ho, h => by
    obtain ⟨h1, h2⟩ := FitsL.split (l := l) h
    have hx : xs.take l.length ++ xs.drop l.length = xs := List.take_append_drop ..
    have hl : (xs.take l.length).length = l.length := h1.length.symm
    have ho' : okRs rs = true := by
      cases b with
      | true => exact ho
      | false => simp only [okRs, Bool.and_eq_true] at ho; exact ho.2
    obtain ⟨i1, i2⟩ := rsvs_den (rs := rs) (F := F ++ xs.take l.length) ho' h2
    have hF : (F ++ xs.take l.length).length = F.length + l.length := by simp only [List.length_append, hl]
    rw [hF, List.append_assoc, hx] at i1
    rw [hF] at i2
    have hat := svs_at (E := E) (F := F) (D := xs.drop l.length) h1
    rw [List.append_assoc, hx] at hat
    obtain ⟨_, p2, _⟩ := svs_den (E := E) (G := F) h1
    have hden : SV.denL (F ++ xs) E (Sh.svs F.length l) = xs.take l.length := by
      have key : ∀ {ys : List Value} {cs : List SV}, RelL (F ++ xs) E ys cs → allPlain cs = true → SV.denL (F ++ xs) E cs = ys := by
        intro ys
        induction ys with
        | nil => intro cs h _; cases cs with | nil => rfl | cons _ _ => exact h.elim
        | cons y ys ih =>
          intro cs h hp
          cases cs with
          | nil => exact h.elim
          | cons c cs =>
            simp only [allPlain, List.all_cons, Bool.and_eq_true] at hp
            simp only [SV.denL]
            rw [← h.1.plain hp.1, ih h.2 (by simp only [allPlain]; exact hp.2)]
      exact key hat p2
    cases b with
    | true =>
      simp only [rsvs, rvals, SV.denL, SV.den, hden, i1]
      refine ⟨trivial, ?_⟩
      simp only [allPlain, List.all_cons, SV.plain, Bool.true_and]
      exact i2
    | false =>
      simp only [okRs, Bool.and_eq_true, Nat.beq_eq] at ho
      match l, ho.1 with
      | [s], _ =>
        have hsv : SV.get (Sh.svs F.length [s]) 0 = s.sv F.length := rfl
        simp only [rsvs, rvals, SV.denL, hsv, i1]
        simp only [Sh.svs, SV.denL, allPlain, List.all_cons, List.all_nil, Bool.and_true] at hden p2
        constructor
        · congr 1
          cases xs with
          | nil => simp at hl
          | cons x xs => simp at hden; rw [hden]; rfl
        · simp only [allPlain, List.all_cons, p2, Bool.true_and]
          exact i2
theorem rsv_den {rs : List (Bool × List Sh)} {xs F : List Value} (ho : okRs rs = true) (hf : FitsL (rshs rs) xs) : (rsv F.length rs).den (F ++ xs) E = rval rs xs ∧ (rsv F.length rs).plain = true := by
  obtain ⟨h1, h2⟩ := rsvs_den (E := E) (F := F) ho hf
  unfold rsv rval
  split
  · rename_i r
    obtain ⟨b, l⟩ := r
    cases b <;> simp only [rsvs, rvals, SV.denL, allPlain, List.all_cons, List.all_nil, Bool.and_true, List.cons.injEq, and_true] at h1 h2 ⊢
    · exact ⟨h1, h2⟩
    · exact ⟨h1, h2⟩
  · exact ⟨by simp only [SV.den, h1], rfl⟩
def inKeys (es : List (Nat × List SV)) (k : Nat) : Bool := hasN (es.map (·.1)) k
theorem kIdx_get : ∀ {ks : List Nat} {k : Nat}, k ∈ ks → ks[kIdx ks k]? = some k
  | x :: l, k, h => by
    unfold kIdx
    split
    · rename_i hx; rw [Nat.beq_eq] at hx; rw [hx]; rfl
    · rename_i hx
      rcases List.mem_cons.1 h with e | h
      · exact absurd (by rw [Nat.beq_eq]; exact e.symm) hx
      · simpa using kIdx_get h

/-! ### One operation -/
def callArgs (st : St) (g : X) (first cap : List SV) (xs : Array Operand) : List SV := first ++ xs.toList.map (st.opr g) ++ cap
def escapes (st : St) (args : List SV) : List (Nat × List SV) := st.ch.filter fun x => !(SV.refsL (neq x.1) args)
def cshOf (st : St) (es : List (Nat × List SV)) : List (List Sh) := es.map fun x => x.2.map (svSh st)
def callTo (st : St) (dst : Option Tmp) (es : List (Nat × List SV)) (rs : List (Bool × List Sh)) : St :=
  ({ st with ch := updCh (es.map (·.1)) (svsLL st.sh.length (cshOf st es)) st.ch, sh := st.sh ++ ((cshOf st es).flatten ++ rshs rs) } : St).setT dst (rsv (st.sh.length + (cshOf st es).flatten.length) rs)
def callS (P : Program) (cf : Cfg) (st : St) (g : X) (f : FuncId) (first cap : List SV) (xs : Array Operand) (dst : Option Tmp) (k : St → Out) : Out :=
  match (P.funcs[f]?).bind (fun fn => resShs P fn.resultTypes.toList) with
  | some rs =>
    if hasN cf.calls f && okRs rs && allPlain (callArgs st g first cap xs) && SV.refsL (inKeys (escapes st (callArgs st g first cap xs))) (callArgs st g first cap xs) &&
       (escapes st (callArgs st g first cap xs)).all (fun x => allPlain x.2 && closedL x.2) && st.scOk then
      .call f (callArgs st g first cap xs) ((escapes st (callArgs st g first cap xs)).map (·.1)) ((escapes st (callArgs st g first cap xs)).map (·.2)) (cshOf st (escapes st (callArgs st g first cap xs))) rs
        (k (callTo st dst (escapes st (callArgs st g first cap xs)) rs))
    else .fail
  | none => .fail
def storeS (P : Program) (st : St) (g : X) (t : TypeId) (x v : Operand) (dst : Option Tmp) (k : St → Out) : Out :=
  match st.parts (st.opr g v), tsize P t with
  | some ms, some n => if ms.length.beq n && ms.all st.one then
      (match st.opr g x with
      | .loc l off => (match chGet l st.ch with
        | some cs => if Nat.ble (off + n) cs.length then k (({ st with ch := chSet l (splice cs off ms) st.ch } : St).setT dst undS) else .fail
        | none => .fail)
      | .ptr p => if closedL ms then .store p ms (k (st.setT dst undS)) else .fail
      | _ => .fail) else .fail
  | _, _ => .fail
def newC (P : Program) (cf : Cfg) (st : St) (g : X) (o : Op) (dst : Option Tmp) (k : St → Out) : Out :=
  match newS P st g o, dst with
  | some (e, cs, mk), some d =>
    if hasN cf.pub d then
      (if closedL cs && st.scOk then .alloc e cs mk (k (({ st with sh := st.sh ++ [mk.sh] } : St).setT dst (mk.pub st.sh.length))) else .fail)
    else if Nat.blt d 1000000 && SV.refsL (neq d) cs && refsCh (neq d) (chDel d st.ch) && SV.refsL (neq d) (st.t.set d .und) then
      k { st with t := st.t.set d (mk.sv d), ch := (d, cs) :: chDel d st.ch } else .fail
  | _, _ => .fail
def wrapG (g : X) (s : SV) : SV := if g.isT then s else if s.plain then .gd g s else .und
def loadS (P : Program) (st : St) (g gg : X) (t : TypeId) (x : Operand) (dst : Option Tmp) (k : St → Out) : Out :=
  match qLoad P st g t x with
  | some s => k (st.setT dst (wrapG gg s))
  | none => (match loadP P st g t x with
    | some (p, shs, b) => if st.scOk && gg.sc st.sh.length then .load gg p shs (k (({ st with sh := st.sh ++ shs } : St).setT dst (wrapG gg (svOf b shs st.sh.length)))) else .fail
    | none => .fail)
def execS (P : Program) (cf : Cfg) (st : St) (g : X) (o : Op) (dst : Option Tmp) (k : St → Out) : Out :=
  match qpure P st g o with
  | .val ns s => needN (.tt true) ns (k (st.setT dst s))
  | .bnd ns sh f => if st.scOk then needN (.tt true) ns (.bnd f (k (({ st with sh := st.sh ++ [sh] } : St).setT dst (sh.sv st.sh.length)))) else .fail
  | .bad => (match o with
    | .load t x => loadS P st g (.tt true) t x dst k
    | .store t x v => storeS P st g t x v dst k
    | .alloc e => newC P cf st g (.alloc e) dst k
    | .box e x => newC P cf st g (.box e x) dst k
    | .buildSlice t n ps => newC P cf st g (.buildSlice t n ps) dst k
    | .call c => (match c.callee with
      | .value f => (match st.opr g f with
        | .fn (.func f) first cap => callS P cf st g f first cap c.args dst k
        | _ => .fail)
      | .builtin .append => (match c.args.toList, c.argTypes.toList with
        | [s, x], [t, tx] => appS P st g t tx s x dst k
        | _, _ => .fail)
      | _ => .fail)
    | _ => .fail)
def forkS (P : Program) (cf : Cfg) (st : St) (g : X) (o : Op) (dst : Option Tmp) (k : St → Out) : Out :=
  .ite g (execS P cf (st.add g true) g o dst k) (k ((st.add g false).setT dst undS))
def stepOp (P : Program) (cf : Cfg) (ops : Array Oper) (o : Oper) (st : St) (k : St → Out) : Out :=
  match guardX st ops o.guard with
  | none => .fail
  | some g => (match st.test g with
    | some true => execS P cf st g o.op o.dst k
    | some false => k (st.setT o.dst undS)
    | none => (match qpure P st g o.op with
      | .val ns s => needN g ns (k (st.setT o.dst (wrapG g s)))
      | .bnd _ _ _ => forkS P cf st g o.op o.dst k
      | .bad => (match o.op with
        | .load t x => loadS P st g g t x o.dst k
        | op => forkS P cf st g op o.dst k)))
end
end Go.Proofs.Ytibdneedfopcoaa
