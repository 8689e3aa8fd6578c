/-
  One operation by symbols, whatever its kind: that what is left to show suffices. Conditions: none (definitions and plain lemmas).
-/
import Derived.Test.YtbgfabppmobpgaaDoorEb
import Derived.Deep.LoopGhost
import Derived.Scope
import Derived.OrdersHeld
set_option linter.unusedVariables false
set_option linter.unusedSimpArgs false
namespace Go.Proofs.YtbgfabppmobpgaaDoor
open Go

/-! ### Calls -/
def resSh (P : Program) (t : TypeId) : Option (Bool × List Sh) :=
  match aggB P t, shapesOf P t with
  | some true, some l => some (true, l)
  | some false, some l => if l.length.beq 1 then some (false, l) else none
  | _, _ => none
def resShs (P : Program) : List TypeId → Option (List (Bool × List Sh))
  | [] => some []
  | t :: l => match resSh P t, resShs P l with
    | some r, some rs => some (r :: rs)
    | _, _ => none
def okRs : List (Bool × List Sh) → Bool
  | [] => true
  | (true, _) :: rs => okRs rs
  | (false, l) :: rs => l.length.beq 1 && okRs rs
def rsvs (i : Nat) : List (Bool × List Sh) → List SV
  | [] => []
  | (true, l) :: rs => .agg (Sh.svs i l) :: rsvs (i + l.length) rs
  | (false, l) :: rs => SV.get (Sh.svs i l) 0 :: rsvs (i + l.length) rs
def rsv (i : Nat) (rs : List (Bool × List Sh)) : SV :=
  match rs with
  | [_] => SV.get (rsvs i rs) 0
  | _ => .tup (rsvs i rs)
theorem FitsL.split : ∀ {l m : List Sh} {xs : List Value}, FitsL (l ++ m) xs → FitsL l (xs.take l.length) ∧ FitsL m (xs.drop l.length)
  | [], m, xs, h => by simpa using ⟨trivial, h⟩
  | s :: l, m, [], h => h.elim
  | s :: l, m, v :: xs, h => by
    obtain ⟨h1, h2⟩ := FitsL.split (l := l) h.2
    exact ⟨⟨h.1, h1⟩, h2⟩
section
variable {P : Program} {B : Beg} {G : List Value} {E : Nat → CE} {h : H} {st : St} {a : Act} {w : World}
theorem rsvs_den : ∀ {rs : List (Bool × List Sh)} {xs F : List Value}, okRs rs = true → FitsL (rshs rs) xs → SV.denL (F ++ xs) E (rsvs F.length rs) = rvals rs xs ∧ allPlain (rsvs F.length rs) = true
  | [], xs, F, _, h => ⟨rfl, rfl⟩
  | (b, l) :: rs, xs, F, ho, h => by
    obtain ⟨h1, h2⟩ := FitsL.split (l := l) h
    have hx : xs.take l.length ++ xs.drop l.length = xs := List.take_append_drop ..
    have hl : (xs.take l.length).length = l.length := h1.length.symm
    have ho' : okRs rs = true := by
      cases b with
      | true => exact ho
      | false => simp only [okRs, Bool.and_eq_true] at ho; exact ho.2
    obtain ⟨i1, i2⟩ := rsvs_den (rs := rs) (F := F ++ xs.take l.length) ho' h2
    have hF : (F ++ xs.take l.length).length = F.length + l.length := by simp only [List.length_append, hl]
    rw [hF, List.append_assoc, hx] at i1
    rw [hF] at i2
    have hat := svs_at (E := E) (F := F) (D := xs.drop l.length) h1
    rw [List.append_assoc, hx] at hat
    obtain ⟨_, p2, _⟩ := svs_den (E := E) (G := F) h1
    have hden : SV.denL (F ++ xs) E (Sh.svs F.length l) = xs.take l.length := by
      have key : ∀ {ys : List Value} {cs : List SV}, RelL (F ++ xs) E ys cs → allPlain cs = true → SV.denL (F ++ xs) E cs = ys := by
        intro ys
        induction ys with
        | nil => intro cs h _; cases cs with | nil => rfl | cons _ _ => exact h.elim
        | cons y ys ih =>
          intro cs h hp
          cases cs with
          | nil => exact h.elim
          | cons c cs =>
            simp only [allPlain, List.all_cons, Bool.and_eq_true] at hp
            simp only [SV.denL]
            rw [← h.1.plain hp.1, ih h.2 (by simp only [allPlain]; exact hp.2)]
      exact key hat p2
    cases b with
    | true =>
      simp only [rsvs, rvals, SV.denL, SV.den, hden, i1]
      refine ⟨trivial, ?_⟩
      simp only [allPlain, List.all_cons, SV.plain, Bool.true_and]
      exact i2
    | false =>
      simp only [okRs, Bool.and_eq_true, Nat.beq_eq] at ho
      match l, ho.1 with
      | [s], _ =>
        have hsv : SV.get (Sh.svs F.length [s]) 0 = s.sv F.length := rfl
        simp only [rsvs, rvals, SV.denL, hsv, i1]
        simp only [Sh.svs, SV.denL, allPlain, List.all_cons, List.all_nil, Bool.and_true] at hden p2
        constructor
        · congr 1
          cases xs with
          | nil => simp at hl
          | cons x xs => simp at hden; rw [hden]; rfl
        · simp only [allPlain, List.all_cons, p2, Bool.true_and]
          exact i2
theorem rsv_den {rs : List (Bool × List Sh)} {xs F : List Value} (ho : okRs rs = true) (hf : FitsL (rshs rs) xs) : (rsv F.length rs).den (F ++ xs) E = rval rs xs ∧ (rsv F.length rs).plain = true := by
  obtain ⟨h1, h2⟩ := rsvs_den (E := E) (F := F) ho hf
  unfold rsv rval
  split
  · rename_i r
    obtain ⟨b, l⟩ := r
    cases b <;> simp only [rsvs, rvals, SV.denL, allPlain, List.all_cons, List.all_nil, Bool.and_true, List.cons.injEq, and_true] at h1 h2 ⊢
    · exact ⟨h1, h2⟩
    · exact ⟨h1, h2⟩
  · exact ⟨by simp only [SV.den, h1], rfl⟩
def inKeys (es : List (Nat × List SV)) (k : Nat) : Bool := hasN (es.map (·.1)) k
theorem kIdx_get : ∀ {ks : List Nat} {k : Nat}, k ∈ ks → ks[kIdx ks k]? = some k
  | x :: l, k, h => by
    unfold kIdx
    split
    · rename_i hx; rw [Nat.beq_eq] at hx; rw [hx]; rfl
    · rename_i hx
      rcases List.mem_cons.1 h with e | h
      · exact absurd (by rw [Nat.beq_eq]; exact e.symm) hx
      · simpa using kIdx_get h

/-! ### One operation -/
def callArgs (st : St) (g : X) (first cap : List SV) (xs : Array Operand) : List SV := first ++ xs.toList.map (st.opr g) ++ cap
def escapes (st : St) (args : List SV) : List (Nat × List SV) := st.ch.filter fun x => !(SV.refsL (neq x.1) args)
def cshOf (st : St) (es : List (Nat × List SV)) : List (List Sh) := es.map fun x => x.2.map (svSh st)
def callTo (st : St) (dst : Option Tmp) (es : List (Nat × List SV)) (rs : List (Bool × List Sh)) : St :=
  ({ st with ch := updCh (es.map (·.1)) (svsLL st.sh.length (cshOf st es)) st.ch, sh := st.sh ++ ((cshOf st es).flatten ++ rshs rs) } : St).setT dst (rsv (st.sh.length + (cshOf st es).flatten.length) rs)
def callS (P : Program) (cf : Cfg) (st : St) (g : X) (f : FuncId) (first cap : List SV) (xs : Array Operand) (dst : Option Tmp) (k : St → Out) : Out :=
  match (P.funcs[f]?).bind (fun fn => resShs P fn.resultTypes.toList) with
  | some rs =>
    if hasN cf.calls f && okRs rs && allPlain (callArgs st g first cap xs) && SV.refsL (inKeys (escapes st (callArgs st g first cap xs))) (callArgs st g first cap xs) &&
       (escapes st (callArgs st g first cap xs)).all (fun x => allPlain x.2 && closedL x.2) && st.scOk then
      .call f (callArgs st g first cap xs) ((escapes st (callArgs st g first cap xs)).map (·.1)) ((escapes st (callArgs st g first cap xs)).map (·.2)) (cshOf st (escapes st (callArgs st g first cap xs))) rs
        (k (callTo st dst (escapes st (callArgs st g first cap xs)) rs))
    else .fail
  | none => .fail
/-- What a call of a function value answers, as the one who prints tells it: by codes of shapes, under the slot's number and two millions. -/
def shOfCode (n : Nat) : Sh :=
  match n with
  | 0 => .bool | 1 => .str | 2 => .sl | 3 => .ptr | 4 => .map | 5 => .fn | 10 => .int .i64 | 11 => .int .u8 | 12 => .int .u16 | 13 => .int .u32 | 14 => .int .u64 | _ => .any
def rsOfCode : List (Nat × Nat) → List Nat → List (Bool × List Sh)
  | [], _ => []
  | (a, n) :: l, cs => (a.beq 1, (cs.take n).map shOfCode) :: rsOfCode l (cs.drop n)
def retOf : List (Nat × List Nat × List (Nat × Nat) × List Nat) → Nat → Option (List (Bool × List Sh))
  | [], _ => none
  | (j, _, a, b) :: l, d => if j.beq (2000000 + d) then some (rsOfCode a b) else retOf l d
def retD (cf : Cfg) : Option Tmp → Option (List (Bool × List Sh))
  | none => some []
  | some d => retOf cf.loops d
def callvS (cf : Cfg) (st : St) (g : X) (s : SV) (xs : Array Operand) (dst : Option Tmp) (k : St → Out) : Out :=
  match retD cf dst with
  | some rs => if okRs rs && s.plain && closed s && allPlain (xs.toList.map (st.opr g)) && closedL (xs.toList.map (st.opr g)) && st.scOk then .callv s (xs.toList.map (st.opr g)) rs (k (callTo st dst [] rs)) else .fail
  | none => .fail
def storeS (P : Program) (st : St) (g : X) (t : TypeId) (x v : Operand) (dst : Option Tmp) (k : St → Out) : Out :=
  match st.parts (st.opr g v), tsize P t with
  | some ms, some n => if ms.length.beq n && ms.all st.one then
      (match st.opr g x with
      | .loc l off => (match chGet l st.ch with
        | some cs => if Nat.ble (off + n) cs.length then k (({ st with ch := chSet l (splice cs off ms) st.ch } : St).setT dst undS) else .fail
        | none => .fail)
      | .ptr p => if closedL ms then .store p ms (k (st.setT dst undS)) else .fail
      | _ => .fail) else .fail
  | _, _ => .fail
def newC (P : Program) (cf : Cfg) (st : St) (g : X) (o : Op) (dst : Option Tmp) (k : St → Out) : Out :=
  match newS P st g o, dst with
  | some (e, cs, mk), some d =>
    if hasN cf.pub d then
      (if closedL cs && st.scOk then .alloc e cs mk (k (({ st with sh := st.sh ++ [mk.sh] } : St).setT dst (mk.pub st.sh.length))) else .fail)
    else if Nat.blt d 1000000 && SV.refsL (neq d) cs && refsCh (neq d) (chDel d st.ch) && SV.refsL (neq d) (st.t.set d .und) then
      k { st with t := st.t.set d (mk.sv d), ch := (d, cs) :: chDel d st.ch } else .fail
  | _, _ => .fail
def wrapG (g : X) (s : SV) : SV := if g.isT then s else if s.plain then .gd g s else .und
def loadS (P : Program) (st : St) (g gg : X) (t : TypeId) (x : Operand) (dst : Option Tmp) (k : St → Out) : Out :=
  match qLoad P st g t x with
  | some s => k (st.setT dst (wrapG gg s))
  | none => (match loadP P st g t x with
    | some (p, shs, b) => if st.scOk && gg.sc st.sh.length then .load gg p shs (k (({ st with sh := st.sh ++ shs } : St).setT dst (wrapG gg (svOf b shs st.sh.length)))) else .fail
    | none => .fail)
def execS (P : Program) (cf : Cfg) (st : St) (g : X) (o : Op) (dst : Option Tmp) (k : St → Out) : Out :=
  match qpure P st g o with
  | .val ns s => needN (.tt true) ns (k (st.setT dst s))
  | .bnd ns sh f => if st.scOk then needN (.tt true) ns (.bnd f (k (({ st with sh := st.sh ++ [sh] } : St).setT dst (sh.sv st.sh.length)))) else .fail
  | .bad => (match o with
    | .load t x => loadS P st g (.tt true) t x dst k
    | .store t x v => storeS P st g t x v dst k
    | .alloc e => newC P cf st g (.alloc e) dst k
    | .box e x => newC P cf st g (.box e x) dst k
    | .buildSlice t n ps => newC P cf st g (.buildSlice t n ps) dst k
    | .call c => (match c.callee with
      | .value f => (match st.opr g f with
        | .fn (.func f) first cap => callS P cf st g f first cap c.args dst k
        | s => callvS cf st g s c.args dst k)
      | .builtin .append => (match c.args.toList, c.argTypes.toList with
        | [s, x], [t, tx] => appS P st g t tx s x dst k
        | _, _ => .fail)
      | .builtin .copy => (match c.args.toList, c.argTypes.toList with
        | [d, s], [t, tx] => copyS P st g t d s dst k
        | _, _ => .fail)
      | .builtin .clear => (match c.args.toList, c.argTypes.toList with
        | [x], [t] => clrS P st g t x dst k
        | _, _ => .fail)
      | .builtin .delete => (match c.args.toList, c.argTypes.toList with
        | [m, i], [t, tx] => mdelS P st g t m i dst k
        | _, _ => .fail)
      | _ => .fail)
    | .makeSlice t l c => mkS P st g t l c dst k
    | .makeMap t r => mkMapS st r dst k
    | .lookup t x i ok => lookS P st g t x i ok dst k
    | .mapUpdate t m i x => mupdS P st g t m i x dst k
    | .insert t m i x => mupdS P st g t m i x dst k
    | .convert s d x => bstrS P st g s d x dst k
    | .mapEntry t m i => mentS P st g t m i dst k
    | .entryStore t m s x => entsS st g m s x dst k
    | _ => .fail)
/-- The two ways of a guard, its parts one by one. -/
def forkG : X → St → (St → Out) → (St → Out) → Out
  | .and a b, st, y, n => forkG a st (fun s => forkG b s y n) n
  | g, st, y, n => match st.test g with
    | some true => y st
    | some false => n st
    | none => .ite g (y (st.add g true)) (n (st.add g false))
def forkS (P : Program) (cf : Cfg) (st : St) (g : X) (o : Op) (dst : Option Tmp) (k : St → Out) : Out :=
  if hasN cf.pub 1000003 then forkG g st (fun st => execS P cf st g o dst k) (fun st => k (st.setT dst undS))
  else .ite g (execS P cf (st.add g true) g o dst k) (k ((st.add g false).setT dst undS))
def stepOp (P : Program) (cf : Cfg) (ops : Array Oper) (o : Oper) (st : St) (k : St → Out) : Out :=
  match guardX st ops o.guard with
  | none => .fail
  | some g => (match st.test g with
    | some true => execS P cf st g o.op o.dst k
    | some false => k (st.setT o.dst undS)
    | none => (match qpure P st g o.op with
      | .val ns s => needN g ns (k (st.setT o.dst (wrapG g s)))
      | .bnd _ _ _ => forkS P cf st g o.op o.dst k
      | .bad => (match o.op with
        | .load t x => loadS P st g g t x o.dst k
        | op => forkS P cf st g op o.dst k)))
end
end Go.Proofs.YtbgfabppmobpgaaDoor

/-
  One operation by symbols: that what is left to show suffices. Conditions: the entry of each function that is called is known ('CallOK').
-/
set_option linter.unusedVariables false
set_option linter.unusedSimpArgs false
namespace Go.Proofs.YtbgfabppmobpgaaDoor
open Go

def Cont (P : Program) (B : Beg) (R : Value → List (List Value) → H → Prop) (L : Lv) (N : Act → World → Prop) (k : St → Out) : Prop :=
  ∀ (G : List Value) (E : Nat → CE) (h : H) (st : St) (a : Act) (w : World), SatA G E st a → SatW B G E h st.ch w → holds P R (k st) G L h → N a w
section
variable {P : Program} {B : Beg} {G : List Value} {E : Nat → CE} {h : H} {st : St} {a : Act} {w : World} {R : Value → List (List Value) → H → Prop} {L : Lv} {N : Act → World → Prop}
  {Q : Exit → Act → World → Prop} {k : St → Out} {g : X} {dst : Option Tmp} {cf : Cfg} {ty : TypeId} {pos : String} {after : Array Edge} {guard : Option (Nat × Bool)}

theorem setT_ch (st : St) (dst : Option Tmp) (s : SV) : (st.setT dst s).ch = st.ch := by cases dst <;> rfl
theorem wrapG_rel {v : Value} {s : SV} (hg : vb (g.den G) = true) (hr : Rel G E v s) (hng : ∀ g t, s ≠ .gd g t) : Rel G E v (wrapG g s) := by
  unfold wrapG
  split
  · exact hr
  · split
    · rename_i hp
      show (if vb (g.den G) then v = s.den G E else v = undef)
      rw [if_pos hg]; exact hr.plain hp
    · trivial
theorem wrapG_undef {s : SV} (hg : vb (g.den G) = false) : Rel G E undef (wrapG g s) := by
  unfold wrapG
  split
  · rename_i h
    unfold X.isT at h
    split at h
    · simp [X.den] at hg
    · cases h
  · split
    · show (if vb (g.den G) then undef = s.den G E else undef = undef)
      rw [if_neg (by simp [hg])]
    · trivial
theorem plain_nogd {s : SV} (h : s.plain = true) : ∀ g t, s ≠ .gd g t := by intro g t e; rw [e] at h; cases h
theorem undS_rel : Rel G E undef undS := rfl
theorem allOne (hA : SatA G E st a) {ms : List SV} (h : ms.all st.one = true) : allPlain ms = true ∧ ∀ v ∈ SV.denL G E ms, v.oneCell' = true := by
  simp only [List.all_eq_true] at h
  constructor
  · simp only [allPlain, List.all_eq_true]
    exact fun s hs => (one_cells (E := E) hA (h s hs)).2.1
  · intro v hv
    rw [SV.denL_eq, List.mem_map] at hv
    obtain ⟨s, hs, rfl⟩ := hv
    exact (one_cells hA (h s hs)).2.2

theorem loadS_sound (hA : SatA G E st a) (hW : SatW B G E h st.ch w) (hg : vb (g.den G) = true) {gg : X} (hgg : vb (gg.den G) = true) {t : TypeId} {x : Operand}
    (H : holds P R (loadS P st g gg t x dst k) G L h) (hk : Cont P B R L N k) : (⟨dst, .load t x, ty, pos, after, guard⟩ : Oper).wp P a w N Q := by
  unfold loadS at H
  split at H
  · rename_i s hq
    obtain ⟨hp, hrun⟩ := sound_load hA hW hg hq dst ty pos after guard
    unfold Oper.wp
    rw [hrun, Oper.upon_value]
    exact hk _ _ _ _ _ _ (hA.put dst (wrapG_rel hgg (Rel.of (fun _ => rfl) (plain_nogd hp)) (plain_nogd hp))) (by rw [setT_ch]; exact hW) H
  · split at H
    · rename_i p shs b hq
      split at H
      · rename_i hsc
        simp only [Bool.and_eq_true] at hsc
        obtain ⟨xs, hf, hr, H⟩ := H
        obtain ⟨hrun, hp⟩ := loadP_run (E := E) hA hW.hsub hg hq hf (hr hgg) dst ty pos after guard
        unfold Oper.wp
        rw [hrun, Oper.upon_value]
        have hA' := hA.extend hsc.1 hf
        have hgg' : vb (gg.den (G ++ xs)) = true := by rw [X.den_append (by rw [← hA.len]; exact hsc.2)]; exact hgg
        refine hk _ _ _ _ _ _ (hA'.put dst (wrapG_rel hgg' (Rel.of (fun _ => by rw [hA.len]) ?_) ?_)) (by rw [setT_ch]; exact hW.extend hA hsc.1 xs) H
        · rw [hA.len]; exact plain_nogd hp
        · rw [hA.len]; exact plain_nogd hp
      · exact H.elim
    · exact H.elim
theorem loadS_skip (hA : SatA G E st a) (hW : SatW B G E h st.ch w) {gg : X} (hgg : vb (gg.den G) = false) {t : TypeId} {x : Operand}
    (H : holds P R (loadS P st g gg t x dst k) G L h) (hk : Cont P B R L N k) : N (a.put dst undef) w := by
  unfold loadS at H
  split at H
  · exact hk _ _ _ _ _ _ (hA.put dst (wrapG_undef hgg)) (by rw [setT_ch]; exact hW) H
  · split at H
    · split at H
      · rename_i hsc
        simp only [Bool.and_eq_true] at hsc
        obtain ⟨xs, hf, hr, H⟩ := H
        have hA' := hA.extend hsc.1 hf
        have hgg' : vb (gg.den (G ++ xs)) = false := by rw [X.den_append (by rw [← hA.len]; exact hsc.2)]; exact hgg
        exact hk _ _ _ _ _ _ (hA'.put dst (wrapG_undef hgg')) (by rw [setT_ch]; exact hW.extend hA hsc.1 xs) H
      · exact H.elim
    · exact H.elim
theorem storeS_sound (hA : SatA G E st a) (hW : SatW B G E h st.ch w) (hg : vb (g.den G) = true) {t : TypeId} {x v : Operand}
    (H : holds P R (storeS P st g t x v dst k) G L h) (hk : Cont P B R L N k) : (⟨dst, .store t x v, ty, pos, after, guard⟩ : Oper).wp P a w N Q := by
  unfold storeS at H
  split at H
  · rename_i ms n hms hn
    split at H
    · rename_i hc
      simp only [Bool.and_eq_true, Nat.beq_eq] at hc
      obtain ⟨c1, c2, c3⟩ := parts_den (E := E) hA hms
      obtain ⟨o1, o2⟩ := allOne (E := E) hA hc.2
      have hv := opr_den hA hg rfl c2
      have hsz : (a.eval v).cells.size = n := by rw [hv, c1]; simp [SV.denL_eq, hc.1]
      have hcl : (a.eval v).cells.toList = SV.denL G E ms := by rw [hv, c1]
      split at H
      · rename_i l off hx
        have hxa := opr_den hA hg hx rfl
        split at H
        · rename_i cs hcs
          split at H
          · rename_i hle
            rw [Nat.ble_eq] at hle
            obtain ⟨hrun, hW'⟩ := hW.store (P := P) (off := off) (ms := ms) hcs (by omega) o1 o2
            unfold Oper.wp
            have : (execOp a.eval ⟨dst, .store t x v, ty, pos, after, guard⟩).run P w = .ok .skip (setsW w ((E l).at off) (SV.denL G E ms) 0) := by
              simp only [execOp, Instr.storeAt, hxa, SV.den, CE.ptr, Instr.sureAddr, Sem.run_bind, Sem.run_pure, Result.andThen_ok, storeVar, run_tsize hn, hsz, ne_eq, not_true_eq_false, if_false, hcl]
              rw [hrun]; rfl
            rw [this, Oper.upon_skip]
            exact hk _ _ _ _ _ _ (SatA.put (st := { st with ch := chSet l (splice cs off ms) st.ch }) ⟨hA.size, hA.tmps, hA.nodef, hA.fits, hA.kn⟩ dst undS_rel) (by rw [setT_ch]; exact hW') H
          · exact H.elim
        · exact H.elim
      · rename_i p hx
        have hxa := opr_den hA hg hx rfl
        split at H
        · rename_i hcd
          obtain ⟨hw, H⟩ := H
          have hdd := closedL_den (G := G) (E := E) hcd
          have hlen : (SV.denL G E ms).length = ms.length := by simp [SV.denL_eq]
          have hrun : (storeCells (p.den G) (SV.denL G E ms)).run P w = .ok () (setsW w (p.den G) (SV.denL G E ms) 0) := by
            refine run_sets _ _ 0 w (fun j hj => ?_) o2
            rw [Nat.zero_add]
            obtain ⟨w1, w2⟩ := hw j (by omega)
            exact sub_frozen hW.hsub w1 w2
          unfold Oper.wp
          have : (execOp a.eval ⟨dst, .store t x v, ty, pos, after, guard⟩).run P w = .ok .skip (setsW w (p.den G) (SV.denL G E ms) 0) := by
            simp only [execOp, Instr.storeAt, hxa, SV.den, Instr.sureAddr, Sem.run_bind, Sem.run_pure, Result.andThen_ok, storeVar, run_tsize hn, hsz, ne_eq, not_true_eq_false, if_false, hcl]
            rw [hrun]; rfl
          rw [this, Oper.upon_skip]
          have hWp := hW.pub (p.den G) (SV.denL G E ms) (fun hne => by
            have h0 := hw 0 (by rw [← hlen]; exact List.length_pos_iff.2 hne)
            exact cell_block h0.1)
          exact hk _ _ _ _ _ _ (hA.put dst undS_rel) (by rw [setT_ch]; exact hWp) (by rw [hdd]; exact H)
        · exact H.elim
      · exact H.elim
    · exact H.elim
  · exact H.elim
theorem newC_sound (hA : SatA G E st a) (hW : SatW B G E h st.ch w) (hg : vb (g.den G) = true) {o : Op}
    (H : holds P R (newC P cf st g o dst k) G L h) (hk : Cont P B R L N k) : (⟨dst, o, ty, pos, after, guard⟩ : Oper).wp P a w N Q := by
  unfold newC at H
  split at H
  · rename_i e cs mk d hn
    obtain ⟨arr, hrun, harr, hpl⟩ := newS_run (w := w) hA hg hn (some d) ty pos after guard
    unfold Oper.wp
    rw [hrun, Oper.upon_value]
    split at H
    · split at H
      · rename_i hc
        simp only [Bool.and_eq_true] at hc
        have H := H w.heap.size (h_size hW.hsub (Nat.le_refl _))
        have hfit : FitsL [mk.sh] [mk.val w.heap.size] := by
          cases mk with
          | loc => exact ⟨⟨_, rfl⟩, trivial⟩
          | lsl n => exact ⟨⟨_, _, _, rfl, ⟨(fun e => by cases e), Nat.le_refl _⟩⟩, trivial⟩
        have harr' : arr = (SV.denL G dE cs).toArray := by rw [← closedL_den (E := E) hc.1, ← harr]
        rw [← harr'] at H
        have hrel : Rel (G ++ [mk.val w.heap.size]) E (mk.val w.heap.size) (mk.pub st.sh.length) := by
          have hgv : gv (G ++ [mk.val w.heap.size]) G.length = mk.val w.heap.size := by simp [gv, List.getD_eq_getElem?_getD]
          rw [hA.len]
          cases mk with
          | loc => show _ = Value.pointer (some (vaddr (gv _ _))); rw [hgv]; rfl
          | lsl n => show _ = gv _ _; rw [hgv]
        exact hk _ _ _ _ _ _ ((hA.extend hc.2 hfit).put _ hrel) (by rw [setT_ch]; exact (hW.pubNew _).extend (st := st) hA hc.2 _) H
      · exact H.elim
    · split at H
      · rename_i hc
        simp only [Bool.and_eq_true, Nat.blt_eq] at hc
        have hr : RelL G E arr.toList cs := by rw [harr]; exact RelL_den hpl
        have hW' := hW.new (elem := e) hc.1.1.1 hr hc.1.1.2 hc.1.2
        refine hk G _ h { st with t := st.t.set d (mk.sv d), ch := (d, cs) :: chDel d st.ch } _ _ ?_ hW' H
        have hA1 : SatA G E ({ st with t := st.t.set d .und } : St) (a.put (some d) (mk.val w.heap.size)) := hA.put (some d) (s := .und) trivial
        have hA2 := hA1.env (F := envPut E d ⟨w.heap.size, [], [], e, (0, 0)⟩) neq_env hc.2
        have hA3 := hA2.put (some d) (v := mk.val w.heap.size) (s := mk.sv d) (by
          cases mk with
          | loc => show _ = (envPut E d _ d).ptr 0; rw [envPut_eq]; rfl
          | lsl n => show _ = Value.slice (some ((envPut E d _ d).at 0)) n n; rw [envPut_eq]; rfl)
        refine ⟨?_, ?_, hA3.nodef, hA3.fits, hA3.kn⟩
        · have := hA3.size; simpa [St.setT, Act.put] using this
        · have := hA3.tmps; simpa [St.setT, Act.put] using this
      · exact H.elim
  · exact H.elim
end
end Go.Proofs.YtbgfabppmobpgaaDoor

/-
  One operation by symbols, calls among them: that what is left to show suffices. Conditions: the entry of each function that is called is known ('CallOK').
-/
set_option linter.unusedVariables false
set_option linter.unusedSimpArgs false
namespace Go.Proofs.YtbgfabppmobpgaaDoor
open Go

section
variable {P : Program} {B : Beg} {G : List Value} {E : Nat → CE} {h : H} {st : St} {a : Act} {w : World} {R : Value → List (List Value) → H → Prop} {L : Lv} {N : Act → World → Prop}
  {Q : Exit → Act → World → Prop} {k : St → Out} {g : X} {dst : Option Tmp} {cf : Cfg} {ty : TypeId} {pos : String} {after : Array Edge} {guard : Option (Nat × Bool)}

theorem denL_append' (l m : List SV) : SV.denL G E (l ++ m) = SV.denL G E l ++ SV.denL G E m := by simp [SV.denL_eq]
theorem vals_of {G : List Value} {E : Nat → CE} : ∀ {l : List Value} {cs : List SV}, RelL G E l cs → allPlain cs = true → l = SV.denL G E cs
  | [], [], _, _ => rfl
  | v :: l, c :: cs, h, hp => by
    simp only [allPlain, List.all_cons, Bool.and_eq_true] at hp
    simp only [SV.denL]
    rw [← h.1.plain hp.1, ← vals_of h.2 (by simp only [allPlain]; exact hp.2)]
theorem callS_sound (hC : CallOK P cf.calls) (hA : SatA G E st a) (hW : SatW B G E h st.ch w) (hg : vb (g.den G) = true) {f : FuncId} {first cap : List SV} {c : Call} {fo : Operand} (hco : c.callee = .value fo)
    (hfo : st.opr g fo = .fn (.func f) first cap)
    (H : holds P R (callS P cf st g f first cap c.args dst k) G L h) (hk : Cont P B R L N k) : (⟨dst, .call c, ty, pos, after, guard⟩ : Oper).wp P a w N Q := by
  unfold callS at H
  split at H
  · rename_i rs hrs
    split at H
    · rename_i hc
      simp only [Bool.and_eq_true] at hc
      obtain ⟨⟨⟨⟨⟨hcalls, hok⟩, hpl⟩, hrefs⟩, hes⟩, hsc⟩ := hc
      generalize hargs : callArgs st g first cap c.args = args at H hpl hrefs hes
      generalize hesd : escapes st args = es at H hrefs hes
      have hsub : es.Sublist st.ch := by rw [← hesd]; exact List.filter_sublist
      have hfv := opr_den hA hg hfo rfl
      -- the arguments
      have happ : allPlain (c.args.toList.map (st.opr g)) = true := by
        simp only [allPlain, List.all_eq_true] at hpl ⊢
        intro s hs
        refine hpl s ?_
        rw [← hargs]
        unfold callArgs
        exact List.mem_append_left _ (List.mem_append_right _ hs)
      have hargv := oprs_den hA hg c.args happ
      have hall : (SV.denL G E first).toArray ++ c.args.map a.eval ++ (SV.denL G E cap).toArray = (SV.denL G E args).toArray := by
        rw [hargv, ← hargs]
        unfold callArgs
        rw [denL_append', denL_append']
        simp
      have hrun : (execOp a.eval ⟨dst, .call c, ty, pos, after, guard⟩).run P w = .ok (.enter f (SV.denL G E args).toArray) w := by
        simp only [execOp, resolve, hco, Sem.run_bind, hfv, SV.den, Deferred.ofValue, Sem.run_pure, Result.andThen_ok, invoke]
        rw [hall]
        exact hC f (hasN_mem hcalls) _ _
      unfold Oper.wp
      rw [hrun, Oper.upon_enter]
      -- the contract
      have hmem : ∀ x ∈ es, x ∈ st.ch := fun x hx => hsub.subset hx
      have hden : SV.denL G (fun j => (es.map fun x => E x.1).getD (kIdx (es.map (·.1)) j) default) args = SV.denL G E args := by
        refine SV.denL_env (f := inKeys es) (fun l hl => ?_) args hrefs
        have := kIdx_get (hasN_mem hl)
        rw [List.getElem?_map, Option.map_eq_some_iff] at this
        obtain ⟨y, hy, hyl⟩ := this
        rw [List.getD_eq_getElem?_getD, List.getElem?_map, hy]
        simp [hyl]
      have hCh : ChunksV (es.map fun x => E x.1) ((es.map (·.2)).map (SV.denL G dE)) w := by
        intro i ce l h1 h2
        rw [List.getElem?_map, Option.map_eq_some_iff] at h1
        obtain ⟨y, hy, rfl⟩ := h1
        rw [List.getElem?_map, List.getElem?_map, hy] at h2
        simp only [Option.map_some, Option.some.injEq] at h2
        have hym := hmem y (List.mem_of_getElem? hy)
        simp only [List.all_eq_true, Bool.and_eq_true] at hes
        obtain ⟨e1, e2⟩ := hes y (List.mem_of_getElem? hy)
        obtain ⟨f1, l', f2, f3⟩ := hW.chunks y.1 y.2 hym
        have := vals_of f3 e1
        rw [closedL_den e2] at this
        rw [← h2, ← this]
        exact ⟨by rw [f3.length]; exact f1, f2⟩
      have hno : ∀ ce ∈ es.map (fun x => E x.1), h ce.blk = none := by
        intro ce hce
        obtain ⟨y, hy, rfl⟩ := List.mem_map.1 hce
        exact hW.hid y.1 y.2 (hmem y hy)
      have hpw : (es.map fun x => E x.1).Pairwise (fun c d => c.blk ≠ d.blk) :=
        List.Pairwise.map (R := fun x y : Nat × List SV => (E x.1).blk ≠ (E y.1).blk) (fun x : Nat × List SV => E x.1) (fun _ _ h => h) (hW.dist.sublist hsub)
      have := H w (es.map fun x => E x.1) (by simp) hCh hno hpw hW.hsub
      dsimp only at this
      rw [hden] at this
      refine this.mono fun e w' ⟨v, cs', h', he, ⟨xs, hfx, hv, hfit, HK⟩, hlen, hCV, hF, hsub', hno'⟩ => ?_
      subst he
      simp only
      have hflen : (cs'.flatten).length = (cshOf st es).flatten.length := (FitsLL.flat hfit).length.symm
      have hsc' : scCh G.length st.ch = true := by
        have := hsc; simp only [St.scOk, Bool.and_eq_true, hA.len] at this; exact this.1.2
      have hcl : (cshOf st es).map List.length = es.map fun x => x.2.length := by simp [cshOf]
      have hW' := hW.call (D := xs) hsub hsc' hF hCV hsub' hno' hfit hcl
      rw [List.append_assoc] at hW'
      have hA' := hA.extend hsc ((FitsLL.flat hfit).append hfx)
      have hrv := rsv_den (E := E) (F := G ++ cs'.flatten) hok hfx
      have hidx : (G ++ cs'.flatten).length = st.sh.length + (cshOf st es).flatten.length := by rw [List.length_append, hflen, hA.len]
      rw [hidx, List.append_assoc] at hrv
      refine hk (G ++ (cs'.flatten ++ xs)) E h' (callTo st dst es rs) _ _ ?_ ?_ HK
      · unfold callTo
        have hA'' : SatA (G ++ (cs'.flatten ++ xs)) E ({ st with ch := updCh (es.map (·.1)) (svsLL st.sh.length (cshOf st es)) st.ch, sh := st.sh ++ ((cshOf st es).flatten ++ rshs rs) } : St) a :=
          ⟨hA'.size, hA'.tmps, hA'.nodef, hA'.fits, hA'.kn⟩
        exact hA''.put dst (by rw [hv, ← hrv.1]; exact Rel.of (fun _ => rfl) (plain_nogd hrv.2))
      · unfold callTo
        rw [setT_ch]
        simp only
        rw [hA.len]
        exact hW'
    · exact H.elim
  · exact H.elim

theorem callvS_sound (hA : SatA G E st a) (hW : SatW B G E h st.ch w) (hg : vb (g.den G) = true) {c : Call} {fo : Operand} (hco : c.callee = .value fo)
    (H : holds P R (callvS cf st g (st.opr g fo) c.args dst k) G L h) (hk : Cont P B R L N k) : (⟨dst, .call c, ty, pos, after, guard⟩ : Oper).wp P a w N Q := by
  unfold callvS at H
  split at H
  · rename_i rs hrs
    split at H
    · rename_i hc
      simp only [Bool.and_eq_true] at hc
      obtain ⟨⟨⟨⟨⟨hok, hpl⟩, hcl⟩, happ⟩, hcA⟩, hsc⟩ := hc
      have hfv := opr_den (x := fo) hA hg rfl hpl
      rw [closed_den hcl] at hfv
      have hargv := oprs_den hA hg c.args happ
      rw [closedL_den hcA] at hargv
      obtain ⟨f, first, cap, hfe, hent, H⟩ := H
      have hall : first ++ c.args.map a.eval ++ cap = (first.toList ++ SV.denL G dE (c.args.toList.map (st.opr g)) ++ cap.toList).toArray := by
        rw [hargv]; simp
      have hrun : (execOp a.eval ⟨dst, .call c, ty, pos, after, guard⟩).run P w = .ok (.enter f (first.toList ++ SV.denL G dE (c.args.toList.map (st.opr g)) ++ cap.toList).toArray) w := by
        simp only [execOp, resolve, hco, Sem.run_bind, hfv, hfe, Deferred.ofValue, Sem.run_pure, Result.andThen_ok, invoke]
        rw [hall]
        exact hent _ _
      unfold Oper.wp
      rw [hrun, Oper.upon_enter]
      have := H w [] rfl (fun i c l e => by simp at e) (fun c hc => by cases hc) List.Pairwise.nil hW.hsub
      dsimp only at this
      refine this.mono fun e w' ⟨v, cs', h', he, ⟨hcs, xs, hfx, hv, HK⟩, hlen, hCV, hF, hsub', hno'⟩ => ?_
      subst he
      subst hcs
      simp only
      have hsc' : scCh G.length st.ch = true := by
        have := hsc; simp only [St.scOk, Bool.and_eq_true, hA.len] at this; exact this.1.2
      have hW' := hW.call (D := xs) (es := []) (csh := []) (vals := []) (List.nil_sublist _) hsc' hF hCV hsub' (fun c hc => by cases hc) trivial rfl
      rw [List.append_assoc] at hW'
      have hA' := hA.extend hsc hfx
      have hrv := rsv_den (E := E) (F := G) hok hfx
      rw [← hA.len] at hrv
      refine hk (G ++ xs) E h' (callTo st dst [] rs) _ _ ?_ ?_ HK
      · unfold callTo
        have hA'' : SatA (G ++ xs) E ({ st with ch := updCh (([] : List (Nat × List SV)).map (·.1)) (svsLL st.sh.length (cshOf st [])) st.ch, sh := st.sh ++ ((cshOf st []).flatten ++ rshs rs) } : St) a :=
          ⟨hA'.size, hA'.tmps, hA'.nodef, by simpa [cshOf] using hA'.fits, hA'.kn⟩
        exact hA''.put dst (by rw [hv, ← hrv.1]; exact Rel.of (fun _ => rfl) (plain_nogd hrv.2))
      · unfold callTo
        rw [setT_ch]
        exact hW'
    · exact H.elim
  · exact H.elim

theorem execS_sound (hC : CallOK P cf.calls) (hA : SatA G E st a) (hW : SatW B G E h st.ch w) (hg : vb (g.den G) = true) {o : Op}
    (H : holds P R (execS P cf st g o dst k) G L h) (hk : Cont P B R L N k) : (⟨dst, o, ty, pos, after, guard⟩ : Oper).wp P a w N Q := by
  unfold execS at H
  have hq := qpure_sound (P := P) (E := E) (ty := ty) hA hg o
  split at H
  · rename_i ns s he
    rw [he] at hq
    obtain ⟨hn, H⟩ := holds_needN H
    obtain ⟨h1, v, hrel, hrun⟩ := hq (needs_mem (hn rfl))
    replace hrun := hrun w dst pos after guard
    unfold Oper.wp
    rw [hrun, Oper.upon_value]
    exact hk _ _ _ _ _ _ (hA.put dst hrel) (by rw [setT_ch]; exact hW) H
  · rename_i ns sh f he
    rw [he] at hq
    split at H
    · rename_i hsc
      obtain ⟨hn, H⟩ := holds_needN H
      obtain ⟨hfit, hrun⟩ := hq (needs_mem (hn rfl))
      have H := H _ rfl
      unfold Oper.wp
      rw [hrun w dst pos after guard, Oper.upon_value]
      have hgv : gv (G ++ [f.den G]) G.length = f.den G := by simp [gv, List.getD_eq_getElem?_getD]
      have hrel : Rel (G ++ [f.den G]) E (f.den G) (sh.sv st.sh.length) := by
        have := Sh.sv_den (G := G ++ [f.den G]) (E := E) (i := G.length) (s := sh) (by rw [hgv]; exact hfit)
        rw [hgv] at this
        rw [hA.len]
        exact Rel.of (fun _ => this.symm) (by cases sh <;> intro g t e <;> cases e)
      exact hk _ _ _ _ _ _ ((hA.extend hsc (shs := [sh]) (xs := [f.den G]) ⟨hfit, trivial⟩).put dst hrel) (by rw [setT_ch]; exact hW.extend hA hsc _) H
    · exact H.elim
  · split at H
    · exact loadS_sound hA hW hg rfl H hk
    · exact storeS_sound hA hW hg H hk
    · exact newC_sound hA hW hg H hk
    · exact newC_sound hA hW hg H hk
    · exact newC_sound hA hW hg H hk
    · split at H
      · rename_i c f hco
        split at H
        · rename_i f' first cap hfo
          exact callS_sound hC hA hW hg hco hfo H hk
        · exact callvS_sound hA hW hg hco H hk
      · rename_i c hco
        split at H
        · rename_i s x t tx hargs hts
          exact appS_sound hA hW hg hco (Array.toList_inj.1 hargs) (Array.toList_inj.1 hts) H hk
        · exact H.elim
      · rename_i c hco
        split at H
        · rename_i d s t tx hargs hts
          exact copyS_sound hA hW hg hco (Array.toList_inj.1 hargs) (Array.toList_inj.1 hts) H hk
        · exact H.elim
      · rename_i c hco
        split at H
        · rename_i x t hargs hts
          exact clrS_sound hA hW hg hco (Array.toList_inj.1 hargs) (Array.toList_inj.1 hts) H hk
        · exact H.elim
      · rename_i c hco
        split at H
        · rename_i m i t tx hargs hts
          exact mdelS_sound hA hW hg hco (Array.toList_inj.1 hargs) (Array.toList_inj.1 hts) H hk
        · exact H.elim
      · exact H.elim
    · exact mkS_sound hA hW hg H hk
    · exact mkMapS_sound hA hW H hk
    · exact lookS_sound hA hW hg H hk
    · exact mupdS_sound hA hW hg H hk
    · exact minsS_sound hA hW hg H hk
    · exact bstrS_sound hA hW hg H hk
    · exact mentS_sound hA hW hg H hk
    · exact entsS_sound hA hW hg H hk
    · exact H.elim

/-- What one operation of a region does, whether its guard lets it or not. -/
def StepW (P : Program) (ops : Array Oper) (o : Oper) (N : Act → World → Prop) (Q : Exit → Act → World → Prop) (a : Act) (w : World) : Prop :=
  if Region.wanted o (yielded ops a.tmps) then o.wp P a w N Q else N (a.put o.dst undef) w
theorem forkG_sound : ∀ {g : X} {st : St} {y n : St → Out} {L : Lv}, SatA G E st a → holds P R (forkG g st y n) G L h →
    ∃ st', SatA G E st' a ∧ st'.ch = st.ch ∧ (vb (g.den G) = true → holds P R (y st') G L h) ∧ (vb (g.den G) = false → holds P R (n st') G L h) := by
  intro g
  have base : ∀ {g : X} {st : St} {y n : St → Out} {L : Lv}, SatA G E st a → holds P R (match st.test g with | some true => y st | some false => n st | none => .ite g (y (st.add g true)) (n (st.add g false))) G L h →
      ∃ st', SatA G E st' a ∧ st'.ch = st.ch ∧ (vb (g.den G) = true → holds P R (y st') G L h) ∧ (vb (g.den G) = false → holds P R (n st') G L h) := by
    intro g st y n L hA H
    split at H
    · rename_i ht
      have := test_den hA ht
      exact ⟨st, hA, rfl, fun _ => H, fun e => absurd (this.symm.trans e) (by simp)⟩
    · rename_i ht
      have := test_den hA ht
      exact ⟨st, hA, rfl, fun e => absurd (this.symm.trans e) (by simp), fun _ => H⟩
    · obtain ⟨h1, h2⟩ := H
      cases hg : vb (g.den G) with
      | true => exact ⟨_, hA.add hg, rfl, fun _ => h1 hg, fun e => by cases e⟩
      | false => exact ⟨_, hA.add hg, rfl, (fun e => by cases e), fun _ => h2 hg⟩
  induction g with
  | and x z iha ihb =>
    intro st y n L hA H
    obtain ⟨s1, hA1, hc1, k1, k2⟩ := iha hA H
    cases hx : vb (x.den G) with
    | false => exact ⟨s1, hA1, hc1, fun e => by simp [X.den, hx] at e, fun _ => k2 hx⟩
    | true =>
      obtain ⟨s2, hA2, hc2, m1, m2⟩ := ihb hA1 (k1 hx)
      exact ⟨s2, hA2, hc2.trans hc1, fun e => m1 (by simpa [X.den, hx] using e), fun e => m2 (by simpa [X.den, hx] using e)⟩
  | _ => intro st y n L hA H; exact base hA H
theorem forkS_sound (hC : CallOK P cf.calls) (hA : SatA G E st a) (hW : SatW B G E h st.ch w) {ops : Array Oper} {o : Oper} (hgx : guardX st ops o.guard = some g)
    (H : holds P R (forkS P cf st g o.op o.dst k) G L h) (hk : Cont P B R L N k) : StepW P ops o N Q a w := by
  unfold StepW
  rw [guardX_den hA hgx]
  unfold forkS at H
  split at H
  · obtain ⟨st', hA', hc, k1, k2⟩ := forkG_sound hA H
    cases hg : vb (g.den G) with
    | true =>
      rw [if_pos rfl]
      exact execS_sound hC hA' (by rw [hc]; exact hW) hg (k1 hg) hk
    | false =>
      rw [if_neg (by simp)]
      exact hk _ _ _ _ _ _ (hA'.put o.dst undS_rel) (by rw [setT_ch, hc]; exact hW) (k2 hg)
  obtain ⟨h1, h2⟩ := H
  cases hg : vb (g.den G) with
  | true =>
    rw [if_pos rfl]
    exact execS_sound hC (hA.add hg) hW hg (h1 hg) hk
  | false =>
    rw [if_neg (by simp)]
    exact hk _ _ _ _ _ _ ((hA.add hg).put o.dst undS_rel) (by rw [setT_ch]; exact hW) (h2 hg)
theorem stepOp_sound (hC : CallOK P cf.calls) (hA : SatA G E st a) (hW : SatW B G E h st.ch w) {ops : Array Oper} {o : Oper}
    (H : holds P R (stepOp P cf ops o st k) G L h) (hk : Cont P B R L N k) : StepW P ops o N Q a w := by
  unfold stepOp at H
  split at H
  · exact H.elim
  · rename_i g hgx
    split at H
    · rename_i ht
      have hg := test_den hA ht
      unfold StepW
      rw [guardX_den hA hgx, hg, if_pos rfl]
      exact execS_sound hC hA hW hg H hk
    · rename_i ht
      have hg := test_den hA ht
      unfold StepW
      rw [guardX_den hA hgx, hg, if_neg (by simp)]
      exact hk _ _ _ _ _ _ (hA.put o.dst undS_rel) (by rw [setT_ch]; exact hW) H
    · split at H
      · rename_i ns s he
        obtain ⟨hn, H⟩ := holds_needN H
        unfold StepW
        rw [guardX_den hA hgx]
        cases hg : vb (g.den G) with
        | true =>
          rw [if_pos rfl]
          have hq := qpure_sound (P := P) (E := E) (ty := o.type) hA hg o.op
          rw [he] at hq
          obtain ⟨h1, v, hrel, hrun⟩ := hq (needs_mem (hn hg))
          replace hrun := hrun w o.dst o.pos o.after o.guard
          unfold Oper.wp
          rw [hrun, Oper.upon_value]
          exact hk _ _ _ _ _ _ (hA.put o.dst (wrapG_rel hg hrel h1)) (by rw [setT_ch]; exact hW) H
        | false =>
          rw [if_neg (by simp)]
          exact hk _ _ _ _ _ _ (hA.put o.dst (wrapG_undef hg)) (by rw [setT_ch]; exact hW) H
      · exact forkS_sound hC hA hW hgx H hk
      · split at H
        · rename_i t x hop
          unfold StepW
          rw [guardX_den hA hgx]
          cases hg : vb (g.den G) with
          | true =>
            rw [if_pos rfl]
            obtain ⟨dst, op, ty, pos, after, guard⟩ := o
            simp only at hop
            subst hop
            exact loadS_sound hA hW hg hg H hk
          | false =>
            rw [if_neg (by simp)]
            exact loadS_skip hA hW hg H hk
        · rename_i hop
          exact forkS_sound hC hA hW hgx H hk
end
end Go.Proofs.YtbgfabppmobpgaaDoor

/-
  Code that only computes, run by symbols to one state, both ways of a test made one. Conditions: none (definitions and plain lemmas).
-/
set_option linter.unusedVariables false
set_option linter.unusedSimpArgs false
namespace Go.Proofs.YtbgfabppmobpgaaDoor
open Go

/-! ### Two states made one -/
def mergeSV (e : X) (s t : SV) : SV :=
  if s.beq t then s else
  match s, t with
  | .int k x, .int k' y => if beqIK k k' then .int k (mkIte e x y) else .und
  | .bool x, .bool y => .bool (mkIte e x y)
  | .str x, .str y => .str (mkIte e x y)
  | _, _ => .und
def mergeL (e : X) : List SV → List SV → Option (List SV)
  | [], [] => some []
  | s :: l, t :: m => (mergeL e l m).map (mergeSV e s t :: ·)
  | _, _ => none
def mergeCh (e : X) : List (Nat × List SV) → List (Nat × List SV) → Option (List (Nat × List SV))
  | [], [] => some []
  | (k, c) :: l, (j, d) :: m => if k.beq j then (match mergeL e c d, mergeCh e l m with
    | some x, some y => if allPlain x || !(allPlain c && allPlain d) then some ((k, x) :: y) else none
    | _, _ => none) else none
  | _, _ => none
def mergeSt (e : X) (st x y : St) : Option St :=
  match mergeL e x.t y.t, mergeCh e x.ch y.ch with
  | some t, some ch => if x.sh.length.beq st.sh.length && y.sh.length.beq st.sh.length then some { t, ch, sh := st.sh, kn := st.kn } else none
  | _, _ => none
section
variable {P : Program} {B : Beg} {G : List Value} {E : Nat → CE} {h : H} {st : St} {a : Act} {w : World} {Q : Exit → Act → World → Prop} {cf : Cfg}
theorem mergeSV_left {e : X} {s t : SV} {v : Value} (he : vb (e.den G) = true) (hr : Rel G E v s) : Rel G E v (mergeSV e s t) := by
  unfold mergeSV
  split
  · exact hr
  · split
    · split
      · show v = .int _ (vi ((mkIte e _ _).den G)); rw [mkIte_den, he, if_pos rfl]; exact hr
      · trivial
    · show v = .bool (vb ((mkIte e _ _).den G)); rw [mkIte_den, he, if_pos rfl]; exact hr
    · show v = .string (vs ((mkIte e _ _).den G)); rw [mkIte_den, he, if_pos rfl]; exact hr
    · trivial
theorem mergeSV_right {e : X} {s t : SV} {v : Value} (he : vb (e.den G) = false) (hr : Rel G E v t) : Rel G E v (mergeSV e s t) := by
  unfold mergeSV
  split
  · rename_i hb; rw [SV.beq_eq _ _ hb]; exact hr
  · split
    · split
      · rename_i hk
        show v = .int _ (vi ((mkIte e _ _).den G)); rw [mkIte_den, he, if_neg (by simp), beqIK_eq hk]; exact hr
      · trivial
    · show v = .bool (vb ((mkIte e _ _).den G)); rw [mkIte_den, he, if_neg (by simp)]; exact hr
    · show v = .string (vs ((mkIte e _ _).den G)); rw [mkIte_den, he, if_neg (by simp)]; exact hr
    · trivial
theorem mergeL_get {e : X} : ∀ {l m n : List SV} {i : Nat} {s : SV}, mergeL e l m = some n → n[i]? = some s → ∃ x y, l[i]? = some x ∧ m[i]? = some y ∧ s = mergeSV e x y
  | [], [], n, i, s, h, hi => by simp only [mergeL, Option.some.injEq] at h; subst h; simp at hi
  | x :: l, y :: m, n, i, s, h, hi => by
    simp only [mergeL, Option.map_eq_some_iff] at h
    obtain ⟨n', hn, rfl⟩ := h
    cases i with
    | zero => simp at hi; exact ⟨x, y, rfl, rfl, hi.symm⟩
    | succ i =>
      obtain ⟨u, v, h1, h2, h3⟩ := mergeL_get hn (by simpa using hi)
      exact ⟨u, v, by simpa using h1, by simpa using h2, h3⟩
theorem mergeL_length {e : X} : ∀ {l m n : List SV}, mergeL e l m = some n → n.length = l.length ∧ n.length = m.length
  | [], [], n, h => by simp only [mergeL, Option.some.injEq] at h; subst h; exact ⟨rfl, rfl⟩
  | x :: l, y :: m, n, h => by
    simp only [mergeL, Option.map_eq_some_iff] at h
    obtain ⟨n', hn, rfl⟩ := h
    obtain ⟨h1, h2⟩ := mergeL_length hn
    exact ⟨by simp [h1], by simp [h2]⟩
theorem mergeL_left {e : X} (he : vb (e.den G) = true) : ∀ {l m n : List SV} {vs : List Value}, mergeL e l m = some n → RelL G E vs l → RelL G E vs n
  | [], [], n, [], h, hr => by simp only [mergeL, Option.some.injEq] at h; subst h; trivial
  | x :: l, y :: m, n, v :: vs, h, hr => by
    simp only [mergeL, Option.map_eq_some_iff] at h
    obtain ⟨n', hn, rfl⟩ := h
    exact ⟨mergeSV_left he hr.1, mergeL_left he hn hr.2⟩
  | [], [], _, _ :: _, _, hr => hr.elim
  | _ :: _, _ :: _, _, [], _, hr => hr.elim
theorem mergeL_right {e : X} (he : vb (e.den G) = false) : ∀ {l m n : List SV} {vs : List Value}, mergeL e l m = some n → RelL G E vs m → RelL G E vs n
  | [], [], n, [], h, hr => by simp only [mergeL, Option.some.injEq] at h; subst h; trivial
  | x :: l, y :: m, n, v :: vs, h, hr => by
    simp only [mergeL, Option.map_eq_some_iff] at h
    obtain ⟨n', hn, rfl⟩ := h
    exact ⟨mergeSV_right he hr.1, mergeL_right he hn hr.2⟩
  | [], [], _, _ :: _, _, hr => hr.elim
  | _ :: _, _ :: _, _, [], _, hr => hr.elim
theorem mergeCh_spec {e : X} : ∀ {l m n : List (Nat × List SV)}, mergeCh e l m = some n → n.map (·.1) = l.map (·.1) ∧ n.map (·.1) = m.map (·.1) ∧
    ∀ k c, (k, c) ∈ n → ∃ x y, (k, x) ∈ l ∧ (k, y) ∈ m ∧ mergeL e x y = some c
  | [], [], n, h => by simp only [mergeCh, Option.some.injEq] at h; subst h; simp
  | (k, c) :: l, (j, d) :: m, n, h => by
    unfold mergeCh at h
    split at h
    · rename_i hk
      rw [Nat.beq_eq] at hk
      subst hk
      split at h
      · rename_i x y hx hy
        split at h
        case isFalse => cases h
        cases h
        obtain ⟨h1, h2, h3⟩ := mergeCh_spec hy
        refine ⟨by simp [h1], by simp [h2], fun k' c' hm => ?_⟩
        rcases List.mem_cons.1 hm with e | hm
        · cases e; exact ⟨c, d, List.mem_cons_self .., List.mem_cons_self .., hx⟩
        · obtain ⟨u, v, a1, a2, a3⟩ := h3 k' c' hm
          exact ⟨u, v, List.mem_cons_of_mem _ a1, List.mem_cons_of_mem _ a2, a3⟩
      · cases h
    · cases h
theorem SatW.merge_left {e : X} (he : vb (e.den G) = true) {l m n : List (Nat × List SV)} (hm : mergeCh e l m = some n) (hW : SatW B G E h l w) : SatW B G E h n w := by
  obtain ⟨h1, h2, h3⟩ := mergeCh_spec hm
  refine ⟨fun k c hc => ?_, fun k c hc => ?_, pair_keys h1 hW.dist, fun k c hc => ?_, hW.par, hW.hsub, hW.frm, hW.pre⟩
  · obtain ⟨x, y, a1, a2, a3⟩ := h3 k c hc
    obtain ⟨f, vs, hb, hr⟩ := hW.chunks k x a1
    exact ⟨by rw [(mergeL_length a3).1]; exact f, vs, hb, mergeL_left he a3 hr⟩
  · obtain ⟨x, y, a1, a2, a3⟩ := h3 k c hc; exact hW.hid k x a1
  · obtain ⟨x, y, a1, a2, a3⟩ := h3 k c hc; exact hW.own k x a1
theorem SatW.merge_right {e : X} (he : vb (e.den G) = false) {l m n : List (Nat × List SV)} (hm : mergeCh e l m = some n) (hW : SatW B G E h m w) : SatW B G E h n w := by
  obtain ⟨h1, h2, h3⟩ := mergeCh_spec hm
  refine ⟨fun k c hc => ?_, fun k c hc => ?_, pair_keys h2 hW.dist, fun k c hc => ?_, hW.par, hW.hsub, hW.frm, hW.pre⟩
  · obtain ⟨x, y, a1, a2, a3⟩ := h3 k c hc
    obtain ⟨f, vs, hb, hr⟩ := hW.chunks k y a2
    exact ⟨by rw [(mergeL_length a3).2]; exact f, vs, hb, mergeL_right he a3 hr⟩
  · obtain ⟨x, y, a1, a2, a3⟩ := h3 k c hc; exact hW.hid k y a2
  · obtain ⟨x, y, a1, a2, a3⟩ := h3 k c hc; exact hW.own k y a2

/-! ### Code that only computes -/
def prExec (P : Program) (st : St) (g gg : X) (o : Op) (dst : Option Tmp) : Option St :=
  match qpure P st g o with
  | .val [] s => some (st.setT dst (wrapG gg s))
  | .bad => (match o with
    | .load t x => (match qLoad P st g t x with | some s => some (st.setT dst (wrapG gg s)) | none => none)
    | .store t x v => if gg.isT then (match st.parts (st.opr g v), tsize P t with
      | some ms, some n => if ms.length.beq n && ms.all st.one then
        (match st.opr g x with
        | .loc l off => (match chGet l st.ch with
          | some cs => if Nat.ble (off + n) cs.length then some (({ st with ch := chSet l (splice cs off ms) st.ch } : St).setT dst undS) else none
          | none => none)
        | _ => none) else none
      | _, _ => none) else none
    | _ => none)
  | _ => none
def prOp (P : Program) (ops : Array Oper) (o : Oper) (st : St) : Option St :=
  match guardX st ops o.guard with
  | none => none
  | some g => (match st.test g with
    | some true => prExec P st g (.tt true) o.op o.dst
    | some false => some (st.setT o.dst undS)
    | none => prExec P st g g o.op o.dst)
def prOps (P : Program) (ops : Array Oper) : List Oper → St → Option St
  | [], st => some st
  | o :: l, st => (prOp P ops o st).bind (prOps P ops l)
def pr (P : Program) : Code → St → Option St
  | .skip, st => some st
  | .region _ ops false, st => prOps P ops ops.toList st
  | .seq x y, st => (pr P x st).bind (pr P y)
  | .cond c x y, st => (match st.opr (.tt true) c with
    | .bool e => (match st.test e with
      | some true => pr P x st
      | some false => pr P y st
      | none => (match pr P x (st.add e true), pr P y (st.add e false) with
        | some sx, some sy => mergeSt e st sx sy
        | _, _ => none))
    | _ => none)
  | .block _ b, st => pr P b st
  | _, _ => none

/-- What is known behind a step that only computes. -/
def Kept (B : Beg) (G : List Value) (E : Nat → CE) (h : H) (st : St) (N : Act → World → Prop) : Prop := ∀ a w, SatA G E st a → SatW B G E h st.ch w → N a w
theorem isT_den {g : X} (hg : g.isT = true) : vb (g.den G) = true := by
  unfold X.isT at hg
  split at hg
  · rfl
  · cases hg
theorem prExec_sound {N : Act → World → Prop} {o : Oper} {ops : Array Oper} {g gg : X} {st' : St} (hA : SatA G E st a) (hW : SatW B G E h st.ch w) (hgx : guardX st ops o.guard = some g)
    (hgg : (vb (g.den G) = true ∧ vb (gg.den G) = true) ∨ gg = g) (hp : prExec P st g gg o.op o.dst = some st') (hk : Kept B G E h st' N) : StepW P ops o N Q a w := by
  unfold StepW
  rw [guardX_den hA hgx]
  obtain ⟨dst, op, ty, pos, after, guard⟩ := o
  simp only at hp hgx
  cases hg : vb (g.den G) with
  | true =>
    have hgg' : vb (gg.den G) = true := by rcases hgg with h | h; exact h.2; rw [h]; exact hg
    rw [if_pos rfl]
    unfold prExec at hp
    split at hp
    · rename_i s he
      cases hp
      have hq := qpure_sound (P := P) (E := E) (ty := ty) hA hg op
      rw [he] at hq
      obtain ⟨h1, v, hrel, hrun⟩ := hq (by simp)
      replace hrun := hrun w dst pos after guard
      unfold Oper.wp
      rw [hrun, Oper.upon_value]
      exact hk _ _ (hA.put dst (wrapG_rel hgg' hrel h1)) (by rw [setT_ch]; exact hW)
    · split at hp
      · rename_i t x
        split at hp
        · rename_i s hq
          cases hp
          obtain ⟨hpl, hrun⟩ := sound_load hA hW hg hq dst ty pos after guard
          unfold Oper.wp
          rw [hrun, Oper.upon_value]
          exact hk _ _ (hA.put dst (wrapG_rel hgg' (Rel.of (fun _ => rfl) (plain_nogd hpl)) (plain_nogd hpl))) (by rw [setT_ch]; exact hW)
        · cases hp
      · rename_i t x v _
        split at hp
        · have key : (⟨dst, .store t x v, ty, pos, after, guard⟩ : Oper).wp P a w N Q := by
            split at hp
            · rename_i ms n hms hn
              split at hp
              · rename_i hc
                simp only [Bool.and_eq_true, Nat.beq_eq] at hc
                obtain ⟨c1, c2, c3⟩ := parts_den (E := E) hA hms
                obtain ⟨o1, o2⟩ := allOne (E := E) hA hc.2
                have hv := opr_den hA hg rfl c2
                have hsz : (a.eval v).cells.size = n := by rw [hv, c1]; simp [SV.denL_eq, hc.1]
                have hcl : (a.eval v).cells.toList = SV.denL G E ms := by rw [hv, c1]
                split at hp
                · rename_i l off hx
                  have hxa := opr_den hA hg hx rfl
                  split at hp
                  · rename_i cs hcs
                    split at hp
                    · rename_i hle
                      rw [Nat.ble_eq] at hle
                      cases hp
                      obtain ⟨hrun, hW'⟩ := hW.store (P := P) (off := off) (ms := ms) hcs (by omega) o1 o2
                      unfold Oper.wp
                      have : (execOp a.eval ⟨dst, .store t x v, ty, pos, after, guard⟩).run P w = .ok .skip (setsW w ((E l).at off) (SV.denL G E ms) 0) := by
                        simp only [execOp, Instr.storeAt, hxa, SV.den, CE.ptr, Instr.sureAddr, Sem.run_bind, Sem.run_pure, Result.andThen_ok, storeVar, run_tsize hn, hsz, ne_eq, not_true_eq_false, if_false, hcl]
                        rw [hrun]; rfl
                      rw [this, Oper.upon_skip]
                      exact hk _ _ (SatA.put (st := { st with ch := chSet l (splice cs off ms) st.ch }) ⟨hA.size, hA.tmps, hA.nodef, hA.fits, hA.kn⟩ dst undS_rel) (by rw [setT_ch]; exact hW')
                    · cases hp
                  · cases hp
                · cases hp
              · cases hp
            · cases hp
          exact key
        · cases hp
      · cases hp
    · cases hp
  | false =>
    rw [if_neg (by simp)]
    have hgg' : gg = g := by rcases hgg with h | h; rw [h.1] at hg; cases hg; exact h
    subst hgg'
    unfold prExec at hp
    split at hp
    · cases hp
      exact hk _ _ (hA.put dst (wrapG_undef hg)) (by rw [setT_ch]; exact hW)
    · split at hp
      · split at hp
        · cases hp
          exact hk _ _ (hA.put dst (wrapG_undef hg)) (by rw [setT_ch]; exact hW)
        · cases hp
      · split at hp
        · rename_i ht
          have := isT_den (G := G) ht
          rw [hg] at this; cases this
        · cases hp
      · cases hp
    · cases hp
theorem prOp_sound {N : Act → World → Prop} {o : Oper} {ops : Array Oper} {st' : St} (hA : SatA G E st a) (hW : SatW B G E h st.ch w) (hp : prOp P ops o st = some st') (hk : Kept B G E h st' N) : StepW P ops o N Q a w := by
  unfold prOp at hp
  split at hp
  · cases hp
  · rename_i g hgx
    split at hp
    · rename_i ht
      exact prExec_sound hA hW hgx (.inl ⟨test_den hA ht, rfl⟩) hp hk
    · rename_i ht
      cases hp
      unfold StepW
      rw [guardX_den hA hgx, test_den hA ht, if_neg (by simp)]
      exact hk _ _ (hA.put o.dst undS_rel) (by rw [setT_ch]; exact hW)
    · exact prExec_sound hA hW hgx (.inr rfl) hp hk
theorem stepW_list {ops : Array Oper} {o : Oper} {l : List Oper} (hs : StepW P ops o (wpList P ops Q l) Q a w) : wpList P ops Q (o :: l) a w := by
  unfold StepW at hs
  unfold wpList
  split
  · rename_i hw; rw [if_pos hw] at hs; exact .inl hs
  · rename_i hw; rw [if_neg hw] at hs; exact hs
theorem prOps_sound {ops : Array Oper} : ∀ {l : List Oper} {st st' : St} {a : Act} {w : World}, SatA G E st a → SatW B G E h st.ch w → prOps P ops l st = some st' → Kept B G E h st' (Q .normal) → wpList P ops Q l a w
  | [], st, st', a, w, hA, hW, hp, hk => by simp only [prOps, Option.some.injEq] at hp; subst hp; exact hk _ _ hA hW
  | o :: l, st, st', a, w, hA, hW, hp, hk => by
    simp only [prOps] at hp
    cases hs : prOp P ops o st with
    | none => simp [hs] at hp
    | some s1 =>
      simp only [hs, Option.bind_some] at hp
      exact stepW_list (prOp_sound hA hW hs fun a' w' hA' hW' => prOps_sound hA' hW' hp hk)
theorem mergeSt_left {e : X} {x y s : St} (he : vb (e.den G) = true) (h0 : SatA G E st a) (hm : mergeSt e st x y = some s) {a' : Act} {w' : World} (hA : SatA G E x a') (hW : SatW B G E h x.ch w') : SatA G E s a' ∧ SatW B G E h s.ch w' := by
  unfold mergeSt at hm
  split at hm
  · rename_i t ch ht hc
    split at hm
    · cases hm
      refine ⟨⟨by rw [(mergeL_length ht).1]; exact hA.size, fun i s hi => ?_, hA.nodef, h0.fits, h0.kn⟩, hW.merge_left he hc⟩
      obtain ⟨u, v, h1, h2, rfl⟩ := mergeL_get ht hi
      exact mergeSV_left he (hA.tmps i u h1)
    · cases hm
  · cases hm
theorem mergeSt_right {e : X} {x y s : St} (he : vb (e.den G) = false) (h0 : SatA G E st a) (hm : mergeSt e st x y = some s) {a' : Act} {w' : World} (hA : SatA G E y a') (hW : SatW B G E h y.ch w') : SatA G E s a' ∧ SatW B G E h s.ch w' := by
  unfold mergeSt at hm
  split at hm
  · rename_i t ch ht hc
    split at hm
    · cases hm
      refine ⟨⟨by rw [(mergeL_length ht).2]; exact hA.size, fun i s hi => ?_, hA.nodef, h0.fits, h0.kn⟩, hW.merge_right he hc⟩
      obtain ⟨u, v, h1, h2, rfl⟩ := mergeL_get ht hi
      exact mergeSV_right he (hA.tmps i v h2)
    · cases hm
  · cases hm
theorem pr_sound : ∀ {c : Code} {st st' : St} {a : Act} {w : World} {Q : Exit → Act → World → Prop}, SatA G E st a → SatW B G E h st.ch w → pr P c st = some st' → Kept B G E h st' (Q .normal) → c.wp P Q a w := by
  intro c
  induction c <;> intro st st' a w Q hA hW hp hk
  case skip => simp only [pr, Option.some.injEq] at hp; subst hp; exact wp_skip (hk _ _ hA hW)
  case region id ops draw =>
    cases draw with
    | true => simp [pr] at hp
    | false => exact wp_region_list (prOps_sound hA hW (by simpa only [pr] using hp) hk)
  case seq x y ix iy =>
    simp only [pr] at hp
    cases hx : pr P x st with
    | none => simp [hx] at hp
    | some s1 =>
      simp only [hx, Option.bind_some] at hp
      exact wp_seq (ix hA hW hx fun a' w' hA' hW' => iy hA' hW' hp hk)
  case cond c x y ix iy =>
    simp only [pr] at hp
    split at hp
    · rename_i e he
      have hc := opr_den hA (g := .tt true) rfl he rfl
      have hc' : a.eval c = .bool (vb (e.den G)) := hc
      split at hp
      · rename_i ht
        rw [test_den hA ht] at hc'
        exact wp_cond_true hc' (ix hA hW hp hk)
      · rename_i ht
        rw [test_den hA ht] at hc'
        exact wp_cond_false hc' (iy hA hW hp hk)
      · split at hp
        · rename_i sx sy hx hy
          refine wp_cond_split hc' (fun ht => ?_) (fun hf => ?_)
          · exact ix (hA.add ht) hW hx fun a' w' hA' hW' => by
              obtain ⟨m1, m2⟩ := mergeSt_left ht hA hp hA' hW'
              exact hk _ _ m1 m2
          · exact iy (hA.add hf) hW hy fun a' w' hA' hW' => by
              obtain ⟨m1, m2⟩ := mergeSt_right hf hA hp hA' hW'
              exact hk _ _ m1 m2
        · cases hp
    · cases hp
  case block id b ib =>
    simp only [pr] at hp
    exact wp_block (ib hA hW hp fun a' w' hA' hW' => hk _ _ hA' hW')
  all_goals simp [pr] at hp
end
end Go.Proofs.YtbgfabppmobpgaaDoor

/-
  Regions that draw their order: an operation that gives a value and does nothing else may be taken first, if what it gives stays what it is till it comes up. Conditions: none (plain lemmas).
-/
set_option linter.unusedVariables false
set_option linter.unusedSimpArgs false
namespace Go.Proofs.YtbgfabppmobpgaaDoor
open Go

section
variable {P : Program} {ops : Array Oper} {Q : Exit → Act → World → Prop}

/-- Operations that give a value and do nothing else. -/
def eager : Op → Bool
  | .move _ | .pick .. | .build .. | .nilCheck _ | .binOp .. | .unOp .. | .convert .. | .makeFunc .. | .slice .. | .fieldAddr .. | .field .. | .indexAddr .. | .index .. | .extract .. | .load .. => true
  | .call { callee := .builtin .len, .. } | .call { callee := .builtin .cap, .. } | .call { callee := .builtin .min, .. } | .call { callee := .builtin .max, .. } => true
  | _ => false
def YieldsAt (P : Program) (ops : Array Oper) (o : Oper) (v : Value) (a : Act) (w : World) : Prop :=
  (Region.wanted o (yielded ops a.tmps) = true ∧ (execOp a.eval o).run P w = .ok (.value v) w) ∨ (Region.wanted o (yielded ops a.tmps) = false ∧ v = undef)
/-- What was taken first still gives what it gave. -/
def Pend (P : Program) (ops : Array Oper) (F : List Nat) (a : Act) (w : World) : Prop :=
  ∀ k ∈ F, ∀ o, ops[k]? = some o → ∃ d, o.dst = some d ∧ YieldsAt P ops o (a.tmps.getD d undef) a w
def waits (ops : Array Oper) (j k : Nat) : Bool := match ops[j]? with | some o => o.after.any (fun e => Region.binds .any e && e.on == k) | none => false
def eagerAt (ops : Array Oper) (j : Nat) : Bool := match ops[j]? with | some o => eager o.op | none => false
def behind (ops : Array Oper) (j : Nat) (F : List Nat) : List Nat := if eagerAt ops j then F else F.filter fun k => !(waits ops j k)
def wpF (P : Program) (ops : Array Oper) (Q : Exit → Act → World → Prop) : Nat → Array Bool → List Nat → Act → World → Prop
  | 0, listed, F, a, w => Region.ready .any ops listed = [] ∧ Q .normal a w
  | fuel + 1, listed, F, a, w => (Region.ready .any ops listed = [] → Q .normal a w) ∧
    ∀ i ∈ Region.ready .any ops listed, wpOp P ops Q i (fun a' w' => Pend P ops (behind ops i F) a' w' ∧ wpF P ops Q fuel (listed.setIfInBounds i true) (behind ops i F) a' w') a w
theorem wpAny_of_F : ∀ (fuel : Nat) (listed : Array Bool) (F : List Nat) (a : Act) (w : World), wpF P ops Q fuel listed F a w → wpAny P .any ops Q fuel listed a w
  | 0, _, _, _, _, h => h
  | fuel + 1, _, _, _, _, h => ⟨h.1, fun i hi => wpOp_mono (fun a' w' h' => wpAny_of_F fuel _ _ a' w' h'.2) (h.2 i hi)⟩
theorem behind_sub {j : Nat} {F F' : List Nat} (h : ∀ k ∈ F', k ∈ F) : ∀ k ∈ behind ops j F', k ∈ behind ops j F := by
  unfold behind
  split
  · exact h
  · intro k hk
    rw [List.mem_filter] at hk ⊢
    exact ⟨h k hk.1, hk.2⟩
theorem wpF_mono : ∀ (fuel : Nat) (listed : Array Bool) (F F' : List Nat) (a : Act) (w : World), (∀ k ∈ F', k ∈ F) → wpF P ops Q fuel listed F a w → wpF P ops Q fuel listed F' a w
  | 0, _, _, _, _, _, _, h => h
  | fuel + 1, listed, F, F', a, w, hs, h => ⟨h.1, fun i hi => wpOp_mono (fun a' w' h' =>
      ⟨fun k hk => h'.1 k (behind_sub hs k hk), wpF_mono fuel _ _ _ a' w' (behind_sub hs) h'.2⟩) (h.2 i hi)⟩
theorem YieldsAt.false {o : Oper} {v : Value} {a : Act} {w : World} (h : YieldsAt P ops o v a w) : YieldsIf P ops (fun _ => False) o v a :=
  h.imp (fun ⟨hw, _⟩ => ⟨hw, fun _ hf => hf.elim⟩) id
theorem YieldsAt.wpOp {i : Nat} {o : Oper} {v : Value} {a : Act} {w : World} (hi : ops[i]? = some o) (hy : YieldsAt P ops o v a w) {K : Act → World → Prop} (h : K (a.put o.dst v) w) : wpOp P ops Q i K a w := by
  unfold Go.wpOp
  simp only [hi]
  rcases hy with ⟨hw, hv⟩ | ⟨hw, rfl⟩
  · simp only [hw, if_true, Oper.wp, hv, Oper.upon]; exact .inl h
  · simp only [hw, Bool.false_eq_true, if_false]; exact h
theorem YieldsAt.of_put {o oi : Oper} {u v : Value} {a : Act} {w : World} (hs : ∀ cs b, o.op ≠ .select cs b) (hl : ∀ d, oi.dst = some d → d ∉ o.looksAt ops) :
    YieldsAt P ops o v (a.put oi.dst u) w ↔ YieldsAt P ops o v a w := by
  unfold YieldsAt
  rw [execOp_put o hs a oi.dst u hl, wanted_put o a oi.dst u hl]
theorem eager_nosel {o : Oper} (h : eager o.op = true) : ∀ cs b, o.op ≠ .select cs b := by
  intro cs b e; rw [e] at h; cases h
theorem getD_put {a : Act} {d d' : Nat} {v : Value} (h : d' ≠ d) : (a.put (some d') v).tmps.getD d undef = a.tmps.getD d undef := by
  simp only [Act.put, Array.getD_eq_getD_getElem?]
  rw [Array.getElem?_setIfInBounds_ne h]
theorem getD_put_self {a : Act} {d : Nat} {v : Value} (h : d < a.tmps.size) : (a.put (some d) v).tmps.getD d undef = v := by
  simp [Act.put, Array.getD_eq_getD_getElem?, h]

/-- What is asked of an operation that is taken first, of others that were. -/
structure Sep (ops : Array Oper) (oi : Oper) (d : Nat) (F : List Nat) : Prop where
  dst : oi.dst = some d
  self : d ∉ oi.looksAt ops
  apart : ∀ k ∈ F, ∀ o, ops[k]? = some o → eager o.op = true ∧ d ∉ o.looksAt ops ∧ o.dst ≠ some d
theorem Sep.pend {oi : Oper} {d : Nat} {F F' : List Nat} {a : Act} {w : World} {v : Value} (hs : Sep ops oi d F) (hF : ∀ k ∈ F', k ∈ F) : Pend P ops F' (a.put oi.dst v) w ↔ Pend P ops F' a w := by
  unfold Pend
  have key : ∀ k ∈ F', ∀ o, ops[k]? = some o → ∀ d', o.dst = some d' →
      (YieldsAt P ops o ((a.put oi.dst v).tmps.getD d' undef) (a.put oi.dst v) w ↔ YieldsAt P ops o (a.tmps.getD d' undef) a w) := by
    intro k hk o ho d' hd'
    obtain ⟨h1, h2, h3⟩ := hs.apart k (hF k hk) o ho
    rw [YieldsAt.of_put (eager_nosel h1) (fun x hx => by rw [hs.dst] at hx; cases hx; exact h2)]
    rw [hs.dst, getD_put (fun e => h3 (by rw [hd', e]))]
  constructor
  · intro h k hk o ho
    obtain ⟨d', hd', hy⟩ := h k hk o ho
    exact ⟨d', hd', (key k hk o ho d' hd').1 hy⟩
  · intro h k hk o ho
    obtain ⟨d', hd', hy⟩ := h k hk o ho
    exact ⟨d', hd', (key k hk o ho d' hd').2 hy⟩
theorem behind_le {j : Nat} {F : List Nat} : ∀ k ∈ behind ops j F, k ∈ F := by
  unfold behind
  split
  · exact fun _ h => h
  · exact fun k hk => (List.mem_filter.1 hk).1
theorem Sep.behind {oi : Oper} {d j : Nat} {F : List Nat} (hs : Sep ops oi d F) : Sep ops oi d (behind ops j F) :=
  ⟨hs.dst, hs.self, fun k hk => hs.apart k (behind_le k hk)⟩
theorem not_waits {i j : Nat} {listed : Array Bool} (hi : i ∈ Region.ready .any ops listed) (hj : j ∈ Region.ready .any ops listed) : waits ops j i = false := by
  obtain ⟨_, oj, hoj, hall⟩ := mem_ready.1 hj
  have h0 := (mem_ready.1 hi).1
  unfold waits
  rw [hoj]
  simp only
  rw [Bool.eq_false_iff]
  intro hc
  obtain ⟨e, he, hb⟩ := Array.any_eq_true'.1 hc
  simp only [Bool.and_eq_true, beq_iff_eq] at hb
  have h1 := hall e he hb.1
  rw [hb.2] at h1
  rcases Nat.lt_or_ge i listed.size with h' | h'
  · simp [h'] at h0 h1; rw [h0] at h1; cases h1
  · simp [Array.getElem?_eq_none h'] at h1
theorem no_edge {i j : Nat} {oj : Oper} (hoj : ops[j]? = some oj) (h : waits ops j i = false) : ∀ e ∈ oj.after, Region.binds .any e = true → e.on ≠ i := by
  intro e he hb heq
  unfold waits at h
  rw [hoj] at h
  simp only at h
  rw [Bool.eq_false_iff] at h
  exact h (Array.any_eq_true'.2 ⟨e, he, by simp [hb, heq]⟩)

/-- An operation that gives a value may be taken first: one whose value hangs on memory is asked again behind all that others do. -/
theorem wpF_first {i d : Nat} {oi : Oper} {v : Value} (hi : ops[i]? = some oi) (hsel : ∀ (j : Nat) (o : Oper) cs b, ops[j]? = some o → o.op ≠ .select cs b) (hne : ∀ c a w, ¬ Q (.panic c) a w) (he : eager oi.op = true)
    (mem : Bool) :
    ∀ (fuel : Nat) (listed : Array Bool) (F : List Nat) (a : Act) (w : World),
      (∀ j oj, ops[j]? = some oj → j ≠ i → listed.getD j true = false → (∀ e ∈ oj.after, Region.binds .any e = true → e.on ≠ i) → oi.apart ops oj = true) →
      i ∈ Region.ready .any ops listed → Sep ops oi d F → (mem = true → d < a.tmps.size) → (if mem then YieldsAt P ops oi v a w else Yields P ops oi v a) → Pend P ops F a w →
      wpF P ops Q fuel (listed.setIfInBounds i true) (if mem then i :: F else F) (a.put oi.dst v) w → wpF P ops Q (fuel + 1) listed F a w := by
  have hQ : ∀ c a w, Q (.panic c) (a.put oi.dst v) w → Q (.panic c) a w := fun c a w h => absurd h (hne _ _ _)
  have heA : eagerAt ops i = true := by unfold eagerAt; rw [hi]; exact he
  have hat : ∀ {a : Act} {w : World}, (if mem then YieldsAt P ops oi v a w else Yields P ops oi v a) → YieldsAt P ops oi v a w := by
    intro a w h
    cases mem with
    | true => exact h
    | false => exact (show Yields P ops oi v a from h).imp (fun ⟨h1, h2⟩ => ⟨h1, h2 w⟩) id
  intro fuel
  induction fuel with
  | zero =>
    intro listed F a w _ hr hs hd hy hP H
    refine ⟨fun h => (by rw [h] at hr; cases hr), fun j hj => ?_⟩
    by_cases hji : j = i
    · subst hji
      have hb : behind ops j F = F := by unfold behind; rw [if_pos heA]
      refine (hat hy).wpOp hi ⟨by rw [hb]; exact (hs.pend (fun _ h => h)).2 hP, ?_⟩
      rw [hb]; exact H
    · have := ready_mono hj hji
      rw [H.1] at this
      cases this
  | succ fuel ih =>
    intro listed F a w hfree hr hs hd hy hP H
    refine ⟨fun h => (by rw [h] at hr; cases hr), fun j hj => ?_⟩
    by_cases hji : j = i
    · subst hji
      have hb : behind ops j F = F := by unfold behind; rw [if_pos heA]
      refine (hat hy).wpOp hi ⟨by rw [hb]; exact (hs.pend (fun _ h => h)).2 hP, ?_⟩
      rw [hb]
      refine wpF_mono _ _ _ _ _ _ ?_ H
      intro k hk
      cases mem with
      | true => exact List.mem_cons_of_mem _ hk
      | false => exact hk
    · have h1 := H.2 j (ready_mono hj hji)
      obtain ⟨hjun, oj, hoj, hall⟩ := mem_ready.1 hj
      have hnw := not_waits hr hj
      have hnot := no_edge hoj hnw
      have hap := hfree j oj hoj hji hjun hnot
      have hfree' : ∀ k ok, ops[k]? = some ok → k ≠ i → (listed.setIfInBounds j true).getD k true = false →
          (∀ e ∈ ok.after, Region.binds .any e = true → e.on ≠ i) → oi.apart ops ok = true := fun k ok hk hki hun hno => by
        refine hfree k ok hk hki ?_ hno
        by_cases hjk : j = k
        · subst hjk; exact hjun
        · rw [getD_set_ne true hjk] at hun; exact hun
      have hbm : behind ops j (if mem then i :: F else F) = if mem then i :: behind ops j F else behind ops j F := by
        cases mem with
        | false => rfl
        | true =>
          simp only [if_true]
          unfold Go.Proofs.YtbgfabppmobpgaaDoor.behind
          split
          · rfl
          · rw [List.filter_cons_of_pos (by simp [hnw])]
      rw [hbm] at h1
      -- the sizes of frames
      cases mem with
      | false =>
        have hy' : Yields P ops oi v a := hy
        have h2 := wpOp_put hoj hap (fun cs b => hsel i oi cs b hi) (fun cs b => hsel j oj cs b hoj) hQ hy' h1
        refine wpOp_mono (fun a' w' h3 => ?_) h2
        obtain ⟨hy2, hP2, hW2⟩ := h3
        simp only [Bool.false_eq_true, if_false] at hP2 hW2
        have hP3 := (hs.pend (F' := Go.Proofs.YtbgfabppmobpgaaDoor.behind ops j F) behind_le).1 hP2
        refine ⟨hP3, ih (listed.setIfInBounds j true) _ a' w' hfree' (ready_mono hr (Ne.symm hji)) hs.behind (fun h => by cases h) hy2 hP3 ?_⟩
        rw [Array.setIfInBounds_comm _ _ hji]
        exact hW2
      | true =>
        have hy' : YieldsAt P ops oi v a w := hy
        have hsz := hd rfl
        have h1' : wpOp P ops Q j (fun a' w' => (a'.tmps.size = (a.put oi.dst v).tmps.size ∧ Pend P ops (i :: Go.Proofs.YtbgfabppmobpgaaDoor.behind ops j F) a' w' ∧ wpF P ops Q fuel ((listed.setIfInBounds i true).setIfInBounds j true) (i :: Go.Proofs.YtbgfabppmobpgaaDoor.behind ops j F) a' w')) (a.put oi.dst v) w := by
          simp only [if_true] at h1
          unfold Go.wpOp at h1 ⊢
          simp only [hoj] at h1 ⊢
          have szput : ∀ (b : Act) (dst : Option Tmp) (u : Value), (b.put dst u).tmps.size = b.tmps.size := by
            intro b dst u; cases dst <;> simp [Act.put]
          split
          · rename_i hw
            rw [if_pos hw] at h1
            refine h1.imp (fun h1 => ?_) id
            unfold Oper.wp at h1 ⊢
            generalize (execOp (a.put oi.dst v).eval oj).run P w = r at h1 ⊢
            cases r with
            | ok n w' =>
              cases n <;> simp only [Oper.upon] at h1 ⊢
              case value u => exact ⟨szput _ _ _, h1⟩
              case skip => exact ⟨szput _ _ _, h1⟩
              case defer u => exact ⟨szput _ _ _, h1⟩
              case enter f args => exact h1.mono fun e w'' he => by cases e <;> first | exact ⟨szput _ _ _, he⟩ | exact he
              case row row args => exact h1.mono fun u w'' he => ⟨szput _ _ _, he⟩
            | halt x w' => cases x <;> simp only [Oper.upon] at h1 ⊢; exact h1
          · rename_i hw
            rw [if_neg hw] at h1
            exact ⟨szput _ _ _, h1⟩
        have h2 := wpOp_putIf hoj hap (fun cs b => hsel i oi cs b hi) (fun cs b => hsel j oj cs b hoj) hQ hy'.false h1'
        refine wpOp_mono (fun a' w' h3 => ?_) h2
        obtain ⟨_, hsz2, hP2, hW2⟩ := h3
        have szput : ∀ (b : Act) (dst : Option Tmp) (u : Value), (b.put dst u).tmps.size = b.tmps.size := by
          intro b dst u; cases dst <;> simp [Act.put]
        rw [szput, szput] at hsz2
        have hP3 := (hs.pend (F' := Go.Proofs.YtbgfabppmobpgaaDoor.behind ops j F) behind_le).1 (fun k hk => hP2 k (List.mem_cons_of_mem _ hk))
        have hyi : YieldsAt P ops oi v a' w' := by
          obtain ⟨d', hd', hyd⟩ := hP2 i (List.mem_cons_self ..) oi hi
          rw [hs.dst] at hd'
          cases hd'
          rw [hs.dst, getD_put_self (by omega)] at hyd
          have := (YieldsAt.of_put (P := P) (ops := ops) (oi := oi) (u := v) (v := v) (a := a') (w := w') (eager_nosel he) (fun x hx => by rw [hs.dst] at hx; cases hx; exact hs.self)).1
          rw [hs.dst] at this
          exact this hyd
        refine ⟨hP3, ih (listed.setIfInBounds j true) _ a' w' hfree' (ready_mono hr (Ne.symm hji)) hs.behind (fun _ => by omega) hyi hP3 ?_⟩
        rw [Array.setIfInBounds_comm _ _ hji]
        exact hW2
end
end Go.Proofs.YtbgfabppmobpgaaDoor

/-
  Regions that draw their order, by symbols: that what is left to show suffices. Conditions: the entry of each function that is called is known ('CallOK').
-/
set_option linter.unusedVariables false
set_option linter.unusedSimpArgs false
namespace Go.Proofs.YtbgfabppmobpgaaDoor
open Go

def sepB (ops : Array Oper) (i : Nat) (F : List Nat) (n : Nat) : Bool :=
  match ops[i]? with
  | some o => (match o.dst with
    | some d => !((o.looksAt ops).contains d) && Nat.blt d n && F.all (fun k => match ops[k]? with
      | some ok => eager ok.op && !((ok.looksAt ops).contains d) && !(match ok.dst with | some d' => d'.beq d | none => false)
      | none => true)
    | none => false)
  | none => false
/-- A conversion of bytes reads memory: it is stepped in its own order. -/
def canE (P : Program) (ops : Array Oper) (st : St) (i : Nat) : Bool :=
  match ops[i]? with
  | some o => (match o.op with
    | .convert .. => (match guardX st ops o.guard with
      | none => true
      | some g => (match qpure P st g o.op with
        | .bad => (match st.test g with | some false => true | _ => false)
        | _ => true))
    | _ => true)
  | none => true
def findE (P : Program) (ops : Array Oper) (listed : Array Bool) (F : List Nat) (st : St) (n : Nat) : List Nat → Option Nat
  | [] => none
  | i :: l => if eagerAt ops i && sepB ops i F n && Region.free .any ops listed i && canE P ops st i then some i else findE P ops listed F st n l
def bothL (f : Nat → Out) : List Nat → Out
  | [] => .fail
  | [i] => f i
  | i :: l => .both (f i) (bothL f l)
def unwrapG (g : X) (s : SV) : SV := if g.isT then s else match s with | .gd g' t => if g'.beq g then t else .und | _ => .und
/-- What a slot holds, where the guard it lies under is known by now. -/
def settle (tg : Option Bool) (g : X) (s : SV) : SV :=
  match tg, s with
  | some true, .gd g' t => if g'.beq g && t.plain then t else .gd g' t
  | some false, .gd g' t => if g'.beq g then undS else .gd g' t
  | _, s => s
theorem settle_rel {G : List Value} {E : Nat → CE} {v : Value} {tg : Option Bool} {g : X} {s : SV} (ht : ∀ b, tg = some b → vb (g.den G) = b) (h : Rel G E v s) : Rel G E v (settle tg g s) := by
  unfold settle
  split
  · rename_i g' t
    split
    · rename_i hc
      simp only [Bool.and_eq_true] at hc
      have e := X.beq_eq hc.1
      subst e
      have hg := ht true rfl
      have h' : if vb (g'.den G) then v = t.den G E else v = undef := h
      rw [hg, if_pos rfl] at h'
      exact Rel.of (fun _ => h') (plain_nogd hc.2)
    · exact h
  · rename_i g' t
    split
    · rename_i hc
      have e := X.beq_eq hc
      subst e
      have hg := ht false rfl
      have h' : if vb (g'.den G) then v = t.den G E else v = undef := h
      rw [hg, if_neg (by simp)] at h'
      rw [h']; exact undS_rel
    · exact h
  · exact h
def recheck (P : Program) (ops : Array Oper) : List Nat → St → Out → Out
  | [], _, k => k
  | i :: F, st, k =>
    match ops[i]? with
    | none => recheck P ops F st k
    | some o => (match o.op, o.dst, guardX st ops o.guard with
      | .load t x, some d, some g => (match st.test g with
        | some false => if (settle (st.test g) g (SV.get st.t d)).beq undS then recheck P ops F st k else .fail
        | tg => (match qLoad P st g t x with
          | some s => if s.plain && s.beq (unwrapG (if isSome tg then .tt true else g) (settle (st.test g) g (SV.get st.t d))) then recheck P ops F st k else .fail
          | none => (match loadP P st g t x with
            | some (p, shs, b) => (match b, unwrapG (if isSome tg then .tt true else g) (settle (st.test g) g (SV.get st.t d)) with
              | true, .agg l => if l.length.beq shs.length && closedL l then .still g p l (recheck P ops F st k) else .fail
              | false, s => if s.plain && closedL [s] then .still g p [s] (recheck P ops F st k) else .fail
              | _, _ => .fail)
            | none => .fail)))
      | _, _, _ => .fail)
def takeS (P : Program) (ops : Array Oper) (st : St) (o : Oper) (i : Nat) (F : List Nat) (next : List Nat → St → Out) : Out :=
  match guardX st ops o.guard with
  | none => .fail
  | some g => (match st.test g with
    | some false => next F (st.setT o.dst undS)
    | some true => (match qpure P st g o.op with
      | .val ns s => needN (.tt true) ns (next F (st.setT o.dst s))
      | .bnd ns sh f => if st.scOk then needN (.tt true) ns (.bnd f (next F (({ st with sh := st.sh ++ [sh] } : St).setT o.dst (sh.sv st.sh.length)))) else .fail
      | .bad => (match o.op with
        | .load t x => loadS P st g (.tt true) t x o.dst (next (i :: F))
        | _ => .fail))
    | none => (match qpure P st g o.op with
      | .val ns s => needN g ns (next F (st.setT o.dst (wrapG g s)))
      | .bnd _ _ _ => .fail
      | .bad => (match o.op with
        | .load t x => loadS P st g g t x o.dst (next (i :: F))
        | _ => .fail)))
def explore (P : Program) (cf : Cfg) (ops : Array Oper) : Nat → Array Bool → List Nat → St → (St → Out) → Out
  | 0, listed, _, st, k => (match Region.ready .any ops listed with | [] => k st | _ :: _ => .fail)
  | fuel + 1, listed, F, st, k =>
    match Region.ready .any ops listed with
    | [] => k st
    | rs => (match findE P ops listed F st st.t.length rs with
      | some i => (match ops[i]? with
        | some o => takeS P ops st o i F fun F' st' => explore P cf ops fuel (listed.setIfInBounds i true) F' st' k
        | none => .fail)
      | none => bothL (fun i => match ops[i]? with
        | some o => stepOp P cf ops o st fun st' => recheck P ops (behind ops i F) st' (explore P cf ops fuel (listed.setIfInBounds i true) (behind ops i F) st' k)
        | none => .fail) rs)

section
variable {P : Program} {B : Beg} {G : List Value} {E : Nat → CE} {h : H} {st : St} {a : Act} {w : World} {R : Value → List (List Value) → H → Prop} {L : Lv} {N : Act → World → Prop}
  {Q : Exit → Act → World → Prop} {k : St → Out} {g : X} {cf : Cfg} {ops : Array Oper}

/-- A load and what is behind it, its value named. -/
theorem loadS_val (hA : SatA G E st a) (hW : SatW B G E h st.ch w) (hg : vb (g.den G) = true) {gg : X} (hgg : vb (gg.den G) = true) {t : TypeId} {x : Operand} {dst : Option Tmp} (ty : TypeId) (pos : String) (after : Array Edge) (guard : Option (Nat × Bool))
    (H : holds P R (loadS P st g gg t x dst k) G L h) :
    ∃ v, (execOp a.eval ⟨dst, .load t x, ty, pos, after, guard⟩).run P w = .ok (.value v) w ∧ ∃ G' st', SatA G' E st' (a.put dst v) ∧ SatW B G' E h st'.ch w ∧ holds P R (k st') G' L h := by
  unfold loadS at H
  split at H
  · rename_i s hq
    obtain ⟨hp, hrun⟩ := sound_load hA hW hg hq dst ty pos after guard
    exact ⟨_, hrun, G, _, hA.put dst (wrapG_rel hgg (Rel.of (fun _ => rfl) (plain_nogd hp)) (plain_nogd hp)), by rw [setT_ch]; exact hW, H⟩
  · split at H
    · rename_i p shs b hq
      split at H
      · rename_i hsc
        simp only [Bool.and_eq_true] at hsc
        obtain ⟨xs, hf, hr, H⟩ := H
        obtain ⟨hrun, hp⟩ := loadP_run (E := E) hA hW.hsub hg hq hf (hr hgg) dst ty pos after guard
        have hA' := hA.extend hsc.1 hf
        have hgg' : vb (gg.den (G ++ xs)) = true := by rw [X.den_append (by rw [← hA.len]; exact hsc.2)]; exact hgg
        refine ⟨_, hrun, G ++ xs, _, hA'.put dst (wrapG_rel hgg' (Rel.of (fun _ => by rw [hA.len]) ?_) ?_), by rw [setT_ch]; exact hW.extend hA hsc.1 xs, H⟩
        · rw [hA.len]; exact plain_nogd hp
        · rw [hA.len]; exact plain_nogd hp
      · exact H.elim
    · exact H.elim
theorem loadS_not (hA : SatA G E st a) (hW : SatW B G E h st.ch w) {gg : X} (hgg : vb (gg.den G) = false) {t : TypeId} {x : Operand} {dst : Option Tmp}
    (H : holds P R (loadS P st g gg t x dst k) G L h) : ∃ G' st', SatA G' E st' (a.put dst undef) ∧ SatW B G' E h st'.ch w ∧ holds P R (k st') G' L h := by
  unfold loadS at H
  split at H
  · exact ⟨G, _, hA.put dst (wrapG_undef hgg), by rw [setT_ch]; exact hW, H⟩
  · split at H
    · split at H
      · rename_i hsc
        simp only [Bool.and_eq_true] at hsc
        obtain ⟨xs, hf, hr, H⟩ := H
        have hA' := hA.extend hsc.1 hf
        have hgg' : vb (gg.den (G ++ xs)) = false := by rw [X.den_append (by rw [← hA.len]; exact hsc.2)]; exact hgg
        exact ⟨G ++ xs, _, hA'.put dst (wrapG_undef hgg'), by rw [setT_ch]; exact hW.extend hA hsc.1 xs, H⟩
      · exact H.elim
    · exact H.elim

/-- What is taken first: its value, what a state says behind it. -/
theorem takeS_val {o : Oper} {i : Nat} {F : List Nat} {next : List Nat → St → Out} (hA : SatA G E st a) (hW : SatW B G E h st.ch w) (H : holds P R (takeS P ops st o i F next) G L h) :
    ∃ (mem : Bool) (v : Value), (if mem then YieldsAt P ops o v a w else Yields P ops o v a) ∧ ∃ G' st', SatA G' E st' (a.put o.dst v) ∧ SatW B G' E h st'.ch w ∧ holds P R (next (if mem then i :: F else F) st') G' L h := by
  unfold takeS at H
  obtain ⟨dst, op, ty, pos, after, guard⟩ := o
  simp only at H
  split at H
  · exact H.elim
  · rename_i g hgx
    have hw : Region.wanted ⟨dst, op, ty, pos, after, guard⟩ (yielded ops a.tmps) = vb (g.den G) := guardX_den (o := ⟨dst, op, ty, pos, after, guard⟩) hA hgx
    have hq := fun hg => qpure_sound (P := P) (E := E) (ty := ty) hA (g := g) hg op
    split at H
    · rename_i ht
      have hg := test_den hA ht
      exact ⟨false, undef, .inr ⟨by rw [hw, hg], rfl⟩, G, _, hA.put dst undS_rel, by rw [setT_ch]; exact hW, H⟩
    · rename_i ht
      have hg := test_den hA ht
      have hq := hq hg
      split at H
      · rename_i ns s he
        rw [he] at hq
        obtain ⟨hn, H⟩ := holds_needN H
        obtain ⟨h1, v, hrel, hrun⟩ := hq (needs_mem (hn rfl))
        exact ⟨false, v, .inl ⟨by rw [hw, hg], fun w' => hrun w' dst pos after guard⟩, G, _, hA.put dst hrel, by rw [setT_ch]; exact hW, H⟩
      · rename_i ns sh f he
        rw [he] at hq
        split at H
        · rename_i hsc
          obtain ⟨hn, H⟩ := holds_needN H
          obtain ⟨hfit, hrun⟩ := hq (needs_mem (hn rfl))
          have H := H _ rfl
          have hgv : gv (G ++ [f.den G]) G.length = f.den G := by simp [gv, List.getD_eq_getElem?_getD]
          have hrel : Rel (G ++ [f.den G]) E (f.den G) (sh.sv st.sh.length) := by
            have := Sh.sv_den (G := G ++ [f.den G]) (E := E) (i := G.length) (s := sh) (by rw [hgv]; exact hfit)
            rw [hgv] at this
            rw [hA.len]
            exact Rel.of (fun _ => this.symm) (by cases sh <;> intro g t e <;> cases e)
          exact ⟨false, _, .inl ⟨by rw [hw, hg], fun w' => hrun w' dst pos after guard⟩, _, _, (hA.extend hsc (shs := [sh]) (xs := [f.den G]) ⟨hfit, trivial⟩).put dst hrel, by rw [setT_ch]; exact hW.extend hA hsc _, H⟩
        · exact H.elim
      · split at H
        · rename_i t x _
          obtain ⟨v, hrun, hrest⟩ := loadS_val hA hW hg rfl ty pos after guard H
          exact ⟨true, v, .inl ⟨by rw [hw, hg], hrun⟩, hrest⟩
        · exact H.elim
    · split at H
      · rename_i ns s he
        obtain ⟨hn, H⟩ := holds_needN H
        cases hg : vb (g.den G) with
        | true =>
          have hq := hq hg
          rw [he] at hq
          obtain ⟨h1, v, hrel, hrun⟩ := hq (needs_mem (hn hg))
          exact ⟨false, v, .inl ⟨by rw [hw, hg], fun w' => hrun w' dst pos after guard⟩, G, _, hA.put dst (wrapG_rel hg hrel h1), by rw [setT_ch]; exact hW, H⟩
        | false => exact ⟨false, undef, .inr ⟨by rw [hw, hg], rfl⟩, G, _, hA.put dst (wrapG_undef hg), by rw [setT_ch]; exact hW, H⟩
      · exact H.elim
      · split at H
        · rename_i t x _
          cases hg : vb (g.den G) with
          | true =>
            obtain ⟨v, hrun, hrest⟩ := loadS_val hA hW hg hg ty pos after guard H
            exact ⟨true, v, .inl ⟨by rw [hw, hg], hrun⟩, hrest⟩
          | false => exact ⟨true, undef, .inr ⟨by rw [hw, hg], rfl⟩, loadS_not hA hW hg H⟩
        · exact H.elim
end
end Go.Proofs.YtbgfabppmobpgaaDoor

/-
  Regions that draw their order, by symbols: that what is left to show suffices. Conditions: the entry of each function that is called is known ('CallOK').
-/
set_option linter.unusedVariables false
set_option linter.unusedSimpArgs false
namespace Go.Proofs.YtbgfabppmobpgaaDoor
open Go

section
variable {P : Program} {B : Beg} {G : List Value} {E : Nat → CE} {h : H} {st : St} {a : Act} {w : World} {R : Value → List (List Value) → H → Prop} {L : Lv} {N : Act → World → Prop}
  {Q : Exit → Act → World → Prop} {k : St → Out} {g : X} {cf : Cfg} {ops : Array Oper}

theorem tmps_rel (hA : SatA G E st a) (d : Nat) : Rel G E (a.tmps.getD d undef) (SV.get st.t d) := by
  simp only [SV.get, List.getD_eq_getElem?_getD]
  cases ht : st.t[d]? with
  | none => trivial
  | some s => exact hA.tmps d s ht
theorem unwrapG_rel {v : Value} {s : SV} {g : X} (hg : vb (g.den G) = true) (hr : Rel G E v s) (hp : (unwrapG g s).plain = true) : v = (unwrapG g s).den G E := by
  unfold unwrapG at hp ⊢
  split at hp
  · rename_i ht; simp only [ht, if_true]; exact hr.plain hp
  · rename_i ht
    simp only [ht, if_false, Bool.false_eq_true]
    split at hp
    · rename_i g' t
      split at hp
      · rename_i hb
        simp only [hb, if_true]
        have hr' : if vb (g'.den G) then v = t.den G E else v = undef := hr
        rw [X.beq_eq hb, hg, if_pos rfl] at hr'
        exact hr'
      · cases hp
    · cases hp
theorem unwrapG_undef {v : Value} {s : SV} {g : X} (hg : vb (g.den G) = false) (hr : Rel G E v s) (hp : (unwrapG g s).plain = true) : v = undef := by
  unfold unwrapG at hp
  split at hp
  · rename_i ht; have := isT_den (G := G) ht; rw [hg] at this; cases this
  · split at hp
    · rename_i g' t
      split at hp
      · rename_i hb
        have hr' : if vb (g'.den G) then v = t.den G E else v = undef := hr
        rw [X.beq_eq hb, hg, if_neg (by simp)] at hr'
        exact hr'
      · cases hp
    · cases hp
theorem loadP_again (hA : SatA G E st a) (hs : h.sub w) {g : X} (hg : vb (g.den G) = true) {t : TypeId} {x : Operand} {p : PE} {shs : List Sh} {b : Bool} (hq : loadP P st g t x = some (p, shs, b))
    {l : List Value} (hl : l.length = shs.length) (hr : Reads h (p.den G) l) (dst : Option Tmp) (ty : TypeId) (pos : String) (after : Array Edge) (guard : Option (Nat × Bool)) :
    (execOp a.eval ⟨dst, .load t x, ty, pos, after, guard⟩).run P w = .ok (.value (if b then .agg l.toArray else gv l 0)) w := by
  have hrw : ∀ i v, l[i]? = some v → w.cell? ((p.den G).add i) = some v := fun i v hv => H.sub_cell hs (hr i v hv)
  unfold loadP at hq
  split at hq
  · rename_i p' shs' n hx hsh ha hn
    split at hq
    · rename_i hb
      cases hq
      rw [Nat.beq_eq] at hb
      have hc := opr_den hA hg hx rfl
      have := run_loadVar_agg (P := P) (w := w) (l := l) (ad := p.den G) ha hn (by rw [hl]; exact hb) hrw
      simp only [execOp, Instr.loadAt, hc, SV.den, Instr.sureAddr, Sem.run_bind, Sem.run_pure, Result.andThen_ok, this, if_true]
    · cases hq
  · rename_i p' shs' n hx hsh ha hn
    split at hq
    · rename_i hb
      cases hq
      rw [Nat.beq_eq] at hb
      have hc := opr_den hA hg hx rfl
      match l, hl.trans hb with
      | [v], _ =>
        have hcell := hrw 0 v rfl
        have e0 : (p.den G).add 0 = p.den G := rfl
        rw [e0] at hcell
        have := run_loadVar_one (P := P) (w := w) ha hcell
        simp only [execOp, Instr.loadAt, hc, SV.den, Instr.sureAddr, Sem.run_bind, Sem.run_pure, Result.andThen_ok, this, Bool.false_eq_true, if_false, gv_zero]
    · cases hq
  · cases hq
theorem recheck_sound (hA : SatA G E st a) (hW : SatW B G E h st.ch w) : ∀ {F : List Nat} {k : Out}, holds P R (recheck P ops F st k) G L h → Pend P ops F a w ∧ holds P R k G L h
  | [], k, H => ⟨(fun _ hk => by cases hk), H⟩
  | i :: F, k, H => by
    have cons : (∀ o, ops[i]? = some o → ∃ d, o.dst = some d ∧ YieldsAt P ops o (a.tmps.getD d undef) a w) → Pend P ops F a w → Pend P ops (i :: F) a w := by
      intro h1 h2 k hk
      rcases List.mem_cons.1 hk with rfl | hk
      · exact h1
      · exact h2 k hk
    unfold recheck at H
    split at H
    · rename_i hn
      obtain ⟨h1, h2⟩ := recheck_sound hA hW H
      exact ⟨cons (fun o ho => by rw [hn] at ho; cases ho) h1, h2⟩
    · rename_i o ho
      split at H
      · rename_i t x d g hop hdst hgx
        have hw := guardX_den hA hgx
        have hrel := settle_rel (tg := st.test g) (g := g) (fun b hb => test_den hA hb) (tmps_rel hA d)
        obtain ⟨dst, op, ty, pos, after, guard⟩ := o
        simp only at hop hdst hgx
        subst hop
        subst hdst
        have fin : YieldsAt P ops ⟨some d, .load t x, ty, pos, after, guard⟩ (a.tmps.getD d undef) a w → ∀ o, ops[i]? = some o → ∃ d, o.dst = some d ∧ YieldsAt P ops o (a.tmps.getD d undef) a w := by
          intro hy o ho'
          rw [ho] at ho'
          cases ho'
          exact ⟨d, rfl, hy⟩
        split at H
        · rename_i ht
          have hg := test_den hA ht
          split at H
          · rename_i hb
            obtain ⟨h1, h2⟩ := recheck_sound hA hW H
            refine ⟨cons (fin (.inr ⟨by rw [hw, hg], ?_⟩)) h1, h2⟩
            rw [SV.beq_eq _ _ hb] at hrel
            exact hrel
          · exact H.elim
        · rename_i tg htg
          -- the guard that the value lies under
          generalize hgu : (if isSome (st.test g) then X.tt true else g) = gu at H
          have hgg : vb (gu.den G) = vb (g.den G) := by
            rw [← hgu]
            cases htt : st.test g with
            | none => rfl
            | some b =>
              cases b with
              | true => simp only [isSome, if_true]; rw [test_den hA htt]; rfl
              | false => exact absurd htt htg
          split at H
          · rename_i s hq
            split at H
            · rename_i hb
              simp only [Bool.and_eq_true] at hb
              have he := SV.beq_eq _ _ hb.2
              obtain ⟨h1, h2⟩ := recheck_sound hA hW H
              refine ⟨cons (fin ?_) h1, h2⟩
              cases hg : vb (g.den G) with
              | true =>
                obtain ⟨hp, hrun⟩ := sound_load hA hW hg hq (some d) ty pos after guard
                refine .inl ⟨by rw [hw, hg], ?_⟩
                rw [hrun, unwrapG_rel (hgg.trans hg) hrel (by rw [← he]; exact hb.1), ← he]
              | false => exact .inr ⟨by rw [hw, hg], unwrapG_undef (hgg.trans hg) hrel (by rw [← he]; exact hb.1)⟩
            · exact H.elim
          · split at H
            · rename_i p shs b hq
              split at H
              · rename_i l hl
                split at H
                · rename_i hc
                  simp only [Bool.and_eq_true, Nat.beq_eq] at hc
                  obtain ⟨hr, H⟩ := H
                  obtain ⟨h1, h2⟩ := recheck_sound hA hW H
                  refine ⟨cons (fin ?_) h1, h2⟩
                  cases hg : vb (g.den G) with
                  | true =>
                    refine .inl ⟨by rw [hw, hg], ?_⟩
                    rw [loadP_again hA hW.hsub hg hq (by rw [← hc.1]; simp [SV.denL_eq]) (hr hg) (some d) ty pos after guard]
                    rw [unwrapG_rel (hgg.trans hg) hrel (by rw [hl]; rfl), hl]
                    simp only [if_true, SV.den, closedL_den (E := E) hc.2]
                  | false => exact .inr ⟨by rw [hw, hg], unwrapG_undef (hgg.trans hg) hrel (by rw [hl]; rfl)⟩
                · exact H.elim
              · split at H
                · rename_i hc
                  simp only [Bool.and_eq_true] at hc
                  obtain ⟨hr, H⟩ := H
                  obtain ⟨h1, h2⟩ := recheck_sound hA hW H
                  refine ⟨cons (fin ?_) h1, h2⟩
                  have hsh : shs.length = 1 := by
                    unfold loadP at hq
                    split at hq
                    · split at hq <;> cases hq
                    · split at hq
                      · rename_i hb; cases hq; rw [Nat.beq_eq] at hb; exact hb
                      · cases hq
                    · cases hq
                  cases hg : vb (g.den G) with
                  | true =>
                    refine .inl ⟨by rw [hw, hg], ?_⟩
                    rw [loadP_again hA hW.hsub hg hq (by rw [hsh]; simp [SV.denL_eq]) (hr hg) (some d) ty pos after guard]
                    rw [unwrapG_rel (hgg.trans hg) hrel hc.1]
                    have := closedL_den (G := G) (E := E) hc.2
                    simp only [SV.denL, List.cons.injEq, and_true] at this
                    simp only [Bool.false_eq_true, if_false, SV.denL, gv_zero, this]
                  | false => exact .inr ⟨by rw [hw, hg], unwrapG_undef (hgg.trans hg) hrel hc.1⟩
                · exact H.elim
              · exact H.elim
            · exact H.elim
      · exact H.elim

theorem findE_spec {listed : Array Bool} {F : List Nat} {n i : Nat} : ∀ {l : List Nat}, findE P ops listed F st n l = some i → i ∈ l ∧ eagerAt ops i = true ∧ sepB ops i F n = true ∧ Region.free .any ops listed i = true
  | [], h => by cases h
  | j :: l, h => by
    unfold findE at h
    split at h
    · rename_i hc
      simp only [Bool.and_eq_true] at hc
      cases h
      exact ⟨List.mem_cons_self .., hc.1.1.1, hc.1.1.2, hc.1.2⟩
    · obtain ⟨h1, h2⟩ := findE_spec h
      exact ⟨List.mem_cons_of_mem _ h1, h2⟩
theorem bothL_mem {f : Nat → Out} : ∀ {l : List Nat}, holds P R (bothL f l) G L h → ∀ i ∈ l, holds P R (f i) G L h
  | [], H, _, hi => by cases hi
  | [j], H, i, hi => by
    rcases List.mem_cons.1 hi with rfl | hi
    · exact H
    · cases hi
  | j :: j' :: l, H, i, hi => by
    obtain ⟨h1, h2⟩ := H
    rcases List.mem_cons.1 hi with rfl | hi
    · exact h1
    · exact bothL_mem h2 i hi
theorem stepW_wpOp {i : Nat} {o : Oper} (hi : ops[i]? = some o) (hs : StepW P ops o N Q a w) : wpOp P ops Q i N a w := by
  unfold Go.wpOp
  simp only [hi]
  unfold StepW at hs
  split
  · rename_i hw; rw [if_pos hw] at hs; exact .inl hs
  · rename_i hw; rw [if_neg hw] at hs; exact hs
theorem explore_sound (hC : CallOK P cf.calls) (hsel : Region.noSelect ops = true) (hne : ∀ c a w, ¬ Q (.panic c) a w) (hk : Cont P B R L (Q .normal) k) :
    ∀ (fuel : Nat) (listed : Array Bool) (F : List Nat) (G : List Value) (E : Nat → CE) (h : H) (st : St) (a : Act) (w : World), SatA G E st a → SatW B G E h st.ch w → Pend P ops F a w →
      holds P R (explore P cf ops fuel listed F st k) G L h → wpF P ops Q fuel listed F a w := by
  intro fuel
  induction fuel with
  | zero =>
    intro listed F G E h st a w hA hW hP H
    unfold explore at H
    split at H
    · rename_i hr; exact ⟨hr, hk _ _ _ _ _ _ hA hW H⟩
    · exact H.elim
  | succ fuel ih =>
    intro listed F G E h st a w hA hW hP H
    unfold explore at H
    split at H
    · rename_i hr
      exact ⟨fun _ => hk _ _ _ _ _ _ hA hW H, by rw [hr]; simp⟩
    · split at H
      · rename_i i hfe
        obtain ⟨hmem, heg, hsep, hfree⟩ := findE_spec hfe
        split at H
        · rename_i o hi
          obtain ⟨mem, v, hy, G', st', hA', hW', H'⟩ := takeS_val hA hW H
          unfold sepB at hsep
          rw [hi] at hsep
          simp only at hsep
          have heo : eager o.op = true := by unfold eagerAt at heg; rw [hi] at heg; exact heg
          split at hsep
          · rename_i d hd
            simp only [Bool.and_eq_true, Nat.blt_eq, List.all_eq_true] at hsep
            have hS : Sep ops o d F := ⟨hd, by simpa using hsep.1.1, fun k hk ok hok => by
              have := hsep.2 k hk
              rw [hok] at this
              simp only [Bool.and_eq_true, Bool.not_eq_true'] at this
              refine ⟨this.1.1, by simpa using this.1.2, fun e => ?_⟩
              rw [e] at this
              simp at this⟩
            have hP' : Pend P ops (if mem then i :: F else F) (a.put o.dst v) w := by
              have h1 : Pend P ops F (a.put o.dst v) w := (hS.pend (fun _ h => h)).2 hP
              cases mem with
              | false => exact h1
              | true =>
                intro k hk
                simp only [if_true] at hk
                rcases List.mem_cons.1 hk with rfl | hk
                · intro o' ho'
                  rw [hi] at ho'
                  cases ho'
                  refine ⟨d, hd, ?_⟩
                  rw [hd, getD_put_self (by rw [← hA.size]; exact hsep.1.2)]
                  have := (YieldsAt.of_put (P := P) (ops := ops) (oi := o) (u := v) (v := v) (a := a) (w := w) (eager_nosel heo) (fun x hx => by rw [hd] at hx; cases hx; exact hS.self)).2
                  rw [hd] at this
                  exact this hy
                · exact h1 k hk
            exact wpF_first hi (Region.noSelect_spec hsel) hne heo mem fuel listed F a w (Region.free_spec hi hfree) hmem hS (fun _ => by rw [← hA.size]; exact hsep.1.2) hy hP (ih _ _ G' E h st' _ w hA' hW' hP' H')
          · cases hsep
        · exact H.elim
      · refine ⟨fun h0 => ?_, fun i hi => ?_⟩
        · rename_i hr _ _; exact absurd h0 hr
        · have Hi := bothL_mem H i hi
          split at Hi
          · rename_i o ho
            refine stepW_wpOp ho (stepOp_sound hC hA hW Hi fun G' E' h' st' a' w' hA' hW' H' => ?_)
            obtain ⟨h1, h2⟩ := recheck_sound hA' hW' H'
            exact ⟨h1, ih _ _ _ _ _ _ _ _ hA' hW' h1 h2⟩
          · exact Hi.elim
theorem SatW.drew (hW : SatW B G E h st.ch w) : SatW B G E h st.ch { w with drawn := w.drawn + 1 } :=
  ⟨hW.chunks, hW.hid, hW.dist, hW.own, hW.par, hW.hsub, ⟨hW.frm.size, hW.frm.os, hW.frm.tape, hW.frm.out, hW.frm.keep⟩, hW.pre⟩
/-- Q, but no panic. -/
def NoPan (Q : Exit → Act → World → Prop) : Exit → Act → World → Prop
  | .panic _, _, _ => False
  | e, a, w => Q e a w
theorem explore_region (hC : CallOK P cf.calls) (hm : P.follows .mixedOrders = true) (hsel : Region.noSelect ops = true) (hk : Cont P B R L (Q .normal) k) (hA : SatA G E st a) (hW : SatW B G E h st.ch w) {id : Nat}
    (H : holds P R (explore P cf ops ops.size (Array.replicate ops.size false) [] st k) G L h) : (Code.region id ops true).wp P Q a w := by
  have : (Code.region id ops true).wp P (NoPan Q) a w := by
    refine wp_region_any hm (wpAny_of_F _ _ [] _ _ ?_)
    exact explore_sound (Q := NoPan Q) hC hsel (fun _ _ _ h => h) hk _ _ _ _ _ _ _ _ _ hA hW.drew (fun _ hk => by cases hk) H
  exact Code.wp_mono (fun e a w q => by cases e <;> first | exact q | exact q.elim) this
end
end Go.Proofs.YtbgfabppmobpgaaDoor

/-
  The evaluator of code: regions, branches, blocks, loops. Conditions: none (definitions and plain lemmas).
-/
set_option linter.unusedVariables false
set_option linter.unusedSimpArgs false
namespace Go.Proofs.YtbgfabppmobpgaaDoor
open Go

inductive Ex where | norm | exit (id : Nat) | ret
  deriving Inhabited
def Ex.to : Ex → Exit | .norm => .normal | .exit id => .exit id | .ret => .ret
def beqSh : Sh → Sh → Bool
  | .int k, .int k' => beqIK k k'
  | .bool, .bool | .str, .str | .sl, .sl | .ptr, .ptr | .map, .map | .fn, .fn => true
  | .any, _ => true
  | _, _ => false
def beqShs : List Sh → List Sh → Bool
  | [], [] => true
  | s :: l, t :: m => beqSh s t && beqShs l m
  | _, _ => false
theorem beqSh_fits {s t : Sh} {v : Value} (h : beqSh s t = true) (hf : Fits t v) : Fits s v := by
  unfold beqSh at h
  split at h <;> first | exact hf | (rw [beqIK_eq h]; exact hf) | trivial | cases h

/-! ### What a loop's head keeps -/
def nameOf : SV → Option Nat
  | .int _ (.var i) => some i
  | .bool (.var i) => some i
  | .str (.var i) => some i
  | .val i => some i
  | _ => none
def covSV (n : Nat) (shs : List Sh) (vals : List SV) (s0 s : SV) : Bool :=
  match s0 with
  | .und => true
  | _ => (s0.sc n && s0.beq s) || (match nameOf s0 with
    | some i => Nat.ble n i && Nat.blt (i - n) shs.length && s0.beq ((shs.getD (i - n) .any).sv i) && (SV.get vals (i - n)).beq s && s.plain
    | none => false)
def covL (n : Nat) (shs : List Sh) (vals : List SV) : List SV → List SV → Bool
  | [], [] => true
  | s0 :: l0, s :: l => covSV n shs vals s0 s && covL n shs vals l0 l
  | _, _ => false
def covCh (n : Nat) (shs : List Sh) (vals : List SV) (ch : List (Nat × List SV)) : List (Nat × List SV) → Bool
  | [] => true
  | (k, c0) :: l => (match chGet k ch with
    | some c => covL n shs vals c0 c
    | none => false) && covCh n shs vals ch l
def keysOk : List (Nat × List SV) → Bool
  | [] => true
  | (k, _) :: l => !(hasN (l.map (·.1)) k) && keysOk l
def covers (n : Nat) (shs : List Sh) (vals : List SV) (st0 st : St) : Bool := covL n shs vals st0.t st.t && covCh n shs vals st.ch st0.ch
section
variable {P : Program} {B : Beg} {G G' : List Value} {E : Nat → CE} {h : H} {st st0 : St} {a : Act} {w : World}
theorem covSV_rel {n : Nat} {shs : List Sh} {vals : List SV} {s0 s : SV} {v : Value} (hn : G.length = n) (hc : covSV n shs vals s0 s = true) (hf : FitsL shs (SV.denL G' E vals)) (hpre : ∀ i, i < n → gv G' i = gv G i)
    (hpreD : ∀ s : SV, s.sc n = true → s.den G' E = s.den G E) (hpreX : ∀ x : X, x.sc n = true → x.den G' = x.den G) (hr : Rel G' E v s) : Rel (G ++ SV.denL G' E vals) E v s0 := by
  unfold covSV at hc
  split at hc
  · trivial
  · simp only [Bool.or_eq_true, Bool.and_eq_true] at hc
    rcases hc with ⟨h1, h2⟩ | h2
    · have e := SV.beq_eq _ _ h2
      subst e
      -- an old value: it says the same
      have hr2 : Rel G E v s0 := by
        unfold Rel at hr ⊢
        split at hr
        · trivial
        · rename_i x t _
          simp only [SV.sc, Bool.and_eq_true] at h1
          rw [← hpreX x h1.1, ← hpreD t h1.2]; exact hr
        · rw [← hpreD _ h1]; exact hr
      exact hr2.append (by rw [hn]; exact h1)
    · split at h2
      · rename_i i hi
        simp only [Bool.and_eq_true, Nat.ble_eq, Nat.blt_eq] at h2
        obtain ⟨⟨⟨⟨h3, h4⟩, h5⟩, h6⟩, h7⟩ := h2
        have e1 := SV.beq_eq _ _ h5
        have e2 := SV.beq_eq _ _ h6
        have hv := hr.plain h7
        have hlen : vals.length = shs.length := by have := hf.length; simp [SV.denL_eq] at this; exact this.symm
        have hgv : gv (G ++ SV.denL G' E vals) i = v := by
          rw [hv, ← e2]
          simp only [gv, SV.get, List.getD_eq_getElem?_getD, SV.denL_eq]
          rw [List.getElem?_append_right (by omega), hn, List.getElem?_map]
          rw [List.getElem?_eq_getElem (by omega)]
          rfl
        have hfit : Fits (shs.getD (i - n) .any) (gv (G ++ SV.denL G' E vals) i) := by
          have hs : shs[i - n]? = some (shs.getD (i - n) .any) := by
            rw [List.getD_eq_getElem?_getD, List.getElem?_eq_getElem h4]; rfl
          have := hf.get hs
          have e3 : gv (SV.denL G' E vals) (i - n) = gv (G ++ SV.denL G' E vals) i := by
            simp only [gv, List.getD_eq_getElem?_getD]
            rw [List.getElem?_append_right (by omega), hn]
          rw [← e3]; exact this
        have := Sh.sv_den (E := E) hfit
        rw [hgv] at this
        rw [e1]
        exact Rel.of (fun _ => this.symm) (by intro g t e; cases hsh : shs.getD (i - n) .any <;> rw [hsh] at e <;> cases e)
      · cases h2
theorem covL_get {n : Nat} {shs : List Sh} {vals : List SV} : ∀ {l0 l : List SV} {i : Nat} {s0 : SV}, covL n shs vals l0 l = true → l0[i]? = some s0 → ∃ s, l[i]? = some s ∧ covSV n shs vals s0 s = true
  | [], [], i, s0, _, h => by simp at h
  | x :: l0, y :: l, 0, s0, hc, h => by
    simp only [covL, Bool.and_eq_true] at hc
    simp at h; subst h
    exact ⟨y, rfl, hc.1⟩
  | x :: l0, y :: l, i + 1, s0, hc, h => by
    simp only [covL, Bool.and_eq_true] at hc
    obtain ⟨s, h1, h2⟩ := covL_get (i := i) hc.2 (by simpa using h)
    exact ⟨s, by simpa using h1, h2⟩
theorem covL_length {n : Nat} {shs : List Sh} {vals : List SV} : ∀ {l0 l : List SV}, covL n shs vals l0 l = true → l0.length = l.length
  | [], [], _ => rfl
  | x :: l0, y :: l, hc => by simp only [covL, Bool.and_eq_true] at hc; simp [covL_length hc.2]
theorem covL_rel {n : Nat} {shs : List Sh} {vals : List SV} (hn : G.length = n) (hf : FitsL shs (SV.denL G' E vals)) (hpre : ∀ i, i < n → gv G' i = gv G i)
    (hpreD : ∀ s : SV, s.sc n = true → s.den G' E = s.den G E) (hpreX : ∀ x : X, x.sc n = true → x.den G' = x.den G) :
    ∀ {l0 l : List SV} {vs : List Value}, covL n shs vals l0 l = true → RelL G' E vs l → RelL (G ++ SV.denL G' E vals) E vs l0
  | [], [], vs, _, hr => by cases vs with | nil => trivial | cons _ _ => exact hr.elim
  | x :: l0, y :: l, [], _, hr => hr.elim
  | x :: l0, y :: l, v :: vs, hc, hr => by
    simp only [covL, Bool.and_eq_true] at hc
    exact ⟨covSV_rel hn hc.1 hf hpre hpreD hpreX hr.1, covL_rel hn hf hpre hpreD hpreX hc.2 hr.2⟩
theorem covCh_mem {n : Nat} {shs : List Sh} {vals : List SV} {ch : List (Nat × List SV)} : ∀ {l : List (Nat × List SV)} {k : Nat} {c0 : List SV}, covCh n shs vals ch l = true → (k, c0) ∈ l → ∃ c, (k, c) ∈ ch ∧ covL n shs vals c0 c = true
  | [], _, _, _, h => by cases h
  | (j, d) :: l, k, c0, hc, h => by
    simp only [covCh, Bool.and_eq_true] at hc
    rcases List.mem_cons.1 h with e | h
    · cases e
      have h1 := hc.1
      split at h1
      · rename_i c hg; exact ⟨c, chGet_mem hg, h1⟩
      · cases h1
    · exact covCh_mem hc.2 h
theorem hasN_of_mem : ∀ {l : List Nat} {n : Nat}, n ∈ l → hasN l n = true
  | x :: l, n, h => by
    simp only [hasN, Bool.or_eq_true, Nat.beq_eq]
    rcases List.mem_cons.1 h with rfl | h
    · exact .inl rfl
    · exact .inr (hasN_of_mem h)
theorem keysOk_pair : ∀ {l : List (Nat × List SV)}, keysOk l = true → l.Pairwise fun x y => x.1 ≠ y.1
  | [], _ => List.Pairwise.nil
  | (k, c) :: l, h => by
    simp only [keysOk, Bool.and_eq_true, Bool.not_eq_true'] at h
    refine List.pairwise_cons.2 ⟨fun y hy e => ?_, keysOk_pair h.2⟩
    have : hasN (l.map (·.1)) k = true := hasN_of_mem (List.mem_map.2 ⟨y, hy, e.symm⟩)
    rw [h.1] at this; cases this
/-- What a loop's head says, of a state that it covers. -/
theorem covers_sat {n : Nat} {shs : List Sh} {vals : List SV} (hA : SatA G' E st a) (hW : SatW B G' E h st.ch w) (hn : G.length = n) (hB : B.G0 <+: G) (hpre : ∃ D, G' = G ++ D) (hc : covers n shs vals st0 st = true) (hko : keysOk st0.ch = true)
    (hf : FitsL shs (SV.denL G' E vals)) (hsh : FitsL st0.sh (G ++ SV.denL G' E vals)) (hkn : ∀ x b, (x, b) ∈ st0.kn → x.sc n = true ∧ vb (x.den G) = b) :
    SatA (G ++ SV.denL G' E vals) E st0 a ∧ SatW B (G ++ SV.denL G' E vals) E h st0.ch w := by
  obtain ⟨D, rfl⟩ := hpre
  simp only [covers, Bool.and_eq_true] at hc
  have p1 : ∀ i, i < n → gv (G ++ D) i = gv G i := fun i hi => gv_append (by omega)
  have p2 : ∀ s : SV, s.sc n = true → s.den (G ++ D) E = s.den G E := fun s hs => SV.den_append s (by rw [hn]; exact hs)
  have p3 : ∀ x : X, x.sc n = true → x.den (G ++ D) = x.den G := fun x hx => X.den_append (by rw [hn]; exact hx)
  constructor
  · refine ⟨by rw [covL_length hc.1]; exact hA.size, fun i s0 hi => ?_, hA.nodef, hsh, fun x b hm => ?_⟩
    · obtain ⟨s, h1, h2⟩ := covL_get hc.1 hi
      exact covSV_rel hn h2 hf p1 p2 p3 (hA.tmps i s h1)
    · obtain ⟨h1, h2⟩ := hkn x b hm
      rw [X.den_append (by rw [hn]; exact h1)]; exact h2
  · have hget : ∀ k c0, (k, c0) ∈ st0.ch → ∃ c, (k, c) ∈ st.ch ∧ covL n shs vals c0 c = true := fun k c0 hm => covCh_mem hc.2 hm
    refine ⟨fun k c0 hm => ?_, fun k c0 hm => ?_, ?_, fun k c0 hm => ?_, hW.par, hW.hsub, hW.frm, hB.trans (List.prefix_append ..)⟩
    · obtain ⟨c, h1, h2⟩ := hget k c0 hm
      obtain ⟨f, vs, hb, hr⟩ := hW.chunks k c h1
      exact ⟨by rw [covL_length h2]; exact f, vs, hb, covL_rel hn hf p1 p2 p3 h2 hr⟩
    · obtain ⟨c, h1, h2⟩ := hget k c0 hm; exact hW.hid k c h1
    · refine List.Pairwise.imp_of_mem (fun {x y} hx hy hxy => ?_) (keysOk_pair hko)
      obtain ⟨c, h1, _⟩ := hget x.1 x.2 hx
      obtain ⟨d, h2, _⟩ := hget y.1 y.2 hy
      exact dist_ne hW (x := (x.1, c)) (y := (y.1, d)) h1 h2 hxy
    · obtain ⟨c, h1, h2⟩ := hget k c0 hm; exact hW.own k c h1
end

/-! ### The evaluator -/
def firstReg : Code → Option Nat
  | .region id _ _ => some id
  | .seq x y => (firstReg x).or (firstReg y)
  | .cond _ x y => (firstReg x).or (firstReg y)
  | .block _ b | .loop b | .scope b => firstReg b
  | _ => none
def annOf : List (Nat × List Nat × List (Nat × Nat) × List Nat) → Nat → Option (List Nat × List (Nat × Nat) × List Nat)
  | [], _ => none
  | (j, x) :: l, i => if j.beq i then some x else annOf l i
def setNames : List Nat → Nat → List Sh → List SV → List SV
  | d :: ds, i, s :: ss, t => setNames ds (i + 1) ss (t.set d (s.sv i))
  | _, _, _, t => t
def setDead : List Nat → List SV → List SV
  | d :: ds, t => setDead ds (t.set d .und)
  | [], t => t
def setCells : List (Nat × Nat) → Nat → List Sh → List (Nat × List SV) → List (Nat × List SV)
  | (k, c) :: ds, i, s :: ss, ch => setCells ds (i + 1) ss (match chGet k ch with | some cs => chSet k (cs.set c (s.sv i)) ch | none => ch)
  | _, _, _, ch => ch
def cellGet (st : St) (x : Nat × Nat) : SV := match chGet x.1 st.ch with | some cs => SV.get cs x.2 | none => .und
def loopVals (st : St) (slots : List Nat) (cells : List (Nat × Nat)) : List SV := slots.map (SV.get st.t) ++ cells.map (cellGet st)
def headSt (st : St) (slots : List Nat) (cells : List (Nat × Nat)) (dead : List Nat) : St :=
  { t := setNames slots st.sh.length ((loopVals st slots cells).map (svSh st)) (setDead dead st.t),
    ch := setCells cells (st.sh.length + slots.length) (((loopVals st slots cells).map (svSh st)).drop slots.length) st.ch,
    sh := st.sh ++ (loopVals st slots cells).map (svSh st), kn := st.kn }
def againS (d n : Nat) (shs : List Sh) (st0 : St) (slots : List Nat) (cells : List (Nat × Nat)) (st : St) : Out :=
  if closedL (loopVals st slots cells) && beqShs shs ((loopVals st slots cells).map (svSh st)) && covers n shs (loopVals st slots cells) st0 st then .again d (loopVals st slots cells) else .fail
def runOps (P : Program) (cf : Cfg) (ops : Array Oper) : List Oper → St → (St → Out) → Out
  | [], st, k => k st
  | o :: l, st, k => stepOp P cf ops o st fun st' => runOps P cf ops l st' k
def ev (P : Program) (cf : Cfg) : Code → Nat → St → (Ex → St → Out) → Out
  | .skip, _, st, k => k .norm st
  | .label _, _, st, k => k .norm st
  | .region _ ops draw, _, st, k =>
    if draw then (if Region.noSelect ops then explore P cf ops ops.size (Array.replicate ops.size false) [] st (k .norm) else .fail)
    else runOps P cf ops ops.toList st (k .norm)
  | .seq x y, d, st, k => ev P cf x d st fun e st' => match e with
    | .norm => ev P cf y d st' k
    | .exit i => k (.exit i) st'
    | .ret => k .ret st'
  | .cond c x y, d, st, k => (match st.opr (.tt true) c with
    | .bool e => (match st.test e with
      | some true => ev P cf x d st k
      | some false => ev P cf y d st k
      | none => (match pr P (.cond c x y) st with
        | some st' => k .norm st'
        | none => .ite e (ev P cf x d (st.add e true) k) (ev P cf y d (st.add e false) k)))
    | _ => .fail)
  | .block id b, d, st, k => ev P cf b d st fun e st' => match e with
    | .norm => k .norm st'
    | .exit i => if i.beq id then k .norm st' else k (.exit i) st'
    | .ret => k .ret st'
  | .scope b, d, st, k => ev P cf b d st k
  | .loop b, d, st, k => (match (firstReg b).bind (annOf cf.loops) with
    | some (slots, cells, dead) =>
      if closedL (loopVals st slots cells) && covers st.sh.length ((loopVals st slots cells).map (svSh st)) (loopVals st slots cells) (headSt st slots cells dead) st && st.scOk && keysOk (headSt st slots cells dead).ch then
        .loop d (loopVals st slots cells) ((loopVals st slots cells).map (svSh st)) (ev P cf b (d + 1) (headSt st slots cells dead) fun e st' => match e with
          | .norm => againS d st.sh.length ((loopVals st slots cells).map (svSh st)) (headSt st slots cells dead) slots cells st'
          | .exit i => k (.exit i) st'
          | .ret => k .ret st')
      else .fail
    | none => .fail)
  | .exit id, _, st, k => k (.exit id) st
  | .ret, _, st, k => k .ret st
  | _, _, _, _ => .fail
end Go.Proofs.YtbgfabppmobpgaaDoor

/-
  The evaluator of code: that what is left to show suffices; a function's contract from it. Conditions: the entry of each function that is called is known ('CallOK'); the program is read under 'mixedOrders'.
-/
set_option linter.unusedVariables false
set_option linter.unusedSimpArgs false
namespace Go.Proofs.YtbgfabppmobpgaaDoor
open Go

section
variable {P : Program} {R : Value → List (List Value) → H → Prop} {cf : Cfg}
def KOk (P : Program) (B : Beg) (R : Value → List (List Value) → H → Prop) (d : Nat) (L0 : Lv) (Q : Exit → Act → World → Prop) (k : Ex → St → Out) : Prop :=
  ∀ (e : Ex) (G : List Value) (E : Nat → CE) (h : H) (st : St) (a : Act) (w : World) (L : Lv), SatA G E st a → SatW B G E h st.ch w → L.take d = L0 → holds P R (k e st) G L h → Q e.to a w
theorem Frm.re {B : Beg} {h : H} {w : World} (f : Frm B h w) (G1 : List Value) : Frm { B with G0 := G1 } h w := ⟨f.size, f.os, f.tape, f.out, f.keep⟩
theorem SatW.re {B : Beg} {G G1 : List Value} {E : Nat → CE} {h : H} {ch : List (Nat × List SV)} {w : World} (hW : SatW B G E h ch w) (hp : G1 <+: G) : SatW { B with G0 := G1 } G E h ch w :=
  ⟨hW.chunks, hW.hid, hW.dist, hW.own, hW.par, hW.hsub, hW.frm.re G1, hp⟩
theorem SatW.un {B : Beg} {G G1 : List Value} {E : Nat → CE} {h : H} {ch : List (Nat × List SV)} {w : World} (hW : SatW { B with G0 := G1 } G E h ch w) (hp : B.G0 <+: G1) : SatW B G E h ch w :=
  ⟨hW.chunks, hW.hid, hW.dist, hW.own, hW.par, hW.hsub, ⟨hW.frm.size, hW.frm.os, hW.frm.tape, hW.frm.out, hW.frm.keep⟩, hp.trans hW.pre⟩
theorem runOps_sound {B : Beg} {L : Lv} {Q : Exit → Act → World → Prop} (hC : CallOK P cf.calls) {ops : Array Oper} {k : St → Out} (hk : Cont P B R L (Q .normal) k) :
    ∀ {l : List Oper} {G : List Value} {E : Nat → CE} {h : H} {st : St} {a : Act} {w : World}, SatA G E st a → SatW B G E h st.ch w → holds P R (runOps P cf ops l st k) G L h → wpList P ops Q l a w
  | [], G, E, h, st, a, w, hA, hW, H => hk _ _ _ _ _ _ hA hW H
  | o :: l, G, E, h, st, a, w, hA, hW, H =>
    stepW_list (stepOp_sound hC hA hW H fun G' E' h' st' a' w' hA' hW' H' => runOps_sound hC hk hA' hW' H')
theorem fits_map {G : List Value} {E : Nat → CE} {st : St} {a : Act} (hA : SatA G E st a) : ∀ (l : List SV), FitsL (l.map (svSh st)) (SV.denL G E l)
  | [] => trivial
  | s :: l => ⟨svSh_fits hA s, fits_map hA l⟩
theorem beqShs_fits : ∀ {l m : List Sh} {xs : List Value}, beqShs l m = true → FitsL m xs → FitsL l xs
  | [], [], _, _, h => h
  | s :: l, t :: m, [], _, h => h.elim
  | s :: l, t :: m, v :: xs, hb, h => by
    simp only [beqShs, Bool.and_eq_true] at hb
    exact ⟨beqSh_fits hb.1 h.1, beqShs_fits hb.2 h.2⟩
  | [], _ :: _, _, hb, _ => by cases hb
  | _ :: _, [], _, hb, _ => by cases hb
theorem take_snoc' {L : Lv} {d : Nat} {p : List Value → H → Prop} (hl : (L.take d).length = d) : (L.take d ++ [p])[d]? = some p := by
  rw [List.getElem?_append_right (by omega), hl]; simp
theorem ev_sound (hC : CallOK P cf.calls) (hm : P.follows .mixedOrders = true) : ∀ (c : Code) {B : Beg} {d : Nat} {st : St} {k : Ex → St → Out} {Q : Exit → Act → World → Prop} {G : List Value} {E : Nat → CE} {h : H} {a : Act} {w : World} {L L0 : Lv},
    KOk P B R d L0 Q k → SatA G E st a → SatW B G E h st.ch w → L.take d = L0 → L0.length = d → holds P R (ev P cf c d st k) G L h → c.wp P Q a w := by
  intro c
  induction c <;> intro B d st k Q G E h a w L L0 hk hA hW hL hd H
  case skip => exact wp_skip (hk .norm _ _ _ _ _ _ _ hA hW hL H)
  case label l => exact wp_label (hk .norm _ _ _ _ _ _ _ hA hW hL H)
  case region id ops draw =>
    unfold ev at H
    have hkc : Cont P B R L (Q .normal) (k .norm) := fun G' E' h' st' a' w' hA' hW' H' => hk .norm _ _ _ _ _ _ _ hA' hW' hL H'
    split at H
    · rename_i hdr
      subst hdr
      split at H
      · rename_i hs
        exact explore_region hC hm hs hkc hA hW H
      · exact H.elim
    · rename_i hdr
      have : draw = false := by simpa using hdr
      subst this
      exact wp_region_list (runOps_sound hC hkc hA hW H)
  case seq x y ix iy =>
    unfold ev at H
    refine wp_seq (ix (Q := Exit.then (y.wp P Q) Q) ?_ hA hW hL hd H)
    intro e G' E' h' st' a' w' L' hA' hW' hL' H'
    cases e with
    | norm => exact iy hk hA' hW' hL' hd H'
    | exit i => exact hk (.exit i) _ _ _ _ _ _ _ hA' hW' hL' H'
    | ret => exact hk .ret _ _ _ _ _ _ _ hA' hW' hL' H'
  case cond c x y ix iy =>
    unfold ev at H
    split at H
    · rename_i e he
      have hc : a.eval c = .bool (vb (e.den G)) := opr_den hA (g := .tt true) rfl he rfl
      split at H
      · rename_i ht
        rw [test_den hA ht] at hc
        exact wp_cond_true hc (ix hk hA hW hL hd H)
      · rename_i ht
        rw [test_den hA ht] at hc
        exact wp_cond_false hc (iy hk hA hW hL hd H)
      · split at H
        · rename_i st' hp
          exact pr_sound hA hW hp fun a' w' hA' hW' => hk .norm _ _ _ _ _ _ _ hA' hW' hL H
        · obtain ⟨h1, h2⟩ := H
          exact wp_cond_split hc (fun ht => ix hk (hA.add ht) hW hL hd (h1 ht)) (fun hf => iy hk (hA.add hf) hW hL hd (h2 hf))
    · exact H.elim
  case block id b ib =>
    unfold ev at H
    refine wp_block (ib (Q := Exit.inBlock id Q) ?_ hA hW hL hd H)
    intro e G' E' h' st' a' w' L' hA' hW' hL' H'
    cases e with
    | norm => exact hk .norm _ _ _ _ _ _ _ hA' hW' hL' H'
    | exit i =>
      show (if i = id then Q .normal a' w' else Q (.exit i) a' w')
      simp only at H'
      split at H'
      · rename_i hi; rw [Nat.beq_eq] at hi; rw [if_pos hi]; exact hk .norm _ _ _ _ _ _ _ hA' hW' hL' H'
      · rename_i hi; rw [if_neg (fun e => hi (by rw [Nat.beq_eq]; exact e))]; exact hk (.exit i) _ _ _ _ _ _ _ hA' hW' hL' H'
    | ret => exact hk .ret _ _ _ _ _ _ _ hA' hW' hL' H'
  case scope b ib =>
    unfold ev at H
    refine wp_scope_straight (ib (Q := Exit.noGoto Q) ?_ hA hW hL hd H)
    intro e G' E' h' st' a' w' L' hA' hW' hL' H'
    cases e with
    | norm => exact hk .norm _ _ _ _ _ _ _ hA' hW' hL' H'
    | exit i => exact hk (.exit i) _ _ _ _ _ _ _ hA' hW' hL' H'
    | ret => exact hk .ret _ _ _ _ _ _ _ hA' hW' hL' H'
  case loop b ib =>
    unfold ev at H
    split at H
    · rename_i slots cells dead hann
      split at H
      · rename_i hc
        simp only [Bool.and_eq_true] at hc
        obtain ⟨⟨⟨hcl, hcov⟩, hsc⟩, hko⟩ := hc
        generalize hshs : (loopVals st slots cells).map (svSh st) = shs at H hcov
        generalize hst0 : headSt st slots cells dead = st0 at H hcov hko
        have hlen : G.length = st.sh.length := hA.len.symm
        have hst0sh : st0.sh = st.sh ++ shs := by rw [← hst0, ← hshs]; rfl
        have hst0kn : st0.kn = st.kn := by rw [← hst0]; rfl
        have hkn : ∀ x b, (x, b) ∈ st0.kn → x.sc st.sh.length = true ∧ vb (x.den G) = b := by
          intro x b hm'
          rw [hst0kn] at hm'
          simp only [St.scOk, Bool.and_eq_true] at hsc
          exact ⟨scKn_mem hsc.2 hm', hA.kn x b hm'⟩
        obtain ⟨I, μ, h0, hround⟩ := H
        have hf0 : FitsL shs (SV.denL G E (loopVals st slots cells)) := by rw [← hshs]; exact fits_map hA _
        have hc0 : SV.denL G E (loopVals st slots cells) = SV.denL G dE (loopVals st slots cells) := closedL_den hcl
        have hW1 := hW.re (List.prefix_rfl (l := G))
        have hLd : (L.take d).length = d := by rw [hL]; exact hd
        refine wp_loop_ghost (fun n a w => ∃ (E : Nat → CE) (h : H) (xs : List Value), SatA (G ++ xs) E st0 a ∧ SatW { B with G0 := G } (G ++ xs) E h st0.ch w ∧ FitsL shs xs ∧ I xs h ∧ μ xs h = n)
          (μ (SV.denL G dE (loopVals st slots cells)) h) ?_ ?_
        · obtain ⟨s1, s2⟩ := covers_sat hA hW1 hlen List.prefix_rfl ⟨[], by simp⟩ hcov hko hf0 (by rw [hst0sh]; exact hA.fits.append hf0) hkn
          rw [hc0] at s1 s2
          exact ⟨E, h, _, s1, s2, by rw [← hc0]; exact hf0, h0, rfl⟩
        · rintro n a1 w1 ⟨E1, h1, xs, sA, sW, hfx, hI, hμ⟩
          refine ib (d := d + 1) (L := L.take d ++ [fun ys h'' => I ys h'' ∧ μ ys h'' < μ xs h1]) (L0 := L.take d ++ [fun ys h'' => I ys h'' ∧ μ ys h'' < μ xs h1]) ?_ sA sW
            (List.take_of_length_le (by simp [hLd])) (by simp [hLd]) (hround xs h1 hfx hI)
          intro e G' E' h' st' a' w' L' hA' hW' hL' H'
          have hLdd : L'.take d = L0 := by
            have := congrArg (List.take d) hL'
            rw [List.take_take, Nat.min_eq_left (by omega), List.take_append_of_le_length (by omega), List.take_take, Nat.min_self] at this
            rw [this]; exact hL
          cases e with
          | norm =>
            show ∃ n', n' < n ∧ _
            simp only at H'
            unfold againS at H'
            split at H'
            · rename_i hc'
              simp only [Bool.and_eq_true] at hc'
              obtain ⟨⟨c1, c2⟩, c3⟩ := hc'
              have hf' : FitsL shs (SV.denL G' E' (loopVals st' slots cells)) := beqShs_fits c2 (fits_map hA' _)
              have hcc : SV.denL G' E' (loopVals st' slots cells) = SV.denL G' dE (loopVals st' slots cells) := closedL_den c1
              have hpre : ∃ D, G' = G ++ D := by
                obtain ⟨D, hD⟩ := hW'.pre
                exact ⟨D, hD.symm⟩
              obtain ⟨s1, s2⟩ := covers_sat hA' hW' hlen List.prefix_rfl hpre c3 hko hf' (by rw [hst0sh]; exact hA.fits.append hf') hkn
              have hat : L'[d]? = some (fun ys h'' => I ys h'' ∧ μ ys h'' < μ xs h1) := by
                have := take_snoc' (L := L) (p := fun ys h'' => I ys h'' ∧ μ ys h'' < μ xs h1) hLd
                rw [← hL', List.getElem?_take] at this
                simpa using this
              have H2 : Lv.at L' d (SV.denL G' dE (loopVals st' slots cells)) h' := H'
              unfold Lv.at at H2
              rw [hat] at H2
              obtain ⟨k1, k2⟩ := H2
              rw [hcc] at s1 s2 hf'
              exact ⟨_, by rw [← hμ]; exact k2, E', h', _, s1, s2, hf', k1, rfl⟩
            · exact H'.elim
          | exit i => exact hk (.exit i) _ _ _ _ _ _ _ hA' (hW'.un hW.pre) hLdd H'
          | ret => exact hk .ret _ _ _ _ _ _ _ hA' (hW'.un hW.pre) hLdd H'
      · exact H.elim
    · exact H.elim
  case exit id => exact wp_exit (hk (.exit id) _ _ _ _ _ _ _ hA hW hL H)
  case ret => exact wp_ret (hk .ret _ _ _ _ _ _ _ hA hW hL H)
  all_goals exact H.elim
end
end Go.Proofs.YtbgfabppmobpgaaDoor

/-
  A function's contract from what the evaluator leaves. Conditions: the entry of each function that is called is known ('CallOK'); the program is read under 'mixedOrders'.
-/
set_option linter.unusedVariables false
set_option linter.unusedSimpArgs false
namespace Go.Proofs.YtbgfabppmobpgaaDoor
open Go

section
variable {P : Program} {B : Beg} {G : List Value} {E : Nat → CE} {h : H} {st : St} {a : Act} {w : World} {R : Value → List (List Value) → H → Prop} {cf : Cfg}
theorem qLoad_spec (hA : SatA G E st a) (hW : SatW B G E h st.ch w) {g : X} (hg : vb (g.den G) = true) {t : TypeId} {x : Operand} {s : SV} (hq : qLoad P st g t x = some s) :
    s.plain = true ∧ ∃ ad, a.eval x = .pointer (some ad) ∧ (loadVar t ad).run P w = .ok (s.den G E) w := by
  obtain ⟨h1, h2⟩ := sound_load hA hW hg hq none 0 "" #[] none
  refine ⟨h1, ?_⟩
  unfold qLoad at hq
  split at hq
  · rename_i k off hx
    have hc : a.eval x = .pointer (some ((E k).at off)) := opr_den hA hg hx rfl
    refine ⟨_, hc, ?_⟩
    simp only [execOp, Instr.loadAt, hc, Instr.sureAddr, Sem.run_bind, Sem.run_pure, Result.andThen_ok] at h2
    cases hr : (loadVar t ((E k).at off)).run P w with
    | ok v w' =>
      rw [hr] at h2
      simp only [Result.andThen_ok, Result.ok.injEq, Next.value.injEq] at h2
      rw [h2.1, h2.2]
    | halt x w' => rw [hr] at h2; simp at h2
  · cases hq
def resS (P : Program) (st : St) : List ResultVar → Option (List SV)
  | [] => some []
  | .tmp t :: l => (match resS P st l with
    | some r => if (st.opr (.tt true) (.tmp t)).plain then some (st.opr (.tt true) (.tmp t) :: r) else none
    | none => none)
  | .cell x t :: l => (match qLoad P st (.tt true) t (.tmp x), resS P st l with
    | some s, some r => some (s :: r)
    | _, _ => none)
def resRun (tmps : Array Value) : ResultVar → Sem Value
  | .tmp t => pure (tmps.getD t undef)
  | .cell x t => do loadVar t (← asAddr (tmps.getD x undef))
theorem resS_run (hA : SatA G E st a) (hW : SatW B G E h st.ch w) : ∀ {l : List ResultVar} {r : List SV}, resS P st l = some r → (l.mapM (resRun a.tmps)).run P w = .ok (SV.denL G E r) w
  | [], r, hr => by simp only [resS, Option.some.injEq] at hr; subst hr; simp [SV.denL]
  | .tmp t :: l, r, hr => by
    unfold resS at hr
    split at hr
    · rename_i r' hr'
      split at hr
      · rename_i hp
        cases hr
        have ih := resS_run hA hW hr'
        have hv : a.tmps.getD t undef = (st.opr (.tt true) (.tmp t)).den G E := opr_den (x := .tmp t) hA (g := .tt true) rfl rfl hp
        simp only [List.mapM_cons, resRun, Sem.run_bind, Sem.run_pure, Result.andThen_ok, ih, SV.denL, hv]
      · cases hr
    · cases hr
  | .cell x t :: l, r, hr => by
    unfold resS at hr
    split at hr
    · rename_i s r' hs hr'
      cases hr
      have ih := resS_run hA hW hr'
      obtain ⟨_, ad, h1, h2⟩ := qLoad_spec hA hW (g := .tt true) rfl hs
      have h1' : a.tmps.getD x undef = .pointer (some ad) := h1
      simp only [List.mapM_cons, resRun, h1', asAddr, Sem.run_bind, Sem.run_pure, Result.andThen_ok, h2, ih, SV.denL]
    · cases hr
def resV (l : List SV) : SV := match l with | [s] => s | l => .tup l
theorem results_run (hA : SatA G E st a) (hW : SatW B G E h st.ch w) {fn : Func} {r : List SV} (hr : resS P st fn.results.toList = some r) : (results fn a.tmps).run P w = .ok ((resV r).den G E) w := by
  have h1 := resS_run (P := P) hA hW hr
  have h2 : (fn.results.mapM (resRun a.tmps)).run P w = .ok (SV.denL G E r).toArray w := by
    rw [Array.mapM_eq_mapM_toList, Sem.run_map, h1]; rfl
  have h3 : results fn a.tmps = (do let vs ← fn.results.mapM (resRun a.tmps); pure (if h : vs.size = 1 then vs[0] else .tuple vs)) := by
    unfold results
    congr 1
  rw [h3, Sem.run_bind, h2]
  simp only [Result.andThen_ok, Sem.run_pure, Result.ok.injEq, and_true]
  unfold resV
  match r with
  | [] => simp [SV.denL, SV.den]
  | [s] => simp [SV.denL]
  | s :: s' :: l => simp [SV.denL, SV.den]
def parC (ch : List (Nat × List SV)) : List Nat → Option (List (List SV))
  | [] => some []
  | i :: l => (match chGet (pkey i) ch, parC ch l with
    | some c, some r => if allPlain c && closedL c then some (c :: r) else none
    | _, _ => none)
theorem parC_get {ch : List (Nat × List SV)} : ∀ {l : List Nat} {r : List (List SV)} {j : Nat} {i : Nat}, parC ch l = some r → l[j]? = some i → ∃ c, r[j]? = some c ∧ (pkey i, c) ∈ ch ∧ allPlain c = true ∧ closedL c = true
  | [], _, _, _, _, h => by simp at h
  | i :: l, r, j, i', hr, hj => by
    unfold parC at hr
    split at hr
    · rename_i c r' hc hr'
      split at hr
      · rename_i hp
        simp only [Bool.and_eq_true] at hp
        cases hr
        cases j with
        | zero => simp at hj; subst hj; exact ⟨c, rfl, chGet_mem hc, hp.1, hp.2⟩
        | succ j =>
          obtain ⟨c', h1, h2⟩ := parC_get (j := j) hr' (by simpa using hj)
          exact ⟨c', by simpa using h1, h2⟩
      · cases hr
    · cases hr
theorem parC_length {ch : List (Nat × List SV)} : ∀ {l : List Nat} {r : List (List SV)}, parC ch l = some r → r.length = l.length
  | [], r, h => by simp only [parC, Option.some.injEq] at h; subst h; rfl
  | i :: l, r, hr => by
    unfold parC at hr
    split at hr
    · rename_i c r' hc hr'
      split at hr
      · cases hr; simp [parC_length hr']
      · cases hr
    · cases hr
def beqNats : List Nat → List Nat → Bool
  | [], [] => true
  | x :: l, y :: m => x.beq y && beqNats l m
  | _, _ => false
theorem beqNats_eq : ∀ {l m : List Nat}, beqNats l m = true → l = m
  | [], [], _ => rfl
  | x :: l, y :: m, h => by simp only [beqNats, Bool.and_eq_true, Nat.beq_eq] at h; rw [h.1, beqNats_eq h.2]
/-- Where a function's code ends. -/
def finK (P : Program) (rs : Array ResultVar) (lens : List Nat) (e : Ex) (st : St) : Out :=
  match e with
  | .exit _ => .fail
  | _ => (match resS P st rs.toList, parC st.ch (List.range lens.length) with
    | some l, some cs => if closedL l && beqNats (cs.map List.length) lens then .done (resV l) cs else .fail
    | _, _ => .fail)
def initCh : Nat → List (List SV) → List (Nat × List SV)
  | _, [] => []
  | i, c :: l => (pkey i, c) :: initCh (i + 1) l
def initSt (ps : List SV) (pcs : List (List SV)) (n : Nat) (sh : List Sh) : St := { t := ps ++ List.replicate (n - ps.length) .und, ch := initCh 0 pcs, sh, kn := [] }
def okInit (ps : List SV) (pcs : List (List SV)) : Bool := allPlain ps && pcs.all fun c => allPlain c && closedL c
theorem initCh_mem : ∀ {l : List (List SV)} {i k : Nat} {c : List SV}, (k, c) ∈ initCh i l → ∃ j, l[j]? = some c ∧ k = pkey (i + j)
  | [], _, _, _, h => by cases h
  | d :: l, i, k, c, h => by
    simp only [initCh] at h
    rcases List.mem_cons.1 h with e | h
    · cases e; exact ⟨0, rfl, rfl⟩
    · obtain ⟨j, h1, h2⟩ := initCh_mem h
      exact ⟨j + 1, by simpa using h1, by rw [h2]; congr 1; omega⟩
theorem pkey_sub (i : Nat) : pkey i - 1000000 = i := by unfold pkey; exact Nat.add_sub_cancel_left ..
theorem initCh_pair {El : List CE} (hp : El.Pairwise fun c d => c.blk ≠ d.blk) : ∀ {l : List (List SV)} {i : Nat}, i + l.length ≤ El.length →
    (initCh i l).Pairwise fun x y => ((fun k => El.getD (k - 1000000) default) x.1 : CE).blk ≠ ((fun k => El.getD (k - 1000000) default) y.1 : CE).blk
  | [], i, _ => List.Pairwise.nil
  | c :: l, i, hl => by
    simp only [List.length_cons] at hl
    simp only [initCh]
    refine List.pairwise_cons.2 ⟨fun y hy => ?_, initCh_pair hp (by omega)⟩
    obtain ⟨j, h1, h2⟩ := initCh_mem (k := y.1) (c := y.2) hy
    have hj := (List.getElem?_eq_some_iff.1 h1).1
    have e1 : pkey i - 1000000 = i := by unfold pkey; omega
    have e2 : y.1 - 1000000 = i + 1 + j := by have h3 := pkey_sub (i + 1 + j); rw [← h2] at h3; exact h3
    simp only [e1, e2]
    rw [List.getD_eq_getElem?_getD, List.getD_eq_getElem?_getD, List.getElem?_eq_getElem (by omega), List.getElem?_eq_getElem (by omega)]
    exact List.pairwise_iff_getElem.1 hp i (i + 1 + j) (by omega) (by omega) (by omega)
theorem CallsA.of_ev {f : FuncId} {fn : Func} {c : Code} (hfn : P.funcs[f]? = some fn) (hb : fn.body = some c) (hC : CallOK P cf.calls) (hm : P.follows .mixedOrders = true)
    {sh : List Sh} {ps : List SV} {pcs : List (List SV)} (hfit : FitsL sh G) (hok : okInit ps pcs = true)
    (H : holds P R (ev P cf c 0 (initSt ps pcs fn.ntmps sh) (finK P fn.results (pcs.map List.length))) G [] h) :
    CallsA P f (fun e => SV.denL G (fun k => e (k - 1000000)) ps) (pcs.map (SV.denL G dE)) h R := by
  intro w El hlen hCh hno hpw hsub
  simp only [okInit, Bool.and_eq_true, List.all_eq_true] at hok
  obtain ⟨E, hE⟩ : ∃ E : Nat → CE, E = fun k => El.getD (k - 1000000) default := ⟨_, rfl⟩
  have hlen' : El.length = pcs.length := by simpa using hlen
  have hEp : ∀ i, E (pkey i) = El.getD i default := fun i => by
    have e1 : pkey i - 1000000 = i := by unfold pkey; omega
    rw [hE]; simp only [e1]
  have hargs : SV.denL G (fun k => El.getD (k - 1000000) default) ps = SV.denL G E ps := by rw [hE]
  dsimp only
  rw [hargs]
  refine calls_of_wp hfn hb ?_
  have hsz : (SV.denL G E ps).toArray.size = ps.length := by simp [SV.denL_eq]
  have hA : SatA G E (initSt ps pcs fn.ntmps sh) { tmps := (SV.denL G E ps).toArray ++ Array.replicate (fn.ntmps - (SV.denL G E ps).toArray.size) undef, defers := [] } := by
    refine ⟨by simp [initSt, SV.denL_eq], fun i s hi => ?_, rfl, hfit, fun x b hm => by cases hm⟩
    simp only [initSt] at hi
    by_cases hlt : i < ps.length
    · rw [List.getElem?_append_left hlt] at hi
      have hp : s.plain = true := by
        have := hok.1; simp only [allPlain, List.all_eq_true] at this
        exact this s (List.mem_of_getElem? hi)
      have : ((SV.denL G E ps).toArray ++ Array.replicate (fn.ntmps - (SV.denL G E ps).toArray.size) undef).getD i undef = s.den G E := by
        rw [Array.getD_eq_getD_getElem?, Array.getElem?_append_left (by rw [hsz]; exact hlt)]
        simp [SV.denL_eq, hi]
      rw [this]
      exact Rel.of (fun _ => rfl) (plain_nogd hp)
    · rw [List.getElem?_append_right (by omega)] at hi
      have := List.mem_of_getElem? hi
      rw [List.mem_replicate] at this
      rw [this.2]; trivial
  have hget : ∀ k cs, (k, cs) ∈ initCh 0 pcs → ∃ j c, k = pkey j ∧ pcs[j]? = some cs ∧ El[j]? = some c ∧ E k = c := by
    intro k cs hm
    obtain ⟨j, h1, h2⟩ := initCh_mem hm
    rw [Nat.zero_add] at h2
    have hj := (List.getElem?_eq_some_iff.1 h1).1
    refine ⟨j, El[j]'(by omega), h2, h1, List.getElem?_eq_getElem (by omega), ?_⟩
    rw [h2, hEp, List.getD_eq_getElem?_getD, List.getElem?_eq_getElem (by omega)]; rfl
  have hW : SatW ⟨w, h, El, []⟩ G E h (initSt ps pcs fn.ntmps sh).ch w := by
    refine ⟨fun k cs hm => ?_, fun k cs hm => ?_, ?_, fun k cs hm => ?_, fun i c hi => ?_, hsub, ?_, ?_⟩
    · obtain ⟨j, c, rfl, h1, h2, h3⟩ := hget k cs hm
      obtain ⟨f1, f2⟩ := hCh j c (SV.denL G dE cs) h2 (by rw [List.getElem?_map, h1]; rfl)
      have hpc := hok.2 cs (List.mem_of_getElem? h1)
      rw [h3]
      refine ⟨by have : (SV.denL G dE cs).length = cs.length := by simp [SV.denL_eq]
                 rw [this] at f1; exact f1, _, f2, ?_⟩
      rw [← closedL_den (E := E) hpc.2]
      exact RelL_den hpc.1
    · obtain ⟨j, c, rfl, h1, h2, h3⟩ := hget k cs hm
      rw [h3]; exact hno c (List.mem_of_getElem? h2)
    · have := initCh_pair (El := El) hpw (l := pcs) (i := 0) (by omega)
      rw [hE]; exact this
    · obtain ⟨j, c, rfl, h1, h2, h3⟩ := hget k cs hm
      rw [h3]; exact .inl ⟨c, List.mem_of_getElem? h2, rfl⟩
    · rw [hEp, List.getD_eq_getElem?_getD, hi]; rfl
    · exact ⟨Nat.le_refl _, rfl, rfl, rfl, fun b h1 h2 h3 => ⟨rfl, h2⟩⟩
    · exact List.nil_prefix
  refine ev_sound (Q := bodyPost P fn _) (L0 := []) hC hm c ?_ hA hW rfl rfl H
  intro e G' E' h' st' a' w' L' hA' hW' hL' H'
  have key : ∀ (hne : ∀ i, e ≠ .exit i), a'.defers = [] ∧ ∃ v, (results fn a'.tmps).run P w' = .ok v w' ∧ Fin ⟨w, h, El, []⟩ (pcs.map (SV.denL G dE)) R (.returned v) w' := by
    intro hne
    have H2 : holds P R (match resS P st' fn.results.toList, parC st'.ch (List.range (pcs.map List.length).length) with
      | some l, some cs => if closedL l && beqNats (cs.map List.length) (pcs.map List.length) then .done (resV l) cs else .fail
      | _, _ => .fail) G' L' h' := by
      unfold finK at H'
      cases e with
      | exit i => exact absurd rfl (hne i)
      | norm => exact H'
      | ret => exact H'
    split at H2
    · rename_i l cs hl hcs
      split at H2
      · rename_i hc
        simp only [Bool.and_eq_true] at hc
        refine ⟨hA'.nodef, _, results_run hA' hW' hl, _, cs.map (SV.denL G' dE), h', rfl, ?_, ?_, ?_, hW'.frm, hW'.hsub, ?_⟩
        · have : (resV l).den G' E' = (resV l).den G' dE := by
            refine closed_den ?_
            have h1 := hc.1
            unfold resV
            match l with
            | [] => rfl
            | [s] => simp only [closedL, SV.refsL, Bool.and_true] at h1; exact h1
            | s :: s' :: l => exact h1
          rw [this]; exact H2
        · have h1 := beqNats_eq hc.2
          have e1 : (cs.map (SV.denL G' dE)).map List.length = cs.map List.length := by simp [SV.denL_eq]
          have e2 : (pcs.map (SV.denL G dE)).map List.length = pcs.map List.length := by simp [SV.denL_eq]
          rw [e1, e2, h1]
        · intro i ce l' hi hl'
          rw [List.getElem?_map, Option.map_eq_some_iff] at hl'
          obtain ⟨ci, hci, rfl⟩ := hl'
          have hilt : i < pcs.length := by have := (List.getElem?_eq_some_iff.1 hi).1; simp only at this; omega
          obtain ⟨c', g1, g2, g3, g4⟩ := parC_get (j := i) (i := i) hcs (by rw [List.getElem?_range]; simpa using hilt)
          rw [hci] at g1
          cases g1
          obtain ⟨f1, vs, f2, f3⟩ := hW'.chunks _ _ g2
          rw [hW'.par i ce hi] at f1 f2
          have := vals_of f3 g3
          rw [closedL_den g4] at this
          rw [← this]
          exact ⟨by rw [f3.length]; exact f1, f2⟩
        · intro ce hce
          obtain ⟨i, hi⟩ := List.getElem?_of_mem hce
          have hilt : i < pcs.length := by have := (List.getElem?_eq_some_iff.1 hi).1; simp only at this; omega
          obtain ⟨c', g1, g2, g3, g4⟩ := parC_get (j := i) (i := i) hcs (by rw [List.getElem?_range]; simpa using hilt)
          have := hW'.hid _ _ g2
          rw [hW'.par i ce hi] at this
          exact this
      · exact H2.elim
    · exact H2.elim
  cases e with
  | exit i => exact H'.elim
  | norm => exact key (fun i e => by cases e)
  | ret => exact key (fun i e => by cases e)
end
end Go.Proofs.YtbgfabppmobpgaaDoor
