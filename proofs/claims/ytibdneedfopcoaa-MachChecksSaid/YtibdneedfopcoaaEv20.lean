/-
  Regions that draw their order, by symbols: that what is left to show suffices. Conditions: the entry of each function that is called is known ('CallOK').
-/
import Derived.Test.YtibdneedfopcoaaEv19
set_option linter.unusedVariables false
set_option linter.unusedSimpArgs false
namespace Go.Proofs.Ytibdneedfopcoaa
open Go

def sepB (ops : Array Oper) (i : Nat) (F : List Nat) (n : Nat) : Bool :=
  match ops[i]? with
  | some o => (match o.dst with
    | some d => !((o.looksAt ops).contains d) && Nat.blt d n && F.all (fun k => match ops[k]? with
      | some ok => eager ok.op && !((ok.looksAt ops).contains d) && !(match ok.dst with | some d' => d'.beq d | none => false)
      | none => true)
    | none => false)
  | none => false
def findE (ops : Array Oper) (listed : Array Bool) (F : List Nat) (n : Nat) : List Nat → Option Nat
  | [] => none
  | i :: l => if eagerAt ops i && sepB ops i F n && Region.free .any ops listed i then some i else findE ops listed F n l
def bothL (f : Nat → Out) : List Nat → Out
  | [] => .fail
  | [i] => f i
  | i :: l => .both (f i) (bothL f l)
def unwrapG (g : X) (s : SV) : SV := if g.isT then s else match s with | .gd g' t => if g'.beq g then t else .und | _ => .und
/-- What a slot holds, where the guard it lies under is known by now. -/
def settle (tg : Option Bool) (g : X) (s : SV) : SV :=
  match tg, s with
  | some true, .gd g' t => if g'.beq g && t.plain then t else .gd g' t
  | some false, .gd g' t => if g'.beq g then undS else .gd g' t
  | _, s => s
theorem settle_rel {G : List Value} {E : Nat → CE} {v : Value} {tg : Option Bool} {g : X} {s : SV} (ht : ∀ b, tg = some b → vb (g.den G) = b) (h : Rel G E v s) : Rel G E v (settle tg g s) := by
  unfold settle
  split
  · rename_i g' t
    split
    · rename_i hc
      simp only [Bool.and_eq_true] at hc
      have e := X.beq_eq hc.1
      subst e
      have hg := ht true rfl
      have h' : if vb (g'.den G) then v = t.den G E else v = undef := h
      rw [hg, if_pos rfl] at h'
      exact Rel.of (fun _ => h') (plain_nogd hc.2)
    · exact h
  · rename_i g' t
    split
    · rename_i hc
      have e := X.beq_eq hc
      subst e
      have hg := ht false rfl
      have h' : if vb (g'.den G) then v = t.den G E else v = undef := h
      rw [hg, if_neg (by simp)] at h'
      rw [h']; exact undS_rel
    · exact h
  · exact h
def recheck (P : Program) (ops : Array Oper) : List Nat → St → Out → Out
  | [], _, k => k
  | i :: F, st, k =>
    match ops[i]? with
    | none => recheck P ops F st k
    | some o => (match o.op, o.dst, guardX st ops o.guard with
      | .load t x, some d, some g => (match st.test g with
        | some false => if (settle (st.test g) g (SV.get st.t d)).beq undS then recheck P ops F st k else .fail
        | tg => (match qLoad P st g t x with
          | some s => if s.plain && s.beq (unwrapG (if isSome tg then .tt true else g) (settle (st.test g) g (SV.get st.t d))) then recheck P ops F st k else .fail
          | none => (match loadP P st g t x with
            | some (p, shs, b) => (match b, unwrapG (if isSome tg then .tt true else g) (settle (st.test g) g (SV.get st.t d)) with
              | true, .agg l => if l.length.beq shs.length && closedL l then .still g p l (recheck P ops F st k) else .fail
              | false, s => if s.plain && closedL [s] then .still g p [s] (recheck P ops F st k) else .fail
              | _, _ => .fail)
            | none => .fail)))
      | _, _, _ => .fail)
def takeS (P : Program) (ops : Array Oper) (st : St) (o : Oper) (i : Nat) (F : List Nat) (next : List Nat → St → Out) : Out :=
  match guardX st ops o.guard with
  | none => .fail
  | some g => (match st.test g with
    | some false => next F (st.setT o.dst undS)
    | some true => (match qpure P st g o.op with
      | .val ns s => needN (.tt true) ns (next F (st.setT o.dst s))
      | .bnd ns sh f => if st.scOk then needN (.tt true) ns (.bnd f (next F (({ st with sh := st.sh ++ [sh] } : St).setT o.dst (sh.sv st.sh.length)))) else .fail
      | .bad => (match o.op with
        | .load t x => loadS P st g (.tt true) t x o.dst (next (i :: F))
        | _ => .fail))
    | none => (match qpure P st g o.op with
      | .val ns s => needN g ns (next F (st.setT o.dst (wrapG g s)))
      | .bnd _ _ _ => .fail
      | .bad => (match o.op with
        | .load t x => loadS P st g g t x o.dst (next (i :: F))
        | _ => .fail)))
def explore (P : Program) (cf : Cfg) (ops : Array Oper) : Nat → Array Bool → List Nat → St → (St → Out) → Out
  | 0, listed, _, st, k => (match Region.ready .any ops listed with | [] => k st | _ :: _ => .fail)
  | fuel + 1, listed, F, st, k =>
    match Region.ready .any ops listed with
    | [] => k st
    | rs => (match findE ops listed F st.t.length rs with
      | some i => (match ops[i]? with
        | some o => takeS P ops st o i F fun F' st' => explore P cf ops fuel (listed.setIfInBounds i true) F' st' k
        | none => .fail)
      | none => bothL (fun i => match ops[i]? with
        | some o => stepOp P cf ops o st fun st' => recheck P ops (behind ops i F) st' (explore P cf ops fuel (listed.setIfInBounds i true) (behind ops i F) st' k)
        | none => .fail) rs)

section
variable {P : Program} {B : Beg} {G : List Value} {E : Nat → CE} {h : H} {st : St} {a : Act} {w : World} {R : Value → List (List Value) → H → Prop} {L : Lv} {N : Act → World → Prop}
  {Q : Exit → Act → World → Prop} {k : St → Out} {g : X} {cf : Cfg} {ops : Array Oper}

/-- A load and what is behind it, its value named. -/
theorem loadS_val (hA : SatA G E st a) (hW : SatW B G E h st.ch w) (hg : vb (g.den G) = true) {gg : X} (hgg : vb (gg.den G) = true) {t : TypeId} {x : Operand} {dst : Option Tmp} (ty : TypeId) (pos : String) (after : Array Edge) (guard : Option (Nat × Bool))
    (H : holds P R (loadS P st g gg t x dst k) G L h) :
    ∃ v, (execOp a.eval ⟨dst, .load t x, ty, pos, after, guard⟩).run P w = .ok (.value v) w ∧ ∃ G' st', SatA G' E st' (a.put dst v) ∧ SatW B G' E h st'.ch w ∧ holds P R (k st') G' L h := by
  unfold loadS at H
  split at H
  · rename_i s hq
    obtain ⟨hp, hrun⟩ := sound_load hA hW hg hq dst ty pos after guard
    exact ⟨_, hrun, G, _, hA.put dst (wrapG_rel hgg (Rel.of (fun _ => rfl) (plain_nogd hp)) (plain_nogd hp)), by rw [setT_ch]; exact hW, H⟩
  · split at H
    · rename_i p shs b hq
      split at H
      · rename_i hsc
        simp only [Bool.and_eq_true] at hsc
        obtain ⟨xs, hf, hr, H⟩ := H
        obtain ⟨hrun, hp⟩ := loadP_run (E := E) hA hW.hsub hg hq hf (hr hgg) dst ty pos after guard
        have hA' := hA.extend hsc.1 hf
        have hgg' : vb (gg.den (G ++ xs)) = true := by rw [X.den_append (by rw [← hA.len]; exact hsc.2)]; exact hgg
        refine ⟨_, hrun, G ++ xs, _, hA'.put dst (wrapG_rel hgg' (Rel.of (fun _ => by rw [hA.len]) ?_) ?_), by rw [setT_ch]; exact hW.extend hA hsc.1 xs, H⟩
        · rw [hA.len]; exact plain_nogd hp
        · rw [hA.len]; exact plain_nogd hp
      · exact H.elim
    · exact H.elim
theorem loadS_not (hA : SatA G E st a) (hW : SatW B G E h st.ch w) {gg : X} (hgg : vb (gg.den G) = false) {t : TypeId} {x : Operand} {dst : Option Tmp}
    (H : holds P R (loadS P st g gg t x dst k) G L h) : ∃ G' st', SatA G' E st' (a.put dst undef) ∧ SatW B G' E h st'.ch w ∧ holds P R (k st') G' L h := by
  unfold loadS at H
  split at H
  · exact ⟨G, _, hA.put dst (wrapG_undef hgg), by rw [setT_ch]; exact hW, H⟩
  · split at H
    · split at H
      · rename_i hsc
        simp only [Bool.and_eq_true] at hsc
        obtain ⟨xs, hf, hr, H⟩ := H
        have hA' := hA.extend hsc.1 hf
        have hgg' : vb (gg.den (G ++ xs)) = false := by rw [X.den_append (by rw [← hA.len]; exact hsc.2)]; exact hgg
        exact ⟨G ++ xs, _, hA'.put dst (wrapG_undef hgg'), by rw [setT_ch]; exact hW.extend hA hsc.1 xs, H⟩
      · exact H.elim
    · exact H.elim

/-- What is taken first: its value, what a state says behind it. -/
theorem takeS_val {o : Oper} {i : Nat} {F : List Nat} {next : List Nat → St → Out} (hA : SatA G E st a) (hW : SatW B G E h st.ch w) (H : holds P R (takeS P ops st o i F next) G L h) :
    ∃ (mem : Bool) (v : Value), (if mem then YieldsAt P ops o v a w else Yields P ops o v a) ∧ ∃ G' st', SatA G' E st' (a.put o.dst v) ∧ SatW B G' E h st'.ch w ∧ holds P R (next (if mem then i :: F else F) st') G' L h := by
  unfold takeS at H
  obtain ⟨dst, op, ty, pos, after, guard⟩ := o
  simp only at H
  split at H
  · exact H.elim
  · rename_i g hgx
    have hw : Region.wanted ⟨dst, op, ty, pos, after, guard⟩ (yielded ops a.tmps) = vb (g.den G) := guardX_den (o := ⟨dst, op, ty, pos, after, guard⟩) hA hgx
    have hq := fun hg => qpure_sound (P := P) (E := E) (ty := ty) hA (g := g) hg op
    split at H
    · rename_i ht
      have hg := test_den hA ht
      exact ⟨false, undef, .inr ⟨by rw [hw, hg], rfl⟩, G, _, hA.put dst undS_rel, by rw [setT_ch]; exact hW, H⟩
    · rename_i ht
      have hg := test_den hA ht
      have hq := hq hg
      split at H
      · rename_i ns s he
        rw [he] at hq
        obtain ⟨hn, H⟩ := holds_needN H
        obtain ⟨h1, v, hrel, hrun⟩ := hq (needs_mem (hn rfl))
        exact ⟨false, v, .inl ⟨by rw [hw, hg], fun w' => hrun w' dst pos after guard⟩, G, _, hA.put dst hrel, by rw [setT_ch]; exact hW, H⟩
      · rename_i ns sh f he
        rw [he] at hq
        split at H
        · rename_i hsc
          obtain ⟨hn, H⟩ := holds_needN H
          obtain ⟨hfit, hrun⟩ := hq (needs_mem (hn rfl))
          have H := H _ rfl
          have hgv : gv (G ++ [f.den G]) G.length = f.den G := by simp [gv, List.getD_eq_getElem?_getD]
          have hrel : Rel (G ++ [f.den G]) E (f.den G) (sh.sv st.sh.length) := by
            have := Sh.sv_den (G := G ++ [f.den G]) (E := E) (i := G.length) (s := sh) (by rw [hgv]; exact hfit)
            rw [hgv] at this
            rw [hA.len]
            exact Rel.of (fun _ => this.symm) (by cases sh <;> intro g t e <;> cases e)
          exact ⟨false, _, .inl ⟨by rw [hw, hg], fun w' => hrun w' dst pos after guard⟩, _, _, (hA.extend hsc (shs := [sh]) (xs := [f.den G]) ⟨hfit, trivial⟩).put dst hrel, by rw [setT_ch]; exact hW.extend hA hsc _, H⟩
        · exact H.elim
      · split at H
        · rename_i t x _
          obtain ⟨v, hrun, hrest⟩ := loadS_val hA hW hg rfl ty pos after guard H
          exact ⟨true, v, .inl ⟨by rw [hw, hg], hrun⟩, hrest⟩
        · exact H.elim
    · split at H
      · rename_i ns s he
        obtain ⟨hn, H⟩ := holds_needN H
        cases hg : vb (g.den G) with
        | true =>
          have hq := hq hg
          rw [he] at hq
          obtain ⟨h1, v, hrel, hrun⟩ := hq (needs_mem (hn hg))
          exact ⟨false, v, .inl ⟨by rw [hw, hg], fun w' => hrun w' dst pos after guard⟩, G, _, hA.put dst (wrapG_rel hg hrel h1), by rw [setT_ch]; exact hW, H⟩
        | false => exact ⟨false, undef, .inr ⟨by rw [hw, hg], rfl⟩, G, _, hA.put dst (wrapG_undef hg), by rw [setT_ch]; exact hW, H⟩
      · exact H.elim
      · split at H
        · rename_i t x _
          cases hg : vb (g.den G) with
          | true =>
            obtain ⟨v, hrun, hrest⟩ := loadS_val hA hW hg hg ty pos after guard H
            exact ⟨true, v, .inl ⟨by rw [hw, hg], hrun⟩, hrest⟩
          | false => exact ⟨true, undef, .inr ⟨by rw [hw, hg], rfl⟩, loadS_not hA hW hg H⟩
        · exact H.elim
end
end Go.Proofs.Ytibdneedfopcoaa
