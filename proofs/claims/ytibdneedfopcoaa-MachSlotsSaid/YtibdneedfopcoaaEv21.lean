/-
  Regions that draw their order, by symbols: that what is left to show suffices. Conditions: the entry of each function that is called is known ('CallOK').
-/
import Derived.Test.YtibdneedfopcoaaEv20
set_option linter.unusedVariables false
set_option linter.unusedSimpArgs false
namespace Go.Proofs.Ytibdneedfopcoaa
open Go

section
variable {P : Program} {B : Beg} {G : List Value} {E : Nat → CE} {h : H} {st : St} {a : Act} {w : World} {R : Value → List (List Value) → H → Prop} {L : Lv} {N : Act → World → Prop}
  {Q : Exit → Act → World → Prop} {k : St → Out} {g : X} {cf : Cfg} {ops : Array Oper}

theorem tmps_rel (hA : SatA G E st a) (d : Nat) : Rel G E (a.tmps.getD d undef) (SV.get st.t d) := by
  simp only [SV.get, List.getD_eq_getElem?_getD]
  cases ht : st.t[d]? with
  | none => trivial
  | some s => exact hA.tmps d s ht
theorem unwrapG_rel {v : Value} {s : SV} {g : X} (hg : vb (g.den G) = true) (hr : Rel G E v s) (hp : (unwrapG g s).plain = true) : v = (unwrapG g s).den G E := by
  unfold unwrapG at hp ⊢
  split at hp
  · rename_i ht; simp only [ht, if_true]; exact hr.plain hp
  · rename_i ht
    simp only [ht, if_false, Bool.false_eq_true]
    split at hp
    · rename_i g' t
      split at hp
      · rename_i hb
        simp only [hb, if_true]
        have hr' : if vb (g'.den G) then v = t.den G E else v = undef := hr
        rw [X.beq_eq hb, hg, if_pos rfl] at hr'
        exact hr'
      · cases hp
    · cases hp
theorem unwrapG_undef {v : Value} {s : SV} {g : X} (hg : vb (g.den G) = false) (hr : Rel G E v s) (hp : (unwrapG g s).plain = true) : v = undef := by
  unfold unwrapG at hp
  split at hp
  · rename_i ht; have := isT_den (G := G) ht; rw [hg] at this; cases this
  · split at hp
    · rename_i g' t
      split at hp
      · rename_i hb
        have hr' : if vb (g'.den G) then v = t.den G E else v = undef := hr
        rw [X.beq_eq hb, hg, if_neg (by simp)] at hr'
        exact hr'
      · cases hp
    · cases hp
theorem loadP_again (hA : SatA G E st a) (hs : h.sub w) {g : X} (hg : vb (g.den G) = true) {t : TypeId} {x : Operand} {p : PE} {shs : List Sh} {b : Bool} (hq : loadP P st g t x = some (p, shs, b))
    {l : List Value} (hl : l.length = shs.length) (hr : Reads h (p.den G) l) (dst : Option Tmp) (ty : TypeId) (pos : String) (after : Array Edge) (guard : Option (Nat × Bool)) :
    (execOp a.eval ⟨dst, .load t x, ty, pos, after, guard⟩).run P w = .ok (.value (if b then .agg l.toArray else gv l 0)) w := by
  have hrw : ∀ i v, l[i]? = some v → w.cell? ((p.den G).add i) = some v := fun i v hv => H.sub_cell hs (hr i v hv)
  unfold loadP at hq
  split at hq
  · rename_i p' shs' n hx hsh ha hn
    split at hq
    · rename_i hb
      cases hq
      rw [Nat.beq_eq] at hb
      have hc := opr_den hA hg hx rfl
      have := run_loadVar_agg (P := P) (w := w) (l := l) (ad := p.den G) ha hn (by rw [hl]; exact hb) hrw
      simp only [execOp, Instr.loadAt, hc, SV.den, Instr.sureAddr, Sem.run_bind, Sem.run_pure, Result.andThen_ok, this, if_true]
    · cases hq
  · rename_i p' shs' n hx hsh ha hn
    split at hq
    · rename_i hb
      cases hq
      rw [Nat.beq_eq] at hb
      have hc := opr_den hA hg hx rfl
      match l, hl.trans hb with
      | [v], _ =>
        have hcell := hrw 0 v rfl
        have e0 : (p.den G).add 0 = p.den G := rfl
        rw [e0] at hcell
        have := run_loadVar_one (P := P) (w := w) ha hcell
        simp only [execOp, Instr.loadAt, hc, SV.den, Instr.sureAddr, Sem.run_bind, Sem.run_pure, Result.andThen_ok, this, Bool.false_eq_true, if_false, gv_zero]
    · cases hq
  · cases hq
theorem recheck_sound (hA : SatA G E st a) (hW : SatW B G E h st.ch w) : ∀ {F : List Nat} {k : Out}, holds P R (recheck P ops F st k) G L h → Pend P ops F a w ∧ holds P R k G L h
  | [], k, H => ⟨(fun _ hk => by cases hk), H⟩
  | i :: F, k, H => by
    have cons : (∀ o, ops[i]? = some o → ∃ d, o.dst = some d ∧ YieldsAt P ops o (a.tmps.getD d undef) a w) → Pend P ops F a w → Pend P ops (i :: F) a w := by
      intro h1 h2 k hk
      rcases List.mem_cons.1 hk with rfl | hk
      · exact h1
      · exact h2 k hk
    unfold recheck at H
    split at H
    · rename_i hn
      obtain ⟨h1, h2⟩ := recheck_sound hA hW H
      exact ⟨cons (fun o ho => by rw [hn] at ho; cases ho) h1, h2⟩
    · rename_i o ho
      split at H
      · rename_i t x d g hop hdst hgx
        have hw := guardX_den hA hgx
        have hrel := settle_rel (tg := st.test g) (g := g) (fun b hb => test_den hA hb) (tmps_rel hA d)
        obtain ⟨dst, op, ty, pos, after, guard⟩ := o
        simp only at hop hdst hgx
        subst hop
        subst hdst
        have fin : YieldsAt P ops ⟨some d, .load t x, ty, pos, after, guard⟩ (a.tmps.getD d undef) a w → ∀ o, ops[i]? = some o → ∃ d, o.dst = some d ∧ YieldsAt P ops o (a.tmps.getD d undef) a w := by
          intro hy o ho'
          rw [ho] at ho'
          cases ho'
          exact ⟨d, rfl, hy⟩
        split at H
        · rename_i ht
          have hg := test_den hA ht
          split at H
          · rename_i hb
            obtain ⟨h1, h2⟩ := recheck_sound hA hW H
            refine ⟨cons (fin (.inr ⟨by rw [hw, hg], ?_⟩)) h1, h2⟩
            rw [SV.beq_eq _ _ hb] at hrel
            exact hrel
          · exact H.elim
        · rename_i tg htg
          -- the guard that the value lies under
          generalize hgu : (if isSome (st.test g) then X.tt true else g) = gu at H
          have hgg : vb (gu.den G) = vb (g.den G) := by
            rw [← hgu]
            cases htt : st.test g with
            | none => rfl
            | some b =>
              cases b with
              | true => simp only [isSome, if_true]; rw [test_den hA htt]; rfl
              | false => exact absurd htt htg
          split at H
          · rename_i s hq
            split at H
            · rename_i hb
              simp only [Bool.and_eq_true] at hb
              have he := SV.beq_eq _ _ hb.2
              obtain ⟨h1, h2⟩ := recheck_sound hA hW H
              refine ⟨cons (fin ?_) h1, h2⟩
              cases hg : vb (g.den G) with
              | true =>
                obtain ⟨hp, hrun⟩ := sound_load hA hW hg hq (some d) ty pos after guard
                refine .inl ⟨by rw [hw, hg], ?_⟩
                rw [hrun, unwrapG_rel (hgg.trans hg) hrel (by rw [← he]; exact hb.1), ← he]
              | false => exact .inr ⟨by rw [hw, hg], unwrapG_undef (hgg.trans hg) hrel (by rw [← he]; exact hb.1)⟩
            · exact H.elim
          · split at H
            · rename_i p shs b hq
              split at H
              · rename_i l hl
                split at H
                · rename_i hc
                  simp only [Bool.and_eq_true, Nat.beq_eq] at hc
                  obtain ⟨hr, H⟩ := H
                  obtain ⟨h1, h2⟩ := recheck_sound hA hW H
                  refine ⟨cons (fin ?_) h1, h2⟩
                  cases hg : vb (g.den G) with
                  | true =>
                    refine .inl ⟨by rw [hw, hg], ?_⟩
                    rw [loadP_again hA hW.hsub hg hq (by rw [← hc.1]; simp [SV.denL_eq]) (hr hg) (some d) ty pos after guard]
                    rw [unwrapG_rel (hgg.trans hg) hrel (by rw [hl]; rfl), hl]
                    simp only [if_true, SV.den, closedL_den (E := E) hc.2]
                  | false => exact .inr ⟨by rw [hw, hg], unwrapG_undef (hgg.trans hg) hrel (by rw [hl]; rfl)⟩
                · exact H.elim
              · split at H
                · rename_i hc
                  simp only [Bool.and_eq_true] at hc
                  obtain ⟨hr, H⟩ := H
                  obtain ⟨h1, h2⟩ := recheck_sound hA hW H
                  refine ⟨cons (fin ?_) h1, h2⟩
                  have hsh : shs.length = 1 := by
                    unfold loadP at hq
                    split at hq
                    · split at hq <;> cases hq
                    · split at hq
                      · rename_i hb; cases hq; rw [Nat.beq_eq] at hb; exact hb
                      · cases hq
                    · cases hq
                  cases hg : vb (g.den G) with
                  | true =>
                    refine .inl ⟨by rw [hw, hg], ?_⟩
                    rw [loadP_again hA hW.hsub hg hq (by rw [hsh]; simp [SV.denL_eq]) (hr hg) (some d) ty pos after guard]
                    rw [unwrapG_rel (hgg.trans hg) hrel hc.1]
                    have := closedL_den (G := G) (E := E) hc.2
                    simp only [SV.denL, List.cons.injEq, and_true] at this
                    simp only [Bool.false_eq_true, if_false, SV.denL, gv_zero, this]
                  | false => exact .inr ⟨by rw [hw, hg], unwrapG_undef (hgg.trans hg) hrel hc.1⟩
                · exact H.elim
              · exact H.elim
            · exact H.elim
      · exact H.elim

theorem findE_spec {listed : Array Bool} {F : List Nat} {n i : Nat} : ∀ {l : List Nat}, findE ops listed F n l = some i → i ∈ l ∧ eagerAt ops i = true ∧ sepB ops i F n = true ∧ Region.free .any ops listed i = true
  | [], h => by cases h
  | j :: l, h => by
    unfold findE at h
    split at h
    · rename_i hc
      simp only [Bool.and_eq_true] at hc
      cases h
      exact ⟨List.mem_cons_self .., hc.1.1, hc.1.2, hc.2⟩
    · obtain ⟨h1, h2⟩ := findE_spec h
      exact ⟨List.mem_cons_of_mem _ h1, h2⟩
theorem bothL_mem {f : Nat → Out} : ∀ {l : List Nat}, holds P R (bothL f l) G L h → ∀ i ∈ l, holds P R (f i) G L h
  | [], H, _, hi => by cases hi
  | [j], H, i, hi => by
    rcases List.mem_cons.1 hi with rfl | hi
    · exact H
    · cases hi
  | j :: j' :: l, H, i, hi => by
    obtain ⟨h1, h2⟩ := H
    rcases List.mem_cons.1 hi with rfl | hi
    · exact h1
    · exact bothL_mem h2 i hi
theorem stepW_wpOp {i : Nat} {o : Oper} (hi : ops[i]? = some o) (hs : StepW P ops o N Q a w) : wpOp P ops Q i N a w := by
  unfold Go.wpOp
  simp only [hi]
  unfold StepW at hs
  split
  · rename_i hw; rw [if_pos hw] at hs; exact .inl hs
  · rename_i hw; rw [if_neg hw] at hs; exact hs
theorem explore_sound (hC : CallOK P cf.calls) (hsel : Region.noSelect ops = true) (hne : ∀ c a w, ¬ Q (.panic c) a w) (hk : Cont P B R L (Q .normal) k) :
    ∀ (fuel : Nat) (listed : Array Bool) (F : List Nat) (G : List Value) (E : Nat → CE) (h : H) (st : St) (a : Act) (w : World), SatA G E st a → SatW B G E h st.ch w → Pend P ops F a w →
      holds P R (explore P cf ops fuel listed F st k) G L h → wpF P ops Q fuel listed F a w := by
  intro fuel
  induction fuel with
  | zero =>
    intro listed F G E h st a w hA hW hP H
    unfold explore at H
    split at H
    · rename_i hr; exact ⟨hr, hk _ _ _ _ _ _ hA hW H⟩
    · exact H.elim
  | succ fuel ih =>
    intro listed F G E h st a w hA hW hP H
    unfold explore at H
    split at H
    · rename_i hr
      exact ⟨fun _ => hk _ _ _ _ _ _ hA hW H, by rw [hr]; simp⟩
    · split at H
      · rename_i i hfe
        obtain ⟨hmem, heg, hsep, hfree⟩ := findE_spec hfe
        split at H
        · rename_i o hi
          obtain ⟨mem, v, hy, G', st', hA', hW', H'⟩ := takeS_val hA hW H
          unfold sepB at hsep
          rw [hi] at hsep
          simp only at hsep
          have heo : eager o.op = true := by unfold eagerAt at heg; rw [hi] at heg; exact heg
          split at hsep
          · rename_i d hd
            simp only [Bool.and_eq_true, Nat.blt_eq, List.all_eq_true] at hsep
            have hS : Sep ops o d F := ⟨hd, by simpa using hsep.1.1, fun k hk ok hok => by
              have := hsep.2 k hk
              rw [hok] at this
              simp only [Bool.and_eq_true, Bool.not_eq_true'] at this
              refine ⟨this.1.1, by simpa using this.1.2, fun e => ?_⟩
              rw [e] at this
              simp at this⟩
            have hP' : Pend P ops (if mem then i :: F else F) (a.put o.dst v) w := by
              have h1 : Pend P ops F (a.put o.dst v) w := (hS.pend (fun _ h => h)).2 hP
              cases mem with
              | false => exact h1
              | true =>
                intro k hk
                simp only [if_true] at hk
                rcases List.mem_cons.1 hk with rfl | hk
                · intro o' ho'
                  rw [hi] at ho'
                  cases ho'
                  refine ⟨d, hd, ?_⟩
                  rw [hd, getD_put_self (by rw [← hA.size]; exact hsep.1.2)]
                  have := (YieldsAt.of_put (P := P) (ops := ops) (oi := o) (u := v) (v := v) (a := a) (w := w) (eager_nosel heo) (fun x hx => by rw [hd] at hx; cases hx; exact hS.self)).2
                  rw [hd] at this
                  exact this hy
                · exact h1 k hk
            exact wpF_first hi (Region.noSelect_spec hsel) hne heo mem fuel listed F a w (Region.free_spec hi hfree) hmem hS (fun _ => by rw [← hA.size]; exact hsep.1.2) hy hP (ih _ _ G' E h st' _ w hA' hW' hP' H')
          · cases hsep
        · exact H.elim
      · refine ⟨fun h0 => ?_, fun i hi => ?_⟩
        · rename_i hr _ _; exact absurd h0 hr
        · have Hi := bothL_mem H i hi
          split at Hi
          · rename_i o ho
            refine stepW_wpOp ho (stepOp_sound hC hA hW Hi fun G' E' h' st' a' w' hA' hW' H' => ?_)
            obtain ⟨h1, h2⟩ := recheck_sound hA' hW' H'
            exact ⟨h1, ih _ _ _ _ _ _ _ _ hA' hW' h1 h2⟩
          · exact Hi.elim
theorem SatW.drew (hW : SatW B G E h st.ch w) : SatW B G E h st.ch { w with drawn := w.drawn + 1 } :=
  ⟨hW.chunks, hW.hid, hW.dist, hW.own, hW.par, hW.hsub, ⟨hW.frm.size, hW.frm.os, hW.frm.tape, hW.frm.out, hW.frm.keep⟩, hW.pre⟩
/-- Q, but no panic. -/
def NoPan (Q : Exit → Act → World → Prop) : Exit → Act → World → Prop
  | .panic _, _, _ => False
  | e, a, w => Q e a w
theorem explore_region (hC : CallOK P cf.calls) (hm : P.follows .mixedOrders = true) (hsel : Region.noSelect ops = true) (hk : Cont P B R L (Q .normal) k) (hA : SatA G E st a) (hW : SatW B G E h st.ch w) {id : Nat}
    (H : holds P R (explore P cf ops ops.size (Array.replicate ops.size false) [] st k) G L h) : (Code.region id ops true).wp P Q a w := by
  have : (Code.region id ops true).wp P (NoPan Q) a w := by
    refine wp_region_any hm (wpAny_of_F _ _ [] _ _ ?_)
    exact explore_sound (Q := NoPan Q) hC hsel (fun _ _ _ h => h) hk _ _ _ _ _ _ _ _ _ hA hW.drew (fun _ hk => by cases hk) H
  exact Code.wp_mono (fun e a w q => by cases e <;> first | exact q | exact q.elim) this
end
end Go.Proofs.Ytibdneedfopcoaa
