/-
  One operation by symbols, calls among them: that what is left to show suffices. Conditions: the entry of each function that is called is known ('CallOK').
-/
import Derived.Test.YtibdneedfopcoaaEv16
set_option linter.unusedVariables false
set_option linter.unusedSimpArgs false
namespace Go.Proofs.Ytibdneedfopcoaa
open Go

section
variable {P : Program} {B : Beg} {G : List Value} {E : Nat → CE} {h : H} {st : St} {a : Act} {w : World} {R : Value → List (List Value) → H → Prop} {L : Lv} {N : Act → World → Prop}
  {Q : Exit → Act → World → Prop} {k : St → Out} {g : X} {dst : Option Tmp} {cf : Cfg} {ty : TypeId} {pos : String} {after : Array Edge} {guard : Option (Nat × Bool)}

theorem denL_append' (l m : List SV) : SV.denL G E (l ++ m) = SV.denL G E l ++ SV.denL G E m := by simp [SV.denL_eq]
theorem vals_of {G : List Value} {E : Nat → CE} : ∀ {l : List Value} {cs : List SV}, RelL G E l cs → allPlain cs = true → l = SV.denL G E cs
  | [], [], _, _ => rfl
  | v :: l, c :: cs, h, hp => by
    simp only [allPlain, List.all_cons, Bool.and_eq_true] at hp
    simp only [SV.denL]
    rw [← h.1.plain hp.1, ← vals_of h.2 (by simp only [allPlain]; exact hp.2)]
theorem callS_sound (hC : CallOK P cf.calls) (hA : SatA G E st a) (hW : SatW B G E h st.ch w) (hg : vb (g.den G) = true) {f : FuncId} {first cap : List SV} {c : Call} {fo : Operand} (hco : c.callee = .value fo)
    (hfo : st.opr g fo = .fn (.func f) first cap)
    (H : holds P R (callS P cf st g f first cap c.args dst k) G L h) (hk : Cont P B R L N k) : (⟨dst, .call c, ty, pos, after, guard⟩ : Oper).wp P a w N Q := by
  unfold callS at H
  split at H
  · rename_i rs hrs
    split at H
    · rename_i hc
      simp only [Bool.and_eq_true] at hc
      obtain ⟨⟨⟨⟨⟨hcalls, hok⟩, hpl⟩, hrefs⟩, hes⟩, hsc⟩ := hc
      generalize hargs : callArgs st g first cap c.args = args at H hpl hrefs hes
      generalize hesd : escapes st args = es at H hrefs hes
      have hsub : es.Sublist st.ch := by rw [← hesd]; exact List.filter_sublist
      have hfv := opr_den hA hg hfo rfl
      -- the arguments
      have happ : allPlain (c.args.toList.map (st.opr g)) = true := by
        simp only [allPlain, List.all_eq_true] at hpl ⊢
        intro s hs
        refine hpl s ?_
        rw [← hargs]
        unfold callArgs
        exact List.mem_append_left _ (List.mem_append_right _ hs)
      have hargv := oprs_den hA hg c.args happ
      have hall : (SV.denL G E first).toArray ++ c.args.map a.eval ++ (SV.denL G E cap).toArray = (SV.denL G E args).toArray := by
        rw [hargv, ← hargs]
        unfold callArgs
        rw [denL_append', denL_append']
        simp
      have hrun : (execOp a.eval ⟨dst, .call c, ty, pos, after, guard⟩).run P w = .ok (.enter f (SV.denL G E args).toArray) w := by
        simp only [execOp, resolve, hco, Sem.run_bind, hfv, SV.den, Deferred.ofValue, Sem.run_pure, Result.andThen_ok, invoke]
        rw [hall]
        exact hC f (hasN_mem hcalls) _ _
      unfold Oper.wp
      rw [hrun, Oper.upon_enter]
      -- the contract
      have hmem : ∀ x ∈ es, x ∈ st.ch := fun x hx => hsub.subset hx
      have hden : SV.denL G (fun j => (es.map fun x => E x.1).getD (kIdx (es.map (·.1)) j) default) args = SV.denL G E args := by
        refine SV.denL_env (f := inKeys es) (fun l hl => ?_) args hrefs
        have := kIdx_get (hasN_mem hl)
        rw [List.getElem?_map, Option.map_eq_some_iff] at this
        obtain ⟨y, hy, hyl⟩ := this
        rw [List.getD_eq_getElem?_getD, List.getElem?_map, hy]
        simp [hyl]
      have hCh : ChunksV (es.map fun x => E x.1) ((es.map (·.2)).map (SV.denL G dE)) w := by
        intro i ce l h1 h2
        rw [List.getElem?_map, Option.map_eq_some_iff] at h1
        obtain ⟨y, hy, rfl⟩ := h1
        rw [List.getElem?_map, List.getElem?_map, hy] at h2
        simp only [Option.map_some, Option.some.injEq] at h2
        have hym := hmem y (List.mem_of_getElem? hy)
        simp only [List.all_eq_true, Bool.and_eq_true] at hes
        obtain ⟨e1, e2⟩ := hes y (List.mem_of_getElem? hy)
        obtain ⟨f1, l', f2, f3⟩ := hW.chunks y.1 y.2 hym
        have := vals_of f3 e1
        rw [closedL_den e2] at this
        rw [← h2, ← this]
        exact ⟨by rw [f3.length]; exact f1, f2⟩
      have hno : ∀ ce ∈ es.map (fun x => E x.1), h ce.blk = none := by
        intro ce hce
        obtain ⟨y, hy, rfl⟩ := List.mem_map.1 hce
        exact hW.hid y.1 y.2 (hmem y hy)
      have hpw : (es.map fun x => E x.1).Pairwise (fun c d => c.blk ≠ d.blk) :=
        List.Pairwise.map (R := fun x y : Nat × List SV => (E x.1).blk ≠ (E y.1).blk) (fun x : Nat × List SV => E x.1) (fun _ _ h => h) (hW.dist.sublist hsub)
      have := H w (es.map fun x => E x.1) (by simp) hCh hno hpw hW.hsub
      dsimp only at this
      rw [hden] at this
      refine this.mono fun e w' ⟨v, cs', h', he, ⟨xs, hfx, hv, hfit, HK⟩, hlen, hCV, hF, hsub', hno'⟩ => ?_
      subst he
      simp only
      have hflen : (cs'.flatten).length = (cshOf st es).flatten.length := (FitsLL.flat hfit).length.symm
      have hsc' : scCh G.length st.ch = true := by
        have := hsc; simp only [St.scOk, Bool.and_eq_true, hA.len] at this; exact this.1.2
      have hcl : (cshOf st es).map List.length = es.map fun x => x.2.length := by simp [cshOf]
      have hW' := hW.call (D := xs) hsub hsc' hF hCV hsub' hno' hfit hcl
      rw [List.append_assoc] at hW'
      have hA' := hA.extend hsc ((FitsLL.flat hfit).append hfx)
      have hrv := rsv_den (E := E) (F := G ++ cs'.flatten) hok hfx
      have hidx : (G ++ cs'.flatten).length = st.sh.length + (cshOf st es).flatten.length := by rw [List.length_append, hflen, hA.len]
      rw [hidx, List.append_assoc] at hrv
      refine hk (G ++ (cs'.flatten ++ xs)) E h' (callTo st dst es rs) _ _ ?_ ?_ HK
      · unfold callTo
        have hA'' : SatA (G ++ (cs'.flatten ++ xs)) E ({ st with ch := updCh (es.map (·.1)) (svsLL st.sh.length (cshOf st es)) st.ch, sh := st.sh ++ ((cshOf st es).flatten ++ rshs rs) } : St) a :=
          ⟨hA'.size, hA'.tmps, hA'.nodef, hA'.fits, hA'.kn⟩
        exact hA''.put dst (by rw [hv, ← hrv.1]; exact Rel.of (fun _ => rfl) (plain_nogd hrv.2))
      · unfold callTo
        rw [setT_ch]
        simp only
        rw [hA.len]
        exact hW'
    · exact H.elim
  · exact H.elim

theorem execS_sound (hC : CallOK P cf.calls) (hA : SatA G E st a) (hW : SatW B G E h st.ch w) (hg : vb (g.den G) = true) {o : Op}
    (H : holds P R (execS P cf st g o dst k) G L h) (hk : Cont P B R L N k) : (⟨dst, o, ty, pos, after, guard⟩ : Oper).wp P a w N Q := by
  unfold execS at H
  have hq := qpure_sound (P := P) (E := E) (ty := ty) hA hg o
  split at H
  · rename_i ns s he
    rw [he] at hq
    obtain ⟨hn, H⟩ := holds_needN H
    obtain ⟨h1, v, hrel, hrun⟩ := hq (needs_mem (hn rfl))
    replace hrun := hrun w dst pos after guard
    unfold Oper.wp
    rw [hrun, Oper.upon_value]
    exact hk _ _ _ _ _ _ (hA.put dst hrel) (by rw [setT_ch]; exact hW) H
  · rename_i ns sh f he
    rw [he] at hq
    split at H
    · rename_i hsc
      obtain ⟨hn, H⟩ := holds_needN H
      obtain ⟨hfit, hrun⟩ := hq (needs_mem (hn rfl))
      have H := H _ rfl
      unfold Oper.wp
      rw [hrun w dst pos after guard, Oper.upon_value]
      have hgv : gv (G ++ [f.den G]) G.length = f.den G := by simp [gv, List.getD_eq_getElem?_getD]
      have hrel : Rel (G ++ [f.den G]) E (f.den G) (sh.sv st.sh.length) := by
        have := Sh.sv_den (G := G ++ [f.den G]) (E := E) (i := G.length) (s := sh) (by rw [hgv]; exact hfit)
        rw [hgv] at this
        rw [hA.len]
        exact Rel.of (fun _ => this.symm) (by cases sh <;> intro g t e <;> cases e)
      exact hk _ _ _ _ _ _ ((hA.extend hsc (shs := [sh]) (xs := [f.den G]) ⟨hfit, trivial⟩).put dst hrel) (by rw [setT_ch]; exact hW.extend hA hsc _) H
    · exact H.elim
  · split at H
    · exact loadS_sound hA hW hg rfl H hk
    · exact storeS_sound hA hW hg H hk
    · exact newC_sound hA hW hg H hk
    · exact newC_sound hA hW hg H hk
    · exact newC_sound hA hW hg H hk
    · split at H
      · rename_i c f hco
        split at H
        · rename_i f' first cap hfo
          exact callS_sound hC hA hW hg hco hfo H hk
        · exact H.elim
      · rename_i c hco
        split at H
        · rename_i s x t tx hargs hts
          exact appS_sound hA hW hg hco (Array.toList_inj.1 hargs) (Array.toList_inj.1 hts) H hk
        · exact H.elim
      · exact H.elim
    · exact H.elim

/-- What one operation of a region does, whether its guard lets it or not. -/
def StepW (P : Program) (ops : Array Oper) (o : Oper) (N : Act → World → Prop) (Q : Exit → Act → World → Prop) (a : Act) (w : World) : Prop :=
  if Region.wanted o (yielded ops a.tmps) then o.wp P a w N Q else N (a.put o.dst undef) w
theorem forkS_sound (hC : CallOK P cf.calls) (hA : SatA G E st a) (hW : SatW B G E h st.ch w) {ops : Array Oper} {o : Oper} (hgx : guardX st ops o.guard = some g)
    (H : holds P R (forkS P cf st g o.op o.dst k) G L h) (hk : Cont P B R L N k) : StepW P ops o N Q a w := by
  unfold StepW
  rw [guardX_den hA hgx]
  obtain ⟨h1, h2⟩ := H
  cases hg : vb (g.den G) with
  | true =>
    rw [if_pos rfl]
    exact execS_sound hC (hA.add hg) hW hg (h1 hg) hk
  | false =>
    rw [if_neg (by simp)]
    exact hk _ _ _ _ _ _ ((hA.add hg).put o.dst undS_rel) (by rw [setT_ch]; exact hW) (h2 hg)
theorem stepOp_sound (hC : CallOK P cf.calls) (hA : SatA G E st a) (hW : SatW B G E h st.ch w) {ops : Array Oper} {o : Oper}
    (H : holds P R (stepOp P cf ops o st k) G L h) (hk : Cont P B R L N k) : StepW P ops o N Q a w := by
  unfold stepOp at H
  split at H
  · exact H.elim
  · rename_i g hgx
    split at H
    · rename_i ht
      have hg := test_den hA ht
      unfold StepW
      rw [guardX_den hA hgx, hg, if_pos rfl]
      exact execS_sound hC hA hW hg H hk
    · rename_i ht
      have hg := test_den hA ht
      unfold StepW
      rw [guardX_den hA hgx, hg, if_neg (by simp)]
      exact hk _ _ _ _ _ _ (hA.put o.dst undS_rel) (by rw [setT_ch]; exact hW) H
    · split at H
      · rename_i ns s he
        obtain ⟨hn, H⟩ := holds_needN H
        unfold StepW
        rw [guardX_den hA hgx]
        cases hg : vb (g.den G) with
        | true =>
          rw [if_pos rfl]
          have hq := qpure_sound (P := P) (E := E) (ty := o.type) hA hg o.op
          rw [he] at hq
          obtain ⟨h1, v, hrel, hrun⟩ := hq (needs_mem (hn hg))
          replace hrun := hrun w o.dst o.pos o.after o.guard
          unfold Oper.wp
          rw [hrun, Oper.upon_value]
          exact hk _ _ _ _ _ _ (hA.put o.dst (wrapG_rel hg hrel h1)) (by rw [setT_ch]; exact hW) H
        | false =>
          rw [if_neg (by simp)]
          exact hk _ _ _ _ _ _ (hA.put o.dst (wrapG_undef hg)) (by rw [setT_ch]; exact hW) H
      · exact forkS_sound hC hA hW hgx H hk
      · split at H
        · rename_i t x hop
          unfold StepW
          rw [guardX_den hA hgx]
          cases hg : vb (g.den G) with
          | true =>
            rw [if_pos rfl]
            obtain ⟨dst, op, ty, pos, after, guard⟩ := o
            simp only at hop
            subst hop
            exact loadS_sound hA hW hg hg H hk
          | false =>
            rw [if_neg (by simp)]
            exact loadS_skip hA hW hg H hk
        · rename_i hop
          exact forkS_sound hC hA hW hgx H hk
end
end Go.Proofs.Ytibdneedfopcoaa
