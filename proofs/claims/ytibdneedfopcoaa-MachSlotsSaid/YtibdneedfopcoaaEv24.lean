/-
  A function's contract from what the evaluator leaves. Conditions: the entry of each function that is called is known ('CallOK'); the program is read under 'mixedOrders'.
-/
import Derived.Test.YtibdneedfopcoaaEv23
set_option linter.unusedVariables false
set_option linter.unusedSimpArgs false
namespace Go.Proofs.Ytibdneedfopcoaa
open Go

section
variable {P : Program} {B : Beg} {G : List Value} {E : Nat → CE} {h : H} {st : St} {a : Act} {w : World} {R : Value → List (List Value) → H → Prop} {cf : Cfg}
theorem qLoad_spec (hA : SatA G E st a) (hW : SatW B G E h st.ch w) {g : X} (hg : vb (g.den G) = true) {t : TypeId} {x : Operand} {s : SV} (hq : qLoad P st g t x = some s) :
    s.plain = true ∧ ∃ ad, a.eval x = .pointer (some ad) ∧ (loadVar t ad).run P w = .ok (s.den G E) w := by
  obtain ⟨h1, h2⟩ := sound_load hA hW hg hq none 0 "" #[] none
  refine ⟨h1, ?_⟩
  unfold qLoad at hq
  split at hq
  · rename_i k off hx
    have hc : a.eval x = .pointer (some ((E k).at off)) := opr_den hA hg hx rfl
    refine ⟨_, hc, ?_⟩
    simp only [execOp, Instr.loadAt, hc, Instr.sureAddr, Sem.run_bind, Sem.run_pure, Result.andThen_ok] at h2
    cases hr : (loadVar t ((E k).at off)).run P w with
    | ok v w' =>
      rw [hr] at h2
      simp only [Result.andThen_ok, Result.ok.injEq, Next.value.injEq] at h2
      rw [h2.1, h2.2]
    | halt x w' => rw [hr] at h2; simp at h2
  · cases hq
def resS (P : Program) (st : St) : List ResultVar → Option (List SV)
  | [] => some []
  | .tmp t :: l => (match resS P st l with
    | some r => if (st.opr (.tt true) (.tmp t)).plain then some (st.opr (.tt true) (.tmp t) :: r) else none
    | none => none)
  | .cell x t :: l => (match qLoad P st (.tt true) t (.tmp x), resS P st l with
    | some s, some r => some (s :: r)
    | _, _ => none)
def resRun (tmps : Array Value) : ResultVar → Sem Value
  | .tmp t => pure (tmps.getD t undef)
  | .cell x t => do loadVar t (← asAddr (tmps.getD x undef))
theorem resS_run (hA : SatA G E st a) (hW : SatW B G E h st.ch w) : ∀ {l : List ResultVar} {r : List SV}, resS P st l = some r → (l.mapM (resRun a.tmps)).run P w = .ok (SV.denL G E r) w
  | [], r, hr => by simp only [resS, Option.some.injEq] at hr; subst hr; simp [SV.denL]
  | .tmp t :: l, r, hr => by
    unfold resS at hr
    split at hr
    · rename_i r' hr'
      split at hr
      · rename_i hp
        cases hr
        have ih := resS_run hA hW hr'
        have hv : a.tmps.getD t undef = (st.opr (.tt true) (.tmp t)).den G E := opr_den (x := .tmp t) hA (g := .tt true) rfl rfl hp
        simp only [List.mapM_cons, resRun, Sem.run_bind, Sem.run_pure, Result.andThen_ok, ih, SV.denL, hv]
      · cases hr
    · cases hr
  | .cell x t :: l, r, hr => by
    unfold resS at hr
    split at hr
    · rename_i s r' hs hr'
      cases hr
      have ih := resS_run hA hW hr'
      obtain ⟨_, ad, h1, h2⟩ := qLoad_spec hA hW (g := .tt true) rfl hs
      have h1' : a.tmps.getD x undef = .pointer (some ad) := h1
      simp only [List.mapM_cons, resRun, h1', asAddr, Sem.run_bind, Sem.run_pure, Result.andThen_ok, h2, ih, SV.denL]
    · cases hr
def resV (l : List SV) : SV := match l with | [s] => s | l => .tup l
theorem results_run (hA : SatA G E st a) (hW : SatW B G E h st.ch w) {fn : Func} {r : List SV} (hr : resS P st fn.results.toList = some r) : (results fn a.tmps).run P w = .ok ((resV r).den G E) w := by
  have h1 := resS_run (P := P) hA hW hr
  have h2 : (fn.results.mapM (resRun a.tmps)).run P w = .ok (SV.denL G E r).toArray w := by
    rw [Array.mapM_eq_mapM_toList, Sem.run_map, h1]; rfl
  have h3 : results fn a.tmps = (do let vs ← fn.results.mapM (resRun a.tmps); pure (if h : vs.size = 1 then vs[0] else .tuple vs)) := by
    unfold results
    congr 1
  rw [h3, Sem.run_bind, h2]
  simp only [Result.andThen_ok, Sem.run_pure, Result.ok.injEq, and_true]
  unfold resV
  match r with
  | [] => simp [SV.denL, SV.den]
  | [s] => simp [SV.denL]
  | s :: s' :: l => simp [SV.denL, SV.den]
def parC (ch : List (Nat × List SV)) : List Nat → Option (List (List SV))
  | [] => some []
  | i :: l => (match chGet (pkey i) ch, parC ch l with
    | some c, some r => if allPlain c && closedL c then some (c :: r) else none
    | _, _ => none)
theorem parC_get {ch : List (Nat × List SV)} : ∀ {l : List Nat} {r : List (List SV)} {j : Nat} {i : Nat}, parC ch l = some r → l[j]? = some i → ∃ c, r[j]? = some c ∧ (pkey i, c) ∈ ch ∧ allPlain c = true ∧ closedL c = true
  | [], _, _, _, _, h => by simp at h
  | i :: l, r, j, i', hr, hj => by
    unfold parC at hr
    split at hr
    · rename_i c r' hc hr'
      split at hr
      · rename_i hp
        simp only [Bool.and_eq_true] at hp
        cases hr
        cases j with
        | zero => simp at hj; subst hj; exact ⟨c, rfl, chGet_mem hc, hp.1, hp.2⟩
        | succ j =>
          obtain ⟨c', h1, h2⟩ := parC_get (j := j) hr' (by simpa using hj)
          exact ⟨c', by simpa using h1, h2⟩
      · cases hr
    · cases hr
theorem parC_length {ch : List (Nat × List SV)} : ∀ {l : List Nat} {r : List (List SV)}, parC ch l = some r → r.length = l.length
  | [], r, h => by simp only [parC, Option.some.injEq] at h; subst h; rfl
  | i :: l, r, hr => by
    unfold parC at hr
    split at hr
    · rename_i c r' hc hr'
      split at hr
      · cases hr; simp [parC_length hr']
      · cases hr
    · cases hr
def beqNats : List Nat → List Nat → Bool
  | [], [] => true
  | x :: l, y :: m => x.beq y && beqNats l m
  | _, _ => false
theorem beqNats_eq : ∀ {l m : List Nat}, beqNats l m = true → l = m
  | [], [], _ => rfl
  | x :: l, y :: m, h => by simp only [beqNats, Bool.and_eq_true, Nat.beq_eq] at h; rw [h.1, beqNats_eq h.2]
/-- Where a function's code ends. -/
def finK (P : Program) (rs : Array ResultVar) (lens : List Nat) (e : Ex) (st : St) : Out :=
  match e with
  | .exit _ => .fail
  | _ => (match resS P st rs.toList, parC st.ch (List.range lens.length) with
    | some l, some cs => if closedL l && beqNats (cs.map List.length) lens then .done (resV l) cs else .fail
    | _, _ => .fail)
def initCh : Nat → List (List SV) → List (Nat × List SV)
  | _, [] => []
  | i, c :: l => (pkey i, c) :: initCh (i + 1) l
def initSt (ps : List SV) (pcs : List (List SV)) (n : Nat) (sh : List Sh) : St := { t := ps ++ List.replicate (n - ps.length) .und, ch := initCh 0 pcs, sh, kn := [] }
def okInit (ps : List SV) (pcs : List (List SV)) : Bool := allPlain ps && pcs.all fun c => allPlain c && closedL c
theorem initCh_mem : ∀ {l : List (List SV)} {i k : Nat} {c : List SV}, (k, c) ∈ initCh i l → ∃ j, l[j]? = some c ∧ k = pkey (i + j)
  | [], _, _, _, h => by cases h
  | d :: l, i, k, c, h => by
    simp only [initCh] at h
    rcases List.mem_cons.1 h with e | h
    · cases e; exact ⟨0, rfl, rfl⟩
    · obtain ⟨j, h1, h2⟩ := initCh_mem h
      exact ⟨j + 1, by simpa using h1, by rw [h2]; congr 1; omega⟩
theorem pkey_sub (i : Nat) : pkey i - 1000000 = i := by unfold pkey; exact Nat.add_sub_cancel_left ..
theorem initCh_pair {El : List CE} (hp : El.Pairwise fun c d => c.blk ≠ d.blk) : ∀ {l : List (List SV)} {i : Nat}, i + l.length ≤ El.length →
    (initCh i l).Pairwise fun x y => ((fun k => El.getD (k - 1000000) default) x.1 : CE).blk ≠ ((fun k => El.getD (k - 1000000) default) y.1 : CE).blk
  | [], i, _ => List.Pairwise.nil
  | c :: l, i, hl => by
    simp only [List.length_cons] at hl
    simp only [initCh]
    refine List.pairwise_cons.2 ⟨fun y hy => ?_, initCh_pair hp (by omega)⟩
    obtain ⟨j, h1, h2⟩ := initCh_mem (k := y.1) (c := y.2) hy
    have hj := (List.getElem?_eq_some_iff.1 h1).1
    have e1 : pkey i - 1000000 = i := by unfold pkey; omega
    have e2 : y.1 - 1000000 = i + 1 + j := by have h3 := pkey_sub (i + 1 + j); rw [← h2] at h3; exact h3
    simp only [e1, e2]
    rw [List.getD_eq_getElem?_getD, List.getD_eq_getElem?_getD, List.getElem?_eq_getElem (by omega), List.getElem?_eq_getElem (by omega)]
    exact List.pairwise_iff_getElem.1 hp i (i + 1 + j) (by omega) (by omega) (by omega)
theorem CallsA.of_ev {f : FuncId} {fn : Func} {c : Code} (hfn : P.funcs[f]? = some fn) (hb : fn.body = some c) (hC : CallOK P cf.calls) (hm : P.follows .mixedOrders = true)
    {sh : List Sh} {ps : List SV} {pcs : List (List SV)} (hfit : FitsL sh G) (hok : okInit ps pcs = true)
    (H : holds P R (ev P cf c 0 (initSt ps pcs fn.ntmps sh) (finK P fn.results (pcs.map List.length))) G [] h) :
    CallsA P f (fun e => SV.denL G (fun k => e (k - 1000000)) ps) (pcs.map (SV.denL G dE)) h R := by
  intro w El hlen hCh hno hpw hsub
  simp only [okInit, Bool.and_eq_true, List.all_eq_true] at hok
  obtain ⟨E, hE⟩ : ∃ E : Nat → CE, E = fun k => El.getD (k - 1000000) default := ⟨_, rfl⟩
  have hlen' : El.length = pcs.length := by simpa using hlen
  have hEp : ∀ i, E (pkey i) = El.getD i default := fun i => by
    have e1 : pkey i - 1000000 = i := by unfold pkey; omega
    rw [hE]; simp only [e1]
  have hargs : SV.denL G (fun k => El.getD (k - 1000000) default) ps = SV.denL G E ps := by rw [hE]
  dsimp only
  rw [hargs]
  refine calls_of_wp hfn hb ?_
  have hsz : (SV.denL G E ps).toArray.size = ps.length := by simp [SV.denL_eq]
  have hA : SatA G E (initSt ps pcs fn.ntmps sh) { tmps := (SV.denL G E ps).toArray ++ Array.replicate (fn.ntmps - (SV.denL G E ps).toArray.size) undef, defers := [] } := by
    refine ⟨by simp [initSt, SV.denL_eq], fun i s hi => ?_, rfl, hfit, fun x b hm => by cases hm⟩
    simp only [initSt] at hi
    by_cases hlt : i < ps.length
    · rw [List.getElem?_append_left hlt] at hi
      have hp : s.plain = true := by
        have := hok.1; simp only [allPlain, List.all_eq_true] at this
        exact this s (List.mem_of_getElem? hi)
      have : ((SV.denL G E ps).toArray ++ Array.replicate (fn.ntmps - (SV.denL G E ps).toArray.size) undef).getD i undef = s.den G E := by
        rw [Array.getD_eq_getD_getElem?, Array.getElem?_append_left (by rw [hsz]; exact hlt)]
        simp [SV.denL_eq, hi]
      rw [this]
      exact Rel.of (fun _ => rfl) (plain_nogd hp)
    · rw [List.getElem?_append_right (by omega)] at hi
      have := List.mem_of_getElem? hi
      rw [List.mem_replicate] at this
      rw [this.2]; trivial
  have hget : ∀ k cs, (k, cs) ∈ initCh 0 pcs → ∃ j c, k = pkey j ∧ pcs[j]? = some cs ∧ El[j]? = some c ∧ E k = c := by
    intro k cs hm
    obtain ⟨j, h1, h2⟩ := initCh_mem hm
    rw [Nat.zero_add] at h2
    have hj := (List.getElem?_eq_some_iff.1 h1).1
    refine ⟨j, El[j]'(by omega), h2, h1, List.getElem?_eq_getElem (by omega), ?_⟩
    rw [h2, hEp, List.getD_eq_getElem?_getD, List.getElem?_eq_getElem (by omega)]; rfl
  have hW : SatW ⟨w, h, El, []⟩ G E h (initSt ps pcs fn.ntmps sh).ch w := by
    refine ⟨fun k cs hm => ?_, fun k cs hm => ?_, ?_, fun k cs hm => ?_, fun i c hi => ?_, hsub, ?_, ?_⟩
    · obtain ⟨j, c, rfl, h1, h2, h3⟩ := hget k cs hm
      obtain ⟨f1, f2⟩ := hCh j c (SV.denL G dE cs) h2 (by rw [List.getElem?_map, h1]; rfl)
      have hpc := hok.2 cs (List.mem_of_getElem? h1)
      rw [h3]
      refine ⟨by have : (SV.denL G dE cs).length = cs.length := by simp [SV.denL_eq]
                 rw [this] at f1; exact f1, _, f2, ?_⟩
      rw [← closedL_den (E := E) hpc.2]
      exact RelL_den hpc.1
    · obtain ⟨j, c, rfl, h1, h2, h3⟩ := hget k cs hm
      rw [h3]; exact hno c (List.mem_of_getElem? h2)
    · have := initCh_pair (El := El) hpw (l := pcs) (i := 0) (by omega)
      rw [hE]; exact this
    · obtain ⟨j, c, rfl, h1, h2, h3⟩ := hget k cs hm
      rw [h3]; exact .inl ⟨c, List.mem_of_getElem? h2, rfl⟩
    · rw [hEp, List.getD_eq_getElem?_getD, hi]; rfl
    · exact ⟨Nat.le_refl _, rfl, rfl, rfl, fun b h1 h2 h3 => ⟨rfl, h2⟩⟩
    · exact List.nil_prefix
  refine ev_sound (Q := bodyPost P fn _) (L0 := []) hC hm c ?_ hA hW rfl rfl H
  intro e G' E' h' st' a' w' L' hA' hW' hL' H'
  have key : ∀ (hne : ∀ i, e ≠ .exit i), a'.defers = [] ∧ ∃ v, (results fn a'.tmps).run P w' = .ok v w' ∧ Fin ⟨w, h, El, []⟩ (pcs.map (SV.denL G dE)) R (.returned v) w' := by
    intro hne
    have H2 : holds P R (match resS P st' fn.results.toList, parC st'.ch (List.range (pcs.map List.length).length) with
      | some l, some cs => if closedL l && beqNats (cs.map List.length) (pcs.map List.length) then .done (resV l) cs else .fail
      | _, _ => .fail) G' L' h' := by
      unfold finK at H'
      cases e with
      | exit i => exact absurd rfl (hne i)
      | norm => exact H'
      | ret => exact H'
    split at H2
    · rename_i l cs hl hcs
      split at H2
      · rename_i hc
        simp only [Bool.and_eq_true] at hc
        refine ⟨hA'.nodef, _, results_run hA' hW' hl, _, cs.map (SV.denL G' dE), h', rfl, ?_, ?_, ?_, hW'.frm, hW'.hsub, ?_⟩
        · have : (resV l).den G' E' = (resV l).den G' dE := by
            refine closed_den ?_
            have h1 := hc.1
            unfold resV
            match l with
            | [] => rfl
            | [s] => simp only [closedL, SV.refsL, Bool.and_true] at h1; exact h1
            | s :: s' :: l => exact h1
          rw [this]; exact H2
        · have h1 := beqNats_eq hc.2
          have e1 : (cs.map (SV.denL G' dE)).map List.length = cs.map List.length := by simp [SV.denL_eq]
          have e2 : (pcs.map (SV.denL G dE)).map List.length = pcs.map List.length := by simp [SV.denL_eq]
          rw [e1, e2, h1]
        · intro i ce l' hi hl'
          rw [List.getElem?_map, Option.map_eq_some_iff] at hl'
          obtain ⟨ci, hci, rfl⟩ := hl'
          have hilt : i < pcs.length := by have := (List.getElem?_eq_some_iff.1 hi).1; simp only at this; omega
          obtain ⟨c', g1, g2, g3, g4⟩ := parC_get (j := i) (i := i) hcs (by rw [List.getElem?_range]; simpa using hilt)
          rw [hci] at g1
          cases g1
          obtain ⟨f1, vs, f2, f3⟩ := hW'.chunks _ _ g2
          rw [hW'.par i ce hi] at f1 f2
          have := vals_of f3 g3
          rw [closedL_den g4] at this
          rw [← this]
          exact ⟨by rw [f3.length]; exact f1, f2⟩
        · intro ce hce
          obtain ⟨i, hi⟩ := List.getElem?_of_mem hce
          have hilt : i < pcs.length := by have := (List.getElem?_eq_some_iff.1 hi).1; simp only at this; omega
          obtain ⟨c', g1, g2, g3, g4⟩ := parC_get (j := i) (i := i) hcs (by rw [List.getElem?_range]; simpa using hilt)
          have := hW'.hid _ _ g2
          rw [hW'.par i ce hi] at this
          exact this
      · exact H2.elim
    · exact H2.elim
  cases e with
  | exit i => exact H'.elim
  | norm => exact key (fun i e => by cases e)
  | ret => exact key (fun i e => by cases e)
end
end Go.Proofs.Ytibdneedfopcoaa
