/-
  Code that only computes, run by symbols to one state, both ways of a test made one. Conditions: none (definitions and plain lemmas).
-/
import Derived.Test.YtibdneedfopcoaaEv17
import Derived.Deep.LoopGhost
import Derived.Scope
set_option linter.unusedVariables false
set_option linter.unusedSimpArgs false
namespace Go.Proofs.Ytibdneedfopcoaa
open Go

/-! ### Two states made one -/
def mergeSV (e : X) (s t : SV) : SV :=
  if s.beq t then s else
  match s, t with
  | .int k x, .int k' y => if beqIK k k' then .int k (mkIte e x y) else .und
  | .bool x, .bool y => .bool (mkIte e x y)
  | .str x, .str y => .str (mkIte e x y)
  | _, _ => .und
def mergeL (e : X) : List SV → List SV → Option (List SV)
  | [], [] => some []
  | s :: l, t :: m => (mergeL e l m).map (mergeSV e s t :: ·)
  | _, _ => none
def mergeCh (e : X) : List (Nat × List SV) → List (Nat × List SV) → Option (List (Nat × List SV))
  | [], [] => some []
  | (k, c) :: l, (j, d) :: m => if k.beq j then (match mergeL e c d, mergeCh e l m with
    | some x, some y => some ((k, x) :: y)
    | _, _ => none) else none
  | _, _ => none
def mergeSt (e : X) (st x y : St) : Option St :=
  match mergeL e x.t y.t, mergeCh e x.ch y.ch with
  | some t, some ch => if x.sh.length.beq st.sh.length && y.sh.length.beq st.sh.length then some { t, ch, sh := st.sh, kn := st.kn } else none
  | _, _ => none
section
variable {P : Program} {B : Beg} {G : List Value} {E : Nat → CE} {h : H} {st : St} {a : Act} {w : World} {Q : Exit → Act → World → Prop} {cf : Cfg}
theorem mergeSV_left {e : X} {s t : SV} {v : Value} (he : vb (e.den G) = true) (hr : Rel G E v s) : Rel G E v (mergeSV e s t) := by
  unfold mergeSV
  split
  · exact hr
  · split
    · split
      · show v = .int _ (vi ((mkIte e _ _).den G)); rw [mkIte_den, he, if_pos rfl]; exact hr
      · trivial
    · show v = .bool (vb ((mkIte e _ _).den G)); rw [mkIte_den, he, if_pos rfl]; exact hr
    · show v = .string (vs ((mkIte e _ _).den G)); rw [mkIte_den, he, if_pos rfl]; exact hr
    · trivial
theorem mergeSV_right {e : X} {s t : SV} {v : Value} (he : vb (e.den G) = false) (hr : Rel G E v t) : Rel G E v (mergeSV e s t) := by
  unfold mergeSV
  split
  · rename_i hb; rw [SV.beq_eq _ _ hb]; exact hr
  · split
    · split
      · rename_i hk
        show v = .int _ (vi ((mkIte e _ _).den G)); rw [mkIte_den, he, if_neg (by simp), beqIK_eq hk]; exact hr
      · trivial
    · show v = .bool (vb ((mkIte e _ _).den G)); rw [mkIte_den, he, if_neg (by simp)]; exact hr
    · show v = .string (vs ((mkIte e _ _).den G)); rw [mkIte_den, he, if_neg (by simp)]; exact hr
    · trivial
theorem mergeL_get {e : X} : ∀ {l m n : List SV} {i : Nat} {s : SV}, mergeL e l m = some n → n[i]? = some s → ∃ x y, l[i]? = some x ∧ m[i]? = some y ∧ s = mergeSV e x y
  | [], [], n, i, s, h, hi => by simp only [mergeL, Option.some.injEq] at h; subst h; simp at hi
  | x :: l, y :: m, n, i, s, h, hi => by
    simp only [mergeL, Option.map_eq_some_iff] at h
    obtain ⟨n', hn, rfl⟩ := h
    cases i with
    | zero => simp at hi; exact ⟨x, y, rfl, rfl, hi.symm⟩
    | succ i =>
      obtain ⟨u, v, h1, h2, h3⟩ := mergeL_get hn (by simpa using hi)
      exact ⟨u, v, by simpa using h1, by simpa using h2, h3⟩
theorem mergeL_length {e : X} : ∀ {l m n : List SV}, mergeL e l m = some n → n.length = l.length ∧ n.length = m.length
  | [], [], n, h => by simp only [mergeL, Option.some.injEq] at h; subst h; exact ⟨rfl, rfl⟩
  | x :: l, y :: m, n, h => by
    simp only [mergeL, Option.map_eq_some_iff] at h
    obtain ⟨n', hn, rfl⟩ := h
    obtain ⟨h1, h2⟩ := mergeL_length hn
    exact ⟨by simp [h1], by simp [h2]⟩
theorem mergeL_left {e : X} (he : vb (e.den G) = true) : ∀ {l m n : List SV} {vs : List Value}, mergeL e l m = some n → RelL G E vs l → RelL G E vs n
  | [], [], n, [], h, hr => by simp only [mergeL, Option.some.injEq] at h; subst h; trivial
  | x :: l, y :: m, n, v :: vs, h, hr => by
    simp only [mergeL, Option.map_eq_some_iff] at h
    obtain ⟨n', hn, rfl⟩ := h
    exact ⟨mergeSV_left he hr.1, mergeL_left he hn hr.2⟩
  | [], [], _, _ :: _, _, hr => hr.elim
  | _ :: _, _ :: _, _, [], _, hr => hr.elim
theorem mergeL_right {e : X} (he : vb (e.den G) = false) : ∀ {l m n : List SV} {vs : List Value}, mergeL e l m = some n → RelL G E vs m → RelL G E vs n
  | [], [], n, [], h, hr => by simp only [mergeL, Option.some.injEq] at h; subst h; trivial
  | x :: l, y :: m, n, v :: vs, h, hr => by
    simp only [mergeL, Option.map_eq_some_iff] at h
    obtain ⟨n', hn, rfl⟩ := h
    exact ⟨mergeSV_right he hr.1, mergeL_right he hn hr.2⟩
  | [], [], _, _ :: _, _, hr => hr.elim
  | _ :: _, _ :: _, _, [], _, hr => hr.elim
theorem mergeCh_spec {e : X} : ∀ {l m n : List (Nat × List SV)}, mergeCh e l m = some n → n.map (·.1) = l.map (·.1) ∧ n.map (·.1) = m.map (·.1) ∧
    ∀ k c, (k, c) ∈ n → ∃ x y, (k, x) ∈ l ∧ (k, y) ∈ m ∧ mergeL e x y = some c
  | [], [], n, h => by simp only [mergeCh, Option.some.injEq] at h; subst h; simp
  | (k, c) :: l, (j, d) :: m, n, h => by
    unfold mergeCh at h
    split at h
    · rename_i hk
      rw [Nat.beq_eq] at hk
      subst hk
      split at h
      · rename_i x y hx hy
        cases h
        obtain ⟨h1, h2, h3⟩ := mergeCh_spec hy
        refine ⟨by simp [h1], by simp [h2], fun k' c' hm => ?_⟩
        rcases List.mem_cons.1 hm with e | hm
        · cases e; exact ⟨c, d, List.mem_cons_self .., List.mem_cons_self .., hx⟩
        · obtain ⟨u, v, a1, a2, a3⟩ := h3 k' c' hm
          exact ⟨u, v, List.mem_cons_of_mem _ a1, List.mem_cons_of_mem _ a2, a3⟩
      · cases h
    · cases h
theorem SatW.merge_left {e : X} (he : vb (e.den G) = true) {l m n : List (Nat × List SV)} (hm : mergeCh e l m = some n) (hW : SatW B G E h l w) : SatW B G E h n w := by
  obtain ⟨h1, h2, h3⟩ := mergeCh_spec hm
  refine ⟨fun k c hc => ?_, fun k c hc => ?_, pair_keys h1 hW.dist, fun k c hc => ?_, hW.par, hW.hsub, hW.frm, hW.pre⟩
  · obtain ⟨x, y, a1, a2, a3⟩ := h3 k c hc
    obtain ⟨f, vs, hb, hr⟩ := hW.chunks k x a1
    exact ⟨by rw [(mergeL_length a3).1]; exact f, vs, hb, mergeL_left he a3 hr⟩
  · obtain ⟨x, y, a1, a2, a3⟩ := h3 k c hc; exact hW.hid k x a1
  · obtain ⟨x, y, a1, a2, a3⟩ := h3 k c hc; exact hW.own k x a1
theorem SatW.merge_right {e : X} (he : vb (e.den G) = false) {l m n : List (Nat × List SV)} (hm : mergeCh e l m = some n) (hW : SatW B G E h m w) : SatW B G E h n w := by
  obtain ⟨h1, h2, h3⟩ := mergeCh_spec hm
  refine ⟨fun k c hc => ?_, fun k c hc => ?_, pair_keys h2 hW.dist, fun k c hc => ?_, hW.par, hW.hsub, hW.frm, hW.pre⟩
  · obtain ⟨x, y, a1, a2, a3⟩ := h3 k c hc
    obtain ⟨f, vs, hb, hr⟩ := hW.chunks k y a2
    exact ⟨by rw [(mergeL_length a3).2]; exact f, vs, hb, mergeL_right he a3 hr⟩
  · obtain ⟨x, y, a1, a2, a3⟩ := h3 k c hc; exact hW.hid k y a2
  · obtain ⟨x, y, a1, a2, a3⟩ := h3 k c hc; exact hW.own k y a2

/-! ### Code that only computes -/
def prExec (P : Program) (st : St) (g gg : X) (o : Op) (dst : Option Tmp) : Option St :=
  match qpure P st g o with
  | .val [] s => some (st.setT dst (wrapG gg s))
  | .bad => (match o with
    | .load t x => (match qLoad P st g t x with | some s => some (st.setT dst (wrapG gg s)) | none => none)
    | .store t x v => if gg.isT then (match st.parts (st.opr g v), tsize P t with
      | some ms, some n => if ms.length.beq n && ms.all st.one then
        (match st.opr g x with
        | .loc l off => (match chGet l st.ch with
          | some cs => if Nat.ble (off + n) cs.length then some (({ st with ch := chSet l (splice cs off ms) st.ch } : St).setT dst undS) else none
          | none => none)
        | _ => none) else none
      | _, _ => none) else none
    | _ => none)
  | _ => none
def prOp (P : Program) (ops : Array Oper) (o : Oper) (st : St) : Option St :=
  match guardX st ops o.guard with
  | none => none
  | some g => (match st.test g with
    | some true => prExec P st g (.tt true) o.op o.dst
    | some false => some (st.setT o.dst undS)
    | none => prExec P st g g o.op o.dst)
def prOps (P : Program) (ops : Array Oper) : List Oper → St → Option St
  | [], st => some st
  | o :: l, st => (prOp P ops o st).bind (prOps P ops l)
def pr (P : Program) : Code → St → Option St
  | .skip, st => some st
  | .region _ ops false, st => prOps P ops ops.toList st
  | .seq x y, st => (pr P x st).bind (pr P y)
  | .cond c x y, st => (match st.opr (.tt true) c with
    | .bool e => (match st.test e with
      | some true => pr P x st
      | some false => pr P y st
      | none => (match pr P x (st.add e true), pr P y (st.add e false) with
        | some sx, some sy => mergeSt e st sx sy
        | _, _ => none))
    | _ => none)
  | .block _ b, st => pr P b st
  | _, _ => none

/-- What is known behind a step that only computes. -/
def Kept (B : Beg) (G : List Value) (E : Nat → CE) (h : H) (st : St) (N : Act → World → Prop) : Prop := ∀ a w, SatA G E st a → SatW B G E h st.ch w → N a w
theorem isT_den {g : X} (hg : g.isT = true) : vb (g.den G) = true := by
  unfold X.isT at hg
  split at hg
  · rfl
  · cases hg
theorem prExec_sound {N : Act → World → Prop} {o : Oper} {ops : Array Oper} {g gg : X} {st' : St} (hA : SatA G E st a) (hW : SatW B G E h st.ch w) (hgx : guardX st ops o.guard = some g)
    (hgg : (vb (g.den G) = true ∧ vb (gg.den G) = true) ∨ gg = g) (hp : prExec P st g gg o.op o.dst = some st') (hk : Kept B G E h st' N) : StepW P ops o N Q a w := by
  unfold StepW
  rw [guardX_den hA hgx]
  obtain ⟨dst, op, ty, pos, after, guard⟩ := o
  simp only at hp hgx
  cases hg : vb (g.den G) with
  | true =>
    have hgg' : vb (gg.den G) = true := by rcases hgg with h | h; exact h.2; rw [h]; exact hg
    rw [if_pos rfl]
    unfold prExec at hp
    split at hp
    · rename_i s he
      cases hp
      have hq := qpure_sound (P := P) (E := E) (ty := ty) hA hg op
      rw [he] at hq
      obtain ⟨h1, v, hrel, hrun⟩ := hq (by simp)
      replace hrun := hrun w dst pos after guard
      unfold Oper.wp
      rw [hrun, Oper.upon_value]
      exact hk _ _ (hA.put dst (wrapG_rel hgg' hrel h1)) (by rw [setT_ch]; exact hW)
    · split at hp
      · rename_i t x
        split at hp
        · rename_i s hq
          cases hp
          obtain ⟨hpl, hrun⟩ := sound_load hA hW hg hq dst ty pos after guard
          unfold Oper.wp
          rw [hrun, Oper.upon_value]
          exact hk _ _ (hA.put dst (wrapG_rel hgg' (Rel.of (fun _ => rfl) (plain_nogd hpl)) (plain_nogd hpl))) (by rw [setT_ch]; exact hW)
        · cases hp
      · rename_i t x v _
        split at hp
        · have key : (⟨dst, .store t x v, ty, pos, after, guard⟩ : Oper).wp P a w N Q := by
            split at hp
            · rename_i ms n hms hn
              split at hp
              · rename_i hc
                simp only [Bool.and_eq_true, Nat.beq_eq] at hc
                obtain ⟨c1, c2, c3⟩ := parts_den (E := E) hA hms
                obtain ⟨o1, o2⟩ := allOne (E := E) hA hc.2
                have hv := opr_den hA hg rfl c2
                have hsz : (a.eval v).cells.size = n := by rw [hv, c1]; simp [SV.denL_eq, hc.1]
                have hcl : (a.eval v).cells.toList = SV.denL G E ms := by rw [hv, c1]
                split at hp
                · rename_i l off hx
                  have hxa := opr_den hA hg hx rfl
                  split at hp
                  · rename_i cs hcs
                    split at hp
                    · rename_i hle
                      rw [Nat.ble_eq] at hle
                      cases hp
                      obtain ⟨hrun, hW'⟩ := hW.store (P := P) (off := off) (ms := ms) hcs (by omega) o1 o2
                      unfold Oper.wp
                      have : (execOp a.eval ⟨dst, .store t x v, ty, pos, after, guard⟩).run P w = .ok .skip (setsW w ((E l).at off) (SV.denL G E ms) 0) := by
                        simp only [execOp, Instr.storeAt, hxa, SV.den, CE.ptr, Instr.sureAddr, Sem.run_bind, Sem.run_pure, Result.andThen_ok, storeVar, run_tsize hn, hsz, ne_eq, not_true_eq_false, if_false, hcl]
                        rw [hrun]; rfl
                      rw [this, Oper.upon_skip]
                      exact hk _ _ (SatA.put (st := { st with ch := chSet l (splice cs off ms) st.ch }) ⟨hA.size, hA.tmps, hA.nodef, hA.fits, hA.kn⟩ dst undS_rel) (by rw [setT_ch]; exact hW')
                    · cases hp
                  · cases hp
                · cases hp
              · cases hp
            · cases hp
          exact key
        · cases hp
      · cases hp
    · cases hp
  | false =>
    rw [if_neg (by simp)]
    have hgg' : gg = g := by rcases hgg with h | h; rw [h.1] at hg; cases hg; exact h
    subst hgg'
    unfold prExec at hp
    split at hp
    · cases hp
      exact hk _ _ (hA.put dst (wrapG_undef hg)) (by rw [setT_ch]; exact hW)
    · split at hp
      · split at hp
        · cases hp
          exact hk _ _ (hA.put dst (wrapG_undef hg)) (by rw [setT_ch]; exact hW)
        · cases hp
      · split at hp
        · rename_i ht
          have := isT_den (G := G) ht
          rw [hg] at this; cases this
        · cases hp
      · cases hp
    · cases hp
theorem prOp_sound {N : Act → World → Prop} {o : Oper} {ops : Array Oper} {st' : St} (hA : SatA G E st a) (hW : SatW B G E h st.ch w) (hp : prOp P ops o st = some st') (hk : Kept B G E h st' N) : StepW P ops o N Q a w := by
  unfold prOp at hp
  split at hp
  · cases hp
  · rename_i g hgx
    split at hp
    · rename_i ht
      exact prExec_sound hA hW hgx (.inl ⟨test_den hA ht, rfl⟩) hp hk
    · rename_i ht
      cases hp
      unfold StepW
      rw [guardX_den hA hgx, test_den hA ht, if_neg (by simp)]
      exact hk _ _ (hA.put o.dst undS_rel) (by rw [setT_ch]; exact hW)
    · exact prExec_sound hA hW hgx (.inr rfl) hp hk
theorem stepW_list {ops : Array Oper} {o : Oper} {l : List Oper} (hs : StepW P ops o (wpList P ops Q l) Q a w) : wpList P ops Q (o :: l) a w := by
  unfold StepW at hs
  unfold wpList
  split
  · rename_i hw; rw [if_pos hw] at hs; exact .inl hs
  · rename_i hw; rw [if_neg hw] at hs; exact hs
theorem prOps_sound {ops : Array Oper} : ∀ {l : List Oper} {st st' : St} {a : Act} {w : World}, SatA G E st a → SatW B G E h st.ch w → prOps P ops l st = some st' → Kept B G E h st' (Q .normal) → wpList P ops Q l a w
  | [], st, st', a, w, hA, hW, hp, hk => by simp only [prOps, Option.some.injEq] at hp; subst hp; exact hk _ _ hA hW
  | o :: l, st, st', a, w, hA, hW, hp, hk => by
    simp only [prOps] at hp
    cases hs : prOp P ops o st with
    | none => simp [hs] at hp
    | some s1 =>
      simp only [hs, Option.bind_some] at hp
      exact stepW_list (prOp_sound hA hW hs fun a' w' hA' hW' => prOps_sound hA' hW' hp hk)
theorem mergeSt_left {e : X} {x y s : St} (he : vb (e.den G) = true) (h0 : SatA G E st a) (hm : mergeSt e st x y = some s) {a' : Act} {w' : World} (hA : SatA G E x a') (hW : SatW B G E h x.ch w') : SatA G E s a' ∧ SatW B G E h s.ch w' := by
  unfold mergeSt at hm
  split at hm
  · rename_i t ch ht hc
    split at hm
    · cases hm
      refine ⟨⟨by rw [(mergeL_length ht).1]; exact hA.size, fun i s hi => ?_, hA.nodef, h0.fits, h0.kn⟩, hW.merge_left he hc⟩
      obtain ⟨u, v, h1, h2, rfl⟩ := mergeL_get ht hi
      exact mergeSV_left he (hA.tmps i u h1)
    · cases hm
  · cases hm
theorem mergeSt_right {e : X} {x y s : St} (he : vb (e.den G) = false) (h0 : SatA G E st a) (hm : mergeSt e st x y = some s) {a' : Act} {w' : World} (hA : SatA G E y a') (hW : SatW B G E h y.ch w') : SatA G E s a' ∧ SatW B G E h s.ch w' := by
  unfold mergeSt at hm
  split at hm
  · rename_i t ch ht hc
    split at hm
    · cases hm
      refine ⟨⟨by rw [(mergeL_length ht).2]; exact hA.size, fun i s hi => ?_, hA.nodef, h0.fits, h0.kn⟩, hW.merge_right he hc⟩
      obtain ⟨u, v, h1, h2, rfl⟩ := mergeL_get ht hi
      exact mergeSV_right he (hA.tmps i v h2)
    · cases hm
  · cases hm
theorem pr_sound : ∀ {c : Code} {st st' : St} {a : Act} {w : World} {Q : Exit → Act → World → Prop}, SatA G E st a → SatW B G E h st.ch w → pr P c st = some st' → Kept B G E h st' (Q .normal) → c.wp P Q a w := by
  intro c
  induction c <;> intro st st' a w Q hA hW hp hk
  case skip => simp only [pr, Option.some.injEq] at hp; subst hp; exact wp_skip (hk _ _ hA hW)
  case region id ops draw =>
    cases draw with
    | true => simp [pr] at hp
    | false => exact wp_region_list (prOps_sound hA hW (by simpa only [pr] using hp) hk)
  case seq x y ix iy =>
    simp only [pr] at hp
    cases hx : pr P x st with
    | none => simp [hx] at hp
    | some s1 =>
      simp only [hx, Option.bind_some] at hp
      exact wp_seq (ix hA hW hx fun a' w' hA' hW' => iy hA' hW' hp hk)
  case cond c x y ix iy =>
    simp only [pr] at hp
    split at hp
    · rename_i e he
      have hc := opr_den hA (g := .tt true) rfl he rfl
      have hc' : a.eval c = .bool (vb (e.den G)) := hc
      split at hp
      · rename_i ht
        rw [test_den hA ht] at hc'
        exact wp_cond_true hc' (ix hA hW hp hk)
      · rename_i ht
        rw [test_den hA ht] at hc'
        exact wp_cond_false hc' (iy hA hW hp hk)
      · split at hp
        · rename_i sx sy hx hy
          refine wp_cond_split hc' (fun ht => ?_) (fun hf => ?_)
          · exact ix (hA.add ht) hW hx fun a' w' hA' hW' => by
              obtain ⟨m1, m2⟩ := mergeSt_left ht hA hp hA' hW'
              exact hk _ _ m1 m2
          · exact iy (hA.add hf) hW hy fun a' w' hA' hW' => by
              obtain ⟨m1, m2⟩ := mergeSt_right hf hA hp hA' hW'
              exact hk _ _ m1 m2
        · cases hp
    · cases hp
  case block id b ib =>
    simp only [pr] at hp
    exact wp_block (ib hA hW hp fun a' w' hA' hW' => hk _ _ hA' hW')
  all_goals simp [pr] at hp
end
end Go.Proofs.Ytibdneedfopcoaa
