/-
  One operation by symbols, whatever its kind; that what is left to show suffices. Conditions: none (definitions and plain lemmas).
-/
import Derived.Test.YtibdneedfopcoaaEv13
set_option linter.unusedVariables false
set_option linter.unusedSimpArgs false
namespace Go.Proofs.Ytibdneedfopcoaa
open Go

def hasN : List Nat → Nat → Bool
  | [], _ => false
  | x :: l, n => x.beq n || hasN l n
theorem hasN_mem : ∀ {l : List Nat} {n : Nat}, hasN l n = true → n ∈ l
  | [], _, h => by cases h
  | x :: l, n, h => by
    simp only [hasN, Bool.or_eq_true, Nat.beq_eq] at h
    rcases h with h | h
    · rw [h]; exact List.mem_cons_self ..
    · exact List.mem_cons_of_mem _ (hasN_mem h)
/-- What is handed to the evaluator beside the code: functions that may be called; slots whose rows lie outside the chunks; what loops change (by the first region in them: slots, cells of chunks; which slots are done with). -/
structure Cfg where
  calls : List Nat
  pub : List Nat
  loops : List (Nat × List Nat × List (Nat × Nat) × List Nat)
def CallOK (P : Program) (l : List Nat) : Prop := ∀ f ∈ l, ∀ args w, (callFunc f args).run P w = .ok (.enter f args) w
def undS : SV := .tup []

def needN (g : X) (ns : List X) (k : Out) : Out := match ns with | [] => k | _ :: _ => .need g ns k
theorem holds_needN {P : Program} {R : Value → List (List Value) → H → Prop} {g : X} {ns : List X} {k : Out} {G : List Value} {L : Lv} {h : H} (H : holds P R (needN g ns k) G L h) :
    (vb (g.den G) = true → needs G ns) ∧ holds P R k G L h := by
  unfold needN at H
  split at H
  · exact ⟨fun _ => trivial, H⟩
  · exact H

def addKn (x : X) (b : Bool) (l : List (X × Bool)) : List (X × Bool) :=
  match x with
  | .not y => addKn y (!b) l
  | .and y z => if b then addKn y true (addKn z true l) else (.and y z, false) :: l
  | .tt _ => l
  | x => (x, b) :: l
theorem addKn_den {G : List Value} : ∀ {x : X} {b : Bool} {l : List (X × Bool)}, vb (x.den G) = b → (∀ y c, (y, c) ∈ l → vb (y.den G) = c) → ∀ y c, (y, c) ∈ addKn x b l → vb (y.den G) = c := by
  intro x
  induction x <;> intro b l hx hl y c hm <;> unfold addKn at hm
  case not z ih => exact ih (by simp only [X.den, vb_bool] at hx; rw [← hx]; simp) hl y c hm
  case and u v iu iv =>
    split at hm
    · rename_i hb
      subst hb
      simp only [X.den, vb_bool, Bool.and_eq_true] at hx
      exact iu hx.1 (iv hx.2 hl) y c hm
    · rename_i hb
      rcases List.mem_cons.1 hm with e | hm
      · cases e; rw [hx]; simpa using hb
      · exact hl y c hm
  case tt => exact hl y c hm
  all_goals
    rcases List.mem_cons.1 hm with e | hm
    · cases e; exact hx
    · exact hl y c hm
def St.add (st : St) (x : X) (b : Bool) : St := { st with kn := addKn x b st.kn }
section
variable {P : Program} {B : Beg} {G : List Value} {E : Nat → CE} {h : H} {st : St} {a : Act} {w : World}
theorem SatA.add (hA : SatA G E st a) {x : X} {b : Bool} (hx : vb (x.den G) = b) : SatA G E (st.add x b) a :=
  ⟨hA.size, hA.tmps, hA.nodef, hA.fits, addKn_den hx hA.kn⟩

/-! ### Guards -/
def guardX (st : St) (ops : Array Oper) : Option (Nat × Bool) → Option X
  | none => some (.tt true)
  | some (j, want) => (match (ops[j]?).bind (·.dst) with
    | some d => (match SV.get st.t d with
      | .bool e => some (if want then e else mkNot e)
      | .gd g (.bool e) => some (.and g (if want then e else mkNot e))
      | .tup [] => some (.tt false)
      | _ => none)
    | none => none)
theorem get_rel (hA : SatA G E st a) {d : Nat} {s : SV} (hs : SV.get st.t d = s) (hp : s ≠ .und) : ∃ v, a.tmps[d]? = some v ∧ Rel G E v s := by
  simp only [SV.get, List.getD_eq_getElem?_getD] at hs
  cases ht : st.t[d]? with
  | none => simp [ht] at hs; exact absurd hs.symm hp
  | some s' =>
    simp [ht] at hs
    subst hs
    have hl := (List.getElem?_eq_some_iff.1 ht).1
    rw [hA.size] at hl
    have := hA.tmps d s' ht
    refine ⟨a.tmps[d], by simp [hl], ?_⟩
    simpa [Array.getD, hl] using this
theorem guardX_den (hA : SatA G E st a) {ops : Array Oper} {o : Oper} {g : X} (hg : guardX st ops o.guard = some g) : Region.wanted o (yielded ops a.tmps) = vb (g.den G) := by
  unfold guardX at hg
  unfold Region.wanted
  split at hg
  · rename_i hn
    cases hg
    rw [hn]; rfl
  · rename_i j want hn
    rw [hn]
    simp only
    split at hg
    · rename_i d hd
      have hy : yielded ops a.tmps j = match a.tmps[d]? with | some (.bool b) => some b | _ => none := by
        unfold yielded
        rw [hd]; rfl
      rw [hy]
      split at hg
      · rename_i e he
        cases hg
        obtain ⟨v, hv, hr⟩ := get_rel hA he (by simp)
        have : v = .bool (vb (e.den G)) := hr
        rw [hv, this]
        cases want <;> simp [mkNot_den] <;> cases vb (e.den G) <;> rfl
      · rename_i g' e he
        cases hg
        obtain ⟨v, hv, hr⟩ := get_rel hA he (by simp)
        have hr' : if vb (g'.den G) then v = .bool (vb (e.den G)) else v = undef := hr
        rw [hv]
        cases hgb : vb (g'.den G) with
        | true =>
          rw [hgb, if_pos rfl] at hr'
          rw [hr']
          cases want <;> simp [X.den, hgb, mkNot_den] <;> cases vb (e.den G) <;> rfl
        | false =>
          rw [hgb, if_neg (by simp)] at hr'
          rw [hr']
          simp [X.den, hgb, undef]
      · rename_i he
        cases hg
        obtain ⟨v, hv, hr⟩ := get_rel hA he (by simp)
        have : v = .tuple #[] := hr
        rw [hv, this]
        simp [X.den]
      · cases hg
    · cases hg

/-! ### Loads and stores outside the chunks -/
def loadP (P : Program) (st : St) (g : X) (t : TypeId) (x : Operand) : Option (PE × List Sh × Bool) :=
  match st.opr g x, shapesOf P t, aggB P t, tsize P t with
  | .ptr p, some shs, some true, some n => if shs.length.beq n then some (p, shs, true) else none
  | .ptr p, some shs, some false, some n => if shs.length.beq 1 then some (p, shs, false) else none
  | _, _, _, _ => none
def svOf (b : Bool) (shs : List Sh) (i : Nat) : SV := if b then .agg (Sh.svs i shs) else SV.get (Sh.svs i shs) 0
theorem loadP_run (hA : SatA G E st a) (hs : h.sub w) {g : X} (hg : vb (g.den G) = true) {t : TypeId} {x : Operand} {p : PE} {shs : List Sh} {b : Bool} (hq : loadP P st g t x = some (p, shs, b))
    {xs : List Value} (hf : FitsL shs xs) (hr : Reads h (p.den G) xs) (dst : Option Tmp) (ty : TypeId) (pos : String) (after : Array Edge) (guard : Option (Nat × Bool)) :
    (execOp a.eval ⟨dst, .load t x, ty, pos, after, guard⟩).run P w = .ok (.value ((svOf b shs G.length).den (G ++ xs) E)) w ∧ (svOf b shs G.length).plain = true := by
  obtain ⟨h1, h2, h3⟩ := svs_den (E := E) (G := G) hf
  have hrw : ∀ i v, xs[i]? = some v → w.cell? ((p.den G).add i) = some v := fun i v hv => H.sub_cell hs (hr i v hv)
  unfold loadP at hq
  split at hq
  · rename_i p' shs' n hx hsh ha hn
    split at hq
    · rename_i hl
      cases hq
      rw [Nat.beq_eq] at hl
      have hc := opr_den hA hg hx rfl
      have := run_loadVar_agg (P := P) (w := w) (l := xs) (ad := p.den G) ha hn (by rw [← hf.length]; exact hl) hrw
      refine ⟨?_, by simp [svOf, SV.plain]⟩
      simp only [execOp, Instr.loadAt, hc, SV.den, Instr.sureAddr, Sem.run_bind, Sem.run_pure, Result.andThen_ok, this, svOf, if_true, h1]
    · cases hq
  · rename_i p' shs' n hx hsh ha hn
    split at hq
    · rename_i hl
      cases hq
      rw [Nat.beq_eq] at hl
      have hc := opr_den hA hg hx rfl
      have hxl : xs.length = 1 := by rw [← hf.length]; exact hl
      match xs, hxl with
      | [v], _ =>
        match shs, hl with
        | [s], _ =>
          have hcell := hrw 0 v rfl
          have e0 : (p.den G).add 0 = p.den G := rfl
          rw [e0] at hcell
          have := run_loadVar_one (P := P) (w := w) ha hcell
          have hsv : SV.get (Sh.svs G.length [s]) 0 = s.sv G.length := rfl
          simp only [Sh.svs, SV.denL, List.cons.injEq, and_true] at h1
          simp only [Sh.svs, allPlain, List.all_cons, List.all_nil, Bool.and_true] at h2
          refine ⟨?_, by simp only [svOf, hsv]; exact h2⟩
          simp only [execOp, Instr.loadAt, hc, SV.den, Instr.sureAddr, Sem.run_bind, Sem.run_pure, Result.andThen_ok, this, svOf, hsv, h1]
          simp [h1]
    · cases hq
  · cases hq
def closedL (l : List SV) : Bool := SV.refsL (fun _ => false) l
theorem closedL_den {l : List SV} (h : closedL l = true) : SV.denL G E l = SV.denL G dE l := SV.denL_env (fun l h => by cases h) l h
theorem sub_set (hs : h.sub w) (ad : Addr) (v : Value) : (h.set ad v).sub (w.setCell ad v) := by
  intro b o ho
  unfold H.set at ho
  split at ho
  · rename_i hb
    subst hb
    split at ho
    · rename_i c e f hc
      cases ho
      have := hs _ _ hc
      simp [World.setCell, Array.getElem?_modify, this]
    · rename_i o' hno
      have := hs _ _ ho
      simp only [World.setCell, Array.getElem?_modify, if_true, this, Option.map_some, Option.some.injEq]
      split
      · exact absurd ho (hno _ _ _)
      · rfl
  · rename_i hb
    rw [setCell_other _ _ hb]; exact hs b o ho
theorem add_add1 (ad : Addr) (i : Nat) : (ad.add i).add 1 = ad.add (i + 1) := by
  unfold Addr.add
  by_cases hi : i = 0
  · subst hi; simp
  · simp [hi, Nat.add_assoc]
theorem sub_sets : ∀ (l : List Value) (i : Nat) (h : H) (w : World) (ad : Addr), h.sub w → (h.sets (ad.add i) l).sub (setsW w ad l i)
  | [], i, h, w, ad, hs => hs
  | v :: l, i, h, w, ad, hs => by
    simp only [H.sets, setsW]
    rw [add_add1]
    exact sub_sets l (i + 1) _ _ ad (sub_set hs _ v)
theorem set_none {ad : Addr} {v : Value} {b : Nat} : (h.set ad v) b = none ↔ h b = none := by
  unfold H.set
  split
  · cases hb : h b with
    | none => simp
    | some o => cases o <;> simp
  · exact Iff.rfl
theorem sets_none {b : Nat} : ∀ (l : List Value) (h : H) (ad : Addr), (h.sets ad l) b = none ↔ h b = none
  | [], h, ad => Iff.rfl
  | v :: l, h, ad => by simp only [H.sets]; rw [sets_none l, set_none]
/-- A store outside the chunks. -/
theorem SatW.pub (hW : SatW B G E h st.ch w) (ad : Addr) (l : List Value) (hne : l ≠ [] → ∃ o, h ad.block = some o) : SatW B G E (h.sets ad l) st.ch (setsW w ad l 0) := by
  have hsz := setsW_size ad l 0 w
  have hsub := sub_sets l 0 h w ad hW.hsub
  have e0 : ad.add 0 = ad := rfl
  rw [e0] at hsub
  have hoth : ∀ b, h b = none → (setsW w ad l 0).heap[b]? = w.heap[b]? := by
    intro b hb
    cases l with
    | nil => rfl
    | cons v l =>
      obtain ⟨o, ho⟩ := hne (by simp)
      exact setsW_other ad (fun e => by rw [e, ho] at hb; cases hb) _ 0 w
  refine ⟨fun k cs hm => ?_, fun k cs hm => (sets_none _ _ _).2 (hW.hid k cs hm), hW.dist, hW.own, hW.par, hsub, ?_, hW.pre⟩
  · obtain ⟨f, l', hb, hr⟩ := hW.chunks k cs hm
    exact ⟨f, l', by rw [hoth _ (hW.hid k cs hm)]; exact hb, hr⟩
  · refine ⟨by rw [hsz.1]; exact hW.frm.size, hsz.2.1.trans hW.frm.os, hsz.2.2.1.trans hW.frm.tape, hsz.2.2.2.trans hW.frm.out, fun b h1 h2 h3 => ?_⟩
    obtain ⟨k1, k2⟩ := hW.frm.keep b h1 h2 h3
    exact ⟨(hoth b k2).trans k1, (sets_none _ _ _).2 k2⟩
theorem SatW.pubNew (hW : SatW B G E h st.ch w) (o : Obj) : SatW B G E (h.put w.heap.size o) st.ch (w.alloc o) := by
  have hlt : ∀ k cs, (k, cs) ∈ st.ch → (E k).blk < w.heap.size := fun k cs hm => by
    obtain ⟨_, l, hb, _⟩ := hW.chunks k cs hm
    exact heap_lt hb
  have hput : ∀ b, b ≠ w.heap.size → (h.put w.heap.size o) b = h b := fun b hb => by unfold H.put; rw [if_neg hb]
  refine ⟨fun k cs hm => ?_, fun k cs hm => ?_, hW.dist, hW.own, hW.par, fun b o' ho => ?_, ?_, hW.pre⟩
  · obtain ⟨f, l', hb, hr⟩ := hW.chunks k cs hm
    exact ⟨f, l', by rw [push_old (hlt k cs hm)]; exact hb, hr⟩
  · rw [hput _ (Nat.ne_of_lt (hlt k cs hm))]; exact hW.hid k cs hm
  · by_cases hb : b = w.heap.size
    · subst hb
      unfold H.put at ho
      rw [if_pos rfl] at ho
      cases ho
      unfold World.alloc; simp only [Array.getElem?_push, if_true]
    · rw [hput b hb] at ho
      rw [push_old (heap_lt (hW.hsub b o' ho))]; exact hW.hsub b o' ho
  · refine ⟨by have := hW.frm.size; simp; omega, hW.frm.os, hW.frm.tape, hW.frm.out, fun b h1 h2 h3 => ?_⟩
    obtain ⟨k1, k2⟩ := hW.frm.keep b h1 h2 h3
    have hlt' : b < w.heap.size := Nat.lt_of_lt_of_le h1 hW.frm.size
    exact ⟨by rw [push_old hlt']; exact k1, by rw [hput b (Nat.ne_of_lt hlt')]; exact k2⟩
end
end Go.Proofs.Ytibdneedfopcoaa
