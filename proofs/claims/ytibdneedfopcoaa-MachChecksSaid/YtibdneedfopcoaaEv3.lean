/-
  The evaluator's step at operations that only compute: each kind, and that it answers what the model answers. Conditions: none.
-/
import Derived.Test.YtibdneedfopcoaaEv2
set_option linter.unusedVariables false
set_option linter.unusedSimpArgs false
namespace Go.Proofs.Ytibdneedfopcoaa
open Go

/-- What is computed and given a name of its own. -/
inductive LF where
  | slice (s : SV) (lo hi : Option X) (sz : Nat)
  | sub (s : X) (lo hi : Option X)
  | cat (a b : X)
  | scmp (o : BinOp) (a b : X)
  deriving Inhabited
def dE : Nat → CE := fun _ => default
def sliceV (v : Value) (l h : Nat) (sz : Nat) : Value :=
  match v with
  | .slice a _ c => .slice (if c = l then a else a.map (·.add (l * sz))) (h - l) (c - l)
  | v => v
def scmpOp (o : BinOp) (a b : ByteArray) : Bool :=
  match o with
  | .lss => Op.bytesLess a.toList b.toList
  | .leq => Op.bytesLess a.toList b.toList || a.toList == b.toList
  | .gtr => !(Op.bytesLess a.toList b.toList || a.toList == b.toList)
  | .geq => !(Op.bytesLess a.toList b.toList)
  | _ => false
def optN (G : List Value) (x : Option X) (d : Nat) : Nat := match x with | some x => (vi (x.den G)).toNat | none => d
def LF.den (G : List Value) : LF → Value
  | .slice s lo hi sz => sliceV (s.den G dE) (optN G lo 0) (optN G hi (vlen (s.den G dE))) sz
  | .sub s lo hi => .string ((vs (s.den G)).extract (optN G lo 0) (optN G hi (vs (s.den G)).size))
  | .cat a b => .string (vs (a.den G) ++ vs (b.den G))
  | .scmp o a b => .bool (scmpOp o (vs (a.den G)) (vs (b.den G)))

inductive QR where
  | bad
  | val (ns : List X) (s : SV)
  | bnd (ns : List X) (sh : Sh) (f : LF)
  deriving Inhabited

def QR.sound (P : Program) (G : List Value) (E : Nat → CE) (a : Act) (o : Op) (ty : TypeId) : QR → Prop
  | .bad => True
  | .val ns s => (∀ x ∈ ns, vb (x.den G) = true) → (∀ g t, s ≠ .gd g t) ∧ ∃ v, Rel G E v s ∧ ∀ w dst pos after guard, (execOp a.eval ⟨dst, o, ty, pos, after, guard⟩).run P w = .ok (.value v) w
  | .bnd ns sh f => (∀ x ∈ ns, vb (x.den G) = true) → Fits sh (f.den G) ∧ ∀ w dst pos after guard, (execOp a.eval ⟨dst, o, ty, pos, after, guard⟩).run P w = .ok (.value (f.den G)) w

section
variable {P : Program} {G : List Value} {E : Nat → CE} {st : St} {a : Act} {ty : TypeId}
theorem QR.sound_val {o : Op} {ns : List X} {s : SV} (hp : s.plain = true)
    (h : (∀ x ∈ ns, vb (x.den G) = true) → ∀ w dst pos after guard, (execOp a.eval ⟨dst, o, ty, pos, after, guard⟩).run P w = .ok (.value (s.den G E)) w) :
    (QR.val ns s).sound P G E a o ty := by
  intro hn
  refine ⟨?_, _, Rel.of (fun _ => rfl) (by intro g t e; rw [e] at hp; cases hp), fun w dst pos after guard => h hn w dst pos after guard⟩
  intro g t e; rw [e] at hp; cases hp

/-! move, assign -/
theorem sound_move (hA : SatA G E st a) {g : X} (hg : vb (g.den G) = true) (x : Operand) :
    (QR.val [] (st.opr g x)).sound P G E a (.move x) ty ∧ (QR.val [] (st.opr g x)).sound P G E a (.assign x) ty := by
  constructor <;> exact fun _ => ⟨opr_nogd _ _ _, _, opr_rel hA hg x, fun w _ _ _ _ => by simp [execOp]⟩

/-! pick -/
def mergeQ (x : X) (s t : SV) : QR :=
  match s, t with
  | .int k e, .int k' f => if beqIK k k' then .val [] (.int k (mkIte x e f)) else .bad
  | .bool e, .bool f => .val [] (.bool (mkIte x e f))
  | .str e, .str f => .val [] (.str (mkIte x e f))
  | s, t => if s.plain && s.beq t then .val [] s else .bad
theorem mergeQ_den {x : X} {s t s' : SV} {ns : List X} (h : mergeQ x s t = .val ns s') : ns = [] ∧ s.plain = true ∧ t.plain = true ∧ s'.plain = true ∧ s'.den G E = if vb (x.den G) then s.den G E else t.den G E := by
  unfold mergeQ at h
  split at h
  · split at h
    · rename_i hk
      cases h
      refine ⟨rfl, rfl, rfl, rfl, ?_⟩
      rw [beqIK_eq hk]
      simp only [SV.den, mkIte_den]
      split <;> rfl
    · cases h
  · cases h
    refine ⟨rfl, rfl, rfl, rfl, ?_⟩
    simp only [SV.den, mkIte_den]
    split <;> rfl
  · cases h
    refine ⟨rfl, rfl, rfl, rfl, ?_⟩
    simp only [SV.den, mkIte_den]
    split <;> rfl
  · split at h
    · rename_i hb
      simp only [Bool.and_eq_true] at hb
      cases h
      have := SV.beq_eq _ _ hb.2
      subst this
      exact ⟨rfl, hb.1, hb.1, hb.1, by simp⟩
    · cases h
def qPick (st : St) (g : X) (c x y : Operand) : QR :=
  match st.opr g c with
  | .bool e => (match st.test e with
    | some true => .val [] (st.opr g x)
    | some false => .val [] (st.opr g y)
    | none => mergeQ e (st.opr (andG g e) x) (st.opr (andG g (mkNot e)) y))
  | _ => .bad
theorem sound_pick (hA : SatA G E st a) {g : X} (hg : vb (g.den G) = true) (c x y : Operand) : (qPick st g c x y).sound P G E a (.pick c x y) ty := by
  unfold qPick
  split
  · rename_i e he
    have hc := opr_den hA hg he rfl
    split
    · rename_i ht
      have ht' := test_den hA ht
      refine fun _ => ⟨opr_nogd _ _ _, _, opr_rel hA hg x, fun w _ _ _ _ => ?_⟩
      simp [execOp, hc, SV.den, ht', asBool]
    · rename_i ht
      have ht' := test_den hA ht
      refine fun _ => ⟨opr_nogd _ _ _, _, opr_rel hA hg y, fun w _ _ _ _ => ?_⟩
      simp [execOp, hc, SV.den, ht', asBool]
    · cases hm : mergeQ e (st.opr (andG g e) x) (st.opr (andG g (mkNot e)) y) with
      | bad => trivial
      | bnd => unfold mergeQ at hm; split at hm <;> first | (split at hm <;> cases hm) | cases hm
      | val ns s =>
        obtain ⟨rfl, h1, h2, h3, h4⟩ := mergeQ_den (G := G) (E := E) hm
        refine QR.sound_val h3 fun _ w _ _ _ _ => ?_
        simp only [execOp, hc, SV.den, asBool, Sem.run_bind, Sem.run_pure, Result.andThen_ok, h4]
        by_cases hb : vb (e.den G) = true
        · simp only [hb, if_true]
          rw [opr_den hA (g := andG g e) (by simp [andG_den, hg, hb]) rfl h1]
        · simp only [hb, if_false, Bool.false_eq_true]
          rw [opr_den hA (g := andG g (mkNot e)) (by simp [andG_den, mkNot_den, hg, hb]) rfl h2]
  · trivial

/-! makeFunc -/
def allPlain (l : List SV) : Bool := l.all SV.plain
theorem oprs_den (hA : SatA G E st a) {g : X} (hg : vb (g.den G) = true) (xs : Array Operand) (hp : allPlain (xs.toList.map (st.opr g)) = true) :
    xs.map a.eval = (SV.denL G E (xs.toList.map (st.opr g))).toArray := by
  obtain ⟨l⟩ := xs
  simp only [List.map_toArray, SV.denL_eq, List.map_map]
  congr 1
  apply List.map_congr_left
  intro x hx
  simp only [allPlain, List.all_eq_true, List.mem_map] at hp
  exact opr_den hA hg rfl (hp _ ⟨x, hx, rfl⟩)
def qFunc (st : St) (g : X) (f : Fn) (x y : Array Operand) : QR :=
  if allPlain (x.toList.map (st.opr g)) && allPlain (y.toList.map (st.opr g)) then .val [] (.fn f (x.toList.map (st.opr g)) (y.toList.map (st.opr g))) else .bad
theorem sound_func (hA : SatA G E st a) {g : X} (hg : vb (g.den G) = true) (f : Fn) (x y : Array Operand) : (qFunc st g f x y).sound P G E a (.makeFunc f x y) ty := by
  unfold qFunc
  split
  · rename_i h
    simp only [Bool.and_eq_true] at h
    refine QR.sound_val rfl fun _ w _ _ _ _ => ?_
    simp only [execOp, Instr.makeFunc, Sem.run_bind, Sem.run_pure, Result.andThen_ok, SV.den]
    rw [oprs_den hA hg x h.1, oprs_den hA hg y h.2]
  · trivial

/-! extract -/
def qExtract (st : St) (g : X) (x : Operand) (i : Nat) : QR :=
  match st.opr g x with
  | .tup l => if (SV.get l i).plain then .val [] (SV.get l i) else .bad
  | _ => .bad
theorem get_den {l : List SV} {i : Nat} (h : (SV.get l i).plain = true) : (SV.denL G E l)[i]? = some ((SV.get l i).den G E) := by
  simp only [SV.get, List.getD_eq_getElem?_getD, SV.denL_eq, List.getElem?_map] at h ⊢
  cases hl : l[i]? with
  | none => simp [hl, SV.plain] at h
  | some s => simp [hl]
theorem sound_extract (hA : SatA G E st a) {g : X} (hg : vb (g.den G) = true) (x : Operand) (i : Nat) : (qExtract st g x i).sound P G E a (.extract x i) ty := by
  unfold qExtract
  split
  · rename_i l he
    have hc := opr_den hA hg he rfl
    split
    · rename_i hp
      refine QR.sound_val hp fun _ w _ _ _ _ => ?_
      simp [execOp, hc, SV.den, Instr.extract, get_den hp]
    · trivial
  · trivial

/-! field -/
def qField (P : Program) (st : St) (g : X) (t : TypeId) (x : Operand) (i : Nat) : QR :=
  match st.opr g x, fieldOf P t i with
  | .agg l, some f => if (partS P f.type l f.offset).plain then .val [] (partS P f.type l f.offset) else .bad
  | _, _ => .bad
theorem fieldOf_spec {t : TypeId} {i : Nat} {f : Field} (h : fieldOf P t i = some f) : ∃ fs, P.underlying t = some (.struct fs) ∧ fs[i]? = some f := by
  unfold fieldOf at h
  split at h
  · rename_i fs hu; exact ⟨fs, hu, h⟩
  · cases h
theorem sound_field (hA : SatA G E st a) {g : X} (hg : vb (g.den G) = true) (t : TypeId) (x : Operand) (i : Nat) : (qField P st g t x i).sound P G E a (.field t x i) ty := by
  unfold qField
  split
  · rename_i l f he hf
    have hc := opr_den hA hg he rfl
    obtain ⟨fs, hu, hi⟩ := fieldOf_spec hf
    split
    · rename_i hp
      refine QR.sound_val hp fun _ w _ _ _ _ => ?_
      simp only [execOp, hc, SV.den, Instr.field, Sem.run_bind, run_underlying hu, Result.andThen_ok, hi, asAgg, Sem.run_pure, part_run hp]
    · trivial
  · trivial

/-! fieldAddr -/
def qFieldAddr (P : Program) (st : St) (g : X) (t : TypeId) (x : Operand) (i : Nat) : QR :=
  match fieldOf P t i with
  | some f => (match tsize P f.type with
    | some (n + 1) => (match st.opr g x with
      | .loc l off => .val [] (.loc l (off + f.offset))
      | .ptr p => .val [] (.ptr (.fld p f.offset))
      | _ => .bad)
    | _ => .bad)
  | none => .bad
theorem at_add (c : CE) (off n : Nat) : (c.at off).add n = c.at (off + n) := by
  unfold Addr.add CE.at
  split
  · rename_i h; subst h; rfl
  · simp [Nat.add_assoc]
theorem sound_fieldAddr (hA : SatA G E st a) {g : X} (hg : vb (g.den G) = true) (t : TypeId) (x : Operand) (i : Nat) : (qFieldAddr P st g t x i).sound P G E a (.fieldAddr t x i) ty := by
  unfold qFieldAddr
  split
  · rename_i f hf
    obtain ⟨fs, hu, hi⟩ := fieldOf_spec hf
    split
    · rename_i n hn
      split
      · rename_i l off he
        have hc := opr_den hA hg he rfl
        refine QR.sound_val rfl fun _ w _ _ _ _ => ?_
        simp [execOp, hc, SV.den, Instr.fieldAt, Sem.run_bind, run_underlying hu, hi, Instr.sureAddr, CE.ptr, fieldPlace, run_tsize hn, at_add]
      · rename_i p he
        have hc := opr_den hA hg he rfl
        refine QR.sound_val rfl fun _ w _ _ _ _ => ?_
        simp [execOp, hc, SV.den, Instr.fieldAt, Sem.run_bind, run_underlying hu, hi, Instr.sureAddr, fieldPlace, run_tsize hn, PE.den]
      · trivial
    · trivial
  · trivial
end
end Go.Proofs.Ytibdneedfopcoaa
