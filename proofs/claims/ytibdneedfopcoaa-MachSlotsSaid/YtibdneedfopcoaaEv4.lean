/-
  The evaluator's step at operations that only compute: the rest of the kinds, and that it answers what the model answers. Conditions: none.
-/
import Derived.Test.YtibdneedfopcoaaEv3
set_option linter.unusedVariables false
set_option linter.unusedSimpArgs false
namespace Go.Proofs.Ytibdneedfopcoaa
open Go

section
variable {P : Program} {G : List Value} {E : Nat → CE} {st : St} {a : Act} {ty : TypeId}

theorem n_geq {x y : X} (h : vb ((mkCmp .geq x y).den G) = true) : vi (y.den G) ≤ vi (x.den G) := by rw [mkCmp_den] at h; exact of_decide_eq_true h
theorem n_lss {x y : X} (h : vb ((mkCmp .lss x y).den G) = true) : vi (x.den G) < vi (y.den G) := by rw [mkCmp_den] at h; exact of_decide_eq_true h
theorem n_leq {x y : X} (h : vb ((mkCmp .leq x y).den G) = true) : vi (x.den G) ≤ vi (y.den G) := by rw [mkCmp_den] at h; exact of_decide_eq_true h
theorem n_neq {x y : X} (h : vb ((mkCmp .neq x y).den G) = true) : vi (x.den G) ≠ vi (y.den G) := by rw [mkCmp_den] at h; simpa [cmpOp] using h

/-- Shapes of what a state names. -/
def St.shape (st : St) (i : Nat) : Sh := st.sh.getD i .any
theorem shape_fits (hA : SatA G E st a) (i : Nat) : Fits (st.shape i) (gv G i) := by
  unfold St.shape
  rw [List.getD_eq_getElem?_getD]
  cases h : st.sh[i]? with
  | none => trivial
  | some s => exact hA.fits.get h

/-! indexAddr -/
/-- A slice: its first place, its length. -/
def slOf (st : St) : SV → Option (PE × X)
  | .val i => (match st.shape i with | .sl => some (.var i, .len i) | _ => none)
  | _ => none
def qIndexAddr (P : Program) (st : St) (g : X) (t : TypeId) (x i : Operand) : QR :=
  match P.underlying t with
  | some (.slice e) => (match tsize P e, st.opr g x, st.opr g i with
    | some n, .val j, .int k ix => (match st.shape j with
      | .sl => .val [mkCmp .geq ix (.lit 0), mkCmp .lss ix (.len j)] (.ptr (.idx (.var j) ix n))
      | _ => .bad)
    | some n, .lsl l m _, .int k (.lit z) => if decide (0 ≤ z) && decide (z < m) then .val [] (.loc l (z.toNat * n)) else .bad
    | _, _, _ => .bad)
  | some (.array m e) => (match tsize P e, st.opr g x, st.opr g i with
    | some n, .ptr p, .int k ix => .val [mkCmp .geq ix (.lit 0), mkCmp .lss ix (.lit m)] (.ptr (.idx p ix n))
    | some n, .loc l off, .int k (.lit z) => if decide (0 ≤ z) && decide (z < m) then .val [] (.loc l (off + z.toNat * n)) else .bad
    | _, _, _ => .bad)
  | _ => .bad
theorem sound_indexAddr (hA : SatA G E st a) {g : X} (hg : vb (g.den G) = true) (t : TypeId) (x i : Operand) : (qIndexAddr P st g t x i).sound P G E a (.indexAddr t x i) ty := by
  unfold qIndexAddr
  split
  · rename_i e hu
    split
    · rename_i n j k ix hn hx hi
      have hc := opr_den hA hg hx rfl
      have hd := opr_den hA hg hi rfl
      split
      · rename_i hs
        have hf := shape_fits hA j
        rw [hs] at hf
        obtain ⟨ad, m, c, hv, hz, hmc⟩ := hf
        refine QR.sound_val rfl fun hns w _ _ _ _ => ?_
        have h1 := n_geq (hns _ (List.mem_cons_self ..))
        have h2 := n_lss (hns _ (List.mem_cons_of_mem _ (List.mem_cons_self ..)))
        simp only [X.den, vi_int, hv, vlen_sl] at h1 h2
        cases ad with
        | none => exfalso; have := (hz rfl).1; omega
        | some ad =>
          simp [execOp, hc, hd, SV.den, Instr.indexAt, asIntOf, run_underlying hu, hv, h1, h2, run_tsize hn, PE.den]
      · trivial
    · rename_i n l m c k z hn hx hi
      have hc := opr_den hA hg hx rfl
      have hd := opr_den hA hg hi rfl
      split
      · rename_i hz
        simp only [Bool.and_eq_true, decide_eq_true_eq] at hz
        refine QR.sound_val rfl fun hns w _ _ _ _ => ?_
        simp [execOp, hc, hd, SV.den, X.den, Instr.indexAt, asIntOf, run_underlying hu, hz.1, hz.2, run_tsize hn, at_add, CE.ptr]
      · trivial
    · trivial
  · rename_i m e hu
    split
    · rename_i n p k ix hn hx hi
      have hc := opr_den hA hg hx rfl
      have hd := opr_den hA hg hi rfl
      refine QR.sound_val rfl fun hns w _ _ _ _ => ?_
      have h1 := n_geq (hns _ (List.mem_cons_self ..))
      have h2 := n_lss (hns _ (List.mem_cons_of_mem _ (List.mem_cons_self ..)))
      simp only [X.den, vi_int] at h1 h2
      simp [execOp, hc, hd, SV.den, Instr.indexAt, asIntOf, run_underlying hu, h1, h2, run_tsize hn, PE.den, Instr.sureAddr]
    · rename_i n l off k z hn hx hi
      have hc := opr_den hA hg hx rfl
      have hd := opr_den hA hg hi rfl
      split
      · rename_i hz
        simp only [Bool.and_eq_true, decide_eq_true_eq] at hz
        refine QR.sound_val rfl fun hns w _ _ _ _ => ?_
        simp [execOp, hc, hd, SV.den, X.den, Instr.indexAt, asIntOf, run_underlying hu, hz.1, hz.2, run_tsize hn, at_add, CE.ptr, Instr.sureAddr]
      · trivial
    · trivial
  · trivial

/-! index: of a string; of an array's value, at a constant -/
def qIndex (P : Program) (st : St) (g : X) (t : TypeId) (x i : Operand) : QR :=
  match P.underlying t, st.opr g x, st.opr g i with
  | some .string, .str s, .int k ix => .val [mkCmp .geq ix (.lit 0), mkCmp .lss ix (.slen s)] (.int .u8 (.byte s ix))
  | some (.array m e), .agg l, .int k (.lit z) => (match tsize P e with
    | some n => if decide (0 ≤ z) && decide (z < m) && (partS P e l (z.toNat * n)).plain then .val [] (partS P e l (z.toNat * n)) else .bad
    | none => .bad)
  | _, _, _ => .bad
theorem sound_index (hA : SatA G E st a) {g : X} (hg : vb (g.den G) = true) (t : TypeId) (x i : Operand) : (qIndex P st g t x i).sound P G E a (.index t x i) ty := by
  unfold qIndex
  split
  · rename_i s k ix hu hx hi
    have hc := opr_den hA hg hx rfl
    have hd := opr_den hA hg hi rfl
    refine QR.sound_val rfl fun hns w _ _ _ _ => ?_
    have h1 := n_geq (hns _ (List.mem_cons_self ..))
    have h2 := n_lss (hns _ (List.mem_cons_of_mem _ (List.mem_cons_self ..)))
    simp only [X.den, vi_int] at h1 h2
    have h3 : (vi (X.den G ix)).toNat < (vs (X.den G s)).size := by omega
    have h4 : (vs (X.den G s))[(vi (X.den G ix)).toNat]? = some ((vs (X.den G s)).data.getD (vi (X.den G ix)).toNat 0) := by
      rw [getElem?_pos (vs (X.den G s)) _ h3]
      have h5 : (vi (X.den G ix)).toNat < (vs (X.den G s)).data.size := h3
      rw [Array.getD, dif_pos h5]
      rfl
    simp [execOp, hc, hd, SV.den, X.den, Instr.index, asIntOf, run_underlying hu, h1, h4]
  · rename_i m e l k z hu hx hi
    have hc := opr_den hA hg hx rfl
    have hd := opr_den hA hg hi rfl
    split
    · rename_i n hn
      split
      · rename_i hz
        simp only [Bool.and_eq_true, decide_eq_true_eq] at hz
        refine QR.sound_val hz.2 fun hns w _ _ _ _ => ?_
        simp [execOp, hc, hd, SV.den, X.den, Instr.index, asIntOf, run_underlying hu, hz.1.1, hz.1.2, run_tsize hn, part_run hz.2]
      · trivial
    · trivial
  · trivial

/-! nilCheck -/
def qNil (st : St) (g : X) (x : Operand) : QR :=
  match st.opr g x with
  | .loc l off => .val [] (.loc l off)
  | .ptr p => .val [] (.ptr p)
  | .fn (.func f) l m => .val [] (.fn (.func f) l m)
  | .val i => (match st.shape i with
    | .ptr => .val [mkNot (.nilp i)] (.ptr (.var i))
    | _ => .bad)
  | _ => .bad
theorem sound_nil (hA : SatA G E st a) {g : X} (hg : vb (g.den G) = true) (x : Operand) : (qNil st g x).sound P G E a (.nilCheck x) ty := by
  unfold qNil
  split
  · rename_i l off he
    have hc := opr_den hA hg he rfl
    refine QR.sound_val rfl fun hns w _ _ _ _ => ?_
    simp [execOp, hc, SV.den, CE.ptr]
  · rename_i p he
    have hc := opr_den hA hg he rfl
    refine QR.sound_val rfl fun hns w _ _ _ _ => ?_
    simp [execOp, hc, SV.den]
  · rename_i f l m he
    have hc := opr_den hA hg he rfl
    refine QR.sound_val rfl fun hns w _ _ _ _ => ?_
    simp [execOp, hc, SV.den]
  · rename_i i he
    have hc := opr_den hA hg he rfl
    split
    · rename_i hs
      have hf := shape_fits hA i
      rw [hs] at hf
      obtain ⟨ad, hv⟩ := hf
      refine QR.sound_val rfl fun hns w _ _ _ _ => ?_
      have h1 := hns _ (List.mem_cons_self ..)
      simp only [mkNot_den, X.den, vb_bool, hv] at h1
      cases ad with
      | none => simp [vnil] at h1
      | some ad => simp [execOp, hc, SV.den, hv, PE.den]
    · trivial
  · trivial

/-! binOp -/
def mkAnd (a b : X) : X := match a, b with
  | .tt true, b => b
  | .tt false, _ => .tt false
  | a, .tt true => a
  | a, b => .and a b
theorem mkAnd_den {a b : X} : vb ((mkAnd a b).den G) = (vb (a.den G) && vb (b.den G)) := by
  unfold mkAnd
  split <;> simp [X.den]
/-- Are two values the same? -/
def eqFs (P : Program) (rec : TypeId → SV → SV → Option X) (l m : List SV) : List Field → Option X
  | [] => some (.tt true)
  | f :: fs => if f.name == "_" then none else
    match rec f.type (partS P f.type l f.offset) (partS P f.type m f.offset), eqFs P rec l m fs with
    | some a, some b => if (partS P f.type l f.offset).plain && (partS P f.type m f.offset).plain then some (mkAnd a b) else none
    | _, _ => none
def eqX (P : Program) : Nat → TypeId → SV → SV → Option X
  | 0, _, _, _ => none
  | d + 1, t, s, u => match P.underlying t, s, u with
    | some (.int _), .int k e, .int k' f => if beqIK k k' then some (mkCmp .eql e f) else none
    | some .bool, .bool e, .bool f => some (mkIte e f (mkNot f))
    | some .string, .str e, .str f => some (.seq e f)
    | some (.struct fs), .agg l, .agg m => if P.stoodInHeld t then none else eqFs P (eqX P d) l m fs.toList
    | _, _, _ => none
def isCmp : BinOp → Bool
  | .eql | .neq | .lss | .leq | .gtr | .geq => true
  | _ => false
def nonneg : X → List X
  | .lit n => if decide (0 ≤ n) then [] else [.tt false]
  | e => [mkCmp .geq e (.lit 0)]
def nonzero : X → List X
  | .lit n => if beqInt n 0 then [.tt false] else []
  | e => [mkCmp .neq e (.lit 0)]
def nilV : SV → Bool
  | .cst (.pointer none) | .cst (.slice none 0 0) | .cst (.map none) | .cst .nilFunc => true
  | _ => false
def nilOk : TypeDesc → Sh → Bool
  | .pointer _, .ptr => true
  | .slice _, .sl => true
  | .map _ _, .map => true
  | _, _ => false
def nilIs (d : TypeDesc) (v : SV) : Bool :=
  match d, v with
  | .pointer _, .cst (.pointer none) => true
  | .slice _, .cst (.slice none 0 0) => true
  | .map _ _, .cst (.map none) => true
  | _, _ => false
def qBin (P : Program) (st : St) (g : X) (o : BinOp) (t : TypeId) (x y : Operand) : QR :=
  match st.opr g x, st.opr g y with
  | .int k e, .int k' f =>
    (match o with
    | .shl | .shr => .val (nonneg f) (.int k (.op o k e f))
    | _ => if beqIK k k' then (match o with
      | .add | .sub | .mul | .and | .or | .xor | .andNot => .val [] (.int k (mkOp o k e f))
      | .quo | .rem => .val (nonzero f) (.int k (.op o k e f))
      | _ => .val [] (.bool (mkCmp o e f))) else .bad)
  | .bool e, .bool f => (match o, P.underlying t with
    | .eql, some .bool => .val [] (.bool (mkIte e f (mkNot f)))
    | .neq, some .bool => .val [] (.bool (mkIte e (mkNot f) f))
    | _, _ => .bad)
  | .str e, .str f => (match o with
    | .eql => .val [] (.bool (.seq e f))
    | .neq => .val [] (.bool (.not (.seq e f)))
    | .add => .bnd [mkCmp .leq (.slen f) (.lit 9223372036854775807), mkCmp .leq (.slen e) (.op .sub .i64 (.lit 9223372036854775807) (.slen f))] .str (.cat e f)
    | .lss => .bnd [] .bool (.scmp .lss e f)
    | .leq => .bnd [] .bool (.scmp .leq e f)
    | .gtr => .bnd [] .bool (.scmp .gtr e f)
    | .geq => .bnd [] .bool (.scmp .geq e f)
    | _ => .bad)
  | .agg l, .agg m => if P.eqGuardType P.depth t then .bad else (match o, eqX P 6 t (.agg l) (.agg m) with
    | .eql, some e => .val [] (.bool e)
    | .neq, some e => .val [] (.bool (mkNot e))
    | _, _ => .bad)
  | .val i, v => (match P.underlying t with
    | some d => if nilOk d (st.shape i) && nilIs d v then (match o with
      | .eql => .val [] (.bool (.nilp i))
      | .neq => .val [] (.bool (.not (.nilp i)))
      | _ => .bad) else .bad
    | none => .bad)
  | _, _ => .bad
theorem nonneg_den {f : X} (h : ∀ x ∈ nonneg f, vb (x.den G) = true) : 0 ≤ vi (f.den G) := by
  unfold nonneg at h
  split at h
  · split at h
    · rename_i h0; simpa [X.den] using h0
    · have := h _ (List.mem_cons_self ..); simp [X.den] at this
  · have := h _ (List.mem_cons_self ..)
    simpa [mkCmp_den, cmpOp, X.den] using this
theorem nonzero_den {f : X} (h : ∀ x ∈ nonzero f, vb (x.den G) = true) : vi (f.den G) ≠ 0 := by
  unfold nonzero at h
  split at h
  · split at h
    · have := h _ (List.mem_cons_self ..); simp [X.den] at this
    · rename_i n h0
      simp only [X.den, vi_int]
      intro h1
      rw [h1] at h0
      exact h0 (by decide)
  · have := h _ (List.mem_cons_self ..)
    simpa [mkCmp_den, cmpOp, X.den] using this
end
end Go.Proofs.Ytibdneedfopcoaa
