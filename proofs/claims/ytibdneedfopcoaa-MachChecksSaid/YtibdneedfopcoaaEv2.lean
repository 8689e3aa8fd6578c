/-
  The evaluator's step at operations that only compute, and that it answers what the model answers. Conditions: none.
-/
import Derived.Test.YtibdneedfopcoaaEv1
set_option linter.unusedVariables false
set_option linter.unusedSimpArgs false
namespace Go.Proofs.Ytibdneedfopcoaa
open Go

/-! ### Small words -/
def X.isT : X → Bool | .tt true => true | _ => false
def andG (g c : X) : X := if g.isT then c else .and g c
def mkNot : X → X
  | .tt b => .tt (!b)
  | .not a => a
  | a => .not a
theorem andG_den {G : List Value} {g c : X} : vb ((andG g c).den G) = (vb (g.den G) && vb (c.den G)) := by
  unfold andG
  split
  · rename_i h
    unfold X.isT at h
    split at h
    · simp [X.den]
    · cases h
  · simp [X.den]
theorem mkNot_den {G : List Value} {c : X} : vb ((mkNot c).den G) = !(vb (c.den G)) := by
  unfold mkNot
  split <;> simp [X.den]
def implies (g : X) (g' : X) : Bool :=
  g.beq g' || match g with
    | .and a _ => implies a g'
    | _ => false
theorem implies_den {G : List Value} : ∀ {g g' : X}, implies g g' = true → vb (g.den G) = true → vb (g'.den G) = true := by
  intro g
  induction g <;> intro g' h hg <;> unfold implies at h <;> simp only [Bool.or_eq_true, Bool.or_false] at h
  case and iha ihb =>
    rcases h with h | h
    · rw [← X.beq_eq h]; exact hg
    · simp only [X.den, vb_bool, Bool.and_eq_true] at hg; exact iha h hg.1
  all_goals (rw [← X.beq_eq h]; exact hg)
def mkOp (o : BinOp) (k : IntKind) (a b : X) : X :=
  match a, b with
  | .lit x, .lit y => (match o, k with
    | .add, .i64 | .sub, .i64 | .mul, .i64 => .lit (intOp o .i64 x y)
    | _, _ => .op o k a b)
  | _, _ => .op o k a b
theorem mkOp_den {G : List Value} {o : BinOp} {k : IntKind} {a b : X} : vi ((mkOp o k a b).den G) = intOp o k (vi (a.den G)) (vi (b.den G)) := by
  unfold mkOp
  split
  · split <;> simp [X.den]
  · simp [X.den]
def mkCmp (o : BinOp) (a b : X) : X :=
  match a, b with
  | .lit x, .lit y => .tt (cmpOp o x y)
  | _, _ => .cmp o a b
theorem mkCmp_den {G : List Value} {o : BinOp} {a b : X} : vb ((mkCmp o a b).den G) = cmpOp o (vi (a.den G)) (vi (b.den G)) := by
  unfold mkCmp
  split <;> simp [X.den]
def mkConv (k : IntKind) (a : X) : X :=
  match a with
  | .lit x => .lit (k.wrap x)
  | _ => .conv k a
theorem mkConv_den {G : List Value} {k : IntKind} {a : X} : vi ((mkConv k a).den G) = k.wrap (vi (a.den G)) := by
  unfold mkConv
  split <;> simp [X.den]
def mkIte (c a b : X) : X :=
  match c with
  | .tt true => a
  | .tt false => b
  | _ => if a.beq b then a else .ite c a b
theorem mkIte_den {G : List Value} {c a b : X} : (mkIte c a b).den G = if vb (c.den G) then a.den G else b.den G := by
  unfold mkIte
  split
  · simp [X.den]
  · simp [X.den]
  · split
    · rename_i h; rw [X.beq_eq h]; simp
    · simp [X.den]

/-! ### What is known -/
/-- What is known of a test. -/
def know (l : List (X × Bool)) (x : X) : Option Bool :=
  match l with
  | [] => none
  | (y, b) :: l => if x.beq y then some b else know l x
theorem know_den {G : List Value} : ∀ {l : List (X × Bool)} {x : X} {b : Bool}, (∀ x b, (x, b) ∈ l → vb (x.den G) = b) → know l x = some b → vb (x.den G) = b
  | [], _, _, _, h => by simp [know] at h
  | (y, c) :: l, x, b, hl, h => by
    unfold know at h
    split at h
    · rename_i he
      cases h
      rw [X.beq_eq he]
      exact hl _ _ (List.mem_cons_self ..)
    · exact know_den (fun x b hm => hl x b (List.mem_cons_of_mem _ hm)) h
def testL (l : List (X × Bool)) (x : X) : Option Bool :=
  match x with
  | .tt b => some b
  | .not y => (match know l (.not y) with
    | some b => some b
    | none => (testL l y).map (!·))
  | .and y z => (match testL l y, testL l z with
    | some false, _ => some false
    | _, some false => some false
    | some true, some true => some true
    | _, _ => know l (.and y z))
  | x => know l x
theorem testL_den {G : List Value} {l : List (X × Bool)} (hl : ∀ x b, (x, b) ∈ l → vb (x.den G) = b) : ∀ {x : X} {b : Bool}, testL l x = some b → vb (x.den G) = b := by
  intro x
  induction x <;> intro b h <;> unfold testL at h
  case tt => cases h; rfl
  case not y ih =>
    split at h
    · cases h; exact know_den hl (by assumption)
    · cases hk : testL l y with
      | none => simp [hk] at h
      | some c =>
        simp only [hk, Option.map_some, Option.some.injEq] at h
        subst h
        simp [X.den, ih hk]
  case and y z iy iz =>
    split at h
    · cases h; rename_i h1; simp [X.den, iy h1]
    · cases h; rename_i h1 _; simp [X.den, iz h1]
    · cases h; rename_i h1 h2; simp [X.den, iy h1, iz h2]
    · exact know_den hl h
  all_goals exact know_den hl h
def St.test (st : St) (x : X) : Option Bool := testL st.kn x

/-! ### Operands -/
def SV.plain : SV → Bool | .und | .gd .. => false | _ => true
def SV.get (l : List SV) (t : Nat) : SV := l.getD t .und
def isSome (o : Option Bool) : Bool := match o with | some true => true | _ => false
def SV.under (l : List (X × Bool)) (g : X) : SV → SV
  | .gd g' s => if implies g g' || isSome (testL l g') then (if s.plain then s else .und) else .und
  | s => s
def St.opr (st : St) (g : X) : Operand → SV
  | .tmp t => (SV.get st.t t).under st.kn g
  | .const v => .ofV v
  | .global n => .cst (.pointer (some ⟨n, 0, none⟩))
  | .func f => .fn (.func f) [] []
theorem Rel.plain {G : List Value} {E : Nat → CE} {v : Value} {s : SV} (h : Rel G E v s) (hp : s.plain = true) : v = s.den G E := by
  unfold Rel at h
  split at h
  · cases hp
  · cases hp
  · exact h
theorem Rel.of {G : List Value} {E : Nat → CE} {v : Value} {s : SV} (h : s.plain = true → v = s.den G E) (hg : ∀ g t, s ≠ .gd g t) : Rel G E v s := by
  unfold Rel
  split
  · trivial
  · exact absurd rfl (hg _ _)
  · rename_i h1 h2
    apply h
    unfold SV.plain
    split
    · exact absurd rfl h1
    · exact absurd rfl (h2 _ _)
    · rfl
theorem under_nogd (l : List (X × Bool)) (g : X) (s : SV) : ∀ g' t, s.under l g ≠ .gd g' t := by
  intro g' t h
  unfold SV.under at h
  split at h
  · split at h
    · split at h
      · rename_i hp; rw [h] at hp; cases hp
      · cases h
    · cases h
  · rename_i h1; exact h1 _ _ h
theorem ofV1_nogd (v : Value) : ∀ g t, SV.ofV1 v ≠ .gd g t := by
  intro g t h
  unfold SV.ofV1 at h
  split at h <;> try (cases h)
  split at h <;> cases h
theorem ofV_nogd (v : Value) : ∀ g t, SV.ofV v ≠ .gd g t := by
  intro g t h
  unfold SV.ofV at h
  split at h
  · cases h
  · exact ofV1_nogd _ _ _ h
theorem opr_nogd (st : St) (g : X) (x : Operand) : ∀ g' t, st.opr g x ≠ .gd g' t := by
  intro g' t h
  unfold St.opr at h
  split at h
  · exact under_nogd _ _ _ _ _ h
  · exact ofV_nogd _ _ _ h
  · cases h
  · cases h
theorem under_rel {G : List Value} {E : Nat → CE} {v : Value} {s : SV} {l : List (X × Bool)} (hl : ∀ x b, (x, b) ∈ l → vb (x.den G) = b) {g : X} (h : Rel G E v s) (hg : vb (g.den G) = true)
    (hp : (s.under l g).plain = true) : v = (s.under l g).den G E := by
  unfold SV.under at hp ⊢
  split at hp
  · rename_i g' t
    split at hp
    · rename_i hi
      have hg' : vb (g'.den G) = true := by
        simp only [Bool.or_eq_true] at hi
        rcases hi with hi | hi
        · exact implies_den hi hg
        · unfold isSome at hi
          split at hi
          · exact testL_den hl (by assumption)
          · cases hi
      simp only [hi, if_true]
      split at hp
      · rename_i ht
        simp only [ht, if_true]
        unfold Rel at h
        simp only [hg', if_true] at h
        exact h
      · cases hp
    · cases hp
  · exact h.plain hp
variable {G : List Value} {E : Nat → CE} {st : St} {a : Act}
theorem opr_rel (hA : SatA G E st a) {g : X} (hg : vb (g.den G) = true) (x : Operand) : Rel G E (a.eval x) (st.opr g x) := by
  refine Rel.of (fun hp => ?_) (opr_nogd st g x)
  cases x with
  | tmp t =>
    simp only [St.opr, SV.get, List.getD_eq_getElem?_getD] at hp ⊢
    cases ht : st.t[t]? with
    | none => simp [ht, SV.under, SV.plain] at hp
    | some s =>
      simp only [ht, Option.getD_some] at hp ⊢
      exact under_rel hA.kn (hA.tmps t s ht) hg hp
  | const v => simp only [St.opr]; rw [SV.ofV_den]; rfl
  | global n => rfl
  | func f => rfl
theorem opr_den (hA : SatA G E st a) {g : X} (hg : vb (g.den G) = true) {x : Operand} {s : SV} (h : st.opr g x = s) (hp : s.plain = true) : a.eval x = s.den G E :=
  h ▸ (opr_rel hA hg x).plain (h ▸ hp)

theorem test_den (hA : SatA G E st a) {x : X} {b : Bool} (h : st.test x = some b) : vb (x.den G) = b := testL_den hA.kn h

/-! ### Types -/
section
variable (P : Program)
def tsize (t : TypeId) : Option Nat := (P.info? t).map (·.size)
def aggB (t : TypeId) : Option Bool := (P.underlying t).map fun | .struct _ | .array _ _ => true | _ => false
def fieldOf (t : TypeId) (f : Nat) : Option Field := match P.underlying t with | some (.struct fs) => fs[f]? | _ => none
end
section
variable {P : Program} {w : World}
theorem run_tsize {t : TypeId} {n : Nat} (h : tsize P t = some n) : (sizeOf t).run P w = .ok n w := by
  unfold tsize at h
  cases hi : P.info? t with
  | none => simp [hi] at h
  | some i => simp [hi] at h; subst h; simp [sizeOf, typeInfo, hi]
theorem run_aggB {t : TypeId} {b : Bool} (h : aggB P t = some b) : (isAgg t).run P w = .ok b w := by
  unfold aggB at h
  cases hu : P.underlying t with
  | none => simp [hu] at h
  | some d =>
    simp only [hu, Option.map_some, Option.some.injEq] at h
    subst h
    cases d <;> simp [isAgg, run_underlying hu]
end
def partS (P : Program) (t : TypeId) (l : List SV) (off : Nat) : SV :=
  match aggB P t, tsize P t with
  | some true, some n => if off + n ≤ l.length then .agg ((l.drop off).take n) else .und
  | some false, _ => SV.get l off
  | _, _ => .und
theorem part_run {P : Program} {w : World} {t : TypeId} {l : List SV} {off : Nat} (hp : (partS P t l off).plain = true) :
    (part t (SV.denL G E l).toArray off).run P w = .ok ((partS P t l off).den G E) w := by
  unfold partS at hp ⊢
  cases ha : aggB P t with
  | none => simp [ha, SV.plain] at hp
  | some b =>
    cases b with
    | true =>
      cases hn : tsize P t with
      | none => simp [ha, hn, SV.plain] at hp
      | some n =>
        simp only [ha, hn] at hp ⊢
        split at hp
        · rename_i hle
          simp only [hle, if_true]
          simp only [part, Sem.run_bind, run_aggB ha, Result.andThen_ok, if_true, run_tsize hn, Sem.run_pure, SV.den, SV.denL_eq, Result.ok.injEq, and_true, Value.agg.injEq]
          apply Array.ext'
          simp [List.map_drop, List.map_take]
        · cases hp
    | false =>
      simp only [ha] at hp ⊢
      simp only [SV.get, List.getD_eq_getElem?_getD] at hp ⊢
      cases hl : l[off]? with
      | none => simp [hl, SV.plain] at hp
      | some s =>
        simp only [part, Sem.run_bind, run_aggB ha, Result.andThen_ok, Bool.false_eq_true, if_false]
        simp [SV.denL_eq, hl]
end Go.Proofs.Ytibdneedfopcoaa
