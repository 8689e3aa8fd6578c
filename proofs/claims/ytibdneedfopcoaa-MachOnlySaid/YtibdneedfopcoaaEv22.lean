/-
  The evaluator of code: regions, branches, blocks, loops. Conditions: none (definitions and plain lemmas).
-/
import Derived.Test.YtibdneedfopcoaaEv21
set_option linter.unusedVariables false
set_option linter.unusedSimpArgs false
namespace Go.Proofs.Ytibdneedfopcoaa
open Go

inductive Ex where | norm | exit (id : Nat) | ret
  deriving Inhabited
def Ex.to : Ex → Exit | .norm => .normal | .exit id => .exit id | .ret => .ret
def beqSh : Sh → Sh → Bool
  | .int k, .int k' => beqIK k k'
  | .bool, .bool | .str, .str | .sl, .sl | .ptr, .ptr | .map, .map | .fn, .fn => true
  | .any, _ => true
  | _, _ => false
def beqShs : List Sh → List Sh → Bool
  | [], [] => true
  | s :: l, t :: m => beqSh s t && beqShs l m
  | _, _ => false
theorem beqSh_fits {s t : Sh} {v : Value} (h : beqSh s t = true) (hf : Fits t v) : Fits s v := by
  unfold beqSh at h
  split at h <;> first | exact hf | (rw [beqIK_eq h]; exact hf) | trivial | cases h

/-! ### What a loop's head keeps -/
def nameOf : SV → Option Nat
  | .int _ (.var i) => some i
  | .bool (.var i) => some i
  | .str (.var i) => some i
  | .val i => some i
  | _ => none
def covSV (n : Nat) (shs : List Sh) (vals : List SV) (s0 s : SV) : Bool :=
  match s0 with
  | .und => true
  | _ => (s0.sc n && s0.beq s) || (match nameOf s0 with
    | some i => Nat.ble n i && Nat.blt (i - n) shs.length && s0.beq ((shs.getD (i - n) .any).sv i) && (SV.get vals (i - n)).beq s && s.plain
    | none => false)
def covL (n : Nat) (shs : List Sh) (vals : List SV) : List SV → List SV → Bool
  | [], [] => true
  | s0 :: l0, s :: l => covSV n shs vals s0 s && covL n shs vals l0 l
  | _, _ => false
def covCh (n : Nat) (shs : List Sh) (vals : List SV) (ch : List (Nat × List SV)) : List (Nat × List SV) → Bool
  | [] => true
  | (k, c0) :: l => (match chGet k ch with
    | some c => covL n shs vals c0 c
    | none => false) && covCh n shs vals ch l
def keysOk : List (Nat × List SV) → Bool
  | [] => true
  | (k, _) :: l => !(hasN (l.map (·.1)) k) && keysOk l
def covers (n : Nat) (shs : List Sh) (vals : List SV) (st0 st : St) : Bool := covL n shs vals st0.t st.t && covCh n shs vals st.ch st0.ch
section
variable {P : Program} {B : Beg} {G G' : List Value} {E : Nat → CE} {h : H} {st st0 : St} {a : Act} {w : World}
theorem covSV_rel {n : Nat} {shs : List Sh} {vals : List SV} {s0 s : SV} {v : Value} (hn : G.length = n) (hc : covSV n shs vals s0 s = true) (hf : FitsL shs (SV.denL G' E vals)) (hpre : ∀ i, i < n → gv G' i = gv G i)
    (hpreD : ∀ s : SV, s.sc n = true → s.den G' E = s.den G E) (hpreX : ∀ x : X, x.sc n = true → x.den G' = x.den G) (hr : Rel G' E v s) : Rel (G ++ SV.denL G' E vals) E v s0 := by
  unfold covSV at hc
  split at hc
  · trivial
  · simp only [Bool.or_eq_true, Bool.and_eq_true] at hc
    rcases hc with ⟨h1, h2⟩ | h2
    · have e := SV.beq_eq _ _ h2
      subst e
      -- an old value: it says the same
      have hr2 : Rel G E v s0 := by
        unfold Rel at hr ⊢
        split at hr
        · trivial
        · rename_i x t _
          simp only [SV.sc, Bool.and_eq_true] at h1
          rw [← hpreX x h1.1, ← hpreD t h1.2]; exact hr
        · rw [← hpreD _ h1]; exact hr
      exact hr2.append (by rw [hn]; exact h1)
    · split at h2
      · rename_i i hi
        simp only [Bool.and_eq_true, Nat.ble_eq, Nat.blt_eq] at h2
        obtain ⟨⟨⟨⟨h3, h4⟩, h5⟩, h6⟩, h7⟩ := h2
        have e1 := SV.beq_eq _ _ h5
        have e2 := SV.beq_eq _ _ h6
        have hv := hr.plain h7
        have hlen : vals.length = shs.length := by have := hf.length; simp [SV.denL_eq] at this; exact this.symm
        have hgv : gv (G ++ SV.denL G' E vals) i = v := by
          rw [hv, ← e2]
          simp only [gv, SV.get, List.getD_eq_getElem?_getD, SV.denL_eq]
          rw [List.getElem?_append_right (by omega), hn, List.getElem?_map]
          rw [List.getElem?_eq_getElem (by omega)]
          rfl
        have hfit : Fits (shs.getD (i - n) .any) (gv (G ++ SV.denL G' E vals) i) := by
          have hs : shs[i - n]? = some (shs.getD (i - n) .any) := by
            rw [List.getD_eq_getElem?_getD, List.getElem?_eq_getElem h4]; rfl
          have := hf.get hs
          have e3 : gv (SV.denL G' E vals) (i - n) = gv (G ++ SV.denL G' E vals) i := by
            simp only [gv, List.getD_eq_getElem?_getD]
            rw [List.getElem?_append_right (by omega), hn]
          rw [← e3]; exact this
        have := Sh.sv_den (E := E) hfit
        rw [hgv] at this
        rw [e1]
        exact Rel.of (fun _ => this.symm) (by intro g t e; cases hsh : shs.getD (i - n) .any <;> rw [hsh] at e <;> cases e)
      · cases h2
theorem covL_get {n : Nat} {shs : List Sh} {vals : List SV} : ∀ {l0 l : List SV} {i : Nat} {s0 : SV}, covL n shs vals l0 l = true → l0[i]? = some s0 → ∃ s, l[i]? = some s ∧ covSV n shs vals s0 s = true
  | [], [], i, s0, _, h => by simp at h
  | x :: l0, y :: l, 0, s0, hc, h => by
    simp only [covL, Bool.and_eq_true] at hc
    simp at h; subst h
    exact ⟨y, rfl, hc.1⟩
  | x :: l0, y :: l, i + 1, s0, hc, h => by
    simp only [covL, Bool.and_eq_true] at hc
    obtain ⟨s, h1, h2⟩ := covL_get (i := i) hc.2 (by simpa using h)
    exact ⟨s, by simpa using h1, h2⟩
theorem covL_length {n : Nat} {shs : List Sh} {vals : List SV} : ∀ {l0 l : List SV}, covL n shs vals l0 l = true → l0.length = l.length
  | [], [], _ => rfl
  | x :: l0, y :: l, hc => by simp only [covL, Bool.and_eq_true] at hc; simp [covL_length hc.2]
theorem covL_rel {n : Nat} {shs : List Sh} {vals : List SV} (hn : G.length = n) (hf : FitsL shs (SV.denL G' E vals)) (hpre : ∀ i, i < n → gv G' i = gv G i)
    (hpreD : ∀ s : SV, s.sc n = true → s.den G' E = s.den G E) (hpreX : ∀ x : X, x.sc n = true → x.den G' = x.den G) :
    ∀ {l0 l : List SV} {vs : List Value}, covL n shs vals l0 l = true → RelL G' E vs l → RelL (G ++ SV.denL G' E vals) E vs l0
  | [], [], vs, _, hr => by cases vs with | nil => trivial | cons _ _ => exact hr.elim
  | x :: l0, y :: l, [], _, hr => hr.elim
  | x :: l0, y :: l, v :: vs, hc, hr => by
    simp only [covL, Bool.and_eq_true] at hc
    exact ⟨covSV_rel hn hc.1 hf hpre hpreD hpreX hr.1, covL_rel hn hf hpre hpreD hpreX hc.2 hr.2⟩
theorem covCh_mem {n : Nat} {shs : List Sh} {vals : List SV} {ch : List (Nat × List SV)} : ∀ {l : List (Nat × List SV)} {k : Nat} {c0 : List SV}, covCh n shs vals ch l = true → (k, c0) ∈ l → ∃ c, (k, c) ∈ ch ∧ covL n shs vals c0 c = true
  | [], _, _, _, h => by cases h
  | (j, d) :: l, k, c0, hc, h => by
    simp only [covCh, Bool.and_eq_true] at hc
    rcases List.mem_cons.1 h with e | h
    · cases e
      have h1 := hc.1
      split at h1
      · rename_i c hg; exact ⟨c, chGet_mem hg, h1⟩
      · cases h1
    · exact covCh_mem hc.2 h
theorem hasN_of_mem : ∀ {l : List Nat} {n : Nat}, n ∈ l → hasN l n = true
  | x :: l, n, h => by
    simp only [hasN, Bool.or_eq_true, Nat.beq_eq]
    rcases List.mem_cons.1 h with rfl | h
    · exact .inl rfl
    · exact .inr (hasN_of_mem h)
theorem keysOk_pair : ∀ {l : List (Nat × List SV)}, keysOk l = true → l.Pairwise fun x y => x.1 ≠ y.1
  | [], _ => List.Pairwise.nil
  | (k, c) :: l, h => by
    simp only [keysOk, Bool.and_eq_true, Bool.not_eq_true'] at h
    refine List.pairwise_cons.2 ⟨fun y hy e => ?_, keysOk_pair h.2⟩
    have : hasN (l.map (·.1)) k = true := hasN_of_mem (List.mem_map.2 ⟨y, hy, e.symm⟩)
    rw [h.1] at this; cases this
/-- What a loop's head says, of a state that it covers. -/
theorem covers_sat {n : Nat} {shs : List Sh} {vals : List SV} (hA : SatA G' E st a) (hW : SatW B G' E h st.ch w) (hn : G.length = n) (hB : B.G0 <+: G) (hpre : ∃ D, G' = G ++ D) (hc : covers n shs vals st0 st = true) (hko : keysOk st0.ch = true)
    (hf : FitsL shs (SV.denL G' E vals)) (hsh : FitsL st0.sh (G ++ SV.denL G' E vals)) (hkn : ∀ x b, (x, b) ∈ st0.kn → x.sc n = true ∧ vb (x.den G) = b) :
    SatA (G ++ SV.denL G' E vals) E st0 a ∧ SatW B (G ++ SV.denL G' E vals) E h st0.ch w := by
  obtain ⟨D, rfl⟩ := hpre
  simp only [covers, Bool.and_eq_true] at hc
  have p1 : ∀ i, i < n → gv (G ++ D) i = gv G i := fun i hi => gv_append (by omega)
  have p2 : ∀ s : SV, s.sc n = true → s.den (G ++ D) E = s.den G E := fun s hs => SV.den_append s (by rw [hn]; exact hs)
  have p3 : ∀ x : X, x.sc n = true → x.den (G ++ D) = x.den G := fun x hx => X.den_append (by rw [hn]; exact hx)
  constructor
  · refine ⟨by rw [covL_length hc.1]; exact hA.size, fun i s0 hi => ?_, hA.nodef, hsh, fun x b hm => ?_⟩
    · obtain ⟨s, h1, h2⟩ := covL_get hc.1 hi
      exact covSV_rel hn h2 hf p1 p2 p3 (hA.tmps i s h1)
    · obtain ⟨h1, h2⟩ := hkn x b hm
      rw [X.den_append (by rw [hn]; exact h1)]; exact h2
  · have hget : ∀ k c0, (k, c0) ∈ st0.ch → ∃ c, (k, c) ∈ st.ch ∧ covL n shs vals c0 c = true := fun k c0 hm => covCh_mem hc.2 hm
    refine ⟨fun k c0 hm => ?_, fun k c0 hm => ?_, ?_, fun k c0 hm => ?_, hW.par, hW.hsub, hW.frm, hB.trans (List.prefix_append ..)⟩
    · obtain ⟨c, h1, h2⟩ := hget k c0 hm
      obtain ⟨f, vs, hb, hr⟩ := hW.chunks k c h1
      exact ⟨by rw [covL_length h2]; exact f, vs, hb, covL_rel hn hf p1 p2 p3 h2 hr⟩
    · obtain ⟨c, h1, h2⟩ := hget k c0 hm; exact hW.hid k c h1
    · refine List.Pairwise.imp_of_mem (fun {x y} hx hy hxy => ?_) (keysOk_pair hko)
      obtain ⟨c, h1, _⟩ := hget x.1 x.2 hx
      obtain ⟨d, h2, _⟩ := hget y.1 y.2 hy
      exact dist_ne hW (x := (x.1, c)) (y := (y.1, d)) h1 h2 hxy
    · obtain ⟨c, h1, h2⟩ := hget k c0 hm; exact hW.own k c h1
end

/-! ### The evaluator -/
def firstReg : Code → Option Nat
  | .region id _ _ => some id
  | .seq x y => (firstReg x).or (firstReg y)
  | .cond _ x y => (firstReg x).or (firstReg y)
  | .block _ b | .loop b | .scope b => firstReg b
  | _ => none
def annOf : List (Nat × List Nat × List (Nat × Nat) × List Nat) → Nat → Option (List Nat × List (Nat × Nat) × List Nat)
  | [], _ => none
  | (j, x) :: l, i => if j.beq i then some x else annOf l i
def setNames : List Nat → Nat → List Sh → List SV → List SV
  | d :: ds, i, s :: ss, t => setNames ds (i + 1) ss (t.set d (s.sv i))
  | _, _, _, t => t
def setDead : List Nat → List SV → List SV
  | d :: ds, t => setDead ds (t.set d .und)
  | [], t => t
def setCells : List (Nat × Nat) → Nat → List Sh → List (Nat × List SV) → List (Nat × List SV)
  | (k, c) :: ds, i, s :: ss, ch => setCells ds (i + 1) ss (match chGet k ch with | some cs => chSet k (cs.set c (s.sv i)) ch | none => ch)
  | _, _, _, ch => ch
def cellGet (st : St) (x : Nat × Nat) : SV := match chGet x.1 st.ch with | some cs => SV.get cs x.2 | none => .und
def loopVals (st : St) (slots : List Nat) (cells : List (Nat × Nat)) : List SV := slots.map (SV.get st.t) ++ cells.map (cellGet st)
def headSt (st : St) (slots : List Nat) (cells : List (Nat × Nat)) (dead : List Nat) : St :=
  { t := setNames slots st.sh.length ((loopVals st slots cells).map (svSh st)) (setDead dead st.t),
    ch := setCells cells (st.sh.length + slots.length) (((loopVals st slots cells).map (svSh st)).drop slots.length) st.ch,
    sh := st.sh ++ (loopVals st slots cells).map (svSh st), kn := st.kn }
def againS (d n : Nat) (shs : List Sh) (st0 : St) (slots : List Nat) (cells : List (Nat × Nat)) (st : St) : Out :=
  if closedL (loopVals st slots cells) && beqShs shs ((loopVals st slots cells).map (svSh st)) && covers n shs (loopVals st slots cells) st0 st then .again d (loopVals st slots cells) else .fail
def runOps (P : Program) (cf : Cfg) (ops : Array Oper) : List Oper → St → (St → Out) → Out
  | [], st, k => k st
  | o :: l, st, k => stepOp P cf ops o st fun st' => runOps P cf ops l st' k
def ev (P : Program) (cf : Cfg) : Code → Nat → St → (Ex → St → Out) → Out
  | .skip, _, st, k => k .norm st
  | .label _, _, st, k => k .norm st
  | .region _ ops draw, _, st, k =>
    if draw then (if Region.noSelect ops then explore P cf ops ops.size (Array.replicate ops.size false) [] st (k .norm) else .fail)
    else runOps P cf ops ops.toList st (k .norm)
  | .seq x y, d, st, k => ev P cf x d st fun e st' => match e with
    | .norm => ev P cf y d st' k
    | .exit i => k (.exit i) st'
    | .ret => k .ret st'
  | .cond c x y, d, st, k => (match st.opr (.tt true) c with
    | .bool e => (match st.test e with
      | some true => ev P cf x d st k
      | some false => ev P cf y d st k
      | none => (match pr P (.cond c x y) st with
        | some st' => k .norm st'
        | none => .ite e (ev P cf x d (st.add e true) k) (ev P cf y d (st.add e false) k)))
    | _ => .fail)
  | .block id b, d, st, k => ev P cf b d st fun e st' => match e with
    | .norm => k .norm st'
    | .exit i => if i.beq id then k .norm st' else k (.exit i) st'
    | .ret => k .ret st'
  | .scope b, d, st, k => ev P cf b d st k
  | .loop b, d, st, k => (match (firstReg b).bind (annOf cf.loops) with
    | some (slots, cells, dead) =>
      if closedL (loopVals st slots cells) && covers st.sh.length ((loopVals st slots cells).map (svSh st)) (loopVals st slots cells) (headSt st slots cells dead) st && st.scOk && keysOk (headSt st slots cells dead).ch then
        .loop d (loopVals st slots cells) ((loopVals st slots cells).map (svSh st)) (ev P cf b (d + 1) (headSt st slots cells dead) fun e st' => match e with
          | .norm => againS d st.sh.length ((loopVals st slots cells).map (svSh st)) (headSt st slots cells dead) slots cells st'
          | .exit i => k (.exit i) st'
          | .ret => k .ret st')
      else .fail
    | none => .fail)
  | .exit id, _, st, k => k (.exit id) st
  | .ret, _, st, k => k .ret st
  | _, _, _, _ => .fail
end Go.Proofs.Ytibdneedfopcoaa
