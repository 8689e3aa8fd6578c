/-
  The evaluator of code: that what is left to show suffices; a function's contract from it. Conditions: the entry of each function that is called is known ('CallOK'); the program is read under 'mixedOrders'.
-/
import Derived.Test.YtibdneedfopcoaaEv22
set_option linter.unusedVariables false
set_option linter.unusedSimpArgs false
namespace Go.Proofs.Ytibdneedfopcoaa
open Go

section
variable {P : Program} {R : Value → List (List Value) → H → Prop} {cf : Cfg}
def KOk (P : Program) (B : Beg) (R : Value → List (List Value) → H → Prop) (d : Nat) (L0 : Lv) (Q : Exit → Act → World → Prop) (k : Ex → St → Out) : Prop :=
  ∀ (e : Ex) (G : List Value) (E : Nat → CE) (h : H) (st : St) (a : Act) (w : World) (L : Lv), SatA G E st a → SatW B G E h st.ch w → L.take d = L0 → holds P R (k e st) G L h → Q e.to a w
theorem Frm.re {B : Beg} {h : H} {w : World} (f : Frm B h w) (G1 : List Value) : Frm { B with G0 := G1 } h w := ⟨f.size, f.os, f.tape, f.out, f.keep⟩
theorem SatW.re {B : Beg} {G G1 : List Value} {E : Nat → CE} {h : H} {ch : List (Nat × List SV)} {w : World} (hW : SatW B G E h ch w) (hp : G1 <+: G) : SatW { B with G0 := G1 } G E h ch w :=
  ⟨hW.chunks, hW.hid, hW.dist, hW.own, hW.par, hW.hsub, hW.frm.re G1, hp⟩
theorem SatW.un {B : Beg} {G G1 : List Value} {E : Nat → CE} {h : H} {ch : List (Nat × List SV)} {w : World} (hW : SatW { B with G0 := G1 } G E h ch w) (hp : B.G0 <+: G1) : SatW B G E h ch w :=
  ⟨hW.chunks, hW.hid, hW.dist, hW.own, hW.par, hW.hsub, ⟨hW.frm.size, hW.frm.os, hW.frm.tape, hW.frm.out, hW.frm.keep⟩, hp.trans hW.pre⟩
theorem runOps_sound {B : Beg} {L : Lv} {Q : Exit → Act → World → Prop} (hC : CallOK P cf.calls) {ops : Array Oper} {k : St → Out} (hk : Cont P B R L (Q .normal) k) :
    ∀ {l : List Oper} {G : List Value} {E : Nat → CE} {h : H} {st : St} {a : Act} {w : World}, SatA G E st a → SatW B G E h st.ch w → holds P R (runOps P cf ops l st k) G L h → wpList P ops Q l a w
  | [], G, E, h, st, a, w, hA, hW, H => hk _ _ _ _ _ _ hA hW H
  | o :: l, G, E, h, st, a, w, hA, hW, H =>
    stepW_list (stepOp_sound hC hA hW H fun G' E' h' st' a' w' hA' hW' H' => runOps_sound hC hk hA' hW' H')
theorem fits_map {G : List Value} {E : Nat → CE} {st : St} {a : Act} (hA : SatA G E st a) : ∀ (l : List SV), FitsL (l.map (svSh st)) (SV.denL G E l)
  | [] => trivial
  | s :: l => ⟨svSh_fits hA s, fits_map hA l⟩
theorem beqShs_fits : ∀ {l m : List Sh} {xs : List Value}, beqShs l m = true → FitsL m xs → FitsL l xs
  | [], [], _, _, h => h
  | s :: l, t :: m, [], _, h => h.elim
  | s :: l, t :: m, v :: xs, hb, h => by
    simp only [beqShs, Bool.and_eq_true] at hb
    exact ⟨beqSh_fits hb.1 h.1, beqShs_fits hb.2 h.2⟩
  | [], _ :: _, _, hb, _ => by cases hb
  | _ :: _, [], _, hb, _ => by cases hb
theorem take_snoc' {L : Lv} {d : Nat} {p : List Value → H → Prop} (hl : (L.take d).length = d) : (L.take d ++ [p])[d]? = some p := by
  rw [List.getElem?_append_right (by omega), hl]; simp
theorem ev_sound (hC : CallOK P cf.calls) (hm : P.follows .mixedOrders = true) : ∀ (c : Code) {B : Beg} {d : Nat} {st : St} {k : Ex → St → Out} {Q : Exit → Act → World → Prop} {G : List Value} {E : Nat → CE} {h : H} {a : Act} {w : World} {L L0 : Lv},
    KOk P B R d L0 Q k → SatA G E st a → SatW B G E h st.ch w → L.take d = L0 → L0.length = d → holds P R (ev P cf c d st k) G L h → c.wp P Q a w := by
  intro c
  induction c <;> intro B d st k Q G E h a w L L0 hk hA hW hL hd H
  case skip => exact wp_skip (hk .norm _ _ _ _ _ _ _ hA hW hL H)
  case label l => exact wp_label (hk .norm _ _ _ _ _ _ _ hA hW hL H)
  case region id ops draw =>
    unfold ev at H
    have hkc : Cont P B R L (Q .normal) (k .norm) := fun G' E' h' st' a' w' hA' hW' H' => hk .norm _ _ _ _ _ _ _ hA' hW' hL H'
    split at H
    · rename_i hdr
      subst hdr
      split at H
      · rename_i hs
        exact explore_region hC hm hs hkc hA hW H
      · exact H.elim
    · rename_i hdr
      have : draw = false := by simpa using hdr
      subst this
      exact wp_region_list (runOps_sound hC hkc hA hW H)
  case seq x y ix iy =>
    unfold ev at H
    refine wp_seq (ix (Q := Exit.then (y.wp P Q) Q) ?_ hA hW hL hd H)
    intro e G' E' h' st' a' w' L' hA' hW' hL' H'
    cases e with
    | norm => exact iy hk hA' hW' hL' hd H'
    | exit i => exact hk (.exit i) _ _ _ _ _ _ _ hA' hW' hL' H'
    | ret => exact hk .ret _ _ _ _ _ _ _ hA' hW' hL' H'
  case cond c x y ix iy =>
    unfold ev at H
    split at H
    · rename_i e he
      have hc : a.eval c = .bool (vb (e.den G)) := opr_den hA (g := .tt true) rfl he rfl
      split at H
      · rename_i ht
        rw [test_den hA ht] at hc
        exact wp_cond_true hc (ix hk hA hW hL hd H)
      · rename_i ht
        rw [test_den hA ht] at hc
        exact wp_cond_false hc (iy hk hA hW hL hd H)
      · split at H
        · rename_i st' hp
          exact pr_sound hA hW hp fun a' w' hA' hW' => hk .norm _ _ _ _ _ _ _ hA' hW' hL H
        · obtain ⟨h1, h2⟩ := H
          exact wp_cond_split hc (fun ht => ix hk (hA.add ht) hW hL hd (h1 ht)) (fun hf => iy hk (hA.add hf) hW hL hd (h2 hf))
    · exact H.elim
  case block id b ib =>
    unfold ev at H
    refine wp_block (ib (Q := Exit.inBlock id Q) ?_ hA hW hL hd H)
    intro e G' E' h' st' a' w' L' hA' hW' hL' H'
    cases e with
    | norm => exact hk .norm _ _ _ _ _ _ _ hA' hW' hL' H'
    | exit i =>
      show (if i = id then Q .normal a' w' else Q (.exit i) a' w')
      simp only at H'
      split at H'
      · rename_i hi; rw [Nat.beq_eq] at hi; rw [if_pos hi]; exact hk .norm _ _ _ _ _ _ _ hA' hW' hL' H'
      · rename_i hi; rw [if_neg (fun e => hi (by rw [Nat.beq_eq]; exact e))]; exact hk (.exit i) _ _ _ _ _ _ _ hA' hW' hL' H'
    | ret => exact hk .ret _ _ _ _ _ _ _ hA' hW' hL' H'
  case scope b ib =>
    unfold ev at H
    refine wp_scope_straight (ib (Q := Exit.noGoto Q) ?_ hA hW hL hd H)
    intro e G' E' h' st' a' w' L' hA' hW' hL' H'
    cases e with
    | norm => exact hk .norm _ _ _ _ _ _ _ hA' hW' hL' H'
    | exit i => exact hk (.exit i) _ _ _ _ _ _ _ hA' hW' hL' H'
    | ret => exact hk .ret _ _ _ _ _ _ _ hA' hW' hL' H'
  case loop b ib =>
    unfold ev at H
    split at H
    · rename_i slots cells dead hann
      split at H
      · rename_i hc
        simp only [Bool.and_eq_true] at hc
        obtain ⟨⟨⟨hcl, hcov⟩, hsc⟩, hko⟩ := hc
        generalize hshs : (loopVals st slots cells).map (svSh st) = shs at H hcov
        generalize hst0 : headSt st slots cells dead = st0 at H hcov hko
        have hlen : G.length = st.sh.length := hA.len.symm
        have hst0sh : st0.sh = st.sh ++ shs := by rw [← hst0, ← hshs]; rfl
        have hst0kn : st0.kn = st.kn := by rw [← hst0]; rfl
        have hkn : ∀ x b, (x, b) ∈ st0.kn → x.sc st.sh.length = true ∧ vb (x.den G) = b := by
          intro x b hm'
          rw [hst0kn] at hm'
          simp only [St.scOk, Bool.and_eq_true] at hsc
          exact ⟨scKn_mem hsc.2 hm', hA.kn x b hm'⟩
        obtain ⟨I, μ, h0, hround⟩ := H
        have hf0 : FitsL shs (SV.denL G E (loopVals st slots cells)) := by rw [← hshs]; exact fits_map hA _
        have hc0 : SV.denL G E (loopVals st slots cells) = SV.denL G dE (loopVals st slots cells) := closedL_den hcl
        have hW1 := hW.re (List.prefix_rfl (l := G))
        have hLd : (L.take d).length = d := by rw [hL]; exact hd
        refine wp_loop_ghost (fun n a w => ∃ (E : Nat → CE) (h : H) (xs : List Value), SatA (G ++ xs) E st0 a ∧ SatW { B with G0 := G } (G ++ xs) E h st0.ch w ∧ FitsL shs xs ∧ I xs h ∧ μ xs h = n)
          (μ (SV.denL G dE (loopVals st slots cells)) h) ?_ ?_
        · obtain ⟨s1, s2⟩ := covers_sat hA hW1 hlen List.prefix_rfl ⟨[], by simp⟩ hcov hko hf0 (by rw [hst0sh]; exact hA.fits.append hf0) hkn
          rw [hc0] at s1 s2
          exact ⟨E, h, _, s1, s2, by rw [← hc0]; exact hf0, h0, rfl⟩
        · rintro n a1 w1 ⟨E1, h1, xs, sA, sW, hfx, hI, hμ⟩
          refine ib (d := d + 1) (L := L.take d ++ [fun ys h'' => I ys h'' ∧ μ ys h'' < μ xs h1]) (L0 := L.take d ++ [fun ys h'' => I ys h'' ∧ μ ys h'' < μ xs h1]) ?_ sA sW
            (List.take_of_length_le (by simp [hLd])) (by simp [hLd]) (hround xs h1 hfx hI)
          intro e G' E' h' st' a' w' L' hA' hW' hL' H'
          have hLdd : L'.take d = L0 := by
            have := congrArg (List.take d) hL'
            rw [List.take_take, Nat.min_eq_left (by omega), List.take_append_of_le_length (by omega), List.take_take, Nat.min_self] at this
            rw [this]; exact hL
          cases e with
          | norm =>
            show ∃ n', n' < n ∧ _
            simp only at H'
            unfold againS at H'
            split at H'
            · rename_i hc'
              simp only [Bool.and_eq_true] at hc'
              obtain ⟨⟨c1, c2⟩, c3⟩ := hc'
              have hf' : FitsL shs (SV.denL G' E' (loopVals st' slots cells)) := beqShs_fits c2 (fits_map hA' _)
              have hcc : SV.denL G' E' (loopVals st' slots cells) = SV.denL G' dE (loopVals st' slots cells) := closedL_den c1
              have hpre : ∃ D, G' = G ++ D := by
                obtain ⟨D, hD⟩ := hW'.pre
                exact ⟨D, hD.symm⟩
              obtain ⟨s1, s2⟩ := covers_sat hA' hW' hlen List.prefix_rfl hpre c3 hko hf' (by rw [hst0sh]; exact hA.fits.append hf') hkn
              have hat : L'[d]? = some (fun ys h'' => I ys h'' ∧ μ ys h'' < μ xs h1) := by
                have := take_snoc' (L := L) (p := fun ys h'' => I ys h'' ∧ μ ys h'' < μ xs h1) hLd
                rw [← hL', List.getElem?_take] at this
                simpa using this
              have H2 : Lv.at L' d (SV.denL G' dE (loopVals st' slots cells)) h' := H'
              unfold Lv.at at H2
              rw [hat] at H2
              obtain ⟨k1, k2⟩ := H2
              rw [hcc] at s1 s2 hf'
              exact ⟨_, by rw [← hμ]; exact k2, E', h', _, s1, s2, hf', k1, rfl⟩
            · exact H'.elim
          | exit i => exact hk (.exit i) _ _ _ _ _ _ _ hA' (hW'.un hW.pre) hLdd H'
          | ret => exact hk .ret _ _ _ _ _ _ _ hA' (hW'.un hW.pre) hLdd H'
      · exact H.elim
    · exact H.elim
  case exit id => exact wp_exit (hk (.exit id) _ _ _ _ _ _ _ hA hW hL H)
  case ret => exact wp_ret (hk .ret _ _ _ _ _ _ _ hA hW hL H)
  all_goals exact H.elim
end
end Go.Proofs.Ytibdneedfopcoaa
