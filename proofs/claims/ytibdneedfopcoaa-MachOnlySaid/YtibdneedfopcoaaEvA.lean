/-
  append by symbols: that what is left to show suffices. Conditions: none (plain lemmas).
-/
import Derived.Test.YtibdneedfopcoaaEv14
set_option linter.unusedVariables false
set_option linter.unusedSimpArgs false
namespace Go.Proofs.Ytibdneedfopcoaa
open Go

section
variable {P : Program} {B : Beg} {G : List Value} {E : Nat → CE} {h : H} {st : St} {a : Act} {w : World} {R : Value → List (List Value) → H → Prop}
theorem SatW.drewA (hW : SatW B G E h st.ch w) : SatW B G E h st.ch { w with drawn := w.drawn + 1 } :=
  ⟨hW.chunks, hW.hid, hW.dist, hW.own, hW.par, hW.hsub, ⟨hW.frm.size, hW.frm.os, hW.frm.tape, hW.frm.out, hW.frm.keep⟩, hW.pre⟩
theorem zeroC_eq {z : Value} (n : Nat) (hz : 0 < z.cells.size) : (Builtin.zeroCells z.cells n).toList = repZ z.cells.toList n := by
  simp only [Builtin.zeroCells, repZ, Array.toList_map, Array.toList_range, Array.length_toList]
  apply List.map_congr_left
  intro i hi
  have hlt : i % z.cells.size < z.cells.size := Nat.mod_lt _ hz
  rw [getElem!_pos z.cells _ hlt, List.getD_eq_getElem?_getD, Array.getElem?_toList, Array.getElem?_eq_getElem hlt]
  rfl
/-- The second operand hands these cells. -/
def Hands (P : Program) (x : Value) (sz m : Nat) (N : List Value) (w : World) : Prop :=
  (Builtin.lenOf x).run P w = .ok m w ∧ (Builtin.firstCells sz m x).run P w = .ok N.toArray w
theorem run_app_fits {t tx e : TypeId} {d : TypeDesc} {sz m n c : Nat} {i : TypeInfo} {ad : Option Addr} {x : Value} {N : List Value} (hu : P.underlying t = some (.slice e)) (hx : P.underlying tx = some d) (hd : ∀ k, d ≠ .int k)
    (hs : tsize P e = some sz) (hN : Hands P x sz m N w) (hle : n + m ≤ c) (h0 : ad = none → N = []) (hw : ∀ j, j < N.length → (w.cell? (((ad.getD default).add (n * sz)).add j)).isSome = true ∧ w.frozen? (((ad.getD default).add (n * sz)).add j) = false)
    (h1 : ∀ v ∈ N, v.oneCell' = true) (ty : TypeId) :
    (Builtin.append_ #[t, tx] ty #[.slice ad n c, x]).run P w = .ok (.slice ad (n + m) c) (setsW w ((ad.getD default).add (n * sz)) N 0) := by
  have hz : (match d with | .int _ => true | _ => false) = false := by cases d <;> first | rfl | exact absurd rfl (hd _)
  have hmt : ((match d with | .int k => (true : Bool) | x => false) = true) = False := by simp [hz]
  obtain ⟨n1, n2⟩ := hN
  have hrun : (match ad with | some a => storeCells (a.add (n * sz)) N.toArray.toList | none => pure ()).run P w = .ok () (setsW w ((ad.getD default).add (n * sz)) N 0) := by
    cases ad with
    | none => rw [h0 rfl]; rfl
    | some a => exact run_sets _ _ 0 w (fun j hj => by rw [Nat.zero_add]; exact hw j hj) h1
  simp only [Builtin.append_, List.getElem?_toArray, List.getElem?_cons_zero, List.getElem?_cons_succ, Sem.run_bind, run_underlying hu, Result.andThen_ok, run_tsize hs, run_underlying hx, Sem.run_pure]
  cases d <;> first | exact absurd rfl (hd _) | skip
  all_goals
    simp only [Bool.false_eq_true, if_false, Bool.not_false, if_true, Sem.run_bind, n1, Result.andThen_ok, hle, n2]
    cases ad with
    | none => simp [h0 rfl, setsW]
    | some a =>
      simp only [Option.getD_some] at hrun ⊢
      simp [hrun]
theorem run_app_grows {t tx e : TypeId} {d : TypeDesc} {sz m n c : Nat} {i : TypeInfo} {z : Value} {ad : Option Addr} {x : Value} {N O : List Value} (hu : P.underlying t = some (.slice e)) (hx : P.underlying tx = some d) (hd : ∀ k, d ≠ .int k)
    (hs : tsize P e = some sz) (hi : P.info? e = some i) (hz : i.zero = some z) (hz0 : 0 < z.cells.size) (hb : i.bytes ≠ 0) (hN : Hands P x sz m N w) (hNd : Hands P x sz m N { w with drawn := w.drawn + 1 }) (hgt : c < n + m)
    (hcap : Builtin.nextslicecap (n + m) c * i.bytes ≤ 281474976710656) (hO : O.length = n * sz) (hOr : ∀ a, ad = some a → ∀ j v, O[j]? = some v → w.cell? (a.add j) = some v) (h0 : ad = none → n = 0) (ty : TypeId) :
    ∃ nc, n + m ≤ nc ∧ (Builtin.append_ #[t, tx] ty #[.slice ad n c, x]).run P w = .ok (.slice (some ⟨w.heap.size, 0, none⟩) (n + m) nc)
      (({ w with drawn := w.drawn + 1 } : World).alloc (.cells (O ++ N ++ repZ z.cells.toList (nc - (n + m))).toArray e)) := by
  obtain ⟨n1, n2⟩ := hN
  obtain ⟨d1, d2⟩ := hNd
  refine ⟨n + m + (w.tape w.drawn (.appendCap (n + m) c e)) % (2 ^ 63 - (n + m)), by omega, ?_⟩
  have hle : ¬ (n + m ≤ c) := by omega
  have hcap' : ¬ (Builtin.nextslicecap (n + m) c * i.bytes > 2 ^ 48) := by
    have : (2 : Nat) ^ 48 = 281474976710656 := by decide
    rw [this]; omega
  have hfirst : (Builtin.firstCells sz n (.slice ad n c)).run P { w with drawn := w.drawn + 1 } = .ok O.toArray { w with drawn := w.drawn + 1 } := by
    cases ad with
    | none =>
      have : O = [] := List.eq_nil_of_length_eq_zero (by rw [hO, h0 rfl]; simp)
      simp [Builtin.firstCells, this]
    | some a =>
      have := run_loadCells_list (P := P) { w with drawn := w.drawn + 1 } a O (fun j v hj => by simpa using hOr a rfl j v hj)
      rw [hO] at this
      simp only [Builtin.firstCells]
      exact this
  have hzr : ∀ w', (zeroValue e).run P w' = .ok z w' := fun w' => run_zero (by rw [hi]; exact hz)
  have hti : ∀ w', (typeInfo e).run P w' = .ok i w' := fun w' => by simp [typeInfo, hi]
  have hq : (Question.appendCap (n + m) c e).forced = false := rfl
  simp only [Builtin.append_, List.getElem?_toArray, List.getElem?_cons_zero, List.getElem?_cons_succ, Sem.run_bind, run_underlying hu, Result.andThen_ok, run_tsize hs, run_underlying hx, Sem.run_pure]
  cases d <;> first | exact absurd rfl (hd _) | skip
  all_goals
    simp only [Bool.false_eq_true, if_false, Bool.not_false, if_true, Sem.run_bind, n1, Result.andThen_ok, hle, hti, false_or, hb, and_false, hcap', run_choose, hq, run_askRoom, hfirst, d2, hzr, newRow, run_newObj, Question.cut, Sem.run_pure]
    have harr : ∀ k, O.toArray ++ N.toArray ++ Builtin.zeroCells z.cells k = (O ++ N ++ repZ z.cells.toList k).toArray := by
      intro k; apply Array.ext'; simp [zeroC_eq k hz0]
    rw [harr]
    rfl

/-! ### By symbols -/
def srcOf (st : St) (g : X) (sz : Nat) (x : Operand) : Option ASrc :=
  match st.opr g x with
  | .lsl l n _ => (match chGet l st.ch with
    | some cs => if Nat.ble (n * sz) cs.length && closedL (cs.take (n * sz)) && (cs.take (n * sz)).all st.one then some (.cells (cs.take (n * sz)) n) else none
    | none => none)
  | .val j => (match st.shape j with | .sl => some (.sl (.val j)) | _ => none)
  | .cst (.slice none 0 0) => some (.cells [] 0)
  | .str e => some (.str e)
  | _ => none
def notInt : TypeDesc → Bool | .int _ => false | _ => true
def appS (P : Program) (st : St) (g : X) (t tx : TypeId) (s x : Operand) (dst : Option Tmp) (k : St → Out) : Out :=
  match P.underlying t, P.underlying tx with
  | some (.slice e), some d => (match tsize P e, P.info? e, zeroCells P e with
    | some sz, some i, some z => (match lenX st (st.opr g s), srcOf st g sz x with
      | some _, some src => if notInt d && Nat.blt 0 z.length && Nat.blt 0 i.bytes && closed (st.opr g s) && st.scOk then
          .app e sz i.bytes (st.opr g s) src (k (({ st with sh := st.sh ++ [.sl] } : St).setT dst (.val st.sh.length))) else .fail
      | _, _ => .fail)
    | _, _, _ => .fail)
  | _, _ => .fail
theorem hands_src (hA : SatA G E st a) (hW : SatW B G E h st.ch w) {g : X} (hg : vb (g.den G) = true) {sz : Nat} {x : Operand} {src : ASrc} (hs : srcOf st g sz x = some src) {N : List Value} {m : Nat} (hN : SrcOk G h sz src N m) :
    Hands P (a.eval x) sz m N w ∧ ∀ v ∈ N, v.oneCell' = true := by
  unfold srcOf at hs
  split at hs
  · rename_i l n c hx
    have hc := opr_den hA hg hx rfl
    split at hs
    · rename_i cs hcs
      split at hs
      · rename_i hb
        simp only [Bool.and_eq_true, Nat.ble_eq] at hb
        cases hs
        obtain ⟨hN1, rfl⟩ := hN
        have hone : allPlain (cs.take (m * sz)) = true ∧ ∀ v ∈ SV.denL G E (cs.take (m * sz)), v.oneCell' = true := by
          have h2 := hb.2
          simp only [List.all_eq_true] at h2
          constructor
          · simp only [allPlain, List.all_eq_true]
            exact fun s hs => (one_cells (E := E) hA (h2 s hs)).2.1
          · intro v hv
            rw [SV.denL_eq, List.mem_map] at hv
            obtain ⟨s, hs, rfl⟩ := hv
            exact (one_cells hA (h2 s hs)).2.2
        have hNE : N = SV.denL G E (cs.take (m * sz)) := by rw [hN1, ← closedL_den (E := E) hb.1.2]
        refine ⟨⟨by rw [hc]; rfl, ?_⟩, by rw [hNE]; exact hone.2⟩
        have hch := hW.chunks l cs (chGet_mem hcs)
        have hlen : (SV.denL G E (cs.take (m * sz))).length = m * sz := by simp [SV.denL_eq]; omega
        have := run_loadCells_list (P := P) w ((E l).at 0) (SV.denL G E (cs.take (m * sz))) (fun i v hv => by
          rw [at_add]
          simp only [SV.denL_eq, List.getElem?_map, Option.map_eq_some_iff] at hv
          obtain ⟨s, hs, rfl⟩ := hv
          have hp := hone.1
          simp only [allPlain, List.all_eq_true] at hp
          refine (E l).cell hch ?_ (hp s (List.mem_of_getElem? hs))
          rw [List.getElem?_take] at hs
          split at hs
          · simpa using hs
          · cases hs)
        rw [hlen] at this
        rw [hc, hNE]
        exact this
      · cases hs
    · cases hs
  · rename_i j hx
    have hc := opr_den hA hg hx rfl
    split at hs
    · rename_i hsh
      cases hs
      have hf := shape_fits hA j
      rw [hsh] at hf
      obtain ⟨ad, n, c, hv, hz, hle⟩ := hf
      have hv' : (SV.val j).den G E = .slice ad n c := hv
      obtain ⟨h1, h2, h3⟩ := hN
      have hv'' : (SV.val j).den G dE = .slice ad n c := hv
      rw [hv''] at h3
      refine ⟨⟨?_, ?_⟩, h2⟩
      · rw [hc, hv']
        cases ad with
        | none => obtain ⟨rfl, _⟩ := h3; rfl
        | some b => obtain ⟨rfl, _⟩ := h3; rfl
      · rw [hc, hv']
        cases ad with
        | none =>
          obtain ⟨rfl, rfl⟩ := h3
          have : N = [] := List.eq_nil_of_length_eq_zero (by rw [h1]; simp)
          rw [this]; rfl
        | some b =>
          obtain ⟨rfl, h4⟩ := h3
          have := run_loadCells_list (P := P) w b N (fun i v hv => H.sub_cell hW.hsub (h4 i v hv))
          rw [h1] at this
          exact this
    · cases hs
  · rename_i hx
    have hc := opr_den hA hg hx rfl
    cases hs
    obtain ⟨rfl, rfl⟩ := hN
    exact ⟨⟨by rw [hc]; rfl, by rw [hc]; rfl⟩, by intro v hv; cases hv⟩
  · rename_i e hx
    have hc := opr_den hA hg hx rfl
    cases hs
    obtain ⟨rfl, rfl⟩ := hN
    refine ⟨⟨by rw [hc]; rfl, ?_⟩, ?_⟩
    · rw [hc]
      show (Builtin.firstCells sz (vs (e.den G)).size (.string (vs (e.den G)))).run P w = _
      simp only [Builtin.firstCells, Sem.run_pure, Result.ok.injEq, and_true]
      have : (vs (e.den G)).extract 0 (vs (e.den G)).size = vs (e.den G) := by
        exact ByteArray.ext (by rw [ByteArray.data_extract]; simp)
      rw [this]
      apply Array.ext'
      simp
    · intro v hv
      rw [List.mem_map] at hv
      obtain ⟨b, _, rfl⟩ := hv
      rfl
  · cases hs
theorem slice_fits (hA : SatA G E st a) {s : SV} {e : X} (h : lenX st s = some e) (hcl : closed s = true) : ∃ ad n c, s.den G E = .slice ad n c ∧ (ad = none → n = 0 ∧ c = 0) ∧ n ≤ c := by
  unfold lenX at h
  split at h
  · rename_i i
    split at h
    · rename_i hs
      have hf := shape_fits hA i
      rw [hs] at hf
      obtain ⟨ad, n, c, hv, h1, h2⟩ := hf
      exact ⟨ad, n, c, hv, h1, h2⟩
    · cases h
  · exact ⟨none, 0, 0, rfl, fun _ => ⟨rfl, rfl⟩, Nat.le_refl _⟩
  · simp [closed, SV.refs] at hcl
  · cases h
/-- What an append comes to, and that what is left to show suffices. -/
theorem appS_sound {L : Lv} {N' : Act → World → Prop} {Q : Exit → Act → World → Prop} {k : St → Out} {g : X} {dst : Option Tmp} {ty : TypeId} {pos : String} {after : Array Edge} {guard : Option (Nat × Bool)}
    (hA : SatA G E st a) (hW : SatW B G E h st.ch w) (hg : vb (g.den G) = true) {c : Call} (hco : c.callee = .builtin .append) {t tx : TypeId} {s x : Operand} (hargs : c.args = #[s, x]) (hts : c.argTypes = #[t, tx])
    (H : holds P R (appS P st g t tx s x dst k) G L h)
    (hk : ∀ (G : List Value) (E : Nat → CE) (h : Go.Proofs.Ytibdneedfopcoaa.H) (st : St) (a : Act) (w : World), SatA G E st a → SatW B G E h st.ch w → holds P R (k st) G L h → N' a w) :
    (⟨dst, .call c, ty, pos, after, guard⟩ : Oper).wp P a w N' Q := by
  unfold appS at H
  split at H
  · rename_i e d hu hx
    split at H
    · rename_i sz i z hsz hi hz
      split at H
      · rename_i le src hle hsrc
        split at H
        · rename_i hc
          simp only [Bool.and_eq_true, Nat.blt_eq] at hc
          obtain ⟨⟨⟨⟨hni, hz0⟩, hby⟩, hcl⟩, hsc⟩ := hc
          have hd : ∀ k, d ≠ .int k := by intro k e; rw [e] at hni; cases hni
          obtain ⟨N, m, hN, HA⟩ := H
          obtain ⟨hands, hone⟩ := hands_src (P := P) hA hW hg hsrc hN
          obtain ⟨hd1, _⟩ := hands_src (P := P) hA (hW.drewA) hg hsrc hN
          obtain ⟨ad, n, cp, hv, hfz, hnc⟩ := slice_fits (E := E) hA hle hcl
          have hpl : (st.opr g s).plain = true := by
            obtain ⟨_, _, _, _, _, hp⟩ := lenX_den (E := E) hA hle; exact hp
          have hsv := opr_den hA hg rfl hpl
          rw [hv] at hsv
          have hvd : (st.opr g s).den G dE = .slice ad n cp := by rw [← closed_den (E := E) hcl]; exact hv
          rw [hvd] at HA
          obtain ⟨H1, H2⟩ := HA
          have hcons : c = { callee := .builtin .append, args := #[s, x], argTypes := #[t, tx] } := by
            cases c; simp only at hco hargs hts; rw [hco, hargs, hts]
          subst hcons
          obtain ⟨zv, hzv1, hzv2, _⟩ := run_zeroC (P := P) (w := w) hz
          rw [hi] at hzv1
          have hz1 : i.zero = some zv := hzv1
          have hz2 : 0 < zv.cells.size := by rw [← hzv2] at hz0; simpa using hz0
          have exec : ∀ {v : Value} {w' : World}, (Builtin.append_ #[t, tx] ty #[a.eval s, a.eval x]).run P w = .ok v w' →
              (execOp a.eval ⟨dst, .call { callee := .builtin .append, args := #[s, x], argTypes := #[t, tx] }, ty, pos, after, guard⟩).run P w = .ok (.value v) w' := by
            intro v w' hr
            simp only [execOp, resolve, invoke, builtin, Sem.run_bind, Sem.run_pure, Result.andThen_ok, List.map_toArray, List.map_cons, List.map_nil, hr]
          have hgv : ∀ u : Value, gv (G ++ [u]) G.length = u := fun u => by simp [gv, List.getD_eq_getElem?_getD]
          have fin : ∀ {u : Value} {w' : World} {h' : Go.Proofs.Ytibdneedfopcoaa.H}, (Builtin.append_ #[t, tx] ty #[a.eval s, a.eval x]).run P w = .ok u w' → SatW B G E h' st.ch w' → Fits .sl u →
              holds P R (k (({ st with sh := st.sh ++ [.sl] } : St).setT dst (.val st.sh.length))) (G ++ [u]) L h' →
              (⟨dst, .call { callee := .builtin .append, args := #[s, x], argTypes := #[t, tx] }, ty, pos, after, guard⟩ : Oper).wp P a w N' Q := by
            intro u w' h' hr hW' hfit HK
            unfold Oper.wp
            rw [exec hr, Oper.upon_value]
            have hrel : Rel (G ++ [u]) E u (.val st.sh.length) := by
              show u = gv _ _; rw [hA.len, hgv]
            exact hk _ _ _ _ _ _ ((hA.extend hsc (shs := [.sl]) (xs := [u]) ⟨hfit, trivial⟩).put dst hrel) (by
              have : (({ st with sh := st.sh ++ [.sl] } : St).setT dst (.val st.sh.length)).ch = st.ch := by cases dst <;> rfl
              rw [this]; exact hW'.extend hA hsc _) HK
          by_cases hfit : n + m ≤ cp
          · obtain ⟨hw, HK⟩ := H1 hfit
            have hwr : ∀ j, j < N.length → (w.cell? (((ad.getD default).add (n * sz)).add j)).isSome = true ∧ w.frozen? (((ad.getD default).add (n * sz)).add j) = false := fun j hj => by
              obtain ⟨w1, w2⟩ := hw j hj
              obtain ⟨v, hvv⟩ := Option.isSome_iff_exists.1 w1
              refine ⟨by rw [H.sub_cell hW.hsub hvv]; rfl, ?_⟩
              have hb : ∃ o, h (((ad.getD default).add (n * sz)).add j).block = some o := by
                unfold H.cell? at w1
                split at w1
                · rename_i hb; exact ⟨_, hb⟩
                · cases w1
              obtain ⟨o, ho⟩ := hb
              unfold H.frozen? at w2
              unfold World.frozen?
              rw [hW.hsub _ _ ho]
              rw [ho] at w2
              exact w2
            have h0 : ad = none → N = [] := by
              intro e
              obtain ⟨rfl, rfl⟩ := hfz e
              have hm : m = 0 := by omega
              subst hm
              have hrun0 := hands.2
              cases src with
              | cells l mm =>
                obtain ⟨hN1, hN2⟩ := hN
                have : (a.eval x) = a.eval x := rfl
                -- no cells for no elements
                unfold srcOf at hsrc
                split at hsrc
                · split at hsrc
                  · split at hsrc
                    · rename_i hb
                      cases hsrc
                      subst hN2
                      rw [hN1]; simp [SV.denL]
                    · cases hsrc
                  · cases hsrc
                · split at hsrc <;> cases hsrc
                · cases hsrc; rw [hN1]; rfl
                · cases hsrc
                · cases hsrc
              | sl sv => exact List.eq_nil_of_length_eq_zero (by rw [hN.1]; simp)
              | str ex =>
                obtain ⟨hN1, hN2⟩ := hN
                rw [hN1]
                have : (vs (ex.den G)).data.toList = [] := List.eq_nil_of_length_eq_zero (by
                  rw [Array.length_toList]; exact hN2.symm)
                rw [this]; rfl
            have hr := run_app_fits (i := i) (P := P) (w := w) hu hx hd hsz hands hfit h0 hwr hone ty
            rw [← hsv] at hr
            refine fin hr (hW.pub _ N (fun hne => ?_)) ⟨_, _, _, rfl, ⟨fun e => ?_, hfit⟩⟩ HK
            · obtain ⟨w1, _⟩ := hw 0 (List.length_pos_iff.2 hne)
              unfold H.cell? at w1
              split at w1
              · rename_i hb; exact ⟨_, hb⟩
              · cases w1
            · obtain ⟨rfl, rfl⟩ := hfz e
              exact ⟨by omega, rfl⟩
          · obtain ⟨hcap, O, hO1, hO2, HK⟩ := H2 (by omega)
            obtain ⟨nc, hnc', hr⟩ := run_app_grows (P := P) (w := w) (O := O) hu hx hd hsz hi hz1 hz2 (by omega) hands hd1 (by omega) hcap hO1
              (fun a' e j v hj => H.sub_cell hW.hsub (hO2 a' e j v hj)) (fun e => (hfz e).1) ty
            rw [← hsv] at hr
            have hsize : w.heap.size = ({ w with drawn := w.drawn + 1 } : World).heap.size := rfl
            have hHK := HK w.heap.size nc (h_size hW.hsub (Nat.le_refl _)) hnc'
            rw [hz] at hHK
            simp only [Option.getD_some, ← hzv2] at hHK
            refine fin hr (hW.drewA.pubNew _) ⟨_, _, _, rfl, ⟨(fun e => by cases e), hnc'⟩⟩ hHK
        · exact H.elim
      · exact H.elim
    · exact H.elim
  · exact H.elim
end
end Go.Proofs.Ytibdneedfopcoaa
