/-
  One operation by symbols: that what is left to show suffices. Conditions: the entry of each function that is called is known ('CallOK').
-/
import Derived.Test.YtibdneedfopcoaaEv15
set_option linter.unusedVariables false
set_option linter.unusedSimpArgs false
namespace Go.Proofs.Ytibdneedfopcoaa
open Go

def Cont (P : Program) (B : Beg) (R : Value → List (List Value) → H → Prop) (L : Lv) (N : Act → World → Prop) (k : St → Out) : Prop :=
  ∀ (G : List Value) (E : Nat → CE) (h : H) (st : St) (a : Act) (w : World), SatA G E st a → SatW B G E h st.ch w → holds P R (k st) G L h → N a w
section
variable {P : Program} {B : Beg} {G : List Value} {E : Nat → CE} {h : H} {st : St} {a : Act} {w : World} {R : Value → List (List Value) → H → Prop} {L : Lv} {N : Act → World → Prop}
  {Q : Exit → Act → World → Prop} {k : St → Out} {g : X} {dst : Option Tmp} {cf : Cfg} {ty : TypeId} {pos : String} {after : Array Edge} {guard : Option (Nat × Bool)}

theorem setT_ch (st : St) (dst : Option Tmp) (s : SV) : (st.setT dst s).ch = st.ch := by cases dst <;> rfl
theorem wrapG_rel {v : Value} {s : SV} (hg : vb (g.den G) = true) (hr : Rel G E v s) (hng : ∀ g t, s ≠ .gd g t) : Rel G E v (wrapG g s) := by
  unfold wrapG
  split
  · exact hr
  · split
    · rename_i hp
      show (if vb (g.den G) then v = s.den G E else v = undef)
      rw [if_pos hg]; exact hr.plain hp
    · trivial
theorem wrapG_undef {s : SV} (hg : vb (g.den G) = false) : Rel G E undef (wrapG g s) := by
  unfold wrapG
  split
  · rename_i h
    unfold X.isT at h
    split at h
    · simp [X.den] at hg
    · cases h
  · split
    · show (if vb (g.den G) then undef = s.den G E else undef = undef)
      rw [if_neg (by simp [hg])]
    · trivial
theorem plain_nogd {s : SV} (h : s.plain = true) : ∀ g t, s ≠ .gd g t := by intro g t e; rw [e] at h; cases h
theorem undS_rel : Rel G E undef undS := rfl
theorem allOne (hA : SatA G E st a) {ms : List SV} (h : ms.all st.one = true) : allPlain ms = true ∧ ∀ v ∈ SV.denL G E ms, v.oneCell' = true := by
  simp only [List.all_eq_true] at h
  constructor
  · simp only [allPlain, List.all_eq_true]
    exact fun s hs => (one_cells (E := E) hA (h s hs)).2.1
  · intro v hv
    rw [SV.denL_eq, List.mem_map] at hv
    obtain ⟨s, hs, rfl⟩ := hv
    exact (one_cells hA (h s hs)).2.2

theorem loadS_sound (hA : SatA G E st a) (hW : SatW B G E h st.ch w) (hg : vb (g.den G) = true) {gg : X} (hgg : vb (gg.den G) = true) {t : TypeId} {x : Operand}
    (H : holds P R (loadS P st g gg t x dst k) G L h) (hk : Cont P B R L N k) : (⟨dst, .load t x, ty, pos, after, guard⟩ : Oper).wp P a w N Q := by
  unfold loadS at H
  split at H
  · rename_i s hq
    obtain ⟨hp, hrun⟩ := sound_load hA hW hg hq dst ty pos after guard
    unfold Oper.wp
    rw [hrun, Oper.upon_value]
    exact hk _ _ _ _ _ _ (hA.put dst (wrapG_rel hgg (Rel.of (fun _ => rfl) (plain_nogd hp)) (plain_nogd hp))) (by rw [setT_ch]; exact hW) H
  · split at H
    · rename_i p shs b hq
      split at H
      · rename_i hsc
        simp only [Bool.and_eq_true] at hsc
        obtain ⟨xs, hf, hr, H⟩ := H
        obtain ⟨hrun, hp⟩ := loadP_run (E := E) hA hW.hsub hg hq hf (hr hgg) dst ty pos after guard
        unfold Oper.wp
        rw [hrun, Oper.upon_value]
        have hA' := hA.extend hsc.1 hf
        have hgg' : vb (gg.den (G ++ xs)) = true := by rw [X.den_append (by rw [← hA.len]; exact hsc.2)]; exact hgg
        refine hk _ _ _ _ _ _ (hA'.put dst (wrapG_rel hgg' (Rel.of (fun _ => by rw [hA.len]) ?_) ?_)) (by rw [setT_ch]; exact hW.extend hA hsc.1 xs) H
        · rw [hA.len]; exact plain_nogd hp
        · rw [hA.len]; exact plain_nogd hp
      · exact H.elim
    · exact H.elim
theorem loadS_skip (hA : SatA G E st a) (hW : SatW B G E h st.ch w) {gg : X} (hgg : vb (gg.den G) = false) {t : TypeId} {x : Operand}
    (H : holds P R (loadS P st g gg t x dst k) G L h) (hk : Cont P B R L N k) : N (a.put dst undef) w := by
  unfold loadS at H
  split at H
  · exact hk _ _ _ _ _ _ (hA.put dst (wrapG_undef hgg)) (by rw [setT_ch]; exact hW) H
  · split at H
    · split at H
      · rename_i hsc
        simp only [Bool.and_eq_true] at hsc
        obtain ⟨xs, hf, hr, H⟩ := H
        have hA' := hA.extend hsc.1 hf
        have hgg' : vb (gg.den (G ++ xs)) = false := by rw [X.den_append (by rw [← hA.len]; exact hsc.2)]; exact hgg
        exact hk _ _ _ _ _ _ (hA'.put dst (wrapG_undef hgg')) (by rw [setT_ch]; exact hW.extend hA hsc.1 xs) H
      · exact H.elim
    · exact H.elim
theorem cell_block {ad : Addr} (h1 : (h.cell? ad).isSome = true) : ∃ o, h ad.block = some o := by
  unfold H.cell? at h1
  split at h1
  · rename_i hb; exact ⟨_, hb⟩
  · cases h1
theorem sub_frozen (hs : h.sub w) {ad : Addr} (h1 : (h.cell? ad).isSome = true) (h2 : h.frozen? ad = false) : (w.cell? ad).isSome = true ∧ w.frozen? ad = false := by
  obtain ⟨v, hv⟩ := Option.isSome_iff_exists.1 h1
  refine ⟨by rw [H.sub_cell hs hv]; rfl, ?_⟩
  obtain ⟨o, ho⟩ := cell_block h1
  unfold H.frozen? at h2
  unfold World.frozen?
  rw [hs _ _ ho]
  rw [ho] at h2
  exact h2
theorem storeS_sound (hA : SatA G E st a) (hW : SatW B G E h st.ch w) (hg : vb (g.den G) = true) {t : TypeId} {x v : Operand}
    (H : holds P R (storeS P st g t x v dst k) G L h) (hk : Cont P B R L N k) : (⟨dst, .store t x v, ty, pos, after, guard⟩ : Oper).wp P a w N Q := by
  unfold storeS at H
  split at H
  · rename_i ms n hms hn
    split at H
    · rename_i hc
      simp only [Bool.and_eq_true, Nat.beq_eq] at hc
      obtain ⟨c1, c2, c3⟩ := parts_den (E := E) hA hms
      obtain ⟨o1, o2⟩ := allOne (E := E) hA hc.2
      have hv := opr_den hA hg rfl c2
      have hsz : (a.eval v).cells.size = n := by rw [hv, c1]; simp [SV.denL_eq, hc.1]
      have hcl : (a.eval v).cells.toList = SV.denL G E ms := by rw [hv, c1]
      split at H
      · rename_i l off hx
        have hxa := opr_den hA hg hx rfl
        split at H
        · rename_i cs hcs
          split at H
          · rename_i hle
            rw [Nat.ble_eq] at hle
            obtain ⟨hrun, hW'⟩ := hW.store (P := P) (off := off) (ms := ms) hcs (by omega) o1 o2
            unfold Oper.wp
            have : (execOp a.eval ⟨dst, .store t x v, ty, pos, after, guard⟩).run P w = .ok .skip (setsW w ((E l).at off) (SV.denL G E ms) 0) := by
              simp only [execOp, Instr.storeAt, hxa, SV.den, CE.ptr, Instr.sureAddr, Sem.run_bind, Sem.run_pure, Result.andThen_ok, storeVar, run_tsize hn, hsz, ne_eq, not_true_eq_false, if_false, hcl]
              rw [hrun]; rfl
            rw [this, Oper.upon_skip]
            exact hk _ _ _ _ _ _ (SatA.put (st := { st with ch := chSet l (splice cs off ms) st.ch }) ⟨hA.size, hA.tmps, hA.nodef, hA.fits, hA.kn⟩ dst undS_rel) (by rw [setT_ch]; exact hW') H
          · exact H.elim
        · exact H.elim
      · rename_i p hx
        have hxa := opr_den hA hg hx rfl
        split at H
        · rename_i hcd
          obtain ⟨hw, H⟩ := H
          have hdd := closedL_den (G := G) (E := E) hcd
          have hlen : (SV.denL G E ms).length = ms.length := by simp [SV.denL_eq]
          have hrun : (storeCells (p.den G) (SV.denL G E ms)).run P w = .ok () (setsW w (p.den G) (SV.denL G E ms) 0) := by
            refine run_sets _ _ 0 w (fun j hj => ?_) o2
            rw [Nat.zero_add]
            obtain ⟨w1, w2⟩ := hw j (by omega)
            exact sub_frozen hW.hsub w1 w2
          unfold Oper.wp
          have : (execOp a.eval ⟨dst, .store t x v, ty, pos, after, guard⟩).run P w = .ok .skip (setsW w (p.den G) (SV.denL G E ms) 0) := by
            simp only [execOp, Instr.storeAt, hxa, SV.den, Instr.sureAddr, Sem.run_bind, Sem.run_pure, Result.andThen_ok, storeVar, run_tsize hn, hsz, ne_eq, not_true_eq_false, if_false, hcl]
            rw [hrun]; rfl
          rw [this, Oper.upon_skip]
          have hWp := hW.pub (p.den G) (SV.denL G E ms) (fun hne => by
            have h0 := hw 0 (by rw [← hlen]; exact List.length_pos_iff.2 hne)
            exact cell_block h0.1)
          exact hk _ _ _ _ _ _ (hA.put dst undS_rel) (by rw [setT_ch]; exact hWp) (by rw [hdd]; exact H)
        · exact H.elim
      · exact H.elim
    · exact H.elim
  · exact H.elim
theorem newC_sound (hA : SatA G E st a) (hW : SatW B G E h st.ch w) (hg : vb (g.den G) = true) {o : Op}
    (H : holds P R (newC P cf st g o dst k) G L h) (hk : Cont P B R L N k) : (⟨dst, o, ty, pos, after, guard⟩ : Oper).wp P a w N Q := by
  unfold newC at H
  split at H
  · rename_i e cs mk d hn
    obtain ⟨arr, hrun, harr, hpl⟩ := newS_run (w := w) hA hg hn (some d) ty pos after guard
    unfold Oper.wp
    rw [hrun, Oper.upon_value]
    split at H
    · split at H
      · rename_i hc
        simp only [Bool.and_eq_true] at hc
        have H := H w.heap.size (h_size hW.hsub (Nat.le_refl _))
        have hfit : FitsL [mk.sh] [mk.val w.heap.size] := by
          cases mk with
          | loc => exact ⟨⟨_, rfl⟩, trivial⟩
          | lsl n => exact ⟨⟨_, _, _, rfl, ⟨(fun e => by cases e), Nat.le_refl _⟩⟩, trivial⟩
        have harr' : arr = (SV.denL G dE cs).toArray := by rw [← closedL_den (E := E) hc.1, ← harr]
        rw [← harr'] at H
        have hrel : Rel (G ++ [mk.val w.heap.size]) E (mk.val w.heap.size) (mk.pub st.sh.length) := by
          have hgv : gv (G ++ [mk.val w.heap.size]) G.length = mk.val w.heap.size := by simp [gv, List.getD_eq_getElem?_getD]
          rw [hA.len]
          cases mk with
          | loc => show _ = Value.pointer (some (vaddr (gv _ _))); rw [hgv]; rfl
          | lsl n => show _ = gv _ _; rw [hgv]
        exact hk _ _ _ _ _ _ ((hA.extend hc.2 hfit).put _ hrel) (by rw [setT_ch]; exact (hW.pubNew _).extend (st := st) hA hc.2 _) H
      · exact H.elim
    · split at H
      · rename_i hc
        simp only [Bool.and_eq_true, Nat.blt_eq] at hc
        have hr : RelL G E arr.toList cs := by rw [harr]; exact RelL_den hpl
        have hW' := hW.new (elem := e) hc.1.1.1 hr hc.1.1.2 hc.1.2
        refine hk G _ h { st with t := st.t.set d (mk.sv d), ch := (d, cs) :: chDel d st.ch } _ _ ?_ hW' H
        have hA1 : SatA G E ({ st with t := st.t.set d .und } : St) (a.put (some d) (mk.val w.heap.size)) := hA.put (some d) (s := .und) trivial
        have hA2 := hA1.env (F := envPut E d ⟨w.heap.size, [], [], e, (0, 0)⟩) neq_env hc.2
        have hA3 := hA2.put (some d) (v := mk.val w.heap.size) (s := mk.sv d) (by
          cases mk with
          | loc => show _ = (envPut E d _ d).ptr 0; rw [envPut_eq]; rfl
          | lsl n => show _ = Value.slice (some ((envPut E d _ d).at 0)) n n; rw [envPut_eq]; rfl)
        refine ⟨?_, ?_, hA3.nodef, hA3.fits, hA3.kn⟩
        · have := hA3.size; simpa [St.setT, Act.put] using this
        · have := hA3.tmps; simpa [St.setT, Act.put] using this
      · exact H.elim
  · exact H.elim
end
end Go.Proofs.Ytibdneedfopcoaa
