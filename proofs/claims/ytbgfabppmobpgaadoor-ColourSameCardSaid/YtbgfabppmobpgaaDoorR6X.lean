/-
  A vreg that may get none: the one with the most that are near. Conditions: as each contract says.
-/
import Derived.Test.YtbgfabppmobpgaaDoorR6W
set_option linter.unusedVariables false
set_option linter.unusedSimpArgs false
namespace Go.Proofs.YtbgfabppmobpgaaDoor
open Go

section
variable {P : Program} {R : Value → List (List Value) → H → Prop} {G : List Value} {L : Lv} {h : H}
theorem h_loadN {c : X} {p : PE} {shs : List Sh} {k : Out} (xs : List Value) (h1 : FitsL shs xs) (hc : vb (c.den G) = false) (h3 : holds P R k (G ++ xs) L h) : holds P R (.load c p shs k) G L h :=
  ⟨xs, h1, (fun q => by rw [hc] at q; cases q), h3⟩
theorem h_needN {c : X} {ns : List X} {k : Out} (hc : vb (c.den G) = false) (h3 : holds P R k G L h) : holds P R (.need c ns k) G L h := ⟨(fun q => by rw [hc] at q; cases q), h3⟩
theorem h_stillN {c : X} {p : PE} {l : List SV} {k : Out} (hc : vb (c.den G) = false) (h3 : holds P R k G L h) : holds P R (.still c p l k) G L h := ⟨(fun q => by rw [hc] at q; cases q), h3⟩
theorem h_need {c : X} {ns : List X} {k : Out} (h1 : needs G ns) (h3 : holds P R k G L h) : holds P R (.need c ns k) G L h := ⟨fun _ => h1, h3⟩
end
section
variable {g h h' : H} {bw k N : Nat} {fv : Value} {firm : List Bool} {w : CW} {V : WV} {F : Nat → List Nat}
theorem spA {b : Int} {fb fx : Bool} (hb : ¬ b < 0) (hc : (!if b < 0 then true else vb (if fb = true then Value.bool !fx else Value.bool false)) = true) : (fb && !fx) = false := by
  rw [if_neg hb] at hc; cases fb <;> cases fx <;> first | rfl | exact absurd hc (by decide)
theorem spA' {b : Int} {fb fx : Bool} (hb : ¬ b < 0) (hc : (!if b < 0 then true else vb (if fb = true then Value.bool !fx else Value.bool false)) = false) : (fb && !fx) = true := by
  rw [if_neg hb] at hc; cases fb <;> cases fx <;> first | rfl | exact absurd hc (by decide)
theorem spB {fb fx : Bool} {r : Bool} (hc : vb (if fb = true then Value.bool fx else Value.bool !fx) = r) : (fb == fx) = r := by
  rw [← hc]; cases fb <;> cases fx <;> rfl
def bst (firm : List Bool) (w : CW) (o : Option Nat) (v : Nat) : Option Nat := match o with | none => some v | some b => if w.better firm b v = true then some v else some b
def encO : Option Nat → Int | none => -1 | some b => b
theorem best_snoc {l : List Nat} {i x : Nat} {o : Option Nat} (hx : l[i]? = some x) (e : (l.take i).foldl (bst firm w) none = o) : (l.take (i + 1)).foldl (bst firm w) none = bst firm w o x := by
  rw [List.take_add_one, hx, List.foldl_append, e]; rfl
theorem bst_left {o : Option Nat} {v b : Nat} (hv : w.left v = true) (ho : ∀ b, o = some b → w.left b = true) (e : bst firm w o v = some b) : w.left b = true := by
  unfold bst at e
  split at e
  · cases e; exact hv
  · rename_i c
    split at e
    · cases e; exact hv
    · cases e; exact ho _ rfl
theorem WO.rdF (K : WO g h bw k fv firm w V F) : Reads h (Addr.add ⟨bw, 0, none⟩ 1) [fv] := K.rd (j := 1) rfl
theorem WO.rdB (K : WO g h bw k fv firm w V F) {b : Nat} (hb : b < firm.length) : Reads h ((vaddr fv).add (b * 1)) [.bool (firm.getD b false)] :=
  (BoolsAt.read (SlAt.le boolC_mono K.wf.le K.frm) (gb_some hb))
theorem s36 (ht : Tab g) (K : WO g h bw k fv firm w V F) (C : CInv N w) (hz : Szs N w) (hfl : firm.length = N) :
    CallsA Tryd.prog 36 (fun _ => [pW bw]) [] h (Ret fun r h' => (∃ w', w.spill firm = some w' ∧ r = .bool true ∧ WOx g h' bw k fv firm w') ∨ w.spill firm = none ∧ r = .bool false ∧ WOx g h' bw k fv firm w) := by
  refine c36 (G := [pW bw]) ⟨⟨_, rfl⟩, trivial⟩ ?_
  intro bp hbp
  have hbpF : ∀ i, bp ∉ F i := fun i q => by have := K.wf.lv i bp q; rw [hbp] at this; cases this
  have l1 := H.le_put (o := .cells ([pW bw] : List Value).toArray 63 (0, 0)) hbp
  have o1 : (h.put bp (.cells ([pW bw] : List Value).toArray 63 (0, 0))) bp = some (.cells ([pW bw] : List Value).toArray 63 (0, 0)) := H.put_same
  show holds _ _ _ _ _ (h.put bp (.cells ([pW bw] : List Value).toArray 63 (0, 0)))
  generalize h.put bp (.cells ([pW bw] : List Value).toArray 63 (0, 0)) = h1 at l1 o1
  intro bq hbq
  have hpq : bp ≠ bq := fun e => by rw [← e, o1] at hbq; cases hbq
  have hbqF : ∀ i, bq ∉ F i := fun i q => by have := K.wf.lv i bq q; rw [H.le_none l1 hbq] at this; cases this
  have hgq : g bq = none := H.le_none K.wf.le (H.le_none l1 hbq)
  have o0 : (h1.put bq (.cells ([.int .i64 0] : List Value).toArray 3 (0, 0))) bq = some (.cells ([.int .i64 0] : List Value).toArray 3 (0, 0)) := H.put_same
  have l2 := H.le_put (o := .cells ([.int .i64 0] : List Value).toArray 3 (0, 0)) hbq
  show holds _ _ _ _ _ (h1.put bq (.cells ([.int .i64 0] : List Value).toArray 3 (0, 0)))
  generalize h1.put bq (.cells ([.int .i64 0] : List Value).toArray 3 (0, 0)) = h2 at l2 o0
  show holds _ _ _ [pW bw, .pointer (some (adr bp)), .pointer (some (adr bq))] [] h2
  obtain ⟨u1, u2, u3⟩ := store_var (.int .i64 (-1)) o0
  refine h_store (adr bq) [.int .i64 (-1)] rfl rfl u1 ?_
  have l3 : h1.le (h2.sets (adr bq) [.int .i64 (-1)]) := fun z o q => by
    rw [u3 z fun e => by rw [e, hbq] at q; cases q]; exact l2 z o q
  generalize h2.sets (adr bq) [.int .i64 (-1)] = h3 at u2 l3
  have K3 := K.grow (l1.trans l3)
  have o13 := l3 _ _ o1
  have r1 := read_var o13
  refine h_load [pW bw] ⟨⟨_, rfl⟩, trivial⟩ (fun _ => r1) ⟨fun _ => ⟨rfl, trivial⟩, h_load [V.left] ⟨SetF.fit1 K3.left, trivial⟩ (fun _ => K3.rd (j := 5) rfl) ?_⟩
  simp only [List.cons_append, List.nil_append]
  refine h_call0 (sAllS (Tab.le K3.wf.le ht) (setF_at K3.left)) ?_
  rintro vl h4 ⟨l4, hall⟩
  have hil := hall.ints.len
  rw [List.length_map] at hil
  refine ⟨[vl], ⟨hall.ints.fit, trivial⟩, rfl, ?_⟩
  simp only [List.cons_append, List.nil_append]
  have hlen := allS_le w.left
  have K4 := K3.grow l4
  -- all but the variable
  obtain ⟨hx, ehx⟩ : ∃ hx, hx = H.cut h4 [bq] := ⟨_, rfl⟩
  have hxl : hx.le h4 := by rw [ehx]; exact H.cut_le _ _
  have hxn : hx bq = none := by rw [ehx]; exact H.cut_fresh _ _ bq (by simp)
  have hA : IntsAt hx vl ((allS w.left).map Int.ofNat) := by
    rw [ehx]
    exact OwnInts.ints (Row.cut hall fun b hb => by rw [List.mem_singleton] at hb; rw [hb, u2]; rfl)
  have hxp : hx bp = some (.cells ([pW bw] : List Value).toArray 63 (0, 0)) := by
    rw [ehx]; unfold H.cut; rw [if_neg (by simpa using hpq)]; exact l4 _ _ o13
  clear hall ehx
  refine h_range (n := (allS w.left).length) (fun i h' => ∃ o, ((allS w.left).take i).foldl (bst firm w) none = o ∧ (∀ b, o = some b → w.left b = true) ∧ hx.le h' ∧ WO g h' bw k fv firm w V F ∧ h' bq = some (.cells ([.int .i64 (encO o)] : List Value).toArray 3 (0, 0))) hil (by omega) rfl (by omega) ⟨none, rfl, (fun b e => by cases e), hxl, K4, l4 _ _ u2⟩ ?_ ?_
  · rintro i h5 J hi ⟨o, eo, ho, l5, K5, u5⟩ hJ
    obtain ⟨x, hx1, hxm, hxI⟩ := at_nat hi
    have hx2 := mem_allS.1 hxm
    have hxN := C.leftN x hx2.2
    have hnext := best_snoc hx1 eo
    have hon : ∀ b, bst firm w o x = some b → w.left b = true := fun b e => bst_left hx2.2 ho e
    have r5p : Reads h5 (adr bp) [pW bw] := read_var (l5 _ _ hxp)
    have r5q := read_var u5
    have hxf : x < firm.length := by rw [hfl]; exact hxN
    have hfvl : vlen fv = firm.length := (SlAt.le boolC_mono K5.wf.le K5.frm).len
    have ffv : FitsL [.sl] [fv] := ⟨(SlAt.le boolC_mono K5.wf.le K5.frm).fit, trivial⟩
    have fpt : FitsL [.ptr] [pW bw] := ⟨⟨_, rfl⟩, trivial⟩
    have fin : ∀ z : Int, FitsL [.int .i64] [.int .i64 z] := fun z => ⟨⟨_, rfl⟩, trivial⟩
    have fbo : ∀ z : Bool, FitsL [.bool] [.bool z] := fun z => ⟨⟨_, rfl⟩, trivial⟩
    have keep : ∀ {h6 : H}, h5.le h6 → bst firm w o x = o → J [.int .i64 (intOp .add .i64 (i : Int) 1)] h6 := fun {h6} l6 e => hJ _ ⟨o, by rw [hnext, e], ho, l5.trans l6, K5.grow l6, l6 _ _ u5⟩
    have take : ∀ {h6 : H}, h5.le h6 → bst firm w o x = some x → Writable h6 (adr bq) 1 ∧ J [.int .i64 (intOp .add .i64 (i : Int) 1)] (h6.sets (adr bq) [natV x]) := fun {h6} l6 e => by
      obtain ⟨v1, v2, v3⟩ := store_var (natV x) (l6 _ _ u5)
      refine ⟨v1, hJ _ ⟨some x, by rw [hnext, e], by rw [← e]; exact hon, fun z o' q => ?_, (K5.grow l6).other hgq hbqF v3, v2⟩⟩
      rw [v3 z fun e' => by rw [e', hxn] at q; cases q]
      exact l6 _ _ (l5 _ _ q)
    refine h_load [natV x] ⟨⟨_, rfl⟩, trivial⟩ (fun _ => (hA.le l5).read hxI) ?_
    cases o with
    | none =>
      refine h_load [.int .i64 (-1)] ⟨⟨_, rfl⟩, trivial⟩ (fun _ => r5q) ?_
      simp only [List.cons_append, List.nil_append]
      refine h_loadN [pW bw] fpt rfl ?_
      simp only [List.cons_append, List.nil_append]
      refine h_needN rfl ?_
      refine h_loadN [fv] ffv rfl ?_
      simp only [List.cons_append, List.nil_append]
      refine h_loadN [natV 0] (fin _) rfl ?_
      simp only [List.cons_append, List.nil_append]
      refine h_needN rfl ?_
      refine h_loadN [.bool false] (fbo _) rfl ?_
      simp only [List.cons_append, List.nil_append]
      refine h_loadN [pW bw] fpt rfl ?_
      simp only [List.cons_append, List.nil_append]
      refine h_needN rfl ?_
      refine h_loadN [fv] ffv rfl ?_
      simp only [List.cons_append, List.nil_append]
      refine h_needN rfl ?_
      refine h_loadN [.bool false] (fbo _) rfl ?_
      simp only [List.cons_append, List.nil_append]
      refine h_loadN [pW bw] fpt rfl ?_
      simp only [List.cons_append, List.nil_append]
      refine h_needN rfl ?_
      refine h_loadN [fv] ffv rfl ?_
      simp only [List.cons_append, List.nil_append]
      refine h_loadN [natV 0] (fin _) rfl ?_
      simp only [List.cons_append, List.nil_append]
      refine h_needN rfl ?_
      refine h_loadN [.bool false] (fbo _) rfl ?_
      simp only [List.cons_append, List.nil_append]
      refine h_loadN [pW bw] fpt rfl ?_
      simp only [List.cons_append, List.nil_append]
      refine h_needN rfl ?_
      refine h_loadN [fv] ffv rfl ?_
      simp only [List.cons_append, List.nil_append]
      refine h_needN rfl ?_
      refine h_loadN [.bool false] (fbo _) rfl ?_
      simp only [List.cons_append, List.nil_append]
      refine h_loadN [pW bw] fpt rfl ?_
      simp only [List.cons_append, List.nil_append]
      refine h_loadN [pW bw] fpt rfl ?_
      simp only [List.cons_append, List.nil_append]
      refine h_loadN [natV 0] (fin _) rfl ?_
      simp only [List.cons_append, List.nil_append]
      refine h_ite (fun hc => by cases hc) (fun hc => ?_)
      refine h_stillN rfl ?_
      refine h_stillN rfl ?_
      refine h_stillN rfl ?_
      refine h_stillN rfl ?_
      refine h_stillN rfl ?_
      refine h_stillN rfl ?_
      refine h_stillN rfl ?_
      refine h_still r5q ?_
      refine h_stillN rfl ?_
      refine h_stillN rfl ?_
      refine h_stillN rfl ?_
      refine h_stillN rfl ?_
      refine h_stillN rfl ?_
      refine h_stillN rfl ?_
      refine h_stillN rfl ?_
      refine h_still r5q ?_
      obtain ⟨v1, v2⟩ := take (H.le_refl _) rfl
      exact h_store (adr bq) [natV x] rfl rfl v1 v2
    | some b =>
      have hbN := C.leftN b (ho b rfl)
      have hbf : b < firm.length := by rw [hfl]; exact hbN
      obtain ⟨fb, efb⟩ : ∃ fb, fb = firm.getD b false := ⟨_, rfl⟩
      obtain ⟨fx, efx⟩ : ∃ fx, fx = firm.getD x false := ⟨_, rfl⟩
      have rF := K5.rdF
      have rB : Reads h5 ((vaddr fv).add (b * 1)) [.bool fb] := by rw [efb]; exact K5.rdB hbf
      have rX : Reads h5 ((vaddr fv).add (x * 1)) [.bool fx] := by rw [efx]; exact K5.rdB hxf
      have r5q : Reads h5 (adr bq) [natV b] := r5q
      have hbet : bst firm w (some b) x = if ((fb && !fx) || ((fb == fx) && decide (w.deg b < w.deg x))) = true then some x else some b := by rw [efb, efx]; rfl
      have hb0 : ¬ (b : Int) < 0 := by omega
      clear efb efx
      refine h_load [natV b] ⟨⟨_, rfl⟩, trivial⟩ (fun _ => r5q) ?_
      simp only [List.cons_append, List.nil_append]
      refine h_load [pW bw] fpt (fun _ => r5p) ?_
      simp only [List.cons_append, List.nil_append]
      refine h_need ⟨rfl, trivial⟩ ?_
      refine h_load [fv] ffv (fun _ => rF) ?_
      simp only [List.cons_append, List.nil_append]
      refine h_load [natV b] (fin _) (fun _ => r5q) ?_
      simp only [List.cons_append, List.nil_append]
      refine h_need (needIx (i := b) (v := fv) rfl rfl hfvl hbf) ?_
      refine h_load [.bool fb] (fbo _) (fun _ => rB) ?_
      simp only [List.cons_append, List.nil_append]
      refine h_load [pW bw] fpt (fun _ => r5p) ?_
      simp only [List.cons_append, List.nil_append]
      refine h_need ⟨rfl, trivial⟩ ?_
      refine h_load [fv] ffv (fun _ => rF) ?_
      simp only [List.cons_append, List.nil_append]
      refine h_need (needIx (i := x) (v := fv) rfl rfl hfvl hxf) ?_
      refine h_load [.bool fx] (fbo _) (fun _ => rX) ?_
      simp only [List.cons_append, List.nil_append]
      refine h_load [pW bw] fpt (fun _ => r5p) ?_
      simp only [List.cons_append, List.nil_append]
      refine h_need ⟨rfl, trivial⟩ ?_
      refine h_load [fv] ffv (fun _ => rF) ?_
      simp only [List.cons_append, List.nil_append]
      refine h_load [natV b] (fin _) (fun _ => r5q) ?_
      simp only [List.cons_append, List.nil_append]
      refine h_need (needIx (i := b) (v := fv) rfl rfl hfvl hbf) ?_
      refine h_load [.bool fb] (fbo _) (fun _ => rB) ?_
      simp only [List.cons_append, List.nil_append]
      refine h_load [pW bw] fpt (fun _ => r5p) ?_
      simp only [List.cons_append, List.nil_append]
      refine h_need ⟨rfl, trivial⟩ ?_
      refine h_load [fv] ffv (fun _ => rF) ?_
      simp only [List.cons_append, List.nil_append]
      refine h_need (needIx (i := x) (v := fv) rfl rfl hfvl hxf) ?_
      refine h_load [.bool fx] (fbo _) (fun _ => rX) ?_
      simp only [List.cons_append, List.nil_append]
      refine h_load [pW bw] fpt (fun _ => r5p) ?_
      simp only [List.cons_append, List.nil_append]
      refine h_load [pW bw] fpt (fun _ => r5p) ?_
      simp only [List.cons_append, List.nil_append]
      refine h_load [natV b] (fin _) (fun _ => r5q) ?_
      simp only [List.cons_append, List.nil_append]
      refine h_ite (fun hc => ?_) (fun hc => ?_)
      · simp only [holds, X.den, PE.den, SV.den, SV.denL, NK.val, NK.sv, NK.pub, gv_zero, gv_succ, vi_int, vb_bool, vlen_sl, vaddr_ptr, vb_ite, vi_ite, cmp_eql, cmp_neq, cmp_lss, cmp_leq, cmp_gtr, cmp_geq, List.map_nil, List.map_cons, List.cons_append, List.nil_append, List.flatten_nil, needs, Ret, true_and, and_true, decide_eq_true_eq, forall_const, intOp] at hc
        have h3 := spA hb0 hc
        clear hc
        refine h_ite (fun hd => ?_) (fun hd => ?_)
        · simp only [holds, X.den, PE.den, SV.den, SV.denL, NK.val, NK.sv, NK.pub, gv_zero, gv_succ, vi_int, vb_bool, vlen_sl, vaddr_ptr, vb_ite, vi_ite, cmp_eql, cmp_neq, cmp_lss, cmp_leq, cmp_gtr, cmp_geq, List.map_nil, List.map_cons, List.cons_append, List.nil_append, List.flatten_nil, needs, Ret, true_and, and_true, decide_eq_true_eq, forall_const, intOp] at hd
          have h4 := spB hd
          clear hd
          refine h_call0 (s46 K5 C hxN) ?_
          rintro _ h6 ⟨l6, rfl⟩
          refine ⟨[natV (w.deg x)], ⟨⟨_, rfl⟩, trivial⟩, rfl, ?_⟩
          simp only [List.cons_append, List.nil_append]
          refine h_still (r5q.le l6) ?_
          refine h_still (r5p.le l6) ?_
          refine h_still (rX.le l6) ?_
          refine h_still (rF.le l6) ?_
          refine h_still (r5p.le l6) ?_
          refine h_still (rB.le l6) ?_
          refine h_still (r5q.le l6) ?_
          refine h_still (rF.le l6) ?_
          refine h_still (r5p.le l6) ?_
          refine h_still (rX.le l6) ?_
          refine h_still (rF.le l6) ?_
          refine h_still (r5p.le l6) ?_
          refine h_still (rB.le l6) ?_
          refine h_still (r5q.le l6) ?_
          refine h_still (rF.le l6) ?_
          refine h_still (r5p.le l6) ?_
          refine h_still (r5q.le l6) ?_
          refine h_call0 (s46 (K5.grow l6) C hbN) ?_
          rintro _ h7 ⟨l7, rfl⟩
          have l67 := l6.trans l7
          refine ⟨[natV (w.deg b)], ⟨⟨_, rfl⟩, trivial⟩, rfl, ?_⟩
          simp only [List.cons_append, List.nil_append]
          refine h_still (rX.le l67) ?_
          refine h_still (rF.le l67) ?_
          refine h_still (r5p.le l67) ?_
          refine h_still (rB.le l67) ?_
          refine h_still (r5q.le l67) ?_
          refine h_still (rF.le l67) ?_
          refine h_still (r5p.le l67) ?_
          refine h_still (rX.le l67) ?_
          refine h_still (rF.le l67) ?_
          refine h_still (r5p.le l67) ?_
          refine h_still (rB.le l67) ?_
          refine h_still (r5q.le l67) ?_
          refine h_still (rF.le l67) ?_
          refine h_still (r5p.le l67) ?_
          refine h_still (r5q.le l67) ?_
          refine h_ite (fun he => ?_) (fun he => ?_)
          · replace he : cmpOp .gtr ((w.deg x : Nat) : Int) ((w.deg b : Nat) : Int) = true := he
            rw [cmp_gtr, decide_eq_true_eq] at he
            obtain ⟨v1, v2⟩ := take l67 (by rw [hbet, h3, h4, decide_eq_true (show w.deg b < w.deg x by omega)]; rfl)
            exact h_store (adr bq) [natV x] rfl rfl v1 v2
          · replace he : cmpOp .gtr ((w.deg x : Nat) : Int) ((w.deg b : Nat) : Int) = false := he
            rw [cmp_gtr, decide_eq_false_iff_not] at he
            exact keep l67 (by rw [hbet, h3, h4, decide_eq_false (show ¬ w.deg b < w.deg x by omega)]; rfl)
        · simp only [holds, X.den, PE.den, SV.den, SV.denL, NK.val, NK.sv, NK.pub, gv_zero, gv_succ, vi_int, vb_bool, vlen_sl, vaddr_ptr, vb_ite, vi_ite, cmp_eql, cmp_neq, cmp_lss, cmp_leq, cmp_gtr, cmp_geq, List.map_nil, List.map_cons, List.cons_append, List.nil_append, List.flatten_nil, needs, Ret, true_and, and_true, decide_eq_true_eq, forall_const, intOp] at hd
          have h4 := spB hd
          clear hd
          refine h_still rX ?_
          refine h_still rF ?_
          refine h_still r5p ?_
          refine h_still rB ?_
          refine h_still r5q ?_
          refine h_still rF ?_
          refine h_still r5p ?_
          refine h_still rX ?_
          refine h_still rF ?_
          refine h_still r5p ?_
          refine h_still rB ?_
          refine h_still r5q ?_
          refine h_still rF ?_
          refine h_still r5p ?_
          refine h_still r5q ?_
          refine h_still rX ?_
          refine h_still rF ?_
          refine h_still r5p ?_
          refine h_still rB ?_
          refine h_still r5q ?_
          refine h_still rF ?_
          refine h_still r5p ?_
          refine h_still rX ?_
          refine h_still rF ?_
          refine h_still r5p ?_
          refine h_still rB ?_
          refine h_still r5q ?_
          refine h_still rF ?_
          refine h_still r5p ?_
          refine h_still r5q ?_
          exact keep (H.le_refl _) (by rw [hbet, h3, h4]; rfl)
      · simp only [holds, X.den, PE.den, SV.den, SV.denL, NK.val, NK.sv, NK.pub, gv_zero, gv_succ, vi_int, vb_bool, vlen_sl, vaddr_ptr, vb_ite, vi_ite, cmp_eql, cmp_neq, cmp_lss, cmp_leq, cmp_gtr, cmp_geq, List.map_nil, List.map_cons, List.cons_append, List.nil_append, List.flatten_nil, needs, Ret, true_and, and_true, decide_eq_true_eq, forall_const, intOp] at hc
        have h3 := spA' hb0 hc
        clear hc
        refine h_still rX ?_
        refine h_still rF ?_
        refine h_still r5p ?_
        refine h_still rB ?_
        refine h_still r5q ?_
        refine h_still rF ?_
        refine h_still r5p ?_
        refine h_still r5q ?_
        refine h_still rX ?_
        refine h_still rF ?_
        refine h_still r5p ?_
        refine h_still rB ?_
        refine h_still r5q ?_
        refine h_still rF ?_
        refine h_still r5p ?_
        refine h_still r5q ?_
        obtain ⟨v1, v2⟩ := take (H.le_refl _) (by rw [hbet, h3]; rfl)
        exact h_store (adr bq) [natV x] rfl rfl v1 v2
  · rintro h5 J ⟨o, eo, ho, l5, K5, u5⟩
    rw [List.take_length] at eo
    have hbest : w.best firm (allS w.left) = o := by rw [← eo]; rfl
    have r5p : Reads h5 (adr bp) [pW bw] := read_var (l5 _ _ hxp)
    have r5q := read_var u5
    simp only [List.cons_append, List.nil_append]
    cases o with
    | none =>
      refine h_load [.int .i64 (-1)] ⟨⟨_, rfl⟩, trivial⟩ (fun _ => r5q) (h_ite (fun hc => ?_) (fun hc => by cases hc))
      refine ⟨rfl, .inr ⟨?_, rfl, V, F, K5⟩⟩
      unfold CW.spill; rw [hbest]; rfl
    | some b =>
      have r5q : Reads h5 (adr bq) [natV b] := r5q
      refine h_load [natV b] ⟨⟨_, rfl⟩, trivial⟩ (fun _ => r5q) (h_ite (fun hc => ?_) (fun hc => ?_))
      · exfalso
        replace hc : cmpOp .lss (b : Int) 0 = true := hc
        rw [cmp_lss, decide_eq_true_eq] at hc
        omega
      clear hc
      have hbl := ho b rfl
      have hb4 : b < 4096 := Nat.lt_of_lt_of_le (C.leftN b hbl) C.hN
      obtain ⟨hb, Kb, gb1, gb2, gb3⟩ := K5.base
      have rb1 : Reads hb (adr bp) [pW bw] := read_var (gb3 bp _ (l5 _ _ hxp) hbpF)
      have rb2 : Reads hb (adr bq) [natV b] := read_var (gb3 bq _ u5 hbqF)
      refine h_load [pW bw] ⟨⟨_, rfl⟩, trivial⟩ (fun _ => r5p) (h_load [pW bw] ⟨⟨_, rfl⟩, trivial⟩ (fun _ => r5p) ⟨fun _ => ⟨rfl, trivial⟩, h_load [V.moves] ⟨K5.mvAt.fit, trivial⟩ (fun _ => K5.rd (j := 3) rfl) ?_⟩)
      simp only [List.cons_append, List.nil_append]
      refine h_call0 (del_spill Kb C hz rb1 rb2) ?_
      rintro q h7 ⟨m1, m2⟩
      have l7 := m2.le Kb.wf.le (Kb.wf.fr 3)
      obtain ⟨c1, V8, F8, K8⟩ := Kb.setMoves (v' := q) m2 m1 fun b hb => .inl hb
      refine ⟨[q], ⟨m1.row0.fit, trivial⟩, rfl, h_still (rb1.le l7) (h_still (rb1.le l7) ⟨fun _ => ⟨rfl, trivial⟩, h_store (Addr.add ⟨bw, 0, none⟩ 3) [q] rfl rfl c1 ?_⟩)⟩
      have l8 := K8.wf.le
      refine h_load [pW bw] ⟨⟨_, rfl⟩, trivial⟩ (fun _ => rb1.le l8) (h_load [natV b] ⟨⟨_, rfl⟩, trivial⟩ (fun _ => rb2.le l8) ?_)
      simp only [List.cons_append, List.nil_append]
      refine h_call0 (s48 K8 C.hN ⟨hz.1, Nat.le_trans (List.length_filter_le _ _) hz.2⟩ hb4) ?_
      rintro _ h9 ⟨rfl, V9, F9, K9⟩
      refine ⟨[], trivial, rfl, rfl, .inl ⟨(w.without b).push b, ?_, rfl, V9, F9, K9.sub gb1 K.frm⟩⟩
      unfold CW.spill; rw [hbest]; rfl
end
end Go.Proofs.YtbgfabppmobpgaaDoor
