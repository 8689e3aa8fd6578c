/-
  Registers, from the vreg that was done with last on. Conditions: as each contract says.
-/
import Derived.Test.YtbgfabppmobpgaaDoorR6Y
import Derived.Test.YtbgfabppmobpgaaDoorR6H
set_option linter.unusedVariables false
set_option linter.unusedSimpArgs false
namespace Go.Proofs.YtbgfabppmobpgaaDoor
open Go

section
variable {g h h' : H} {bw k N : Nat} {fv : Value} {firm : List Bool} {w : CW} {V : WV} {F : Nat → List Nat}
theorem WO.kept (K : WO g h bw k fv firm w V F) {f : List Nat} (hk : KeptH h h' f) (hg : Fresh g f) (hF : ∀ i, ∀ b ∈ F i, b ∉ f) : WO g h' bw k fv firm w V F := by
  have ag : ∀ i, Agree h h' (F i) := fun i => hk.agree (K.wf.lv i) (hF i)
  exact ⟨⟨hk.le K.wf.le hg, K.wf.fr, fun i z hz => by rw [ag i z hz]; exact K.wf.lv i z hz, K.wf.dis⟩, K.f1, by rw [ag 1 bw (by rw [K.f1]; simp)]; exact K.obj, K.frm, K.near.agree setF_good (ag 2), K.nnd, K.moves.agree (ag 3), K.st.agree (ag 4), setF_good.1 (ag 5) K.left, K.stack.agree (ag 6)⟩
theorem rowF_setI {h : H} {v : Value} {l : List Int} {fp : List Nat} {i : Nat} {x : Int} (k : RowF h 3 1 v (l.map (.int .i64)) fp) (hi : i < l.length) :
    Writable h ((vaddr v).add i) 1 ∧ RowF (h.sets ((vaddr v).add i) [.int .i64 x]) 3 1 v ((l.set i x).map (.int .i64)) fp ∧ KeptH h (h.sets ((vaddr v).add i) [.int .i64 x]) fp := by
  have := rowF_set (x := .int .i64 x) (i := i) k (by rw [List.length_map]; exact hi)
  rw [← List.map_set] at this; exact this
theorem WO.stkAt (K : WO g h bw k fv firm w V F) : IntsAt h V.stack (w.stack.map Int.ofNat) := ints_of_nats K.stack
theorem pick1_none {got : List Int} {v : Nat} (h : w.pickC k got v = none) : w.pick1 k got v = got := by unfold CW.pick1; rw [h]
theorem pick1_some {got : List Int} {v c : Nat} (h : w.pickC k got v = some c) : w.pick1 k got v = got.set v (c : Int) := by unfold CW.pick1; rw [h]
theorem any_at {α : Type} {p : α → Bool} {l : List α} {i : Nat} {x : α} (h : l[i]? = some x) (hp : p x = true) : l.any p = true := List.any_eq_true.2 ⟨x, List.mem_of_getElem? h, hp⟩
theorem any_none {α : Type} {p : α → Bool} {l : List α} (h : ∀ j y, j < l.length → l[j]? = some y → p y = false) : l.any p = false := by
  rw [List.any_eq_false]
  intro x hx
  obtain ⟨j, hj, e⟩ := List.getElem_of_mem hx
  rw [h j x hj (by rw [List.getElem?_eq_getElem hj, e])]; simp
theorem range_at {k c : Nat} (h : c < k) : (List.range k)[c]? = some c := List.getElem?_range h
theorem range_of {k j y : Nat} (h : (List.range k)[j]? = some y) : j < k ∧ y = j := by
  have hl := (List.getElem?_eq_some_iff.1 h).1
  rw [List.length_range] at hl
  rw [List.getElem?_range hl] at h
  cases h; exact ⟨hl, rfl⟩
theorem s37 (ht : Tab g) (K : WO g h bw k fv firm w V F) (C : CInv N w) (hz : Szs N w) (hk8 : k ≤ 1000) :
    CallsA Tryd.prog 37 (fun _ => [pW bw]) [] h (Ret fun r h' => h.le h' ∧ ∃ f, RowF h' 3 1 r ((w.out k).map (.int .i64)) f ∧ Fresh h f) := by
  refine c37 (G := [pW bw]) ⟨⟨_, rfl⟩, trivial⟩ ?_
  have hN := C.hN
  have hsl : vlen V.st = N := K.st_len.trans C.len
  refine h_load [V.st] ⟨K.fitS, trivial⟩ (fun _ => K.rd (j := 4) rfl) ?_
  simp only [List.cons_append, List.nil_append]
  have hvi : vi ((X.len 1).den [pW bw, V.st]) = (N : Int) := by show ((vlen V.st : Nat) : Int) = _; rw [hsl]
  refine ⟨by rw [hvi]; omega, by rw [hvi]; omega, fun bg hbg => ?_⟩
  rw [hvi, Int.toNat_natCast]
  have k0 := mk_ints (h := h) (b := bg) (n := N)
  have l1 : h.le (h.put bg (.cells (repZ ((zeroCells Tryd.prog 3).getD []) N).toArray 3 (0, 0))) := H.le_put hbg
  generalize h.put bg (.cells (repZ ((zeroCells Tryd.prog 3).getD []) N).toArray 3 (0, 0)) = h1 at k0 l1
  simp only [List.cons_append, List.nil_append]
  have hbF : ∀ i, ∀ b ∈ F i, b ∉ [bg] := fun i b hb q => by
    rw [List.mem_singleton] at q
    have := K.wf.lv i b hb
    rw [q, hbg] at this; cases this
  have hgF : Fresh g [bg] := fun b q => by rw [List.mem_singleton] at q; rw [q]; exact H.le_none K.wf.le hbg
  have hhF : Fresh h [bg] := fun b q => by rw [List.mem_singleton] at q; rw [q]; exact hbg
  have K1 := K.grow l1
  -- all are -1
  refine h_range (n := N) (fun i h' => ∃ l : List Int, RowF h' 3 1 (.slice (some ⟨bg, 0, none⟩) N N) (l.map (.int .i64)) [bg] ∧ l.length = N ∧ (∀ j, j < i → l[j]? = some (-1)) ∧ WO g h' bw k fv firm w V F ∧ h.le h') rfl (by omega) rfl (by omega) ⟨_, k0, by simp, fun j hj => absurd hj (Nat.not_lt_zero _), K1, l1⟩ ?_ ?_
  · rintro i h2 J hi ⟨l, q1, q2, q3, K2, l2⟩ hJ
    obtain ⟨u1, u2, u3⟩ := rowF_setI (x := -1) (i := i) q1 (by omega)
    refine h_store ((vaddr (.slice (some ⟨bg, 0, none⟩) N N)).add i) [.int .i64 (-1)] (by show (vaddr (.slice (some ⟨bg, 0, none⟩) N N)).add (i * 1) = _; rw [Nat.mul_one]) rfl u1 ?_
    refine hJ _ ⟨l.set i (-1), u2, by rw [List.length_set]; exact q2, fun j hj => ?_, K2.kept u3 hgF hbF, u3.le l2 hhF⟩
    rw [List.getElem?_set]
    by_cases e : i = j
    · rw [if_pos e, if_pos (by omega)]
    · rw [if_neg e]; exact q3 j (by omega)
  rintro h2 J ⟨l, q1, q2, q3, K2, l2⟩
  obtain rfl : l = List.replicate N (-1) := by
    apply List.ext_getElem?
    intro j
    rw [List.getElem?_replicate]
    by_cases hj : j < N
    · rw [if_pos hj]; exact q3 j hj
    · rw [if_neg hj, List.getElem?_eq_none (by omega)]
  clear q2 q3 k0 K1 l1
  simp only [List.cons_append, List.nil_append]
  have hkl : vlen V.stack = w.stack.length := by have := K2.stkAt.len; rw [List.length_map] at this; exact this
  have hkn : w.stack.length ≤ 4096 := by have := hz.1; omega
  refine h_load [V.stack] ⟨K2.stkAt.fit, trivial⟩ (fun _ => K2.rd (j := 6) rfl) ?_
  simp only [List.cons_append, List.nil_append]
  obtain ⟨Sv, hSv⟩ : ∃ Sv, Sv = w.stack.length := ⟨_, rfl⟩
  have hpl : ∀ (l : List Nat) (got : List Int), got.length = N → (l.foldl (w.pick1 k) got).length = N := fun l => by
    induction l with
    | nil => exact fun got e => e
    | cons a l ih => exact fun got e => ih _ (by rw [pick1_len]; exact e)
  refine h_loop (fun xs h' => ∃ t : Nat, xs = [.int .i64 ((Sv : Int) - 1 - t)] ∧ t ≤ Sv ∧ RowF h' 3 1 (.slice (some ⟨bg, 0, none⟩) N N) (((w.stack.reverse.take t).foldl (w.pick1 k) (List.replicate N (-1))).map (.int .i64)) [bg] ∧ WO g h' bw k fv firm w V F ∧ h.le h') (fun xs h' => (vi (gv xs 0) + 1).toNat) ⟨0, ?_, Nat.zero_le _, q1, K2, l2⟩ ?_
  · show [Value.int .i64 (intOp .sub .i64 ((vlen V.stack : Nat) : Int) 1)] = _
    rw [hkl, ← hSv]
    simp only [intOp]
    rw [wrap_i64 (by omega) (by omega)]
    simp
  rintro xs h3 J - ⟨t, rfl, htS, r3, K3, l3⟩ hJ
  simp only [List.cons_append, List.nil_append]
  refine h_ite (fun hc => ?_) (fun hc => ?_)
  · replace hc : cmpOp .geq ((Sv : Int) - 1 - t) 0 = true := hc
    rw [cmp_geq, decide_eq_true_eq] at hc
    have hpos : (Sv : Int) - 1 - t = ((Sv - 1 - t : Nat) : Int) := by omega
    rw [hpos]
    obtain ⟨p, hp⟩ : ∃ p, p = Sv - 1 - t := ⟨_, rfl⟩
    rw [← hp]
    have hpS : p < w.stack.length := by omega
    obtain ⟨v, hv, hvm, hvI⟩ := at_nat hpS
    have hvN := (C.stk v hvm).1
    have hrev : w.stack.reverse[t]? = some v := by
      rw [List.getElem?_reverse (by omega), ← hv]; congr 1; omega
    have hfs := foldl_snoc (f := w.pick1 k) (z := List.replicate N (-1)) hrev
    have hgl := hpl (w.stack.reverse.take t) (List.replicate N (-1)) (by simp)
    generalize (w.stack.reverse.take t).foldl (w.pick1 k) (List.replicate N (-1)) = got at r3 hfs hgl
    have again : ∀ {h4 : H}, RowF h4 3 1 (.slice (some ⟨bg, 0, none⟩) N N) ((w.pick1 k got v).map (.int .i64)) [bg] → WO g h4 bw k fv firm w V F → h.le h4 → J [.int .i64 (intOp .sub .i64 (p : Int) 1)] h4 := fun {h4} a1 a2 a3 => by
      have : intOp .sub .i64 (p : Int) 1 = (Sv : Int) - 1 - ((t + 1 : Nat) : Int) := by
        simp only [intOp]
        rw [wrap_i64 (by omega) (by omega)]; omega
      rw [this]
      exact hJ _ _ ⟨t + 1, rfl, by omega, by rw [hfs]; exact a1, a2, a3⟩ (by simp only [gv_zero, vi_int]; omega)
    refine h_load [V.stack] ⟨K3.stkAt.fit, trivial⟩ (fun _ => K3.rd (j := 6) rfl) (h_need (needIx (i := p) (v := V.stack) rfl rfl hkl hpS) ?_)
    simp only [List.cons_append, List.nil_append]
    refine h_load [natV v] ⟨⟨_, rfl⟩, trivial⟩ (fun _ => K3.stkAt.read hvI) ?_
    simp only [List.cons_append, List.nil_append]
    refine h_load [natV k] ⟨⟨_, rfl⟩, trivial⟩ (fun _ => K3.rd (j := 0) rfl) ?_
    simp only [List.cons_append, List.nil_append]
    refine h_loop (fun xs h' => ∃ c : Nat, xs = [natV c] ∧ c ≤ k ∧ h3.le h' ∧ ∀ j y, j < c → (List.range k)[j]? = some y → (!((allS (w.nr v)).any fun n => decide (got.getD (w.of n) (-1) = (y : Int)))) = false) (fun xs h' => k - (vi (gv xs 0)).toNat) ⟨0, rfl, Nat.zero_le _, H.le_refl _, fun j y hj => absurd hj (Nat.not_lt_zero _)⟩ ?_
    rintro xs h4 J1 - ⟨c, rfl, hck, l4, hno⟩ hJ1
    simp only [List.cons_append, List.nil_append]
    have K4 := K3.grow l4
    have r4 := r3.agree (le_agree' l4 r3.live)
    refine h_ite (fun hc => ?_) (fun hc => ?_)
    · replace hc : cmpOp .lss (c : Int) (k : Int) = true := hc
      rw [cmp_lss, decide_eq_true_eq] at hc
      have hcl : c < k := by omega
      have hvn : v < w.near.length := by rw [C.ln]; exact hvN
      obtain ⟨cv, hcv, rcv⟩ := K4.nrC hvn
      refine h_load [V.near] K4.fitN (fun _ => K4.rd (j := 2) rfl) (h_need (needIx (i := v) (v := V.near) rfl rfl K4.nl hvn) ?_)
      simp only [List.cons_append, List.nil_append]
      refine h_load [cv] ⟨hcv.fit, trivial⟩ (fun _ => rcv) ?_
      simp only [List.cons_append, List.nil_append]
      refine h_call0 (sAllS (Tab.le K4.wf.le ht) hcv) ?_
      rintro vl h5 ⟨l5, hall⟩
      have hil := hall.ints.len
      rw [List.length_map] at hil
      have hA := hall.ints
      refine ⟨[vl], ⟨hA.fit, trivial⟩, rfl, ?_⟩
      simp only [List.cons_append, List.nil_append]
      have hlen := allS_le (w.nr v)
      have r5 := r4.agree (le_agree' l5 r4.live)
      have hcadd : intOp .add .i64 (c : Int) 1 = ((c + 1 : Nat) : Int) := int_add_one (n := 1000000) (by omega) (by omega)
      refine h_loop (fun xs h' => ∃ j : Nat, xs = [natV j] ∧ j ≤ (allS (w.nr v)).length ∧ h' = h5 ∧ ∀ i y, i < j → (allS (w.nr v))[i]? = some y → decide (got.getD (w.of y) (-1) = (c : Int)) = false) (fun xs h' => (allS (w.nr v)).length - (vi (gv xs 0)).toNat) ⟨0, rfl, Nat.zero_le _, rfl, fun i y hi => absurd hi (Nat.not_lt_zero _)⟩ ?_
      rintro xs h6 J2 - ⟨j, rfl, hj, rfl, hnn⟩ hJ2
      simp only [List.cons_append, List.nil_append]
      have K6 := K4.grow l5
      refine h_ite (fun hd => ?_) (fun hd => ?_)
      · replace hd : cmpOp .lss (j : Int) ((vlen vl : Nat) : Int) = true := hd
        rw [hil, cmp_lss, decide_eq_true_eq] at hd
        have hjl : j < (allS (w.nr v)).length := by omega
        obtain ⟨x, hx, hxm, hxI⟩ := at_nat hjl
        have hxN := (C.bnd _ _ (mem_allS.1 hxm).2).2
        have hoN := C.of_lt hxN
        refine h_need (needIx (i := j) (v := vl) rfl rfl hil hjl) (h_load [natV x] ⟨⟨_, rfl⟩, trivial⟩ (fun _ => hA.read hxI) ?_)
        simp only [List.cons_append, List.nil_append]
        refine h_call0 (s49 K6 C hxN) ?_
        rintro _ h7 ⟨e7, rfl⟩
        have e7' := e7.symm
        subst e7'
        refine ⟨[natV (w.of x)], ⟨⟨_, rfl⟩, trivial⟩, rfl, ?_⟩
        simp only [List.cons_append, List.nil_append]
        have hgo : got[w.of x]? = some (gt got (w.of x)) := gt_some (by omega)
        refine h_need (needIx (i := w.of x) (v := .slice (some ⟨bg, 0, none⟩) N N) rfl rfl rfl hoN) (h_load [.int .i64 (gt got (w.of x))] ⟨⟨_, rfl⟩, trivial⟩ (fun _ => (rowF_ints r5).read hgo) ?_)
        simp only [List.cons_append, List.nil_append]
        refine h_ite (fun he => ?_) (fun he => ?_)
        · replace he : cmpOp .eql (gt got (w.of x)) (c : Int) = true := he
          rw [cmp_eql, decide_eq_true_eq] at he
          show J1 [.int .i64 (intOp .add .i64 (c : Int) 1)] _
          rw [hcadd]
          refine hJ1 _ _ ⟨c + 1, rfl, by omega, l4.trans l5, none_upto hno (range_at hcl) ?_⟩ (by simp only [gv_zero, vi_int]; omega)
          rw [any_at hx (decide_eq_true he)]; rfl
        · replace he : cmpOp .eql (gt got (w.of x)) (c : Int) = false := he
          rw [cmp_eql, decide_eq_false_iff_not] at he
          show J2 [.int .i64 (intOp .add .i64 (j : Int) 1)] _
          rw [int_add_one (n := 1000000) (by omega) (by omega)]
          exact hJ2 _ _ ⟨j + 1, rfl, by omega, rfl, none_upto hnn hx (decide_eq_false he)⟩ (by simp only [gv_zero, vi_int]; omega)
      · replace hd : cmpOp .lss (j : Int) ((vlen vl : Nat) : Int) = false := hd
        rw [hil, cmp_lss, decide_eq_false_iff_not] at hd
        obtain rfl : j = (allS (w.nr v)).length := by omega
        have hpc : w.pickC k got v = some c := by
          unfold CW.pickC
          refine find_at (range_at hcl) ?_ hno
          rw [any_none hnn]; rfl
        obtain ⟨u1, u2, u3⟩ := rowF_setI (x := (c : Int)) (i := v) r5 (by omega)
        refine h_need (needIx (i := v) (v := .slice (some ⟨bg, 0, none⟩) N N) rfl rfl rfl hvN) (h_store ((vaddr (.slice (some ⟨bg, 0, none⟩) N N)).add v) [natV c] (by show (vaddr (.slice (some ⟨bg, 0, none⟩) N N)).add (v * 1) = _; rw [Nat.mul_one]) rfl u1 ?_)
        exact again (by rw [pick1_some hpc]; exact u2) (K6.kept u3 hgF hbF) (u3.le (l3.trans (l4.trans l5)) hhF)
    · replace hc : cmpOp .lss (c : Int) (k : Int) = false := hc
      rw [cmp_lss, decide_eq_false_iff_not] at hc
      obtain rfl : c = k := by omega
      have hpc : w.pickC c got v = none := by
        unfold CW.pickC
        exact find_no fun j y hj hy => hno j y (by simpa using hj) hy
      exact again (by rw [pick1_none hpc]; exact r4) K4 (l3.trans l4)
  · replace hc : cmpOp .geq ((Sv : Int) - 1 - t) 0 = false := hc
    rw [cmp_geq, decide_eq_false_iff_not] at hc
    obtain rfl : t = Sv := by omega
    have hpk : (w.stack.reverse.take t).foldl (w.pick1 k) (List.replicate N (-1)) = w.pick k := by
      rw [List.take_of_length_le (by rw [List.length_reverse]; omega)]
      unfold CW.pick; rw [C.len]
    rw [hpk] at r3
    have hgl : (w.pick k).length = N := by rw [← hpk]; exact hpl _ _ (by simp)
    refine ⟨?_, ?_, fun bo hbo => ?_⟩
    · show (0 : Int) ≤ ((vlen (.slice (some ⟨bg, 0, none⟩) N N) : Nat) : Int); omega
    · show ((vlen (.slice (some ⟨bg, 0, none⟩) N N) : Nat) : Int) * 8 ≤ _
      simp only [vlen_sl]; omega
    have hvi2 : ∀ z : Int, (vi ((X.len 2).den [pW bw, V.st, .slice (some ⟨bg, 0, none⟩) N N, natV N, V.stack, .int .i64 z])).toNat = N := fun z => by show (((vlen (.slice (some ⟨bg, 0, none⟩) N N) : Nat) : Int)).toNat = _; simp
    rw [hvi2]
    have k0 := mk_ints (h := h3) (b := bo) (n := N)
    have l4 : h3.le (h3.put bo (.cells (repZ ((zeroCells Tryd.prog 3).getD []) N).toArray 3 (0, 0))) := H.le_put hbo
    generalize h3.put bo (.cells (repZ ((zeroCells Tryd.prog 3).getD []) N).toArray 3 (0, 0)) = h4 at k0 l4
    simp only [List.cons_append, List.nil_append]
    have hbF2 : ∀ i, ∀ b ∈ F i, b ∉ [bo] := fun i b hb q => by
      rw [List.mem_singleton] at q
      have := K3.wf.lv i b hb
      rw [q, hbo] at this; cases this
    have hgF2 : Fresh g [bo] := fun b q => by rw [List.mem_singleton] at q; rw [q]; exact H.le_none K3.wf.le hbo
    have hhF2 : Fresh h [bo] := fun b q => by rw [List.mem_singleton] at q; rw [q]; exact H.le_none l3 hbo
    have hne : bg ≠ bo := fun e => by
      have := r3.live bg (by simp)
      rw [e, hbo] at this; cases this
    have r4 := r3.agree (le_agree' l4 r3.live)
    have hout : ∀ u, u < N → (w.out k)[u]? = some (gt (w.pick k) (w.of u)) := fun u hu => by
      unfold CW.out
      rw [List.getElem?_map, C.len, List.getElem?_range hu]; rfl
    refine h_loop (fun xs h' => ∃ (i : Nat) (l : List Int), xs = [natV i] ∧ i ≤ N ∧ RowF h' 3 1 (.slice (some ⟨bo, 0, none⟩) N N) (l.map (.int .i64)) [bo] ∧ l.length = N ∧ (∀ j, j < i → l[j]? = (w.out k)[j]?) ∧ WO g h' bw k fv firm w V F ∧ h.le h' ∧ RowF h' 3 1 (.slice (some ⟨bg, 0, none⟩) N N) ((w.pick k).map (.int .i64)) [bg]) (fun xs h' => N - (vi (gv xs 0)).toNat) ⟨0, _, rfl, Nat.zero_le _, k0, by simp, (fun j hj => absurd hj (Nat.not_lt_zero _)), K3.grow l4, l3.trans l4, r4⟩ ?_
    rintro xs h5 J5 - ⟨i, l, rfl, hiN, q1, q2, q3, K5, l5, r5⟩ hJ5
    simp only [List.cons_append, List.nil_append]
    refine h_ite (fun hd => ?_) (fun hd => ?_)
    · replace hd : cmpOp .lss (i : Int) (N : Int) = true := hd
      rw [cmp_lss, decide_eq_true_eq] at hd
      have hi : i < N := by omega
      have hoN := C.of_lt hi
      refine h_call0 (s49 K5 C hi) ?_
      rintro _ h7 ⟨e7, rfl⟩
      have e7' := e7.symm
      subst e7'
      refine ⟨[natV (w.of i)], ⟨⟨_, rfl⟩, trivial⟩, rfl, ?_⟩
      simp only [List.cons_append, List.nil_append]
      have hgo : (w.pick k)[w.of i]? = some (gt (w.pick k) (w.of i)) := gt_some (by omega)
      refine h_need (needIx (i := w.of i) (v := .slice (some ⟨bg, 0, none⟩) N N) rfl rfl rfl hoN) (h_load [.int .i64 (gt (w.pick k) (w.of i))] ⟨⟨_, rfl⟩, trivial⟩ (fun _ => (rowF_ints r5).read hgo) ?_)
      simp only [List.cons_append, List.nil_append]
      obtain ⟨u1, u2, u3⟩ := rowF_setI (x := gt (w.pick k) (w.of i)) (i := i) q1 (by omega)
      refine h_need (needIx (i := i) (v := .slice (some ⟨bo, 0, none⟩) N N) rfl rfl rfl hi) (h_store ((vaddr (.slice (some ⟨bo, 0, none⟩) N N)).add i) [.int .i64 (gt (w.pick k) (w.of i))] (by show (vaddr (.slice (some ⟨bo, 0, none⟩) N N)).add (i * 1) = _; rw [Nat.mul_one]) rfl u1 ?_)
      show J5 [.int .i64 (intOp .add .i64 (i : Int) 1)] _
      rw [int_add_one (n := 1000000) (by omega) (by omega)]
      refine hJ5 _ _ ⟨i + 1, l.set i (gt (w.pick k) (w.of i)), rfl, by omega, u2, by rw [List.length_set]; exact q2, fun j hj => ?_, K5.kept u3 hgF2 hbF2, u3.le l5 hhF2, r5.agree (u3.agree r5.live fun b hb hb' => by
        rw [List.mem_singleton] at hb hb'
        exact hne (hb.symm.trans hb'))⟩ (by simp only [gv_zero, vi_int]; omega)
      rw [List.getElem?_set]
      by_cases e : i = j
      · rw [if_pos e, if_pos (by omega), ← e, hout i hi]
      · rw [if_neg e]; exact q3 j (by omega)
    · replace hd : cmpOp .lss (i : Int) (N : Int) = false := hd
      rw [cmp_lss, decide_eq_false_iff_not] at hd
      have hiN' : i = N := by omega
      rw [hiN'] at q3
      obtain rfl : l = w.out k := by
        apply List.ext_getElem?
        intro j
        by_cases hj : j < N
        · exact q3 j hj
        · rw [List.getElem?_eq_none (by omega), List.getElem?_eq_none (by unfold CW.out; rw [List.length_map, List.length_range, C.len]; omega)]
      exact ⟨rfl, l5, [bo], q1, hhF2⟩
end
end Go.Proofs.YtbgfabppmobpgaaDoor
