/-
  How the laws of colouring begin: firm vregs, degrees, how many are left out, edges alike, the fixed facts. Conditions: as each contract says.
-/
import Derived.Test.YtbgfabppmobpgaaDoorR6Co
set_option linter.unusedVariables false
set_option linter.unusedSimpArgs false
namespace Go.Proofs.YtbgfabppmobpgaaDoor
open Go

def firmB (bits : Int) (i : Nat) : Bool := cmpOp .eql (intOp .and .u16 (intOp .shr .u16 bits (intOp .rem .i64 (i : Int) 16)) 1) 1
def firmL (n : Nat) (bits : Int) : List Bool := (List.range n).map (firmB bits)
theorem firmL_len (n : Nat) (bits : Int) : (firmL n bits).length = n := by simp [firmL]
theorem firmL_at {n : Nat} {bits : Int} {i : Nat} (hi : i < n) : (firmL n bits)[i]? = some (firmB bits i) := by unfold firmL; rw [List.getElem?_map, List.getElem?_range hi]; rfl
section
variable {h : H} {ve vm v u : Value} {g : Gr}
theorem rowF_setB {h : H} {v : Value} {l : List Bool} {fp : List Nat} {i : Nat} {x : Bool} (k : RowF h 4 1 v (l.map .bool) fp) (hi : i < l.length) :
    Writable h ((vaddr v).add i) 1 ∧ RowF (h.sets ((vaddr v).add i) [.bool x]) 4 1 v ((l.set i x).map .bool) fp ∧ KeptH h (h.sets ((vaddr v).add i) [.bool x]) fp := by
  have := rowF_set (x := .bool x) (i := i) k (by rw [List.length_map]; exact hi)
  rw [← List.map_set] at this; exact this
theorem s21 {n : Nat} {bits : Int} (hn : n ≤ 100000) :
    CallsA Tryd.prog 21 (fun _ => [.int .i64 (n : Int), .int .u16 bits]) [] h (Ret fun r h' => h.le h' ∧ BoolsAt h' r (firmL n bits)) := by
  refine c21 (G := [.int .i64 (n : Int), .int .u16 bits]) ⟨⟨_, rfl⟩, ⟨_, rfl⟩, trivial⟩ ?_
  refine ⟨by show (0 : Int) ≤ (n : Int); omega, by show (n : Int) * 1 ≤ _; omega, fun b hb => ?_⟩
  have k0 := mk_bools (h := h) (b := b) (n := n) hb
  have l0 : h.le (h.put b (.cells (repZ ((zeroCells Tryd.prog 4).getD []) n).toArray 4 (0, 0))) := H.le_put hb
  show holds _ _ _ [.int .i64 (n : Int), .int .u16 bits, .slice (some ⟨b, 0, none⟩) n n] [] (h.put b (.cells (repZ ((zeroCells Tryd.prog 4).getD []) n).toArray 4 (0, 0)))
  generalize h.put b (.cells (repZ ((zeroCells Tryd.prog 4).getD []) n).toArray 4 (0, 0)) = h0 at k0 l0
  have hfb : Fresh h [b] := fun x hx => by rw [List.mem_singleton] at hx; rw [hx]; exact hb
  refine h_loop (fun xs h' => ∃ (i : Nat) (l : List Bool), xs = [natV i] ∧ i ≤ n ∧ RowF h' 4 1 (.slice (some ⟨b, 0, none⟩) n n) (l.map .bool) [b] ∧ l.length = n ∧ (∀ j, j < i → l[j]? = some (firmB bits j)) ∧ h.le h') (fun xs h' => n - (vi (gv xs 0)).toNat) ⟨0, _, rfl, Nat.zero_le _, k0, by simp, (fun j hj => absurd hj (Nat.not_lt_zero _)), l0⟩ ?_
  rintro xs h1 J - ⟨i, l, rfl, hi, q1, q2, q3, l1⟩ hJ
  simp only [List.cons_append, List.nil_append]
  refine h_ite (fun hd => ?_) (fun hd => ?_)
  · replace hd : cmpOp .lss (i : Int) (n : Int) = true := hd
    rw [cmp_lss, decide_eq_true_eq] at hd
    have hin : i < n := by omega
    obtain ⟨u1, u2, u3⟩ := rowF_setB (x := firmB bits i) (i := i) q1 (by omega)
    refine h_need ⟨?_, trivial⟩ (h_need (needIx (i := i) (v := .slice (some ⟨b, 0, none⟩) n n) rfl rfl rfl hin) (h_store ((vaddr (.slice (some ⟨b, 0, none⟩) n n)).add i) [.bool (firmB bits i)] (by show (vaddr (.slice (some ⟨b, 0, none⟩) n n)).add (i * 1) = _; rw [Nat.mul_one]) rfl u1 ?_))
    · show cmpOp .geq (intOp .rem .i64 (i : Int) 16) 0 = true
      have : intOp .rem .i64 (i : Int) 16 = (i : Int) % 16 := by simp only [intOp]; rw [Int.tmod_eq_emod_of_nonneg (by omega)]
      rw [this, cmp_geq, decide_eq_true_eq]; omega
    show J [.int .i64 (intOp .add .i64 (i : Int) 1)] _
    rw [int_add_one (n := 1000000) (by omega) (by omega)]
    refine hJ _ _ ⟨i + 1, l.set i (firmB bits i), rfl, by omega, u2, by rw [List.length_set]; exact q2, fun j hj => ?_, u3.le l1 hfb⟩ (by simp only [gv_zero, vi_int]; omega)
    rw [List.getElem?_set]
    by_cases e : i = j
    · rw [if_pos e, if_pos (by omega), e]
    · rw [if_neg e]; exact q3 j (by omega)
  · replace hd : cmpOp .lss (i : Int) (n : Int) = false := hd
    rw [cmp_lss, decide_eq_false_iff_not] at hd
    have hin : i = n := by omega
    rw [hin] at q3
    obtain rfl : l = firmL n bits := by
      apply List.ext_getElem?
      intro j
      by_cases hj : j < n
      · rw [q3 j hj, firmL_at hj]
      · rw [List.getElem?_eq_none (by omega), List.getElem?_eq_none (by rw [firmL_len]; omega)]
    exact ⟨rfl, l1, rowF_bools q1⟩
theorem s22 {E : List (Nat × Nat)} {n : Int} {x : Nat} (hv : EdgesAt h ve (edI E)) (hm : Fits .sl vm) (hl : E.length ≤ 1000000) :
    CallsA Tryd.prog 22 (fun _ => [.agg #[.int .i64 n, ve, vm], .int .i64 (x : Int)]) [] h (Ret fun r h' => h' = h ∧ r = natV (degE E x)) := by
  refine c22 (G := [.int .i64 n, ve, vm, .int .i64 (x : Int)]) ⟨⟨_, rfl⟩, hv.fit, hm, ⟨_, rfl⟩, trivial⟩ ?_
  have hvl := hv.len
  rw [edI_len] at hvl
  refine h_loop (fun xs h' => ∃ i : Nat, xs = [natV (degE (E.take i) x), natV i] ∧ i ≤ E.length ∧ h' = h) (fun xs h' => E.length - (vi (gv xs 1)).toNat) ⟨0, rfl, Nat.zero_le _, rfl⟩ ?_
  rintro xs h1 J - ⟨i, rfl, hi, e⟩ hJ
  have e' := e.symm
  subst e'
  simp only [List.cons_append, List.nil_append]
  refine h_ite (fun hd => ?_) (fun hd => ?_)
  · replace hd : cmpOp .lss (i : Int) ((vlen ve : Nat) : Int) = true := hd
    rw [hvl, cmp_lss, decide_eq_true_eq] at hd
    have hil : i < E.length := by omega
    have hy : E[i]? = some E[i] := List.getElem?_eq_getElem hil
    generalize E[i] = y at hy
    have hyI : (edI E)[i]? = some ((y.1 : Int), (y.2 : Int)) := by unfold edI; rw [List.getElem?_map, hy]; rfl
    refine h_need (needIx (i := i) (v := ve) rfl rfl hvl hil) (h_load [natV y.1] ⟨⟨_, rfl⟩, trivial⟩ (fun _ => hv.readA hyI) (h_need (needIx (i := i) (v := ve) rfl rfl hvl hil) (h_load [natV y.2] ⟨⟨_, rfl⟩, trivial⟩ (fun _ => hv.readB hyI) ?_)))
    obtain ⟨c, hc⟩ : ∃ c, c = degE (E.take i) x := ⟨_, rfl⟩
    have hcl : c ≤ 1000000 := by
      rw [hc]; unfold degE
      have := List.length_filter_le (fun e : Nat × Nat => decide (e.1 = x) || decide (e.2 = x)) (E.take i)
      rw [List.length_take] at this; omega
    have hs : degE (E.take (i + 1)) x = c + if (decide (y.1 = x) || decide (y.2 = x)) = true then 1 else 0 := by
      rw [hc]; unfold degE
      exact filter_snoc (p := fun e : Nat × Nat => decide (e.1 = x) || decide (e.2 = x)) hy
    rw [← hc]
    show J [.int .i64 (vi (if vb (if cmpOp .eql (y.1 : Int) (x : Int) = true then Value.bool true else .bool (cmpOp .eql (y.2 : Int) (x : Int))) = true then Value.int .i64 (intOp .add .i64 (c : Int) 1) else .int .i64 (c : Int))), .int .i64 (intOp .add .i64 (i : Int) 1)] _
    rw [int_add_one (n := 2000000) (by omega) (by omega), int_add_one (n := 2000000) (by omega) (by omega), cmp_eql, cmp_eql]
    refine hJ _ _ ⟨i + 1, ?_, by omega, rfl⟩ (by simp only [gv_zero, gv_succ, vi_int]; omega)
    rw [hs]
    have d1 : decide ((y.1 : Int) = (x : Int)) = decide (y.1 = x) := decide_eq_decide.2 (by omega)
    have d2 : decide ((y.2 : Int) = (x : Int)) = decide (y.2 = x) := decide_eq_decide.2 (by omega)
    rw [d1, d2]
    cases decide (y.1 = x) <;> cases decide (y.2 = x) <;> rfl
  · replace hd : cmpOp .lss (i : Int) ((vlen ve : Nat) : Int) = false := hd
    rw [hvl, cmp_lss, decide_eq_false_iff_not] at hd
    have hiE : i = E.length := by omega
    refine ⟨rfl, rfl, ?_⟩
    show natV (degE (E.take i) x) = _
    rw [hiE, List.take_length]
def outL (l : List Int) : Nat := (l.filter fun x => decide (x < 0)).length
theorem s23 {l : List Int} (hv : IntsAt h v l) (hl : l.length ≤ 1000000) :
    CallsA Tryd.prog 23 (fun _ => [v]) [] h (Ret fun r h' => h' = h ∧ r = natV (outL l)) := by
  refine c23 (G := [v]) ⟨hv.fit, trivial⟩ ?_
  have hvl := hv.len
  refine h_loop (fun xs h' => ∃ i : Nat, xs = [natV (outL (l.take i)), natV i] ∧ i ≤ l.length ∧ h' = h) (fun xs h' => l.length - (vi (gv xs 1)).toNat) ⟨0, rfl, Nat.zero_le _, rfl⟩ ?_
  rintro xs h1 J - ⟨i, rfl, hi, e⟩ hJ
  have e' := e.symm
  subst e'
  simp only [List.cons_append, List.nil_append]
  refine h_ite (fun hd => ?_) (fun hd => ?_)
  · replace hd : cmpOp .lss (i : Int) ((vlen v : Nat) : Int) = true := hd
    rw [hvl, cmp_lss, decide_eq_true_eq] at hd
    have hil : i < l.length := by omega
    have hy : l[i]? = some l[i] := List.getElem?_eq_getElem hil
    generalize l[i] = y at hy
    refine h_need (needIx (i := i) (v := v) rfl rfl hvl hil) (h_load [.int .i64 y] ⟨⟨_, rfl⟩, trivial⟩ (fun _ => hv.read hy) ?_)
    obtain ⟨c, hc⟩ : ∃ c, c = outL (l.take i) := ⟨_, rfl⟩
    have hcl : c ≤ 1000000 := by
      rw [hc]; unfold outL
      have := List.length_filter_le (fun x : Int => decide (x < 0)) (l.take i)
      rw [List.length_take] at this; omega
    have hs : outL (l.take (i + 1)) = c + if (decide (y < 0)) = true then 1 else 0 := by
      rw [hc]; unfold outL
      exact filter_snoc (p := fun x : Int => decide (x < 0)) hy
    rw [← hc]
    show J [.int .i64 (vi (if cmpOp .lss y 0 = true then Value.int .i64 (intOp .add .i64 (c : Int) 1) else .int .i64 (c : Int))), .int .i64 (intOp .add .i64 (i : Int) 1)] _
    rw [int_add_one (n := 2000000) (by omega) (by omega), int_add_one (n := 2000000) (by omega) (by omega), cmp_lss]
    refine hJ _ _ ⟨i + 1, ?_, by omega, rfl⟩ (by simp only [gv_zero, gv_succ, vi_int]; omega)
    rw [hs]
    cases decide (y < 0) <;> rfl
  · replace hd : cmpOp .lss (i : Int) ((vlen v : Nat) : Int) = false := hd
    rw [hvl, cmp_lss, decide_eq_false_iff_not] at hd
    have hiE : i = l.length := by omega
    refine ⟨rfl, rfl, ?_⟩
    show natV (outL (l.take i)) = _
    rw [hiE, List.take_length]
theorem s24 {E : EdgeL} (hu : EdgesAt h u E) (hv : EdgesAt h v E) (hl : E.length ≤ 1000000) :
    CallsA Tryd.prog 24 (fun _ => [u, v]) [] h (Ret fun r h' => h' = h ∧ r = .bool true) := by
  refine c24 (G := [u, v]) ⟨hu.fit, hv.fit, trivial⟩ ?_
  have hul := hu.len
  have hvl := hv.len
  refine h_ite (fun hc => ?_) (fun _ => ?_)
  · replace hc : cmpOp .neq ((vlen u : Nat) : Int) ((vlen v : Nat) : Int) = true := hc
    rw [hul, hvl, cmp_neq] at hc
    simp at hc
  refine h_range (n := E.length) (fun i h' => h' = h) hul (by omega) rfl (by omega) rfl ?_ ?_
  · rintro i h1 J hi e hJ
    have e' := e.symm
    subst e'
    have hy : E[i]? = some E[i] := List.getElem?_eq_getElem hi
    generalize E[i] = y at hy
    refine h_load [.int .i64 y.1, .int .i64 y.2] ⟨⟨_, rfl⟩, ⟨_, rfl⟩, trivial⟩ (fun _ => hu.read hy) (h_need (needIx (i := i) (v := v) rfl rfl hvl hi) (h_load [.int .i64 y.1, .int .i64 y.2] ⟨⟨_, rfl⟩, ⟨_, rfl⟩, trivial⟩ (fun _ => hv.read hy) (h_ite (fun hc => ?_) (fun _ => hJ _ rfl))))
    exfalso
    simp only [holds, X.den, PE.den, SV.den, SV.denL, NK.val, NK.sv, NK.pub, gv_zero, gv_succ, vi_int, vb_bool, vlen_sl, vaddr_ptr, vb_ite, vi_ite, cmp_eql, cmp_neq, cmp_lss, cmp_leq, cmp_gtr, cmp_geq, List.map_nil, List.map_cons, List.cons_append, List.nil_append, List.flatten_nil, needs, Ret, true_and, and_true, decide_eq_true_eq, forall_const, intOp] at hc
    simp at hc
  · rintro h1 J e
    exact ⟨rfl, e, rfl⟩
end
/-! ### What Colour's end says -/
section
variable {g : Gr} {k : Nat} {firm : List Bool} {w : CW}
theorem CEnd.col (hg : g.ok = true) (E : CEnd g k firm w) : Coloured g.n.toNat k (edN g.e) (edN g.m) (w.out k) := coloured (beg0 hg) E.stps E.left
theorem mem_edN {E : EdgeL} {u v : Nat} (h : ((u : Int), (v : Int)) ∈ E) : (u, v) ∈ edN E := by
  unfold edN
  exact List.mem_map.2 ⟨_, h, by simp⟩
theorem CEnd.okTo (hg : g.ok = true) (E : CEnd g k firm w) : OkTo g.e k g.n.toNat (gt (w.out k)) := by
  have C := E.col hg
  refine ⟨C.rng, fun u v huv hv ha h0 => ?_⟩
  rcases ha with ha | ha
  · exact C.ok _ (mem_edN ha) h0
  · have := C.ok _ (mem_edN ha)
    intro e
    exact this (by show 0 ≤ gt (w.out k) v; rw [← e]; exact h0) e.symm
theorem outL_none {l : List Int} (h : ∀ v, v < l.length → 0 ≤ gt l v) : outL l = 0 := by
  unfold outL
  rw [List.length_eq_zero_iff, List.filter_eq_nil_iff]
  intro x hx
  obtain ⟨j, hj, e⟩ := List.getElem_of_mem hx
  have := h j hj
  unfold gt at this
  rw [List.getD_eq_getElem?_getD, List.getElem?_eq_getElem hj, e] at this
  simp at this ⊢; omega
theorem outL_some {l : List Int} {v : Nat} (hv : v < l.length) (h : gt l v < 0) : 1 ≤ outL l := by
  unfold outL
  have : l[v]? = some (gt l v) := gt_some hv
  exact List.length_pos_iff.2 (List.ne_nil_of_mem (List.mem_filter.2 ⟨List.mem_of_getElem? this, by simpa using h⟩))
end
section
variable {h : H} {ve vm fv : Value} {g : Gr} {firm : List Bool} {k : Int}
/-- Colour, of a right graph. -/
theorem col_ok (ht : Tab h) (K : GrAt h ve vm g) (hf : BoolsAt h fv firm) (hg : g.ok = true) (hl : firm.length = g.n.toNat) (h1 : 1 ≤ k) (h8 : k ≤ 8) :
    CallsA Tryd.prog 20 (fun _ => [grV g ve vm, .int .i64 k, fv]) [] h (Ret fun r h' => h.le h' ∧ ∃ v w, r = .tuple #[v, .int .i64 0] ∧ IntsAt h' v (w.out k.toNat) ∧ (w.out k.toNat).length = g.n.toNat ∧ CEnd g k.toNat firm w) := by
  refine (s20 (k := k) ht K hf).mono ?_
  rintro r cs h' ⟨rfl, l, q⟩
  have g1 := (Gr.ok_parts hg).1
  unfold ColR at q
  rw [hg, if_neg (by simp; omega), if_neg (by omega)] at q
  obtain ⟨v, f, w, rfl, k1, -, E⟩ := q
  exact ⟨rfl, l, v, w, rfl, rowF_ints k1, (E.col hg).len, E⟩
theorem s19 (ht : Tab h) : CallsA Tryd.prog 19 (fun _ => []) [] h (Ret fun r h' => h.le h' ∧ r = .bool true) := by
  refine c19 (G := []) trivial ?_
  intro b1 hb1
  have l1 : h.le (h.put b1 (.cells (edC triE).toArray 41 (0, 0))) := H.le_put hb1
  have k1 := edges_row (h := h) (b := b1) (E := triE) (n := 3) rfl
  show holds _ _ _ [.slice (some ⟨b1, 0, none⟩) 3 3] _ (h.put b1 (.cells (edC triE).toArray 41 (0, 0)))
  generalize h.put b1 (.cells (edC triE).toArray 41 (0, 0)) = h1 at l1 k1
  generalize Value.slice (some ⟨b1, 0, none⟩) 3 3 = u at k1
  refine ⟨by show (0 : Int) ≤ 3; omega, by show (3 : Int) * 1 ≤ _; omega, fun b2 hb2 => ?_⟩
  have k2 := rowF_bools (mk_bools (h := h1) (b := b2) (n := 3) hb2)
  have l2 : h1.le (h1.put b2 (.cells (repZ ((zeroCells Tryd.prog 4).getD []) 3).toArray 4 (0, 0))) := H.le_put hb2
  show holds _ _ _ [u, .slice (some ⟨b2, 0, none⟩) 3 3] _ (h1.put b2 (.cells (repZ ((zeroCells Tryd.prog 4).getD []) 3).toArray 4 (0, 0)))
  generalize h1.put b2 (.cells (repZ ((zeroCells Tryd.prog 4).getD []) 3).toArray 4 (0, 0)) = h2 at l2 k2
  generalize Value.slice (some ⟨b2, 0, none⟩) 3 3 = f1 at k2
  have K : GrAt h2 u (.slice none 0 0) ⟨3, edI triE, []⟩ := ⟨EdgesAt.le l2 k1, SlAt.nil, by decide, by decide⟩
  have hB : CallsA Tryd.prog 20 (fun _ => [.agg #[.int .i64 3, u, .slice none 0 0], .int .i64 2, f1]) [] h2 (Ret fun r h' => h2.le h' ∧ ∃ v w, r = .tuple #[v, .int .i64 0] ∧ IntsAt h' v (w.out 2) ∧ (w.out 2).length = 3 ∧ CEnd ⟨3, edI triE, []⟩ 2 (List.replicate 3 false) w) :=
    col_ok (g := ⟨3, edI triE, []⟩) (k := 2) (firm := List.replicate 3 false) (ht.le (l1.trans l2)) K k2 tri_ok rfl (by decide) (by decide)
  refine h_call0 hB ?_
  clear hB
  rintro _ h3 ⟨l3, va, wa, rfl, ia, la, Ea⟩
  refine ⟨[va, .int .i64 0], ⟨ia.fit, ⟨_, rfl⟩, trivial⟩, rfl, ?_⟩
  simp only [List.cons_append, List.nil_append]
  refine ⟨by show (0 : Int) ≤ 3; omega, by show (3 : Int) * 1 ≤ _; omega, fun b4 hb4 => ?_⟩
  have k4 := rowF_bools (mk_bools (h := h3) (b := b4) (n := 3) hb4)
  have l4 : h3.le (h3.put b4 (.cells (repZ ((zeroCells Tryd.prog 4).getD []) 3).toArray 4 (0, 0))) := H.le_put hb4
  show holds _ _ _ [u, f1, va, .int .i64 0, .slice (some ⟨b4, 0, none⟩) 3 3] _ (h3.put b4 (.cells (repZ ((zeroCells Tryd.prog 4).getD []) 3).toArray 4 (0, 0)))
  generalize h3.put b4 (.cells (repZ ((zeroCells Tryd.prog 4).getD []) 3).toArray 4 (0, 0)) = h4 at l4 k4
  generalize Value.slice (some ⟨b4, 0, none⟩) 3 3 = f2 at k4
  have K4 := K.le (l3.trans l4)
  have hB : CallsA Tryd.prog 20 (fun _ => [.agg #[.int .i64 3, u, .slice none 0 0], .int .i64 3, f2]) [] h4 (Ret fun r h' => h4.le h' ∧ ∃ v w, r = .tuple #[v, .int .i64 0] ∧ IntsAt h' v (w.out 3) ∧ (w.out 3).length = 3 ∧ CEnd ⟨3, edI triE, []⟩ 3 (List.replicate 3 false) w) :=
    col_ok (g := ⟨3, edI triE, []⟩) (k := 3) (firm := List.replicate 3 false) (ht.le (l1.trans (l2.trans (l3.trans l4)))) K4 k4 tri_ok rfl (by decide) (by decide)
  refine h_call0 hB ?_
  clear hB
  rintro _ h5 ⟨l5, vb', wb, rfl, ib, lb, Eb⟩
  refine ⟨[vb', .int .i64 0], ⟨ib.fit, ⟨_, rfl⟩, trivial⟩, rfl, iteT rfl ?_⟩
  simp only [List.cons_append, List.nil_append]
  have ia5 := ia.le (l4.trans l5)
  have Ca := Ea.col tri_ok
  have Cb := Eb.col tri_ok
  refine h_call0 (s23 ia5 (by omega)) ?_
  rintro _ h6 ⟨e6, rfl⟩
  have e6' := e6.symm
  subst e6'
  have hoa : 1 ≤ outL (wa.out 2) := by
    have hex : ∃ v, v < 3 ∧ gt (wa.out 2) v < 0 := by
      by_cases q : ∃ v, v < 3 ∧ gt (wa.out 2) v < 0
      · exact q
      · exfalso
        have hnn : ∀ v, v < 3 → 0 ≤ gt (wa.out 2) v := fun v hv => Int.not_lt.1 fun h => q ⟨v, hv, h⟩
        have a0 := hnn 0 (by omega)
        have a1 := hnn 1 (by omega)
        have a2 := hnn 2 (by omega)
        have b0 := (Ca.rng 0 (by decide)).2
        have b1 := (Ca.rng 1 (by decide)).2
        have b2 := (Ca.rng 2 (by decide)).2
        have c01 := Ca.ok (0, 1) (by decide) a0
        have c02 := Ca.ok (0, 2) (by decide) a0
        have c12 := Ca.ok (1, 2) (by decide) a1
        simp only at c01 c02 c12
        omega
    obtain ⟨v, hv, hn⟩ := hex
    exact outL_some (by omega) hn
  have hob : outL (wb.out 3) = 0 := outL_none fun v hv => Cb.all (fun v hv => by
    have hv3 : v < 3 := hv
    have : v = 0 ∨ v = 1 ∨ v = 2 := by omega
    rcases this with rfl | rfl | rfl <;> decide) v (by show v < 3; omega)
  refine ⟨[natV (outL (wa.out 2))], ⟨⟨_, rfl⟩, trivial⟩, rfl, iteT (by show cmpOp .geq ((outL (wa.out 2) : Nat) : Int) 1 = true; rw [cmp_geq, decide_eq_true_eq]; omega) ?_⟩
  simp only [List.cons_append, List.nil_append]
  refine h_call0 (s23 ib (by omega)) ?_
  rintro _ h6 ⟨e6, rfl⟩
  have e6' := e6.symm
  subst e6'
  refine ⟨[natV (outL (wb.out 3))], ⟨⟨_, rfl⟩, trivial⟩, rfl, iteT (by show cmpOp .eql ((outL (wb.out 3) : Nat) : Int) 0 = true; rw [hob]; rfl) ?_⟩
  simp only [List.cons_append, List.nil_append]
  have K5 := K4.le l5
  have hF : CallsA Tryd.prog 15 (fun _ => [.agg #[.int .i64 3, u, .slice none 0 0], .int .i64 2, va]) [] h5 (Ret fun r h' => h' = h5 ∧ r = .bool true) :=
    s15 (g := ⟨3, edI triE, []⟩) (k := 2) K5 tri_ok ia5 la (Ea.okTo tri_ok)
  refine h_call0 hF ?_
  clear hF
  rintro _ h6 ⟨e6, rfl⟩
  have e6' := e6.symm
  subst e6'
  refine ⟨[.bool true], ⟨⟨_, rfl⟩, trivial⟩, rfl, iteT rfl ?_⟩
  simp only [List.cons_append, List.nil_append]
  have hF : CallsA Tryd.prog 15 (fun _ => [.agg #[.int .i64 3, u, .slice none 0 0], .int .i64 3, vb']) [] h5 (Ret fun r h' => h' = h5 ∧ r = .bool true) :=
    s15 (g := ⟨3, edI triE, []⟩) (k := 3) K5 tri_ok ib lb (Eb.okTo tri_ok)
  refine h_call0 hF ?_
  clear hF
  rintro _ h6 ⟨e6, rfl⟩
  refine ⟨[.bool true], ⟨⟨_, rfl⟩, trivial⟩, rfl, rfl, by rw [e6]; exact l1.trans (l2.trans (l3.trans (l4.trans l5))), rfl⟩
end
end Go.Proofs.YtbgfabppmobpgaaDoor
