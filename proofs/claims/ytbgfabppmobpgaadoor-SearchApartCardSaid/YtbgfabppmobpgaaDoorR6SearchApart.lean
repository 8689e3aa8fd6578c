/-
  The law SearchApart answers true. Conditions: none.
-/
import Derived.Test.YtbgfabppmobpgaaDoorR6L
import Derived.Test.YtbgfabppmobpgaaDoorR6Tl
import Derived.Test.YtbgfabppmobpgaaDoorR6Lay
set_option linter.unusedVariables false
set_option linter.unusedSimpArgs false
namespace Go.Proofs.YtbgfabppmobpgaaDoor
open Go Go.ChangeShapes Go.WideShapes Go.ChangeAt Go.RowKit

def apT : Out :=
(.app 41 2 16 (.val 13) (.sl (.val 8))
(.loop 0 [(.int .i64 (.lit 0)), (.val 14)] [.int .i64, .sl]
(.ite (.cmp .lss (.var 15) (.len 11))
(.need (.tt true) [(.cmp .geq (.var 15) (.lit 0)), (.cmp .lss (.var 15) (.len 11))]
(.load (.tt true) (.idx (.var 11) (.var 15) 2) [.int .i64, .int .i64]
(.app 41 2 16 (.val 16) (.cells [(.int .i64 (.op .add .i64 (.var 7) (.var 17))), (.int .i64 (.op .add .i64 (.var 7) (.var 18)))] 1)
(.again 0 [(.int .i64 (.op .add .i64 (.var 15) (.lit 1))), (.val 19)]))))
(.call 13 [(.int .i64 (.op .add .i64 (.var 7) (.var 10))), (.val 5)] [] [] [] [(false, [.sl])]
(.need (.tt true) [(.cmp .geq (.var 7) (.lit 0)), (.cmp .leq (.var 7) (.cap 17))]
(.bnd (.slice (.val 17) none (some (.var 7)) 1)
(.call 14 [(.agg [(.int .i64 (.var 7)), (.val 8), (.val 9)]), (.int .i64 (.op .add .i64 (.lit 1) (.conv .i64 (.op .rem .u8 (.var 4) (.lit 4))))), (.val 18)] [] [] [] [(false, [.sl]), (false, [.int .i64]), (false, [.int .i64])]
(.need (.tt true) [(.cmp .geq (.var 7) (.lit 0)), (.cmp .leq (.var 7) (.len 17))]
(.bnd (.slice (.val 17) (some (.var 7)) none 1)
(.call 14 [(.agg [(.int .i64 (.var 10)), (.val 11), (.val 12)]), (.int .i64 (.op .add .i64 (.lit 1) (.conv .i64 (.op .rem .u8 (.var 4) (.lit 4))))), (.val 22)] [] [] [] [(false, [.sl]), (false, [.int .i64]), (false, [.int .i64])]
(.call 14 [(.agg [(.int .i64 (.op .add .i64 (.var 7) (.var 10))), (.val 16), (.cst (.slice none 0 0))]), (.int .i64 (.op .add .i64 (.lit 1) (.conv .i64 (.op .rem .u8 (.var 4) (.lit 4))))), (.val 17)] [] [] [] [(false, [.sl]), (false, [.int .i64]), (false, [.int .i64])]
(.done (.bool (.ite (.ite (.ite (.cmp .eql (.var 21) (.lit 0)) (.cmp .eql (.var 25) (.lit 0)) (.tt false)) (.cmp .eql (.var 28) (.lit 0)) (.tt false)) (.cmp .eql (.var 27) (.op .add .i64 (.var 20) (.var 24))) (.tt false))) []))))))))))))
def shE (n : Nat) (E : List (Nat × Nat)) : List (Nat × Nat) := E.map fun e => (n + e.1, n + e.2)
theorem edI_shE (n : Nat) (E : List (Nat × Nat)) : edI (shE n E) = (edI E).map fun e => ((n : Int) + e.1, (n : Int) + e.2) := by
  unfold edI shE
  rw [List.map_map, List.map_map]
  apply List.map_congr_left
  intro e _
  simp
theorem costF_take {c : List Int} {N u : Nat} (hu : u < N) : costF (c.take N) u = costF c u := by
  unfold costF; rw [List.getD_eq_getElem?_getD, List.getD_eq_getElem?_getD, List.getElem?_take, if_pos hu]
theorem costF_drop {c : List Int} {N u : Nat} : costF (c.drop N) u = costF c (u + N) := by
  unfold costF; rw [List.getD_eq_getElem?_getD, List.getD_eq_getElem?_getD, List.getElem?_drop, Nat.add_comm]
theorem right_both {N M : Nat} {p q : Nat → Bool} : rightE ((N + M : Nat) : Int) (edI (madeE N p ++ shE N (madeE M q))) = true := by
  have hm : ∀ {N : Nat} {p : Nat → Bool} {e : Nat × Nat}, e ∈ madeE N p → e.1 < e.2 ∧ e.2 < N := fun {N p e} he => by
    have := pairsTo_mem ((selP_sub _ _).subset he); exact ⟨this.1, this.2.1⟩
  refine right_of ?_ fun e he => ?_
  · rw [List.pairwise_append]
    refine ⟨(pairsTo_sorted N N).sublist (selP_sub _ _), ?_, fun x hx y hy => .inl ?_⟩
    · unfold shE
      rw [List.pairwise_map]
      refine ((pairsTo_sorted M M).sublist (selP_sub q _)).imp fun {x y} h => ?_
      unfold ltP at h ⊢
      simp only; omega
    · have h1 := hm hx
      unfold shE at hy
      obtain ⟨z, hz, rfl⟩ := List.mem_map.1 hy
      simp only; omega
  · rcases List.mem_append.1 he with he | he
    · have := hm he; omega
    · unfold shE at he
      obtain ⟨z, hz, rfl⟩ := List.mem_map.1 he
      have := hm hz
      simp only; omega
section
variable {h : H} {n m k : Int} {ev ev2 wv u v u2 v2 : Value} {w : List Int} {N M : Nat} {p q pm qm : Nat → Bool}
theorem best_made {h4 : H} {a b cv : Value} {Q : Nat} {D Y : EdgeL} {cost : List Int} {r : Int} (ht : Tab h4) (ha : EdgesAt h4 a D) (hb : EdgesAt h4 b Y) (hD : D.length ≤ 1000000) (hY : ∀ x ∈ Y, False) (hg : rightE (Q : Int) D = true) (hQ : Q ≤ 14) (hc : IntsAt h4 cv cost) (hcl : cost.length = Q) (hcb : ∀ u, u < Q → 1 ≤ costF cost u ∧ costF cost u ≤ 1000) (hr1 : 1 ≤ r) (hr8 : r ≤ 8) :
    CallsA Tryd.prog 14 (fun _ => [.agg #[.int .i64 (Q : Int), a, b], .int .i64 r, cv]) [] h4 (Ret fun r' h' => h4.le h' ∧ ∃ bv s, r' = .tuple #[bv, .int .i64 s, .int .i64 0] ∧ Fits .sl bv ∧ LeastIs D r (costF cost) Q s) := by
  have hYn : Y = [] := by
    cases Y with
    | nil => rfl
    | cons x l => exact (hY x (List.mem_cons_self ..)).elim
  subst hYn
  have hok : (⟨(Q : Int), D, []⟩ : Gr).ok = true := by
    unfold Gr.ok
    simp only [hg, Bool.and_eq_true, decide_eq_true_eq, Bool.not_eq_true', Bool.and_true]
    exact ⟨⟨⟨by omega, by omega⟩, rfl⟩, rfl⟩
  refine (s14 (g := ⟨(Q : Int), D, []⟩) (k := r) ht ⟨ha, hb, hD, Nat.zero_le _⟩ hc (by omega)).mono ?_
  rintro r' cs h' ⟨hcs, l5, hq⟩
  have hE : bestE ⟨(Q : Int), D, []⟩ r cost = 0 := bestE_of hok (by rw [hcl]) hr1 hr8 (by show (Q : Int) ≤ 14; omega) (by rw [hcl]; exact hcb)
  rcases hq with ⟨z, -⟩ | ⟨-, bv, l, s, rfl, hbv, R⟩
  · exact absurd hE z
  · exact ⟨hcs, l5, bv, s, rfl, hbv.fit, R.least⟩
theorem apart_rest {h1 h2 : H} {x0 : Value} {fx f f' f2 f2' : List Nat} (ht : Tab h) (hk : 0 ≤ k) (l1 : h.le h1) (hw : U16At h wv w) (hN : N < 8) (hM : M < 7) (T1 : Two h1 h2 u v (madeE N p) (madeE N pm) f f') (T2 : Two h1 h2 u2 v2 (madeE M q) (madeE M qm) f2 f2')
    (hpm : ∀ j, pm j = false) (hqm : ∀ j, qm j = false) {h3 : H} (l3 : h2.le h3) (hx : RowF h3 41 2 x0 (edV []) fx) (hfx : Fresh h2 fx) :
    holds Tryd.prog (Ret fun r h' => h.le h' ∧ r = .bool true) apT [.int .u8 n, .int .u8 m, ev, ev2, .int .u8 k, wv, .bool true, natV N, u, v, natV M, u2, v2, x0] [] h3 := by
  have l2 := l1.trans T1.le
  have lenE : ∀ {Q : Nat} {p : Nat → Bool}, Q < 8 → (madeE Q p).length ≤ 64 := fun {Q p} hQ => by
    have := (selP_sub p (pairsTo Q Q)).length_le
    have h2 := pairsTo_len Q Q
    have : Q * Q ≤ 8 * 8 := Nat.mul_le_mul (by omega) (by omega)
    unfold madeE; omega
  have hl1 := lenE (Q := N) (p := p) hN
  have hl2 := lenE (Q := M) (p := q) (by omega)
  have elen : ∀ E : List (Nat × Nat), (edI E).length = E.length := fun E => by unfold edI; simp
  have hu := rowF_edges T1.e
  have hu2 := rowF_edges T2.e
  have hnone : ∀ {Q : Nat} {z : Nat → Bool}, (∀ j, z j = false) → ∀ x ∈ edI (madeE Q z), False := fun {Q z} hz x hx => by
    unfold edI at hx
    obtain ⟨y, hy, _⟩ := List.mem_map.1 hx
    obtain ⟨j, _, hj⟩ := selP_at hy
    rw [hz] at hj; cases hj
  have hv := rowF_edges T1.m
  have hv2 := rowF_edges T2.m
  refine app_edges (v := x0) (u := u) (E := []) (D := edI (madeE N p)) hx rfl (EdgesAt.le l3 hu) (by rw [elen]; simp; omega) fun x1 h4 f4 r4 k4 g4 => ?_
  have l4 : h2.le h4 := k4.le l3 hfx
  have hf4 := fresh_of l3 hfx g4
  rw [List.nil_append] at r4
  have hu2l := hu2.len
  rw [elen] at hu2l
  refine h_loop (fun xs h' => ∃ (i : Nat) (x : Value) (fx : List Nat), xs = [natV i, x] ∧ i ≤ (madeE M q).length ∧ h2.le h' ∧ RowF h' 41 2 x (edV (edI (madeE N p ++ shE N ((madeE M q).take i)))) fx ∧ Fresh h2 fx) (fun xs h' => (madeE M q).length - (vi (gv xs 0)).toNat)
    ⟨0, x1, f4, rfl, Nat.zero_le _, l4, by simpa [shE] using r4, hf4⟩ ?_
  clear r4 k4 g4
  rintro xs h5 J - ⟨i, x, fx5, rfl, hi, l5, r5, hf5⟩ hJ
  refine h_ite (fun hc => ?_) (fun hc => ?_)
  · replace hc : cmpOp .lss (i : Int) ((vlen u2 : Nat) : Int) = true := hc
    rw [hu2l, cmp_lss, decide_eq_true_eq] at hc
    have hil : i < (madeE M q).length := by omega
    have hy : (madeE M q)[i]? = some (madeE M q)[i] := List.getElem?_eq_getElem hil
    generalize (madeE M q)[i] = y at hy
    have hyb := pairsTo_mem ((selP_sub q _).subset (List.mem_of_getElem? hy))
    have hyi : (edI (madeE M q))[i]? = some ((y.1 : Int), (y.2 : Int)) := by unfold edI; rw [List.getElem?_map, hy]; rfl
    have hrd := (hu2.read hyi).le l5
    refine ⟨fun _ => needIx (i := i) (v := u2) rfl rfl hu2l hil, h_load [natV y.1, natV y.2] ⟨⟨_, rfl⟩, ⟨_, rfl⟩, trivial⟩ (fun _ => hrd) ?_⟩
    refine ⟨[natV (N + y.1), natV (N + y.2)], 1, ⟨?_, rfl⟩, ?_⟩
    · show [natV (N + y.1), natV (N + y.2)] = [.int .i64 (intOp .add .i64 (N : Int) (y.1 : Int)), .int .i64 (intOp .add .i64 (N : Int) (y.2 : Int))]
      rw [add_small (by omega) (by omega), add_small (by omega) (by omega)]; simp
    show AppSpec _ _ _ _ _ x _ _ _
    have hxl := (rowF_edV r5).len
    rw [elen] at hxl
    have hxl2 : (madeE N p ++ shE N ((madeE M q).take i)).length ≤ 200 := by
      rw [List.length_append]; unfold shE; rw [List.length_map, List.length_take]; omega
    refine app_rowF r5 rfl zero_edge (by rw [hxl]; omega) fun x' h6 f6 m1 m2 m3 m4 => ?_
    show J [.int .i64 (intOp .add .i64 (i : Int) 1), x'] h6
    rw [int_add_one (n := 100000) (by omega) (by omega)]
    refine hJ _ _ ⟨i + 1, x', f6, rfl, by omega, m3.le l5 hf5, ?_, fresh_of l5 hf5 m4⟩ (by simp only [gv_zero, vi_int]; omega)
    have e : edV (edI (madeE N p ++ shE N ((madeE M q).take (i + 1)))) = edV (edI (madeE N p ++ shE N ((madeE M q).take i))) ++ [natV (N + y.1), natV (N + y.2)] := by
      rw [List.take_add_one, hy]
      unfold edI shE edV
      simp
    rw [e]; exact m1
  · replace hc : cmpOp .lss (i : Int) ((vlen u2 : Nat) : Int) = false := hc
    rw [hu2l, cmp_lss, decide_eq_false_iff_not] at hc
    obtain rfl : i = (madeE M q).length := by omega
    rw [List.take_length] at r5
    have hx5 := rowF_edV r5
    have eNM : intOp .add .i64 (N : Int) (M : Int) = ((N + M : Nat) : Int) := by rw [add_small (by omega) (by omega)]; simp
    have e3 : intOp .add .i64 1 (IntKind.i64.wrap (intOp .rem .u8 k 4)) = 1 + k % 4 := by rw [rem_u8 hk (by omega) (by omega), add_small (by omega) (by omega)]
    refine h_call0 (Q := fun r h' => h5.le h' ∧ ∃ c : List Int, c.length = N + M ∧ (∀ x ∈ c, 1 ≤ x ∧ x ≤ 1000) ∧ OwnInts h5 h' r c) ?_ ?_
    · show CallsA _ _ (fun _ => [.int .i64 (intOp .add .i64 (N : Int) (M : Int)), wv]) [] _ _
      rw [eNM]; exact s13 (SlAt.le u16C_mono (l2.trans l5) hw) (by omega)
    rintro cv h6 ⟨l6, cost, hcl, hcb, hcv⟩
    have hci := hcv.ints
    have hcil := hci.len
    have hcr : ∀ u, u < cost.length → 1 ≤ costF cost u ∧ costF cost u ≤ 1000 := fun u hu => hcb _ (costF_mem hu)
    have hcap : cost.length ≤ vcap cv := by
      obtain ⟨x, m, c, rfl, _, q⟩ := hci.fit
      simp only [vlen_sl, vcap_sl] at hcil ⊢; omega
    refine ⟨[cv], ⟨hci.fit, trivial⟩, rfl, fun _ => ⟨ge0 N, ?_, trivial⟩, ?_⟩
    · show cmpOp .leq (N : Int) ((vcap cv : Nat) : Int) = true
      rw [cmp_leq, decide_eq_true_eq]; omega
    intro c1 hc1
    replace hc1 : c1 = sliceV cv 0 N 1 := hc1
    have sl1 := SlAt.slice hci (lo := 0) (hi := N) (by omega) (by omega)
    rw [List.drop_zero, Nat.sub_zero, ← hc1] at sl1
    have ht6 : Tab h6 := ht.le (l2.trans (l5.trans l6))
    have l56 := l5.trans l6
    refine h_call0 (Q := fun r' h' => h6.le h' ∧ ∃ bv s, r' = .tuple #[bv, .int .i64 s, .int .i64 0] ∧ Fits .sl bv ∧ LeastIs (edI (madeE N p)) (1 + k % 4) (costF (cost.take N)) N s) ?_ ?_
    · show CallsA _ _ (fun _ => [.agg #[natV N, u, v], .int .i64 (intOp .add .i64 1 (IntKind.i64.wrap (intOp .rem .u8 k 4))), c1]) [] _ _
      rw [e3]
      exact best_made ht6 (EdgesAt.le l56 hu) (EdgesAt.le l56 hv) (by rw [elen]; omega) (hnone hpm) (right_sub (p := p) (List.Sublist.refl _)) (by omega) sl1 (by rw [List.length_take]; omega) (fun u hu => by rw [costF_take hu]; exact hcr u (by omega)) (by omega) (by omega)
    rintro _ h7 ⟨l7, b1, s1, rfl, fb1, L1⟩
    refine ⟨[b1, .int .i64 s1, .int .i64 0], ⟨fb1, ⟨_, rfl⟩, ⟨_, rfl⟩, trivial⟩, rfl, fun _ => ⟨ge0 N, ?_, trivial⟩, ?_⟩
    · show cmpOp .leq (N : Int) ((vlen cv : Nat) : Int) = true
      rw [cmp_leq, decide_eq_true_eq]; omega
    intro c2 hc2
    replace hc2 : c2 = sliceV cv N (vlen cv) 1 := hc2
    have sl2 := SlAt.slice hci (lo := N) (hi := cost.length) (by omega) (Nat.le_refl _)
    rw [List.take_of_length_le (by rw [List.length_drop]; omega), ← hcil, ← hc2] at sl2
    refine h_call0 (Q := fun r' h' => h7.le h' ∧ ∃ bv s, r' = .tuple #[bv, .int .i64 s, .int .i64 0] ∧ Fits .sl bv ∧ LeastIs (edI (madeE M q)) (1 + k % 4) (costF (cost.drop N)) M s) ?_ ?_
    · show CallsA _ _ (fun _ => [.agg #[natV M, u2, v2], .int .i64 (intOp .add .i64 1 (IntKind.i64.wrap (intOp .rem .u8 k 4))), c2]) [] _ _
      rw [e3]
      exact best_made (ht6.le l7) (EdgesAt.le (l56.trans l7) hu2) (EdgesAt.le (l56.trans l7) hv2) (by rw [elen]; omega) (hnone hqm) (right_sub (p := q) (List.Sublist.refl _)) (by omega) (IntsAt.le l7 sl2) (by rw [List.length_drop]; omega) (fun u hu => by rw [costF_drop]; exact hcr _ (by omega)) (by omega) (by omega)
    rintro _ h8 ⟨l8, b2, s2, rfl, fb2, L2⟩
    refine ⟨[b2, .int .i64 s2, .int .i64 0], ⟨fb2, ⟨_, rfl⟩, ⟨_, rfl⟩, trivial⟩, rfl, ?_⟩
    refine h_call0 (Q := fun r' h' => h8.le h' ∧ ∃ bv s, r' = .tuple #[bv, .int .i64 s, .int .i64 0] ∧ Fits .sl bv ∧ LeastIs (edI (madeE N p ++ shE N (madeE M q))) (1 + k % 4) (costF cost) (N + M) s) ?_ ?_
    · show CallsA _ _ (fun _ => [.agg #[.int .i64 (intOp .add .i64 (N : Int) (M : Int)), x, .slice none 0 0], .int .i64 (intOp .add .i64 1 (IntKind.i64.wrap (intOp .rem .u8 k 4))), cv]) [] _ _
      rw [e3, eNM]
      refine best_made (ht6.le (l7.trans l8)) (EdgesAt.le (l6.trans (l7.trans l8)) hx5) (Y := []) SlAt.nil ?_ (fun x hx => by cases hx) right_both (by omega) (hci.le (l7.trans l8)) (by rw [hcl]) (fun u hu => hcr u (by omega)) (by omega) (by omega)
      rw [elen, List.length_append]; unfold shE; rw [List.length_map]; omega
    rintro _ h9 ⟨l9, b3, s3, rfl, fb3, L3⟩
    refine ⟨[b3, .int .i64 s3, .int .i64 0], ⟨fb3, ⟨_, rfl⟩, ⟨_, rfl⟩, trivial⟩, rfl, rfl, l2.trans (l56.trans (l7.trans (l8.trans l9))), ?_⟩
    have rg : ∀ {Q : Nat} {p : Nat → Bool}, ∀ e ∈ edI (madeE Q p), 0 ≤ e.1 ∧ e.1 < Q ∧ 0 ≤ e.2 ∧ e.2 < Q := fun {Q p} e he => by
      unfold edI at he
      obtain ⟨y, hy, rfl⟩ := List.mem_map.1 he
      have := pairsTo_mem ((selP_sub p _).subset hy)
      simp only; omega
    have e33 : edI (madeE N p ++ shE N (madeE M q)) = edI (madeE N p) ++ (edI (madeE M q)).map fun e => ((N : Int) + e.1, (N : Int) + e.2) := by
      rw [← edI_shE]; unfold edI; simp
    rw [e33] at L3
    have hsum := LeastIs.apart rg rg (L1.congr (E' := []) fun u hu => (costF_take hu).symm) (L2.congr (E' := []) fun u hu => costF_drop.symm) L3
    have b01 := L1.2 (fun _ => -1) ⟨fun u _ => by show (-1 : Int) ≤ -1 ∧ (-1 : Int) < _; omega, fun u v _ _ _ h0 => by
      have h1 : (0 : Int) ≤ -1 := h0
      omega⟩
    have b02 := L2.2 (fun _ => -1) ⟨fun u _ => by show (-1 : Int) ≤ -1 ∧ (-1 : Int) < _; omega, fun u v _ _ _ h0 => by
      have h1 : (0 : Int) ≤ -1 := h0
      omega⟩
    have b03 := costL_le (cost := costF (cost.take N)) (f := fun _ => -1) (c := 1000) (by omega) N 0 fun u _ hu => by rw [costF_take (by omega)]; exact (hcr u (by omega)).2
    have b04 := costL_le (cost := costF (cost.drop N)) (f := fun _ => -1) (c := 1000) (by omega) M 0 fun u _ hu => by rw [costF_drop]; exact (hcr _ (by omega)).2
    have b05 := L1.nonneg fun u hu => by rw [costF_take hu]; have := hcr u (by omega); omega
    have b06 := L2.nonneg fun u hu => by rw [costF_drop]; have := hcr (u + N) (by omega); omega
    have eadd : intOp .add .i64 s1 s2 = s3 := by rw [add_small (by omega) (by omega), hsum]
    have zz : cmpOp .eql (0 : Int) 0 = true := rfl
    have z1 : cmpOp .eql s3 (intOp .add .i64 s1 s2) = true := by rw [eadd, cmp_eql]; simp
    simp only [SV.den, X.den, List.cons_append, List.nil_append, List.append_nil, gv_zero, gv_succ, vi_int, vb_bool, vb_ite, z1, zz, if_true]
theorem s6 {e e2 : List Int} (ht : Tab h) (hn : 0 ≤ n) (hm : 0 ≤ m) (he : BytesAt h ev e) (he2 : BytesAt h ev2 e2) (hk : 0 ≤ k) (hw : U16At h wv w) :
    CallsA Tryd.prog 6 (fun _ => [.int .u8 n, .int .u8 m, ev, ev2, .int .u8 k, wv]) [] h (Ret fun r h' => h.le h' ∧ r = .bool true) := by
  refine c6 (G := [.int .u8 n, .int .u8 m, ev, ev2, .int .u8 k, wv]) ⟨⟨_, rfl⟩, ⟨_, rfl⟩, he.fit, he2.fit, ⟨_, rfl⟩, hw.fit, trivial⟩ ?_
  refine h_call0 (s11 ht) ?_
  rintro _ h1 ⟨l1, rfl⟩
  refine ⟨[.bool true], ⟨⟨_, rfl⟩, trivial⟩, rfl, iteF rfl ?_⟩
  obtain ⟨N, hN⟩ : ∃ N : Nat, (N : Int) = n % 8 := ⟨(n % 8).toNat, by omega⟩
  obtain ⟨M, hM⟩ : ∃ M : Nat, (M : Int) = m % 7 := ⟨(m % 7).toNat, by omega⟩
  have h13 : ((n % 8) % 13).toNat = N := by omega
  have h13' : ((m % 7) % 13).toNat = M := by omega
  have e1 : intOp .rem .u8 n 8 = n % 8 := rem_u8r hn
  have e1' : intOp .rem .u8 m 7 = m % 7 := rem_u8r hm
  have hmB : ∀ {e : List Int} (j : Nat), mB e [] j = false := fun {e} j => by unfold mB; simp
  have hMade := s12 (h := h1) (n := n % 8) (ev := ev) (mv := .slice none 0 0) (e := e) (m := []) (by omega) (SlAt.le byteC_mono l1 he) SlAt.nil
  rw [h13] at hMade
  refine h_call0 (Q := fun r h' => ∃ u v f f', r = .agg #[.int .i64 (N : Int), u, v] ∧ Two h1 h' u v (madeE N (eB e)) (madeE N (mB e [])) f f') ?_ ?_
  · show CallsA _ _ (fun _ => [.int .u8 (intOp .rem .u8 n 8), ev, .slice none 0 0]) [] _ _
    rw [e1]; exact hMade
  rintro _ h2 ⟨u, v, f, f', rfl, T⟩
  refine ⟨[.int .i64 (N : Int), u, v], ⟨⟨_, rfl⟩, T.e.row0.fit, T.m.row0.fit, trivial⟩, rfl, ?_⟩
  have hMade2 := s12 (h := h2) (n := m % 7) (ev := ev2) (mv := .slice none 0 0) (e := e2) (m := []) (by omega) (SlAt.le byteC_mono (l1.trans T.le) he2) SlAt.nil
  rw [h13'] at hMade2
  refine h_call0 (Q := fun r h' => ∃ u v f f', r = .agg #[.int .i64 (M : Int), u, v] ∧ Two h2 h' u v (madeE M (eB e2)) (madeE M (mB e2 [])) f f') ?_ ?_
  · show CallsA _ _ (fun _ => [.int .u8 (intOp .rem .u8 m 7), ev2, .slice none 0 0]) [] _ _
    rw [e1']; exact hMade2
  rintro _ h3 ⟨u2, v2, f2, f2', rfl, T2⟩
  refine ⟨[.int .i64 (M : Int), u2, v2], ⟨⟨_, rfl⟩, T2.e.row0.fit, T2.m.row0.fit, trivial⟩, rfl, ?_⟩
  have T1' : Two h1 h3 u v (madeE N (eB e)) (madeE N (mB e [])) f f' := ⟨T.le.trans T2.le, T.e.agree (le_agree' T2.le T.e.live), T.m.agree (le_agree' T2.le T.m.live), T.ef, T.mf, T.d⟩
  have T2' : Two h1 h3 u2 v2 (madeE M (eB e2)) (madeE M (mB e2 [])) f2 f2' := ⟨T.le.trans T2.le, T2.e, T2.m, fun b hb => H.le_none T.le (T2.ef b hb), fun b hb => H.le_none T.le (T2.mf b hb), T2.d⟩
  have key : ∀ b, h3 b = none → holds Tryd.prog (Ret fun r h' => h.le h' ∧ r = .bool true) apT [.int .u8 n, .int .u8 m, ev, ev2, .int .u8 k, wv, .bool true, natV N, u, v, natV M, u2, v2, .slice (some ⟨b, 0, none⟩) 0 0] [] (h3.put b (.cells ([] : List Value).toArray 41 (0, 0))) := fun b hb =>
    apart_rest ht hk l1 hw (by omega) (by omega) T1' T2' hmB hmB (H.le_put hb) row_empty fun z hz => by rw [List.mem_singleton] at hz; subst hz; exact hb
  exact ⟨fun b hb => ⟨key b hb, key b hb⟩, fun b hb => key b hb⟩
end
namespace searchApart
theorem own : ownKnob Tryd.prog.godebug = none := by kernel_rfl
set_option maxRecDepth 100000 in
theorem laidOut : laidOutB Tryd.prog = true := by kernel_rfl
set_option maxRecDepth 100000 in
theorem contract (H : Type) (enc : TypeId × Value → H) (W : World) (base : Nat) (args : Array Value) (ds gs : List (DataW H)) (before : List MemPlace)
    (hval : ∀ (j : Nat) t v, Tryd.f6.params[j]? = some t → args[j]? = some v → Value.okWide Tryd.prog W .any base t v)
    (hW : DataW.Whole enc Tryd.prog Tryd.f6.params.toList Rows.searchApartSpec.vars false W args.toList ds gs before) (hL : laidMetH Tryd.prog laid1 W) :
    Calls Tryd.prog 6 args W fun e W' => ∃ v, e = .returned v ∧ Rows.searchApartSpec.post enc Tryd.prog Tryd.f6 false true false false W args v W' := by
  have hW' := hW
  obtain ⟨p, q, hA, hV, rfl, hfz, hnd⟩ := hW
  rw [Tryd.params6] at hA hval
  obtain ⟨v0, vs0, d0, ds0, p0, q0, hargs, rfl, rfl, h0, r0⟩ := trodAll_cons hA
  obtain ⟨v1, vs1, d1, ds1, p1, q1, rfl, rfl, rfl, h1, r1⟩ := trodAll_cons r0
  obtain ⟨v2, vs2, d2, ds2, p2, q2, rfl, rfl, rfl, h2, r2⟩ := trodAll_cons r1
  obtain ⟨v3, vs3, d3, ds3, p3, q3, rfl, rfl, rfl, h3, r3⟩ := trodAll_cons r2
  obtain ⟨v4, vs4, d4, ds4, p4, q4, rfl, rfl, rfl, h4, r4⟩ := trodAll_cons r3
  obtain ⟨v5, vs5, d5, ds5, p5, q5, rfl, rfl, rfl, h5, r5⟩ := trodAll_cons r4
  obtain ⟨rfl, rfl, rfl⟩ := trodAll_nil r5
  obtain rfl : args = #[v0, v1, v2, v3, v4, v5] := by cases args; simp_all
  obtain ⟨n, rfl, -, -, wf0⟩ := open_int Tryd.underlying5 (hval 0 5 v0 rfl rfl) h0
  obtain ⟨m, rfl, -, -, wf1⟩ := open_int Tryd.underlying5 (hval 1 5 v1 rfl rfl) h1
  obtain ⟨a2, n2, c2, rfl⟩ := okWide_slice Tryd.underlying22 (hval 2 22 v2 rfl rfl)
  obtain ⟨ev, el, he2, hev, -⟩ := rd_bytes (Rd.of h2)
  obtain rfl : Value.slice a2 n2 c2 = ev := by simpa [Value.cells] using he2
  obtain ⟨a3, n3, c3, rfl⟩ := okWide_slice Tryd.underlying22 (hval 3 22 v3 rfl rfl)
  obtain ⟨ev2, el2, he3, hev2, -⟩ := rd_bytes (Rd.of h3)
  obtain rfl : Value.slice a3 n3 c3 = ev2 := by simpa [Value.cells] using he3
  obtain ⟨k, rfl, -, -, wf4⟩ := open_int Tryd.underlying5 (hval 4 5 v4 rfl rfl) h4
  obtain ⟨a5, n5, c5, rfl⟩ := okWide_slice Tryd.underlying23 (hval 5 23 v5 rfl rfl)
  obtain ⟨wv, wl, he5, hwv, -⟩ := rd_u16 (Rd.of h5)
  obtain rfl : Value.slice a5 n5 c5 = wv := by simpa [Value.cells] using he5
  refine (law_calls (f := 6) (args := [.int .u8 n, .int .u8 m, .slice a2 n2 c2, .slice a3 n3 c3, .int .u8 k, .slice a5 n5 c5]) (s6 (tab_of hL) (u8_bounds wf0).1 (u8_bounds wf1).1 hev hev2 (u8_bounds wf4).1 hwv)).mono ?_
  rintro e' W' ⟨rfl, bel⟩
  exact ⟨_, rfl, law_post laidOut hW' rfl (of_decide_eq_true (by kernel_rfl)) rfl Tryd.underlying4 rfl bel⟩
set_option maxRecDepth 100000 in
theorem lifted (os : Os) (started : os.Started) (H : Type) (enc : TypeId × Value → H) :
    ReturnsInHanded {} Tryd.checked os 6 .any (fun w args => (Rows.searchApartSpec.pre enc Tryd.prog Tryd.f6 [] false w args ∧ laidMetH Tryd.prog laid1 w) ∧ sizedMet enc Tryd.prog Tryd.f6 (OpenSpec.ofChange Rows.searchApartSpec) false w args)
      (Rows.searchApartSpec.post enc Tryd.prog Tryd.f6 false true false false) := by
  refine returnsInHanded_of_change_and (C := Tryd.checked) (X := fun w _ => laidMetH Tryd.prog laid1 w) (fun _ _ _ hh h => h.of_heap hh) own started (by kernel_rfl) Tryd.func6
    (ChangeSpec.witness_shaped (enc := enc) (C := Tryd.checked) (os := os) (X := fun w _ => laidMetH Tryd.prog laid1 w) false (World.laidAll Tryd.prog os laid1) #[.int .u8 0, .int .u8 0, .slice none 0 0, .slice none 0 0, .int .u8 0, .slice none 0 0] 8 (World.laidAll_os _ _ _)
      (World.shaped_of_ZipB (by kernel_rfl) (by kernel_rfl)) (by kernel_rfl) (by kernel_rfl) (by kernel_rfl)
      (by rw [MakeChecks.laidMetH_plain _ _ _ (by kernel_rfl)]; exact laidMet_laidAll _ (by kernel_rfl) (by kernel_rfl))) ?_
  intro W base args ds gs before hval hW _ _ hL _
  exact contract H enc W base args ds gs before hval hW hL
set_option maxRecDepth 100000 in
theorem proved : Rows.SearchApartSaid :=
  OpenClaim.holds_of_wide 6 Tryd.f6 rfl rfl rfl rfl rfl rfl rfl ⟨rfl, rfl, rfl, rfl, rfl⟩ rfl rfl rfl rfl rfl (by kernel_rfl) Tryd.func6 (by kernel_rfl)
    (of_decide_eq_true (by kernel_rfl)) (by unfold Func.isWrapper; first | (rw [if_pos (by decide +kernel)]; kernel_rfl) | (rw [if_neg (by decide +kernel)]; exact ⟨rfl, rfl⟩))
    (fun os started H enc _ => lifted os started H enc)
set_option maxRecDepth 100000 in
theorem card : Rows.SearchApartCardSaid :=
  Claim7.holds_tied_plain_at .later [] [.data] true (true, "74a93455e167e44cac747f8244595d2a0244a2ab46c0a069dc415a11e19b33d5") false proved (fun _ h => by cases h) (by kernel_rfl) (fun _ h => by cases h) searchApart_row_tie rfl ⟨rfl, rfl⟩ (by kernel_rfl) rfl
    (fun f fn hf hfn => by
      obtain rfl : f = 6 := Option.some.inj ((show Tryd.prog.funcNamed "outworker/outworkerlaw17.SearchApart" = some 6 by kernel_rfl).symm.trans hf) |>.symm
      obtain rfl : fn = Tryd.f6 := (Option.some.inj (Tryd.func6.symm.trans hfn)).symm
      exact ⟨by kernel_rfl, fun j t ht => by
        rw [Tryd.params6] at ht
        have hm : t ∈ [5, 5, 22, 22, 5, 23] := by simpa using Array.mem_of_getElem? ht
        have hall : ([5, 5, 22, 22, 5, 23].all fun u => !Tryd.prog.wantsStandIn u) = true := by kernel_rfl
        exact (show Tryd.prog.wantsStandIn t = false by simpa using List.all_eq_true.1 hall t hm)⟩)
    (by kernel_rfl)
end searchApart
/-- The row, under a short name, for the claim. -/
theorem searchApartHolds : Rows.SearchApartCardSaid := searchApart.card
#print axioms searchApartHolds
end Go.Proofs.YtbgfabppmobpgaaDoor
