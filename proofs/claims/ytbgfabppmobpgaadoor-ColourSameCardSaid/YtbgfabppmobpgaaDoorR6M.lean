/-
  Graphs that are made of bytes: which edges and moves they have. Conditions: as the contract says.
-/
import Derived.Test.YtbgfabppmobpgaaDoorR6E
set_option linter.unusedVariables false
set_option linter.unusedSimpArgs false
namespace Go.Proofs.YtbgfabppmobpgaaDoor
open Go

/-! ### Pairs, and those that are chosen -/
def rowP (a b : Nat) : List (Nat × Nat) := (List.range b).map fun j => (a, a + 1 + j)
def pairsTo (N a : Nat) : List (Nat × Nat) := (List.range a).flatMap fun x => rowP x (N - (x + 1))
theorem rowP_snoc (a b : Nat) : rowP a (b + 1) = rowP a b ++ [(a, a + 1 + b)] := by unfold rowP; rw [List.range_succ, List.map_append]; rfl
theorem pairsTo_succ (N a : Nat) : pairsTo N (a + 1) = pairsTo N a ++ rowP a (N - (a + 1)) := by unfold pairsTo; rw [List.range_succ, List.flatMap_append]; simp
def selP (f : Nat → Bool) (l : List (Nat × Nat)) : List (Nat × Nat) := l.zipIdx.filterMap fun p => if f p.2 = true then some p.1 else none
theorem selP_snoc (f : Nat → Bool) (l : List (Nat × Nat)) (x : Nat × Nat) : selP f (l ++ [x]) = selP f l ++ if f l.length = true then [x] else [] := by
  unfold selP
  rw [List.zipIdx_append, List.filterMap_append]
  congr 1
  simp only [List.zipIdx_cons, List.zipIdx_nil, List.filterMap_cons, List.filterMap_nil, Nat.zero_add]
  cases f l.length <;> rfl
theorem selP_at {f : Nat → Bool} {l : List (Nat × Nat)} {x : Nat × Nat} (h : x ∈ selP f l) : ∃ k, l[k]? = some x ∧ f k = true := by
  unfold selP at h
  obtain ⟨⟨y, k⟩, h1, h2⟩ := List.mem_filterMap.1 h
  split at h2
  · cases h2
    exact ⟨k, by simpa using List.mem_zipIdx_iff_getElem?.1 h1, by assumption⟩
  · cases h2
theorem selP_sub (f : Nat → Bool) (l : List (Nat × Nat)) : (selP f l).Sublist l := by
  have : ∀ (l : List (Nat × Nat)) (k : Nat), ((l.zipIdx k).filterMap fun p => if f p.2 = true then some p.1 else none).Sublist l := by
    intro l
    induction l with
    | nil => exact fun _ => List.Sublist.refl _
    | cons x l ih =>
      intro k
      rw [List.zipIdx_cons, List.filterMap_cons]
      split
      · exact (ih _).cons _
      · rename_i y hy
        simp only at hy
        split at hy
        · cases hy; exact (ih _).cons_cons _
        · cases hy
  exact this l 0
def ltP (p q : Nat × Nat) : Prop := p.1 < q.1 ∨ p.1 = q.1 ∧ p.2 < q.2
theorem rowP_sorted (a b : Nat) : (rowP a b).Pairwise ltP := by
  unfold rowP
  rw [List.pairwise_map]
  exact List.pairwise_lt_range.imp fun {x y} h => .inr ⟨rfl, by show a + 1 + x < a + 1 + y; omega⟩
theorem pairsTo_mem {N a : Nat} {p : Nat × Nat} (h : p ∈ pairsTo N a) : p.1 < p.2 ∧ p.2 < N ∧ p.1 < a := by
  unfold pairsTo rowP at h
  obtain ⟨x, hx, h⟩ := List.mem_flatMap.1 h
  obtain ⟨j, hj, rfl⟩ := List.mem_map.1 h
  rw [List.mem_range] at hx hj
  simp only; omega
theorem pairsTo_sorted (N : Nat) : ∀ a, (pairsTo N a).Pairwise ltP
  | 0 => by unfold pairsTo; simp
  | a + 1 => by
    rw [pairsTo_succ, List.pairwise_append]
    refine ⟨pairsTo_sorted N a, rowP_sorted _ _, fun x hx y hy => .inl ?_⟩
    have := pairsTo_mem hx
    unfold rowP at hy
    obtain ⟨j, hj, rfl⟩ := List.mem_map.1 hy
    simp only; omega
def edI (E : List (Nat × Nat)) : EdgeL := E.map fun e => ((e.1 : Int), (e.2 : Int))
theorem edN_edI (E : List (Nat × Nat)) : edN (edI E) = E := by unfold edN edI; rw [List.map_map]; exact List.map_id E
theorem edI_mem {E : List (Nat × Nat)} {a b : Nat} : ((a : Int), (b : Int)) ∈ edI E ↔ (a, b) ∈ E := by
  unfold edI
  rw [List.mem_map]
  constructor
  · rintro ⟨⟨x, y⟩, h1, h2⟩
    simp only [Prod.mk.injEq] at h2
    obtain rfl : x = a := by omega
    obtain rfl : y = b := by omega
    exact h1
  · exact fun h => ⟨_, h, rfl⟩
theorem right_of {N : Nat} {E : List (Nat × Nat)} (h1 : E.Pairwise ltP) (h2 : ∀ e ∈ E, e.1 < e.2 ∧ e.2 < N) : rightE (N : Int) (edI E) = true := by
  refine rightE_true fun j hj => ?_
  have hjl : j < E.length := by unfold edI at hj; simpa using hj
  have hx : (edI E)[j]? = some (((E[j].1 : Nat) : Int), ((E[j].2 : Nat) : Int)) := by unfold edI; rw [List.getElem?_map, List.getElem?_eq_getElem hjl]; rfl
  have hm := h2 _ (List.getElem_mem hjl)
  obtain ⟨p, hp⟩ := prev_of (edI E) hj
  rw [okE_gen hx hp]
  simp only [Bool.and_eq_true, Bool.or_eq_true, decide_eq_true_eq]
  refine ⟨⟨⟨by omega, by omega⟩, by omega⟩, ?_⟩
  by_cases h0 : j = 0
  · exact .inl h0
  · right
    have hpp := hp (by omega)
    have hq : (edI E)[j - 1]? = some (((E[j - 1].1 : Nat) : Int), ((E[j - 1].2 : Nat) : Int)) := by unfold edI; rw [List.getElem?_map, List.getElem?_eq_getElem (by omega)]; rfl
    rw [hq] at hpp
    cases hpp
    have := List.pairwise_iff_getElem.1 h1 (j - 1) j (by omega) hjl (by omega)
    unfold ltP at this
    simp only; omega
def madeE (N : Nat) (f : Nat → Bool) : List (Nat × Nat) := selP f (pairsTo N N)
theorem made_graph {N : Nat} {f m : Nat → Bool} (hN : N < 4096) (hd : ∀ k, f k = true → m k = false) : (⟨(N : Int), edI (madeE N f), edI (madeE N m)⟩ : Gr).ok = true := by
  have hs := pairsTo_sorted N N
  have h1 : ∀ f, rightE (N : Int) (edI (madeE N f)) = true := fun f => right_of (hs.sublist (selP_sub _ _)) fun e he => by
    have := pairsTo_mem ((selP_sub _ _).subset he); exact ⟨this.1, this.2.1⟩
  unfold Gr.ok
  simp only [h1, Bool.and_eq_true, decide_eq_true_eq, Bool.not_eq_true', Bool.and_true]
  refine ⟨⟨by omega, by omega⟩, ?_⟩
  rw [List.any_eq_false]
  intro x hx
  rw [Bool.not_eq_true, List.any_eq_false]
  intro y hy
  obtain ⟨⟨a, b⟩, ha, rfl⟩ := List.mem_map.1 hx
  obtain ⟨⟨c, d⟩, hc, rfl⟩ := List.mem_map.1 hy
  simp only [isE, decide_eq_true_eq]
  rintro ⟨e1, e2⟩
  obtain rfl : c = a := by omega
  obtain rfl : d = b := by omega
  obtain ⟨k, k1, k2⟩ := selP_at ha
  obtain ⟨j, j1, j2⟩ := selP_at hc
  have hkj : k = j := by
    have hk := (List.getElem?_eq_some_iff.1 k1)
    have hj := (List.getElem?_eq_some_iff.1 j1)
    obtain ⟨hk1, hk2⟩ := hk
    obtain ⟨hj1, hj2⟩ := hj
    rcases Nat.lt_trichotomy k j with q | q | q
    · have := List.pairwise_iff_getElem.1 hs k j hk1 hj1 q
      rw [hk2, hj2] at this; unfold ltP at this; simp only at this; omega
    · exact q
    · have := List.pairwise_iff_getElem.1 hs j k hj1 hk1 q
      rw [hk2, hj2] at this; unfold ltP at this; simp only at this; omega
  rw [hkj, hd j j2] at k2; cases k2
/-- Which are edges, which are moves. -/
def eB (e : List Int) (k : Nat) : Bool := decide (k < e.length) && decide (e.getD k 0 % 2 = 1)
def mB (e m : List Int) (k : Nat) : Bool := !eB e k && (decide (k < m.length) && decide (m.getD k 0 % 3 = 1))

/-! ### Rows of edges -/
def edC (E : List (Nat × Nat)) : List Value := E.flatMap fun e => [natV e.1, natV e.2]
theorem edC_len (E : List (Nat × Nat)) : (edC E).length = E.length * 2 := by
  unfold edC
  induction E with
  | nil => rfl
  | cons e E ih => rw [List.flatMap_cons, List.length_append, ih]; simp; omega
theorem edC_get : ∀ {E : List (Nat × Nat)} {i : Nat} {e : Nat × Nat}, E[i]? = some e → ∀ (j : Nat) (u : Value), [natV e.1, natV e.2][j]? = some u → (edC E)[i * 2 + j]? = some u
  | [], i, e, h, _, _, _ => by simp at h
  | x :: E, 0, e, h, j, u, hj => by
    simp at h; subst h
    have : j < 2 := (List.getElem?_eq_some_iff.1 hj).1
    unfold edC
    rw [List.flatMap_cons, Nat.zero_mul, Nat.zero_add, List.getElem?_append_left (by simpa using this)]; exact hj
  | x :: E, i + 1, e, h, j, u, hj => by
    have := edC_get (E := E) (i := i) (e := e) (by simpa using h) j u hj
    unfold edC
    rw [List.flatMap_cons, List.getElem?_append_right (by simp; omega)]
    rw [show (i + 1) * 2 + j - [natV x.1, natV x.2].length = i * 2 + j by simp; omega]; exact this
theorem rowF_edges {h : H} {e : TypeId} {v : Value} {E : List (Nat × Nat)} {fp : List Nat} (k : RowF h e 2 v (edC E) fp) : EdgesAt h v (edI E) := by
  refine ⟨k.row0.fit, ?_, fun i x hi => ?_⟩
  · have := k.row0.len; rw [edC_len] at this; unfold edI; rw [List.length_map]; omega
  · unfold edI at hi
    rw [List.getElem?_map, Option.map_eq_some_iff] at hi
    obtain ⟨e, he, rfl⟩ := hi
    exact ⟨_, rfl, k.row0.reads fun j u hj => edC_get he j u hj⟩
theorem rowF_elen {h : H} {e : TypeId} {v : Value} {E : List (Nat × Nat)} {fp : List Nat} (k : RowF h e 2 v (edC E) fp) : vlen v = E.length := by
  have := k.row0.len; rw [edC_len] at this; omega
theorem zero_edge : ((zeroCells Tryd.prog 41).getD []).length = 2 := by kernel_rfl
/-- Two rows of edges, each its own. -/
structure Two (g h : H) (u v : Value) (E M : List (Nat × Nat)) (f f' : List Nat) : Prop where
  le : g.le h
  e : RowF h 41 2 u (edC E) f
  m : RowF h 41 2 v (edC M) f'
  ef : Fresh g f
  mf : Fresh g f'
  d : ∀ b ∈ f, b ∉ f'
theorem Two.addE {g h : H} {u v : Value} {E M : List (Nat × Nat)} {f f' : List Nat} (T : Two g h u v E M f f') (hl : E.length ≤ 100000) {a b : Nat} {K : Value → H → Prop} (HK : ∀ u' h1 f1, Two g h1 u' v (E ++ [(a, b)]) M f1 f' → K u' h1) :
    AppSpec h 41 2 16 ((zeroCells Tryd.prog 41).getD []) u [natV a, natV b] 1 K := by
  refine app_rowF T.e rfl zero_edge (by rw [rowF_elen T.e]; omega) fun u' h1 f1 k1 k2 k3 k4 => ?_
  refine HK u' h1 f1 ⟨k3.le T.le T.ef, by rw [show edC (E ++ [(a, b)]) = edC E ++ [natV a, natV b] by simp [edC]]; exact k1, T.m.agree (k3.agree T.m.live fun z hz hz' => T.d z hz' hz), ?_, T.mf, ?_⟩
  · rcases k4 with rfl | ⟨z, rfl, hz⟩
    · exact T.ef
    · intro y hy; rw [List.mem_singleton] at hy; subst hy; exact H.le_none T.le hz
  · rcases k4 with rfl | ⟨z, rfl, hz⟩
    · exact T.d
    · intro y hy hy'; rw [List.mem_singleton] at hy; subst hy; have := T.m.live y hy'; rw [hz] at this; cases this
theorem Two.swap {g h : H} {u v : Value} {E M : List (Nat × Nat)} {f f' : List Nat} (T : Two g h u v E M f f') : Two g h v u M E f' f := ⟨T.le, T.m, T.e, T.mf, T.ef, fun b h1 h2 => T.d b h2 h1⟩
theorem Two.gr {g h : H} {u v : Value} {E M : List (Nat × Nat)} {f f' : List Nat} (T : Two g h u v E M f f') (h1 : E.length ≤ 1000000) (h2 : M.length ≤ 1000000) (n : Int) : GrAt h u v ⟨n, edI E, edI M⟩ :=
  ⟨rowF_edges T.e, rowF_edges T.m, by unfold edI; simpa using h1, by unfold edI; simpa using h2⟩
theorem rowP_len (a b : Nat) : (rowP a b).length = b := by simp [rowP]
theorem pairsTo_len (N : Nat) : ∀ a, (pairsTo N a).length ≤ a * N
  | 0 => by simp [pairsTo]
  | a + 1 => by
    have := pairsTo_len N a
    rw [pairsTo_succ, List.length_append, rowP_len, Nat.add_mul]; omega
theorem bytes_at {h : H} {v : Value} {l : List Int} (k : BytesAt h v l) {i : Nat} (hi : i < l.length) : Reads h ((vaddr v).add (i * 1)) [.int .u8 (l.getD i 0)] ∧ 0 ≤ l.getD i 0 := by
  have hx : l[i]? = some (l.getD i 0) := by rw [List.getD_eq_getElem?_getD, List.getElem?_eq_getElem hi]; rfl
  obtain ⟨h1, h2, h3⟩ := BytesAt.read k hx
  exact ⟨h1, h2⟩
section
variable {h : H} {n : Int} {ev mv : Value} {e m : List Int}
set_option maxHeartbeats 1000000 in
theorem s12 (hn : 0 ≤ n) (he : BytesAt h ev e) (hm : BytesAt h mv m) :
    CallsA Tryd.prog 12 (fun _ => [.int .u8 n, ev, mv]) [] h (Ret fun r h' => ∃ u v f f', r = .agg #[.int .i64 ((n % 13).toNat : Int), u, v] ∧ Two h h' u v (madeE (n % 13).toNat (eB e)) (madeE (n % 13).toNat (mB e m)) f f') := by
  refine c12 (G := [.int .u8 n, ev, mv]) ⟨⟨_, rfl⟩, he.fit, hm.fit, trivial⟩ ?_
  have hel' := he.len
  have hml' := hm.len
  obtain ⟨N, hN⟩ : ∃ N : Nat, N = (n % 13).toNat := ⟨_, rfl⟩
  have hN13 : N < 13 := by omega
  rw [← hN]
  have hNv : IntKind.i64.wrap (intOp .rem .u8 n 13) = (N : Int) := by
    have e1 : intOp .rem .u8 n 13 = n % 13 := by simp only [intOp]; rw [Int.tmod_eq_emod_of_nonneg hn]
    rw [e1, wrap_i64 (by omega) (by omega)]; omega
  refine h_loop (fun xs h' => ∃ (a : Nat) (u v : Value) (f f' : List Nat), xs = [natV (pairsTo N a).length, natV a, u, v] ∧ a ≤ N ∧ Two h h' u v (selP (eB e) (pairsTo N a)) (selP (mB e m) (pairsTo N a)) f f') (fun xs h' => N - (vi (gv xs 1)).toNat)
    ⟨0, _, _, [], [], rfl, Nat.zero_le _, H.le_refl _, .inl ⟨rfl, rfl, rfl⟩, .inl ⟨rfl, rfl, rfl⟩, fun _ h => absurd h List.not_mem_nil, fun _ h => absurd h List.not_mem_nil, fun _ h => absurd h List.not_mem_nil⟩ ?_
  rintro xs h1 J - ⟨a, u, v, f, f', rfl, ha, T⟩ hJ
  refine h_ite (fun hc => ?_) (fun hc => ?_)
  · replace hc : cmpOp .lss (a : Int) (IntKind.i64.wrap (intOp .rem .u8 n 13)) = true := hc
    rw [hNv, cmp_lss, decide_eq_true_eq] at hc
    have hPa := pairsTo_len N a
    have hPa2 : a * N ≤ 13 * 13 := Nat.mul_le_mul (by omega) (by omega)
    have hi1 : intOp .add .i64 (a : Int) 1 = ((a + 1 : Nat) : Int) := int_add_one (n := 1000) (by omega) (by omega)
    refine h_loop (fun xs h' => ∃ (j : Nat) (u v : Value) (f f' : List Nat), xs = [natV ((pairsTo N a).length + j), natV (a + 1 + j), u, v] ∧ a + 1 + j ≤ N ∧ Two h h' u v (selP (eB e) (pairsTo N a ++ rowP a j)) (selP (mB e m) (pairsTo N a ++ rowP a j)) f f') (fun xs h' => N - (vi (gv xs 1)).toNat)
      ⟨0, u, v, f, f', by show [natV (pairsTo N a).length, .int .i64 (intOp .add .i64 (a : Int) 1), u, v] = _; rw [hi1]; rfl, by omega, by rw [show rowP a 0 = [] from rfl, List.append_nil]; exact T⟩ ?_
    clear T hPa2 hi1
    rintro xs h2 J2 - ⟨j, u, v, f, f', rfl, hj, T⟩ hJ2
    refine h_ite (fun hc2 => ?_) (fun hc2 => ?_)
    · replace hc2 : cmpOp .lss ((a + 1 + j : Nat) : Int) (IntKind.i64.wrap (intOp .rem .u8 n 13)) = true := hc2
      rw [hNv, cmp_lss, decide_eq_true_eq] at hc2
      have hPa2 : a * N ≤ 13 * 13 := Nat.mul_le_mul (by omega) (by omega)
      obtain ⟨k, hk⟩ : ∃ k, k = (pairsTo N a).length + j := ⟨_, rfl⟩
      rw [← hk]
      have hkl : (pairsTo N a ++ rowP a j).length = k := by rw [List.length_append, rowP_len, hk]
      have hk1 : intOp .add .i64 (k : Int) 1 = ((k + 1 : Nat) : Int) := int_add_one (n := 1000) (by omega) (by omega)
      have hj1 : intOp .add .i64 ((a + 1 + j : Nat) : Int) 1 = ((a + 1 + (j + 1) : Nat) : Int) := int_add_one (n := 1000) (by omega) (by omega)
      have hs : ∀ g : Nat → Bool, selP g (pairsTo N a ++ rowP a (j + 1)) = selP g (pairsTo N a ++ rowP a j) ++ if g k = true then [(a, a + 1 + j)] else [] := fun g => by
        rw [rowP_snoc, ← List.append_assoc, selP_snoc, hkl]
      have hlen : ∀ g : Nat → Bool, (selP g (pairsTo N a ++ rowP a j)).length ≤ 1000 := fun g => by
        have := (selP_sub g (pairsTo N a ++ rowP a j)).length_le
        rw [hkl] at this; omega
      have again : ∀ {h3 : H} {u v : Value} {f f' : List Nat}, Two h h3 u v (selP (eB e) (pairsTo N a ++ rowP a (j + 1))) (selP (mB e m) (pairsTo N a ++ rowP a (j + 1))) f f' → J2 [.int .i64 (intOp .add .i64 (k : Int) 1), .int .i64 (intOp .add .i64 ((a + 1 + j : Nat) : Int) 1), u, v] h3 := fun {h3 u v f f'} T => by
        rw [hk1, hj1]
        exact hJ2 _ _ ⟨j + 1, u, v, f, f', by rw [hk]; rfl, by omega, T⟩ (by simp only [gv_zero, gv_succ, vi_int]; omega)
      have heb : eB e k = (decide (k < e.length) && decide (e.getD k 0 % 2 = 1)) := rfl
      refine ⟨fun q => ?_, ?_⟩
      · replace q : cmpOp .lss (k : Int) ((vlen ev : Nat) : Int) = true := q
        exact ⟨ge0 k, q, trivial⟩
      refine h_load [.int .u8 (e.getD k 0)] ⟨⟨_, rfl⟩, trivial⟩ (fun q => ?_) (h_ite (fun q => ?_) (fun q => ?_))
      · replace q : cmpOp .lss (k : Int) ((vlen ev : Nat) : Int) = true := q
        rw [hel', cmp_lss, decide_eq_true_eq] at q
        exact (bytes_at he (i := k) (by omega)).1.le T.le
      · have hE : eB e k = true := by
          simp only [holds, X.den, PE.den, SV.den, SV.denL, NK.val, NK.sv, NK.pub, gv_zero, gv_succ, vi_int, vb_bool, vlen_sl, vaddr_ptr, vb_ite, vi_ite, cmp_eql, cmp_neq, cmp_lss, cmp_leq, cmp_gtr, cmp_geq, List.map_nil, List.map_cons, List.cons_append, List.nil_append, List.flatten_nil, needs, Ret, true_and, and_true, decide_eq_true_eq, forall_const, intOp] at q
          rw [heb]
          have hk0 : k < e.length := by
            rw [hel'] at q; grind
          have := (bytes_at he hk0).2
          rw [Int.tmod_eq_emod_of_nonneg this] at q
          rw [hel'] at q
          grind
        refine ⟨[natV a, natV (a + 1 + j)], 1, ⟨rfl, rfl⟩, ?_⟩
        show AppSpec _ _ _ _ _ u _ _ _
        refine T.addE (by have := hlen (eB e); omega) fun u' h3 f1 T' => ?_
        refine again (u := u') (v := v) (f := f1) (f' := f') ?_
        rw [hs, hs, hE, if_pos rfl, show mB e m k = false by unfold mB; rw [hE]; rfl]
        simpa using T'
      · have hE : eB e k = false := by
          simp only [holds, X.den, PE.den, SV.den, SV.denL, NK.val, NK.sv, NK.pub, gv_zero, gv_succ, vi_int, vb_bool, vlen_sl, vaddr_ptr, vb_ite, vi_ite, cmp_eql, cmp_neq, cmp_lss, cmp_leq, cmp_gtr, cmp_geq, List.map_nil, List.map_cons, List.cons_append, List.nil_append, List.flatten_nil, needs, Ret, true_and, and_true, decide_eq_true_eq, forall_const, intOp] at q
          rw [heb]
          by_cases hk0 : k < e.length
          · have := (bytes_at he hk0).2
            rw [Int.tmod_eq_emod_of_nonneg this] at q
            rw [hel'] at q
            grind
          · simp [hk0]
        refine ⟨fun q => ?_, ?_⟩
        · replace q : cmpOp .lss (k : Int) ((vlen mv : Nat) : Int) = true := q
          exact ⟨ge0 k, q, trivial⟩
        refine h_load [.int .u8 (m.getD k 0)] ⟨⟨_, rfl⟩, trivial⟩ (fun q => ?_) (h_ite (fun q => ?_) (fun q => ?_))
        · replace q : cmpOp .lss (k : Int) ((vlen mv : Nat) : Int) = true := q
          rw [hml', cmp_lss, decide_eq_true_eq] at q
          exact (bytes_at hm (i := k) (by omega)).1.le T.le
        · have hM : mB e m k = true := by
            simp only [holds, X.den, PE.den, SV.den, SV.denL, NK.val, NK.sv, NK.pub, gv_zero, gv_succ, vi_int, vb_bool, vlen_sl, vaddr_ptr, vb_ite, vi_ite, cmp_eql, cmp_neq, cmp_lss, cmp_leq, cmp_gtr, cmp_geq, List.map_nil, List.map_cons, List.cons_append, List.nil_append, List.flatten_nil, needs, Ret, true_and, and_true, decide_eq_true_eq, forall_const, intOp] at q
            unfold mB
            rw [hE]
            have hk0 : k < m.length := by
              rw [hml'] at q; grind
            have := (bytes_at hm hk0).2
            rw [Int.tmod_eq_emod_of_nonneg this] at q
            rw [hml'] at q
            grind
          refine ⟨[natV a, natV (a + 1 + j)], 1, ⟨rfl, rfl⟩, ?_⟩
          show AppSpec _ _ _ _ _ v _ _ _
          refine T.swap.addE (by have := hlen (mB e m); omega) fun u' h3 f1 T' => ?_
          refine again (u := u) (v := u') (f := f) (f' := f1) ?_
          rw [hs, hs, hE, hM, if_pos rfl]
          simpa using T'.swap
        · have hM : mB e m k = false := by
            simp only [holds, X.den, PE.den, SV.den, SV.denL, NK.val, NK.sv, NK.pub, gv_zero, gv_succ, vi_int, vb_bool, vlen_sl, vaddr_ptr, vb_ite, vi_ite, cmp_eql, cmp_neq, cmp_lss, cmp_leq, cmp_gtr, cmp_geq, List.map_nil, List.map_cons, List.cons_append, List.nil_append, List.flatten_nil, needs, Ret, true_and, and_true, decide_eq_true_eq, forall_const, intOp] at q
            unfold mB
            rw [hE]
            by_cases hk0 : k < m.length
            · have := (bytes_at hm hk0).2
              rw [Int.tmod_eq_emod_of_nonneg this] at q
              rw [hml'] at q
              grind
            · simp [hk0]
          refine again (u := u) (v := v) (f := f) (f' := f') ?_
          rw [hs, hs, hE, hM]
          simpa using T
    · replace hc2 : cmpOp .lss ((a + 1 + j : Nat) : Int) (IntKind.i64.wrap (intOp .rem .u8 n 13)) = false := hc2
      rw [hNv, cmp_lss, decide_eq_false_iff_not] at hc2
      obtain rfl : j = N - (a + 1) := by omega
      rw [← pairsTo_succ] at T
      show J [natV ((pairsTo N a).length + (N - (a + 1))), .int .i64 (intOp .add .i64 (a : Int) 1), u, v] _
      rw [int_add_one (n := 1000) (by omega) (by omega)]
      refine hJ _ _ ⟨a + 1, u, v, f, f', ?_, by omega, T⟩ (by simp only [gv_zero, gv_succ, vi_int]; omega)
      rw [pairsTo_succ, List.length_append, rowP_len]
  · replace hc : cmpOp .lss (a : Int) (IntKind.i64.wrap (intOp .rem .u8 n 13)) = false := hc
    rw [hNv, cmp_lss, decide_eq_false_iff_not] at hc
    obtain rfl : a = N := by omega
    refine ⟨rfl, u, v, f, f', ?_, T⟩
    show Value.agg #[.int .i64 (IntKind.i64.wrap (intOp .rem .u8 n 13)), u, v] = _
    rw [hNv]
end
end Go.Proofs.YtbgfabppmobpgaaDoor
