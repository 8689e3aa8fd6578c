/-
  The best registers there are: what Best answers. Conditions: as the contract says.
-/
import Derived.Test.YtbgfabppmobpgaaDoorR6G
set_option linter.unusedVariables false
set_option linter.unusedSimpArgs false
namespace Go.Proofs.YtbgfabppmobpgaaDoor
open Go

/-- Which error there is. -/
def bestE (g : Gr) (k : Int) (cost : List Int) : Int :=
  if g.ok = false ∨ (cost.length : Int) ≠ g.n then 30 else if k < 1 ∨ 8 < k then 40 else if 14 < g.n then 9 else if cost.any (fun c => decide (c < 1 ∨ 1000 < c)) = true then 2 else 0
/-- What is answered, if there is none. -/
structure BestR (g : Gr) (k : Int) (cost l : List Int) (s : Int) : Prop where
  len : l.length = g.n.toNat
  ok : OkTo g.e k g.n.toNat (gt l)
  sum : s = costL (costF cost) (gt l) 0 g.n.toNat
  least : LeastIs g.e k (costF cost) g.n.toNat s
def BestQ (g : Gr) (k : Int) (cost : List Int) (r : Value) (h' : H) : Prop :=
  (bestE g k cost ≠ 0 ∧ r = .tuple #[.slice none 0 0, .int .i64 0, .int .i64 (bestE g k cost)]) ∨
  (bestE g k cost = 0 ∧ ∃ v l s, r = .tuple #[v, .int .i64 s, .int .i64 0] ∧ IntsAt h' v l ∧ BestR g k cost l s)
theorem mk_ints {h : H} {b n : Nat} : RowF (h.put b (.cells (repZ ((zeroCells Tryd.prog 3).getD []) n).toArray 3 (0, 0))) 3 1 (.slice (some ⟨b, 0, none⟩) n n) ((List.replicate n (0 : Int)).map (.int .i64)) [b] := by
  have : repZ ((zeroCells Tryd.prog 3).getD []) n = (List.replicate n (0 : Int)).map (.int .i64) := by
    rw [show (zeroCells Tryd.prog 3).getD [] = [.int .i64 0] by kernel_rfl]
    unfold repZ
    apply List.ext_getElem (by simp)
    intro i h1 h2
    simp [Nat.mod_one]
  rw [this]
  have := RowF.new (h := h) (e := 3) (sz := 1) (b := b) (n := n) (c := n) (cs := (List.replicate n (0 : Int)).map (.int .i64)) (r := []) (by simp) (by simp) (Nat.le_refl _)
  rwa [List.append_nil] at this
theorem adj_edN {E : EdgeL} {N : Int} (hE : rightE N E = true) (x y : Nat) : ((x, y) ∈ edN E ∨ (y, x) ∈ edN E) ↔ Adj E x y := by
  have key : ∀ x y : Nat, (x, y) ∈ edN E ↔ ((x : Int), (y : Int)) ∈ E := fun x y => by
    unfold edN
    rw [List.mem_map]
    constructor
    · rintro ⟨⟨a, b⟩, h1, h2⟩
      have := ok_range hE h1
      simp only [Prod.mk.injEq] at h2 this
      rw [show ((x : Int), (y : Int)) = (a, b) by simp only [Prod.mk.injEq]; omega]; exact h1
    · exact fun h => ⟨_, h, rfl⟩
  rw [key, key]; rfl
theorem near_fit {h : H} {v : Value} {L : List SP} {fp : List Nat} (k : SlF 67 1 SetF h v L fp) : Fits .sl v := by
  have : NearAt h v L := SlF.at (by omega) setF_at k
  exact this.fit
section
variable {h : H} {ve vm cv : Value} {g : Gr} {k : Int} {cost : List Int}
/-- The walk, from its beginning on. -/
theorem walk_best {h3 : H} {nv nowv : Value} {b : Nat} {fp : List Nat} {S : Int} (ht : Tab h) (hg : g.ok = true) (hcv : IntsAt h cv cost) (hc : (cost.length : Int) = g.n) (hk1 : 1 ≤ k) (hk8 : k ≤ 8) (h14 : g.n ≤ 14) (hcr : ∀ u, u < g.n.toNat → 1 ≤ costF cost u ∧ costF cost u ≤ 1000)
    (hl : h.le h3) (kn : SlF 67 1 SetF h3 nv (nearM g.n.toNat (edN g.e)) fp) (kw : RowF h3 3 1 nowv ((List.replicate g.n.toNat (0 : Int)).map (.int .i64)) [b]) (hb : h b = none) (hd : b ∉ fp) (hS : S = 1 + costL (costF cost) (fun _ => -1) 0 g.n.toNat) :
    CallsA Tryd.prog 27 (fun e => [(e 0).ptr 0, .int .i64 0, .int .i64 0, .int .i64 0]) [hCh nv cv k nowv (.slice none 0 0) S] h3 (RetC fun r cs h' => r = .tuple #[] ∧ ∃ nv' cv' k' nowv' bv s l, cs = [nv', cv', .int .i64 k', nowv', bv, .int .i64 s] ∧ FitsL [.sl, .sl, .int .i64, .sl, .sl, .int .i64] cs ∧ h.le h' ∧ IntsAt h' bv l ∧ BestR g k cost l s) := by
  obtain ⟨g1, g2, g3, -, -⟩ := Gr.ok_parts hg
  have hf : Fresh h [b] := fun z hz => by rw [List.mem_singleton] at hz; subst hz; exact hb
  have hlc : h.le (H.cut h3 [b]) := H.le_cut hl hf
  have W : Hnt (H.cut h3 [b]) g.e k g.n.toNat nv cv nowv (nearM g.n.toNat (edN g.e)) cost := by
    refine ⟨ht.le hlc, nearM_len _ _, by omega, by omega, hk1, hk8, hcr, fun x y => ?_⟩
    rw [nearM_nr (fun e he => ?_), adj_edN g3]
    unfold edN at he
    obtain ⟨⟨p, q⟩, h1, rfl⟩ := List.mem_map.1 he
    have := ok_range g3 h1
    simp only at this ⊢
    omega
  have kn' : NearAt (H.cut h3 [b]) nv (nearM g.n.toNat (edN g.e)) := SlF.at (by omega) setF_at (kn.agree setF_good (cut_agree fun z hz hz' => by
    rw [List.mem_singleton] at hz'; subst hz'; exact hd hz))
  have K : HSt (H.cut h3 [b]) h3 nv cv nowv (.slice none 0 0) (nearM g.n.toNat (edN g.e)) cost (List.replicate g.n.toNat 0) [] [b] [] :=
    ⟨H.cut_le _ _, kn', hcv.le hlc, kw, .inl ⟨rfl, rfl, rfl⟩, H.cut_fresh _ _, fun z hz => absurd hz List.not_mem_nil, fun z hz => absurd hz List.not_mem_nil⟩
  have hrec := from_calls W g.n.toNat (v := 0) (used := 0) (sum := 0) (S := S) (by omega) K (by simp) ⟨fun u hu => absurd hu (Nat.not_lt_zero _), fun u v _ hv => absurd hv (Nat.not_lt_zero _)⟩ (fun u hu => absurd hu (Nat.not_lt_zero _)) (Nat.le_refl _) (by omega) rfl
  refine hrec.mono ?_
  rintro v cs h' ⟨c, e, rfl, bv, now', l, s, fb', rfl, K', hn', ha', R, Lo⟩
  have hlow : ∀ f, OkTo g.e k g.n.toNat f → s ≤ costL (costF cost) f 0 g.n.toNat := fun f hf => by
    have := Lo f hf (fun u hu => absurd hu (Nat.not_lt_zero _)) trivial
    rw [Int.zero_add] at this; exact this
  have hlt : s < S := by
    have := hlow (fun _ => -1) ⟨fun u _ => by show (-1 : Int) ≤ -1 ∧ (-1 : Int) < k; omega, fun u v _ _ _ h0 => by
      have h1 : (0 : Int) ≤ -1 := h0
      omega⟩
    omega
  rcases R.ok with ⟨q1, q2⟩ | ⟨q1, q2, q3, q4⟩
  · omega
  · exact ⟨_, e, rfl, nv, cv, k, nowv, bv, s, l, rfl, K'.fits, hlc.trans K'.le, rowF_ints K'.best, q2, q3, q4, ⟨_, q3, q4⟩, hlow⟩
theorem bestE_of (hg : g.ok = true) (hc : (cost.length : Int) = g.n) (hk1 : 1 ≤ k) (hk8 : k ≤ 8) (h14 : g.n ≤ 14) (hcr : ∀ u, u < cost.length → 1 ≤ costF cost u ∧ costF cost u ≤ 1000) : bestE g k cost = 0 := by
  unfold bestE
  rw [if_neg (by rw [hg]; simp [hc]), if_neg (by omega), if_neg (by omega), if_neg]
  rw [Bool.not_eq_true, List.any_eq_false]
  intro x hx
  obtain ⟨j, hj⟩ := List.mem_iff_getElem?.1 hx
  have hjl := (List.getElem?_eq_some_iff.1 hj).1
  have := hcr j hjl
  rw [costF_some hjl] at hj
  cases hj
  rw [decide_eq_true_eq]; omega
theorem s14 (ht : Tab h) (K : GrAt h ve vm g) (hcv : IntsAt h cv cost) (hcl : cost.length ≤ 1000000) :
    CallsA Tryd.prog 14 (fun _ => [grV g ve vm, .int .i64 k, cv]) [] h (Ret fun r h' => h.le h' ∧ BestQ g k cost r h') := by
  refine c14 (G := [.int .i64 g.n, ve, vm, .int .i64 k, cv]) ⟨⟨_, rfl⟩, K.e.fit, K.m.fit, ⟨_, rfl⟩, hcv.fit, trivial⟩ ?_
  have hcl' := hcv.len
  refine h_call0 (s25 K) ?_
  rintro _ h1 ⟨l1, rfl⟩
  refine ⟨[.bool g.ok], ⟨⟨_, rfl⟩, trivial⟩, rfl, h_ite (fun hc => ?_) (fun hc => ?_)⟩
  · refine ⟨rfl, l1, .inl ?_⟩
    simp only [holds, X.den, PE.den, SV.den, SV.denL, NK.val, NK.sv, NK.pub, gv_zero, gv_succ, vi_int, vb_bool, vlen_sl, vaddr_ptr, vb_ite, vi_ite, cmp_eql, cmp_neq, cmp_lss, cmp_leq, cmp_gtr, cmp_geq, List.map_nil, List.map_cons, List.cons_append, List.nil_append, List.flatten_nil, needs, Ret, true_and, and_true, decide_eq_true_eq, forall_const, intOp, hcl'] at hc
    have : bestE g k cost = 30 := by unfold bestE; rw [if_pos (by grind)]
    rw [this]
    exact ⟨by omega, rfl⟩
  simp only [holds, X.den, PE.den, SV.den, SV.denL, NK.val, NK.sv, NK.pub, gv_zero, gv_succ, vi_int, vb_bool, vlen_sl, vaddr_ptr, vb_ite, vi_ite, cmp_eql, cmp_neq, cmp_lss, cmp_leq, cmp_gtr, cmp_geq, List.map_nil, List.map_cons, List.cons_append, List.nil_append, List.flatten_nil, needs, Ret, true_and, and_true, decide_eq_true_eq, forall_const, intOp, hcl'] at hc
  have hg : g.ok = true := by grind
  have hcn : (cost.length : Int) = g.n := by grind
  clear hc
  obtain ⟨g1, g2, g3, -, -⟩ := Gr.ok_parts hg
  refine h_ite (fun hc => ?_) (fun hc => ?_)
  · refine ⟨rfl, l1, .inl ?_⟩
    simp only [holds, X.den, PE.den, SV.den, SV.denL, NK.val, NK.sv, NK.pub, gv_zero, gv_succ, vi_int, vb_bool, vlen_sl, vaddr_ptr, vb_ite, vi_ite, cmp_eql, cmp_neq, cmp_lss, cmp_leq, cmp_gtr, cmp_geq, List.map_nil, List.map_cons, List.cons_append, List.nil_append, List.flatten_nil, needs, Ret, true_and, and_true, decide_eq_true_eq, forall_const, intOp] at hc
    have : bestE g k cost = 40 := by unfold bestE; rw [if_neg (by rw [hg]; simp [hcn]), if_pos (by grind)]
    rw [this]
    exact ⟨by omega, rfl⟩
  simp only [holds, X.den, PE.den, SV.den, SV.denL, NK.val, NK.sv, NK.pub, gv_zero, gv_succ, vi_int, vb_bool, vlen_sl, vaddr_ptr, vb_ite, vi_ite, cmp_eql, cmp_neq, cmp_lss, cmp_leq, cmp_gtr, cmp_geq, List.map_nil, List.map_cons, List.cons_append, List.nil_append, List.flatten_nil, needs, Ret, true_and, and_true, decide_eq_true_eq, forall_const, intOp] at hc
  have hk1 : 1 ≤ k := by grind
  have hk8 : k ≤ 8 := by grind
  clear hc
  refine h_ite (fun hc => ?_) (fun hc => ?_)
  · refine ⟨rfl, l1, .inl ?_⟩
    replace hc : cmpOp .gtr g.n 14 = true := hc
    rw [cmp_gtr, decide_eq_true_eq] at hc
    have : bestE g k cost = 9 := by unfold bestE; rw [if_neg (by rw [hg]; simp [hcn]), if_neg (by omega), if_pos hc]
    rw [this]
    exact ⟨by omega, rfl⟩
  replace hc : cmpOp .gtr g.n 14 = false := hc
  rw [cmp_gtr, decide_eq_false_iff_not] at hc
  have h14 : g.n ≤ 14 := by omega
  clear hc
  refine h_loop (fun xs h' => ∃ i : Nat, xs = [.int .i64 (1 + costL (costF cost) (fun _ => -1) 0 i), natV i] ∧ i ≤ cost.length ∧ h' = h1 ∧ ∀ u, u < i → 1 ≤ costF cost u ∧ costF cost u ≤ 1000) (fun xs h' => cost.length - (vi (gv xs 1)).toNat) ⟨0, rfl, Nat.zero_le _, rfl, fun u hu => absurd hu (Nat.not_lt_zero _)⟩ ?_
  rintro xs h2 J - ⟨i, rfl, hi, e2, hcr⟩ hJ
  have e2' := e2.symm
  subst e2'
  refine h_ite (fun hc => ?_) (fun hc => ?_)
  · replace hc : cmpOp .lss (i : Int) ((vlen cv : Nat) : Int) = true := hc
    rw [hcl', cmp_lss, decide_eq_true_eq] at hc
    have hil : i < cost.length := by omega
    have hx := costF_some hil
    have hs := costL_snoc (costF cost) (fun _ => -1) i 0
    rw [Nat.zero_add, if_pos (by omega)] at hs
    have b1 := costL_nonneg (cost := costF cost) (f := fun _ => -1) i 0 fun u _ hu => by have := hcr u (by omega); omega
    have b2 := costL_le (cost := costF cost) (f := fun _ => -1) (c := 1000) (by omega) i 0 fun u _ hu => (hcr u (by omega)).2
    refine ⟨fun _ => needIx (i := i) (v := cv) rfl rfl hcl' hil, h_load [.int .i64 (costF cost i)] ⟨⟨_, rfl⟩, trivial⟩ (fun _ => (hcv.read hx).le l1) (h_ite (fun hd => ?_) (fun hd => ?_))⟩
    · refine ⟨rfl, l1, .inl ?_⟩
      simp only [holds, X.den, PE.den, SV.den, SV.denL, NK.val, NK.sv, NK.pub, gv_zero, gv_succ, vi_int, vb_bool, vlen_sl, vaddr_ptr, vb_ite, vi_ite, cmp_eql, cmp_neq, cmp_lss, cmp_leq, cmp_gtr, cmp_geq, List.map_nil, List.map_cons, List.cons_append, List.nil_append, List.flatten_nil, needs, Ret, true_and, and_true, decide_eq_true_eq, forall_const, intOp] at hd
      have : bestE g k cost = 2 := by
        unfold bestE; rw [if_neg (by rw [hg]; simp [hcn]), if_neg (by omega), if_neg (by omega), if_pos]
        exact any_yes hx (by rw [decide_eq_true_eq]; grind)
      rw [this]
      exact ⟨by omega, rfl⟩
    · simp only [holds, X.den, PE.den, SV.den, SV.denL, NK.val, NK.sv, NK.pub, gv_zero, gv_succ, vi_int, vb_bool, vlen_sl, vaddr_ptr, vb_ite, vi_ite, cmp_eql, cmp_neq, cmp_lss, cmp_leq, cmp_gtr, cmp_geq, List.map_nil, List.map_cons, List.cons_append, List.nil_append, List.flatten_nil, needs, Ret, true_and, and_true, decide_eq_true_eq, forall_const, intOp] at hd
      have hr : 1 ≤ costF cost i ∧ costF cost i ≤ 1000 := by grind
      show J [.int .i64 (intOp .add .i64 (1 + costL (costF cost) (fun _ => -1) 0 i) (costF cost i)), .int .i64 (intOp .add .i64 (i : Int) 1)] _
      have e : intOp .add .i64 (1 + costL (costF cost) (fun _ => -1) 0 i) (costF cost i) = 1 + costL (costF cost) (fun _ => -1) 0 (i + 1) := by
        simp only [intOp]; rw [wrap_i64 (by omega) (by omega), hs]; omega
      rw [e, int_add_one (n := 1000001) (by omega) (by omega)]
      refine hJ _ _ ⟨i + 1, rfl, by omega, rfl, fun u hu => ?_⟩ (by simp only [gv_zero, gv_succ, vi_int]; omega)
      by_cases q : u = i
      · rw [q]; exact hr
      · exact hcr u (by omega)
  · replace hc : cmpOp .lss (i : Int) ((vlen cv : Nat) : Int) = false := hc
    rw [hcl', cmp_lss, decide_eq_false_iff_not] at hc
    obtain rfl : i = cost.length := by omega
    have hN : cost.length = g.n.toNat := by omega
    have hE := bestE_of hg hcn hk1 hk8 h14 hcr
    rw [hN] at hcr
    have fin : ∀ {Q : Out} {G : List Value} {Lv : Lv} {h3 h' : H} {nv nowv bv : Value} {s : Int} {l : List Int}, h.le h' → IntsAt h' bv l → BestR g k cost l s → (Ret fun r h' => h.le h' ∧ BestQ g k cost r h') (.tuple #[bv, .int .i64 s, .int .i64 0]) [] h' := fun {Q G Lv h3 h' nv nowv bv s l} a b c => ⟨rfl, a, .inr ⟨hE, bv, l, s, rfl, b, c⟩⟩
    refine ⟨?_, ?_⟩
    · refine h_call0 (s26 (K.le l1) hg) ?_
      rintro nv h3 ⟨l3, fp, kn, fn, nn⟩
      refine ⟨[nv], ⟨(near_fit kn), trivial⟩, rfl, g1, (by omega : g.n * 8 ≤ 281474976710656), ?_⟩
      intro b hb
      have kw := mk_ints (h := h3) (b := b) (n := g.n.toNat)
      have l4 : h3.le (h3.put b (.cells (repZ ((zeroCells Tryd.prog 3).getD []) g.n.toNat).toArray 3 (0, 0))) := H.le_put hb
      show holds _ _ _ ([.int .i64 g.n, ve, vm, .int .i64 k, cv] ++ [.bool g.ok] ++ [.int .i64 (1 + costL (costF cost) (fun _ => -1) 0 cost.length), natV cost.length] ++ [nv] ++ [.slice (some ⟨b, 0, none⟩) g.n.toNat g.n.toNat]) _ (h3.put b (.cells (repZ ((zeroCells Tryd.prog 3).getD []) g.n.toNat).toArray 3 (0, 0)))
      generalize (h3.put b (.cells (repZ ((zeroCells Tryd.prog 3).getD []) g.n.toNat).toArray 3 (0, 0))) = h4 at kw l4
      generalize Value.slice (some ⟨b, 0, none⟩) g.n.toNat g.n.toNat = nowv at kw
      have hbfp : b ∉ fp := fun hz => by have := kn.live setF_good b hz; rw [hb] at this; cases this
      refine h_call1 (walk_best (b := b) (fp := fp) ht hg hcv hcn hk1 hk8 h14 hcr (l1.trans (l3.trans l4)) (kn.agree setF_good (le_agree' l4 (kn.live setF_good))) kw (H.le_none (l1.trans l3) hb) hbfp (by rw [← hN]; rfl)) ?_
      rintro _ cs h5 ⟨rfl, nv', cv', k', nowv', bv, s, l, rfl, hfit, l5, hi, hR⟩
      exact ⟨hfit, [], trivial, rfl, fin (Q := .fail) (G := []) (Lv := []) (h3 := h3) (nv := nv) (nowv := nowv) l5 hi hR⟩
    · refine ⟨g1, (by omega : g.n * 8 ≤ 281474976710656), ?_⟩
      intro b hb
      have kw := mk_ints (h := h1) (b := b) (n := g.n.toNat)
      have l3 : h1.le (h1.put b (.cells (repZ ((zeroCells Tryd.prog 3).getD []) g.n.toNat).toArray 3 (0, 0))) := H.le_put hb
      show holds _ _ _ ([.int .i64 g.n, ve, vm, .int .i64 k, cv] ++ [.bool g.ok] ++ [.int .i64 (1 + costL (costF cost) (fun _ => -1) 0 cost.length), natV cost.length] ++ [.slice (some ⟨b, 0, none⟩) g.n.toNat g.n.toNat]) _ (h1.put b (.cells (repZ ((zeroCells Tryd.prog 3).getD []) g.n.toNat).toArray 3 (0, 0)))
      generalize (h1.put b (.cells (repZ ((zeroCells Tryd.prog 3).getD []) g.n.toNat).toArray 3 (0, 0))) = h3 at kw l3
      generalize Value.slice (some ⟨b, 0, none⟩) g.n.toNat g.n.toNat = nowv at kw
      refine h_call0 (s26 (K.le (l1.trans l3)) hg) ?_
      rintro nv h4 ⟨l4, fp, kn, fn, nn⟩
      refine ⟨[nv], ⟨(near_fit kn), trivial⟩, rfl, ?_⟩
      have hbfp : b ∉ fp := fun hz => by have := kw.live b (by simp); rw [fn b hz] at this; cases this
      refine h_call1 (walk_best (b := b) (fp := fp) ht hg hcv hcn hk1 hk8 h14 hcr (l1.trans (l3.trans l4)) kn (kw.agree (le_agree' l4 kw.live)) (H.le_none l1 hb) hbfp (by rw [← hN]; rfl)) ?_
      rintro _ cs h5 ⟨rfl, nv', cv', k', nowv', bv, s, l, rfl, hfit, l5, hi, hR⟩
      exact ⟨hfit, [], trivial, rfl, fin (Q := .fail) (G := []) (Lv := []) (h3 := h3) (nv := nv) (nowv := nowv) l5 hi hR⟩
end
end Go.Proofs.YtbgfabppmobpgaaDoor
