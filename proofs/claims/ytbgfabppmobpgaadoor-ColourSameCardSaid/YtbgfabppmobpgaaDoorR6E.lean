/-
  Graphs: what fits, what is left out, made graphs and costs. Conditions: as each contract says.
-/
import Derived.Test.YtbgfabppmobpgaaDoorR6B
set_option linter.unusedVariables false
set_option linter.unusedSimpArgs false
namespace Go.Proofs.YtbgfabppmobpgaaDoor
open Go

section
variable {h : H} {ve vm lv : Value} {g : Gr} {l : List Int} {k : Int}
theorem s15 (K : GrAt h ve vm g) (hg : g.ok = true) (hl : IntsAt h lv l) (hn : l.length = g.n.toNat) (hok : OkTo g.e k g.n.toNat (gt l)) :
    CallsA Tryd.prog 15 (fun _ => [grV g ve vm, .int .i64 k, lv]) [] h (Ret fun r h' => h' = h ∧ r = .bool true) := by
  obtain ⟨g1, g2, g3, -, -⟩ := Gr.ok_parts hg
  refine c15 (G := [.int .i64 g.n, ve, vm, .int .i64 k, lv]) ⟨⟨_, rfl⟩, K.e.fit, K.m.fit, ⟨_, rfl⟩, hl.fit, trivial⟩ ?_
  have hll := hl.len
  have hel := K.e.len
  have fi : ∀ n : Int, FitsL [.int .i64] [.int .i64 n] := fun n => ⟨⟨_, rfl⟩, trivial⟩
  refine h_ite (fun hc => ?_) (fun hc => ?_)
  · exfalso
    replace hc : cmpOp .neq ((vlen lv : Nat) : Int) g.n = true := hc
    rw [hll, cmp_neq, decide_eq_true_eq] at hc
    omega
  refine h_range (n := l.length) (fun i h' => h' = h) hll (by omega) rfl (by omega) rfl ?_ ?_
  · rintro i h' J hi e hJ
    have e' := e.symm
    subst e'
    have hx := gt_some hi
    have hr := hok.1 i (by omega)
    generalize gt l i = x at hx hr
    refine h_load [.int .i64 x] (fi _) (fun _ => hl.read hx) ⟨fun _ => needIx (v := lv) rfl rfl hll hi, h_load [.int .i64 x] (fi _) (fun _ => hl.read hx) (h_ite (fun hd => ?_) (fun hd => hJ _ rfl))⟩
    exfalso
    simp only [holds, X.den, PE.den, SV.den, SV.denL, NK.val, NK.sv, NK.pub, gv_zero, gv_succ, vi_int, vb_bool, vlen_sl, vaddr_ptr, vb_ite, vi_ite, cmp_eql, cmp_neq, cmp_lss, cmp_leq, cmp_gtr, cmp_geq, List.map_nil, List.map_cons, List.cons_append, List.nil_append, List.flatten_nil, needs, Ret, true_and, and_true, decide_eq_true_eq, forall_const, intOp] at hd
    grind
  · rintro h' J e
    have e' := e.symm
    subst e'
    refine h_loop (fun xs h' => ∃ i : Nat, xs = [.int .i64 (i : Int)] ∧ i ≤ g.e.length ∧ h' = h) (fun xs h' => g.e.length - (vi (gv xs 0)).toNat) ⟨0, rfl, Nat.zero_le _, rfl⟩ ?_
    rintro xs h2 J2 - ⟨i, rfl, hi, e2⟩ hJ
    have e2' := e2.symm
    subst e2'
    refine h_ite (fun hc2 => ?_) (fun hc2 => ⟨rfl, rfl, rfl⟩)
    replace hc2 : cmpOp .lss (i : Int) ((vlen ve : Nat) : Int) = true := hc2
    rw [hel, cmp_lss, decide_eq_true_eq] at hc2
    have hx : g.e[i]? = some g.e[i] := List.getElem?_eq_getElem (by omega)
    generalize g.e[i] = x at hx
    have hxm := List.mem_of_getElem? hx
    obtain ⟨x1, x2, x3⟩ := ok_range g3 hxm
    obtain ⟨x, y⟩ := x
    simp only at x1 x2 x3
    obtain ⟨a, rfl⟩ : ∃ a : Nat, x = a := ⟨x.toNat, by omega⟩
    obtain ⟨b, rfl⟩ : ∃ b : Nat, y = b := ⟨y.toNat, by omega⟩
    have ha := gt_some (l := l) (v := a) (by omega)
    have hb := gt_some (l := l) (v := b) (by omega)
    have hne := hok.2 a b (by omega) (by omega) (.inl hxm)
    generalize gt l a = p at ha hne
    generalize gt l b = q at hb hne
    have nI : ∀ {D : List Value} {j : Nat}, gv D j = .int .i64 (i : Int) → gv D 1 = ve → needs D [(.cmp .geq (.var j) (.lit 0)), (.cmp .lss (.var j) (.len 1))] := fun e1 e2 => needIx e1 e2 hel (by omega)
    have nL : ∀ {D : List Value} {j z : Nat}, gv D j = .int .i64 (z : Int) → gv D 4 = lv → z < l.length → needs D [(.cmp .geq (.var j) (.lit 0)), (.cmp .lss (.var j) (.len 4))] := fun e1 e2 e3 => needIx e1 e2 hll e3
    have rA := K.e.readA hx
    have rB := K.e.readB hx
    refine ⟨fun _ => nI rfl rfl, h_load [.int .i64 (a : Int)] (fi _) (fun _ => rA) ⟨fun _ => nL rfl rfl (by omega), h_load [.int .i64 p] (fi _) (fun _ => hl.read ha) ⟨fun _ => nI rfl rfl, h_load [.int .i64 (a : Int)] (fi _) (fun _ => rA)
      ⟨fun _ => nL rfl rfl (by omega), h_load [.int .i64 p] (fi _) (fun _ => hl.read ha) ⟨fun _ => nI rfl rfl, h_load [.int .i64 (b : Int)] (fi _) (fun _ => rB) ⟨fun _ => nL rfl rfl (by omega), h_load [.int .i64 q] (fi _) (fun _ => hl.read hb) (h_ite (fun hd => ?_) (fun hd => ?_))⟩⟩⟩⟩⟩⟩
    · exfalso
      simp only [holds, X.den, PE.den, SV.den, SV.denL, NK.val, NK.sv, NK.pub, gv_zero, gv_succ, vi_int, vb_bool, vlen_sl, vaddr_ptr, vb_ite, vi_ite, cmp_eql, cmp_neq, cmp_lss, cmp_leq, cmp_gtr, cmp_geq, List.map_nil, List.map_cons, List.cons_append, List.nil_append, List.flatten_nil, needs, Ret, true_and, and_true, decide_eq_true_eq, forall_const, intOp] at hd
      grind
    · show J2 [.int .i64 (intOp .add .i64 (i : Int) 1)] _
      have := K.el
      rw [int_add_one (n := 1000001) (by omega) (by omega)]
      refine hJ _ _ ⟨i + 1, rfl, by omega, rfl⟩ ?_
      simp only [gv_zero, vi_int]; omega
def costF (cost : List Int) (u : Nat) : Int := cost.getD u 0
theorem costF_some {l : List Int} {v : Nat} (hv : v < l.length) : l[v]? = some (costF l v) := by
  unfold costF; rw [List.getD_eq_getElem?_getD, List.getElem?_eq_getElem hv]; rfl
theorem s16 {cv : Value} {cost : List Int} (hl : IntsAt h lv l) (hcv : IntsAt h cv cost) (hn : l.length ≤ cost.length) (h2 : l.length ≤ 1000) (hc : ∀ u, u < l.length → 0 ≤ costF cost u ∧ costF cost u ≤ 1000) :
    CallsA Tryd.prog 16 (fun _ => [lv, cv]) [] h (Ret fun r h' => h' = h ∧ r = .int .i64 (costL (costF cost) (gt l) 0 l.length)) := by
  refine c16 (G := [lv, cv]) ⟨hl.fit, hcv.fit, trivial⟩ ?_
  have hll := hl.len
  have hcl := hcv.len
  have fi : ∀ n : Int, FitsL [.int .i64] [.int .i64 n] := fun n => ⟨⟨_, rfl⟩, trivial⟩
  refine h_loop (fun xs h' => ∃ i : Nat, xs = [.int .i64 (costL (costF cost) (gt l) 0 i), .int .i64 (i : Int)] ∧ i ≤ l.length ∧ h' = h) (fun xs h' => l.length - (vi (gv xs 1)).toNat) ⟨0, rfl, Nat.zero_le _, rfl⟩ ?_
  rintro xs h2 J - ⟨i, rfl, hi, e⟩ hJ
  have e' := e.symm
  subst e'
  refine h_ite (fun hd => ?_) (fun hd => ?_)
  · replace hd : cmpOp .lss (i : Int) ((vlen lv : Nat) : Int) = true := hd
    rw [hll, cmp_lss, decide_eq_true_eq] at hd
    have hil : i < l.length := by omega
    have hs := costL_snoc (costF cost) (gt l) i 0
    rw [Nat.zero_add] at hs
    have h3 := costL_nonneg (cost := costF cost) (f := gt l) i 0 fun u _ hu => (hc u (by omega)).1
    have h4 := costL_le (cost := costF cost) (f := gt l) (c := 1000) (by omega) i 0 fun u _ hu => (hc u (by omega)).2
    have h5 := hc i hil
    have hx := gt_some hil
    generalize gt l i = x at hx hs
    refine ⟨fun _ => needIx (v := lv) rfl rfl hll hil, h_load [.int .i64 x] (fi _) (fun _ => hl.read hx) (h_ite (fun h6 => ?_) (fun h6 => ?_))⟩
    · replace h6 : cmpOp .lss x 0 = true := h6
      rw [cmp_lss, decide_eq_true_eq] at h6
      rw [if_pos h6] at hs
      refine ⟨fun _ => needIx (i := i) (v := cv) rfl rfl hcl (by omega), h_load [.int .i64 (costF cost i)] (fi _) (fun _ => hcv.read (costF_some (v := i) (by omega))) ?_⟩
      show J [.int .i64 (intOp .add .i64 (costL (costF cost) (gt l) 0 i) (costF cost i)), .int .i64 (intOp .add .i64 (i : Int) 1)] _
      rw [int_add_one (n := 1000001) (by omega) (by omega)]
      have : intOp .add .i64 (costL (costF cost) (gt l) 0 i) (costF cost i) = costL (costF cost) (gt l) 0 (i + 1) := by
        simp only [intOp]; rw [wrap_i64 (by omega) (by omega), hs]
      rw [this]
      refine hJ _ _ ⟨i + 1, rfl, by omega, rfl⟩ ?_
      simp only [gv_zero, gv_succ, vi_int]; omega
    · replace h6 : cmpOp .lss x 0 = false := h6
      rw [cmp_lss, decide_eq_false_iff_not] at h6
      rw [if_neg h6, Int.add_zero] at hs
      show J [.int .i64 (costL (costF cost) (gt l) 0 i), .int .i64 (intOp .add .i64 (i : Int) 1)] _
      rw [int_add_one (n := 1000001) (by omega) (by omega), ← hs]
      refine hJ _ _ ⟨i + 1, rfl, by omega, rfl⟩ ?_
      simp only [gv_zero, gv_succ, vi_int]; omega
  · replace hd : cmpOp .lss (i : Int) ((vlen lv : Nat) : Int) = false := hd
    rw [hll, cmp_lss, decide_eq_false_iff_not] at hd
    obtain rfl : i = l.length := by omega
    exact ⟨rfl, rfl, rfl⟩
def U16C (_ : H) (cs : List Value) (n : Int) : Prop := cs = [.int .u16 n] ∧ 0 ≤ n
theorem u16C_mono : Mono U16C := fun _ _ _ _ _ h => h
abbrev U16At := SlAt 1 U16C
theorem s13 {n : Nat} {wv : Value} {w : List Int} (hw : U16At h wv w) (hn : n ≤ 1000) :
    CallsA Tryd.prog 13 (fun _ => [.int .i64 (n : Int), wv]) [] h (Ret fun r h' => h.le h' ∧ ∃ c : List Int, c.length = n ∧ (∀ x ∈ c, 1 ≤ x ∧ x ≤ 1000) ∧ OwnInts h h' r c) := by
  refine c13 (G := [.int .i64 (n : Int), wv]) ⟨⟨_, rfl⟩, hw.fit, trivial⟩ ?_
  refine ⟨by show (0 : Int) ≤ (n : Int); omega, by show ((n : Nat) : Int) * 8 ≤ _; omega, ?_⟩
  intro b hb
  have hwl := hw.len
  have hmk : OwnInts h (h.put b (.cells (repZ ((zeroCells Tryd.prog 3).getD []) n).toArray 3 (0, 0))) (.slice (some ⟨b, 0, none⟩) n n) (List.replicate n 0) := by
    have : repZ ((zeroCells Tryd.prog 3).getD []) n = (List.replicate n (0 : Int)).map (.int .i64) := by
      rw [show (zeroCells Tryd.prog 3).getD [] = [.int .i64 0] by kernel_rfl]
      unfold repZ
      apply List.ext_getElem (by simp)
      intro i h1 h2
      simp [Nat.mod_one]
    rw [this]
    have := own_new (h0 := h) (h := h) (b := b) (l := List.replicate n (0 : Int)) hb
    simpa using this
  have hl0 : h.le (h.put b (.cells (repZ ((zeroCells Tryd.prog 3).getD []) n).toArray 3 (0, 0))) := H.le_put hb
  show holds _ _ _ ([.int .i64 (n : Int), wv] ++ [.slice (some ⟨b, 0, none⟩) n n]) _ (h.put b (.cells (repZ ((zeroCells Tryd.prog 3).getD []) n).toArray 3 (0, 0)))
  generalize h.put b (.cells (repZ ((zeroCells Tryd.prog 3).getD []) n).toArray 3 (0, 0)) = h0 at hmk hl0
  generalize Value.slice (some ⟨b, 0, none⟩) n n = cv at hmk
  have hlen : ∀ {h' : H} {c : List Int}, c.length = n → OwnInts h h' cv c → vlen cv = n := fun e k => by rw [k.ints.len, e]
  have hset : ∀ {h' : H} {c : List Int} {i : Nat} {x : Int}, h.le h' → c.length = n → OwnInts h h' cv c → i < n → Writable h' ((vaddr cv).add (i * 1)) 1 ∧ h.le (h'.sets ((vaddr cv).add (i * 1)) [.int .i64 x]) ∧ OwnInts h (h'.sets ((vaddr cv).add (i * 1)) [.int .i64 x]) cv (c.set i x) := fun {h' c i x} hl hc k hi => by
    have hcl := hlen hc k
    obtain ⟨s1, s2, s3⟩ := set_row (o := i) (N := [Value.int .i64 x]) k hl (by simp; omega)
    rw [Nat.mul_one]
    refine ⟨Row.writable k (by have := k.fit; obtain ⟨a, m, c', rfl, _, q⟩ := this; simp only [vcap_sl, vlen_sl] at hcl ⊢; omega), s2, ?_⟩
    have : ((c.map (Value.int .i64)).take i ++ [Value.int .i64 x] ++ (c.map (Value.int .i64)).drop (i + [Value.int .i64 x].length)) = (c.set i x).map (.int .i64) := by
      rw [List.set_eq_take_append_cons_drop, if_pos (by omega)]
      simp
    rw [this] at s1; exact s1
  refine h_loop (fun xs h' => ∃ (i : Nat) (c : List Int), xs = [.int .i64 (i : Int)] ∧ i ≤ n ∧ h.le h' ∧ c.length = n ∧ OwnInts h h' cv c ∧ ∀ j x, j < i → c[j]? = some x → 1 ≤ x ∧ x ≤ 1000) (fun xs h' => n - (vi (gv xs 0)).toNat) ⟨0, _, rfl, Nat.zero_le _, hl0, by simp, hmk, fun j x hj => absurd hj (Nat.not_lt_zero _)⟩ ?_
  rintro xs h1 J - ⟨i, c, rfl, hi, hl1, hc1, k1, p1⟩ hJ
  have hcl := hlen hc1 k1
  refine h_ite (fun hd => ?_) (fun hd => ?_)
  · replace hd : cmpOp .lss (i : Int) ((vlen cv : Nat) : Int) = true := hd
    rw [hcl, cmp_lss, decide_eq_true_eq] at hd
    have hin : i < n := by omega
    have nC : ∀ {D : List Value}, gv D 3 = .int .i64 (i : Int) → gv D 2 = cv → needs D [(.cmp .geq (.var 3) (.lit 0)), (.cmp .lss (.var 3) (.len 2))] := fun e1 e2 => needIx e1 e2 hcl hin
    obtain ⟨w1, w2, w3⟩ := hset (i := i) (x := 1) hl1 hc1 k1 hin
    have again : ∀ {h2 : H} {c2 : List Int} {x : Int}, h.le h2 → c2.length = n → OwnInts h h2 cv (c2.set i x) → (∀ j x, j < i → c2[j]? = some x → 1 ≤ x ∧ x ≤ 1000) → 1 ≤ x → x ≤ 1000 → J [.int .i64 (intOp .add .i64 (i : Int) 1)] h2 := fun {h2 c2 x} a b c p hx1 hx2 => by
      rw [int_add_one (n := 1000001) (by omega) (by omega)]
      refine hJ _ _ ⟨i + 1, _, rfl, by omega, a, by rw [List.length_set]; exact b, c, fun j y hj hy => ?_⟩ (by simp only [gv_zero, vi_int]; omega)
      rw [List.getElem?_set] at hy
      by_cases e : i = j
      · rw [if_pos e, if_pos (by omega)] at hy; cases hy; exact ⟨hx1, hx2⟩
      · rw [if_neg e] at hy; exact p j y (by omega) hy
    refine ⟨fun _ => nC rfl rfl, ?_⟩
    refine h_store ((vaddr cv).add (i * 1)) [.int .i64 1] rfl rfl w1 ?_
    have hc2 : (c.set i 1).length = n := by rw [List.length_set]; exact hc1
    refine h_ite (fun hd2 => ?_) (fun hd2 => ?_)
    · replace hd2 : cmpOp .lss (i : Int) ((vlen wv : Nat) : Int) = true := hd2
      rw [hwl, cmp_lss, decide_eq_true_eq] at hd2
      have hx : w[i]? = some w[i] := List.getElem?_eq_getElem (by omega)
      generalize w[i] = x at hx
      obtain ⟨cs, ⟨rfl, hx0⟩, rx⟩ := hw.get i x hx
      have hmod : intOp .add .i64 1 (IntKind.i64.wrap (intOp .rem .u16 x 1000)) = 1 + x % 1000 := by
        have e1 : intOp .rem .u16 x 1000 = x % 1000 := by simp only [intOp]; rw [Int.tmod_eq_emod_of_nonneg hx0]
        rw [e1, wrap_i64 (by omega) (by omega)]
        simp only [intOp]; rw [wrap_i64 (by omega) (by omega)]
      obtain ⟨w4, w5, w6⟩ := hset (i := i) (x := 1 + x % 1000) w2 hc2 w3 hin
      refine ⟨fun _ => needIx (i := i) (v := wv) rfl rfl hwl (by omega), h_load [.int .u16 x] ⟨⟨_, rfl⟩, trivial⟩ (fun _ => rx.le w2) ⟨fun _ => nC rfl rfl, ?_⟩⟩
      refine h_store ((vaddr cv).add (i * 1)) [.int .i64 (1 + x % 1000)] rfl (by show [Value.int .i64 (intOp .add .i64 1 (IntKind.i64.wrap (intOp .rem .u16 x 1000)))] = _; rw [hmod]) w4 ?_
      exact again w5 hc2 w6 (fun j y hj hy => by
        rw [List.getElem?_set_ne (by omega)] at hy; exact p1 j y hj hy) (by omega) (by omega)
    · exact again w2 hc1 w3 p1 (by omega) (by omega)
  · replace hd : cmpOp .lss (i : Int) ((vlen cv : Nat) : Int) = false := hd
    rw [hcl, cmp_lss, decide_eq_false_iff_not] at hd
    obtain rfl : i = n := by omega
    refine ⟨rfl, hl1, c, hc1, fun x hx => ?_, k1⟩
    obtain ⟨j, hj⟩ := List.mem_iff_getElem?.1 hx
    exact p1 j x (by rw [← hc1]; exact (List.getElem?_eq_some_iff.1 hj).1) hj
end
end Go.Proofs.YtbgfabppmobpgaaDoor
