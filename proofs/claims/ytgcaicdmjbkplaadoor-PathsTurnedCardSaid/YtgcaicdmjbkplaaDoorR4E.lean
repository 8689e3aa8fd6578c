/-
  Which blocks a block follows (Ahead), numbers in a list, and how many numbers a set has. Conditions: as each contract says.
-/
import Derived.Test.YtgcaicdmjbkplaaDoorR4D
set_option linter.unusedVariables false
set_option linter.unusedSimpArgs false
namespace Go.Proofs.YtgcaicdmjbkplaaDoor
open Go

theorem mem_next {B : List Blk} (hB : OkB B) {k n : Nat} {b : Blk} (hb : B[k]? = some b) : ((n : Int) ∈ nextL b.en ↔ n ∈ nextN B k) := by
  rw [nextN_at hb, List.mem_map]
  constructor
  · intro h; exact ⟨_, h, by simp⟩
  · rintro ⟨m, hm, e⟩
    have := hB b (List.mem_of_getElem? hb) m hm
    have : m = (n : Int) := by omega
    rw [← this]; exact hm
def aheadM (B : List Blk) (n : Nat) : List Nat := (List.range B.length).filter fun b => decide (n ∈ nextN B b)
def aheadI (B : List Blk) (n i : Nat) : List Nat := (List.range i).filter fun b => decide (n ∈ nextN B b)
theorem aheadI_succ (B : List Blk) (n i : Nat) : aheadI B n (i + 1) = aheadI B n i ++ if n ∈ nextN B i then [i] else [] := by
  unfold aheadI
  rw [List.range_succ, List.filter_append]
  congr 1
  by_cases h : n ∈ nextN B i <;> simp [h]
theorem aheadI_len (B : List Blk) (n i : Nat) : (aheadI B n i).length ≤ i := by
  unfold aheadI
  have := List.length_filter_le (fun b => decide (n ∈ nextN B b)) (List.range i)
  rwa [List.length_range] at this
def IntF : RepF (List Nat) := fun h cs l fp => ∃ u, cs = [u] ∧ RowF h 3 1 u (l.map natV) fp
theorem intF_good : GoodF IntF := ⟨fun ha ⟨u, h1, h2⟩ => ⟨u, h1, h2.agree ha⟩, fun ⟨u, h1, h2⟩ => h2.live⟩
def IntsC (h : H) (cs : List Value) (l : List Nat) : Prop := ∃ u, cs = [u] ∧ IntsAt h u (l.map Int.ofNat)
theorem intsC_mono : Mono IntsC := fun _ _ _ _ hl ⟨u, h1, h2⟩ => ⟨u, h1, h2.le hl⟩
theorem intF_at {h : H} {cs : List Value} {l : List Nat} {fp : List Nat} (k : IntF h cs l fp) : IntsC h cs l := by
  obtain ⟨u, h1, h2⟩ := k; exact ⟨u, h1, ints_of_nats h2⟩
theorem rowF_nodup {h : H} {e : TypeId} {sz : Nat} {v : Value} {cs : List Value} {fp : List Nat} (k : RowF h e sz v cs fp) : fp.Nodup := by
  rcases k with ⟨_, _, rfl⟩ | ⟨b, _, _, _, _, _, _, _, _, rfl⟩ <;> simp
theorem zero_sl : (zeroCells Tryd.prog 64).getD [] = [.slice none 0 0] := by kernel_rfl
theorem repZ_sl (n : Nat) : repZ [Value.slice none 0 0] n = List.replicate n (.slice none 0 0) := by
  apply List.ext_getElem?
  intro i
  unfold repZ
  simp only [List.length_cons, List.length_nil, Nat.zero_add, Nat.mul_one, Nat.mod_one, List.getElem?_map, List.getElem?_replicate]
  by_cases hi : i < n
  · rw [List.getElem?_range hi, if_pos hi]; rfl
  · rw [List.getElem?_eq_none (by simpa using hi), if_neg hi]; rfl
theorem mk_rows {h : H} {b n : Nat} (hb : h b = none) : SlF 64 1 IntF (h.put b (.cells (repZ ((zeroCells Tryd.prog 64).getD []) n).toArray 64 (0, 0))) (.slice (some ⟨b, 0, none⟩) n n) (List.replicate n ([] : List Nat)) [b] := by
  rw [zero_sl, repZ_sl]
  have hr := RowF.new (h := h) (e := 64) (sz := 1) (b := b) (n := n) (c := n) (cs := List.replicate n (Value.slice none 0 0)) (r := []) (by simp) (by simp) (Nat.le_refl _)
  rw [List.append_nil] at hr
  have e1 : cellsE (List.replicate n (⟨[.slice none 0 0], [], []⟩ : El (List Nat))) = List.replicate n (.slice none 0 0) := by
    unfold cellsE
    induction n with
    | zero => rfl
    | succ n ih => rw [List.replicate_succ, List.flatMap_cons, List.replicate_succ, ← ih]; · rfl
                   · have := RowF.new (h := h) (e := 64) (sz := 1) (b := b) (n := n) (c := n) (cs := List.replicate n (Value.slice none 0 0)) (r := []) (by simp) (by simp) (Nat.le_refl _)
                     rwa [List.append_nil] at this
  have e2 : fpE (List.replicate n (⟨[.slice none 0 0], [], []⟩ : El (List Nat))) = [] := by
    unfold fpE
    rw [List.flatMap_eq_nil_iff]
    intro x hx
    rw [(List.mem_replicate.1 hx).2]
  refine ⟨List.replicate n ⟨[.slice none 0 0], [], []⟩, [b], by simp, by rw [e2]; rfl, by rw [e1]; exact hr, fun t ht => ?_⟩
  rw [(List.mem_replicate.1 ht).2]
  exact ⟨rfl, _, rfl, .inl ⟨rfl, rfl, rfl⟩⟩
/-- After so many of a block's followers. -/
def aheadJ (B : List Blk) (i j n : Nat) : List Nat := aheadI B n i ++ if n ∈ (nextN B i).take j then [i] else []
theorem next_nodup (B : List Blk) (hB : OkB B) (k : Nat) : (nextN B k).Nodup := by
  unfold nextN
  split
  · rename_i b hb
    have hr := hB b (List.mem_of_getElem? hb)
    unfold nextL at hr ⊢
    split
    · simp
    · rename_i h1
      split
      · rename_i h2
        rw [if_neg h1, if_pos h2] at hr
        have r1 := hr b.en.to (by simp)
        have r2 := hr b.en.el (by simp)
        have : b.en.to ≠ b.en.el := fun e => h1 (.inr ⟨h2, e⟩)
        simp; omega
      · simp
  · simp
set_option maxRecDepth 4000 in
theorem s42 {h : H} {v : Value} {B : List Blk} (hv : BlksAt h v B) (hB : OkB B) (h2 : B.length ≤ 1000) :
    CallsA Tryd.prog 42 (fun _ => [v]) [] h (Ret fun r h' => h.le h' ∧ SlAt 1 IntsC h' r ((List.range B.length).map (aheadM B))) := by
  refine c42 (G := [v]) ⟨hv.fit, trivial⟩ ?_
  have hvl := hv.len
  refine ⟨?_, ?_, fun b hb => ?_⟩
  · show (0 : Int) ≤ ((vlen v : Nat) : Int); omega
  · show ((vlen v : Nat) : Int) * 24 ≤ 281474976710656; rw [hvl]; omega
  show holds _ _ _ [v, .slice (some ⟨b, 0, none⟩) (Int.toNat ((vlen v : Nat) : Int)) (Int.toNat ((vlen v : Nat) : Int))] [] (h.put b (.cells (repZ ((zeroCells Tryd.prog 64).getD []) (Int.toNat ((vlen v : Nat) : Int))).toArray 64 (0, 0)))
  rw [Int.toNat_natCast, hvl]
  have hbo := mk_rows (n := B.length) hb
  have q0 : h.le (h.put b (.cells (repZ ((zeroCells Tryd.prog 64).getD []) B.length).toArray 64 (0, 0))) := H.le_put hb
  generalize h.put b (.cells (repZ ((zeroCells Tryd.prog 64).getD []) B.length).toArray 64 (0, 0)) = g0 at hbo q0
  obtain ⟨va, hva⟩ : ∃ va, va = Value.slice (some ⟨b, 0, none⟩) B.length B.length := ⟨_, rfl⟩
  rw [← hva] at hbo ⊢
  have hval : vlen va = B.length := by rw [hva]; rfl
  refine h_loop (fun xs h' => ∃ (i : Nat) (fp : List Nat), xs = [.int .i64 (i : Int)] ∧ i ≤ B.length ∧ SlF 64 1 IntF h' va ((List.range B.length).map fun m => aheadI B m i) fp ∧ fp.Nodup ∧ Fresh h fp ∧ h.le h')
    (fun xs h' => (B.length - vi (gv xs 0)).toNat) ⟨0, [b], rfl, by omega, ?_, by simp, (fun x hx => by rw [List.mem_singleton] at hx; subst hx; exact hb), q0⟩ ?_
  · have : (List.range B.length).map (fun m => aheadI B m 0) = List.replicate B.length [] := by
      apply List.ext_getElem?
      intro i
      rw [List.getElem?_map, List.getElem?_replicate]
      by_cases hi : i < B.length
      · rw [List.getElem?_range hi, if_pos hi]; rfl
      · rw [List.getElem?_eq_none (by simpa using hi), if_neg hi]; rfl
    rw [this]; exact hbo
  rintro xs h' J - ⟨i, fp, rfl, hi, hs, hnd, hf, hle⟩ hJ
  simp only [List.cons_append, List.nil_append]
  refine h_ite (fun hc => ?_) (fun hc => ?_)
  · replace hc : cmpOp .lss (i : Int) ((vlen v : Nat) : Int) = true := hc
    rw [hvl, cmp_lss, decide_eq_true_eq] at hc
    have hiB : i < B.length := by omega
    have hbl := List.getElem?_eq_getElem hiB
    generalize B[i] = x at hbl
    obtain ⟨cs, ⟨w, rfl, hw⟩, hrd⟩ := (SlAt.le blkC_mono hle hv).get i x hbl
    refine ⟨fun _ => ⟨ge0 i, by show cmpOp .lss (i : Int) ((vlen v : Nat) : Int) = true; rw [hvl]; exact ltN hiB, trivial⟩, h_load (w :: endC x.en) ⟨hw.fit, endFit x.en⟩ (fun _ => hrd) ?_⟩
    simp only [endC, List.cons_append, List.nil_append]
    refine h_call0 (s49 x.en) ?_
    rintro vn g4 ⟨hl4, hon⟩
    refine ⟨[vn], ⟨hon.ints.fit, trivial⟩, rfl, ?_⟩
    simp only [List.cons_append, List.nil_append]
    obtain ⟨N, hNd⟩ : ∃ N, N = nextN B i := ⟨_, rfl⟩
    have hN : N = (nextL x.en).map Int.toNat := by rw [hNd]; exact nextN_at hbl
    have hNr : ∀ n ∈ nextL x.en, 0 ≤ n ∧ n < (B.length : Int) := hB x (List.mem_of_getElem? hbl)
    have hnl := hon.ints.len
    have hNl : N.length = (nextL x.en).length := by rw [hN, List.length_map]
    have hN2 : N.length ≤ 2 := by rw [hNl]; unfold nextL; split <;> (try split) <;> simp
    have hlf : Live h' fp := hs.live intF_good
    have hs4 := hs.agree intF_good (hl4.kept.agree hlf fun y _ => by simp)
    obtain ⟨hb4, hbd⟩ : ∃ hb4, hb4 = H.cut g4 fp := ⟨_, rfl⟩
    have hlb : h.le hb4 := by rw [hbd]; exact H.le_cut (hle.trans hl4) hf
    have hbl4 : hb4.le g4 := by rw [hbd]; exact H.cut_le _ _
    have hfb : Fresh hb4 fp := by rw [hbd]; exact H.cut_fresh _ _
    have hN4 : IntsAt hb4 vn (nextL x.en) := by rw [hbd]; exact OwnInts.ints (Row.cut hon hlf)
    refine h_loop (fun xs h5 => ∃ (j : Nat) (f5 : List Nat), xs = [.int .i64 (j : Int)] ∧ j ≤ N.length ∧ SlF 64 1 IntF h5 va ((List.range B.length).map fun m => aheadJ B i j m) f5 ∧ f5.Nodup ∧ Fresh hb4 f5 ∧ hb4.le h5)
      (fun xs h' => (N.length - vi (gv xs 0)).toNat) ⟨0, fp, rfl, by omega, ?_, hnd, hfb, hbl4⟩ ?_
    · have : (fun m => aheadJ B i 0 m) = fun m => aheadI B m i := by funext m; simp [aheadJ]
      rw [this]; exact hs4
    rintro xs h5 J5 - ⟨j, f5, rfl, hj, hs5, hnd5, hf5, hle5⟩ hJ5
    simp only [List.cons_append, List.nil_append]
    refine h_ite (fun hc5 => ?_) (fun hc5 => ?_)
    · replace hc5 : cmpOp .lss (j : Int) ((vlen vn : Nat) : Int) = true := hc5
      rw [hnl, cmp_lss, decide_eq_true_eq] at hc5
      have hjN : j < (nextL x.en).length := by omega
      have hx : (nextL x.en)[j]? = some (nextL x.en)[j] := List.getElem?_eq_getElem hjN
      have hxm : (nextL x.en)[j] ∈ nextL x.en := List.getElem_mem _
      generalize (nextL x.en)[j] = y at hx hxm
      obtain ⟨hy0, hy1⟩ := hNr y hxm
      obtain ⟨y, rfl⟩ : ∃ z : Nat, y = z := ⟨y.toNat, by omega⟩
      have hyl : y < B.length := by omega
      have hNj : N[j]? = some y := by rw [hN, List.getElem?_map, hx]; simp
      have hyt : N.take (j + 1) = N.take j ++ [y] := by rw [List.take_add_one, hNj]; rfl
      have hynot : y ∉ N.take j := fun hq => by
        have := next_nodup B hB i
        rw [← hNd] at this
        have hnn : (N.take (j + 1)).Nodup := List.Nodup.sublist (List.take_sublist _ _) this
        rw [hyt, List.nodup_append] at hnn
        exact hnn.2.2 y hq y (by simp) rfl
      have hget : ((List.range B.length).map fun m => aheadJ B i j m)[y]? = some (aheadI B y i) := by
        rw [List.getElem?_map, List.getElem?_range hyl]
        simp only [Option.map_some, aheadJ, ← hNd]
        rw [if_neg hynot, List.append_nil]
      obtain ⟨c, f, L1, L2, fr, K⟩ := hs5.lens hget
      obtain ⟨u, rfl, hu⟩ := K.rep
      have hfn := rowF_nodup hu
      have rdu : Reads h5 ((vaddr va).add (y * 1)) [u] := K.reads (o := 0) fun k z hk => by obtain ⟨rfl, rfl⟩ := get_one hk; rfl
      have ndy : ∀ D : List Value, gv D 10 = .int .i64 (y : Int) → gv D 1 = va → needs D [(.cmp .geq (.var 10) (.lit 0)), (.cmp .lss (.var 10) (.len 1))] := fun D e1 e2 => by
        simp only [needs, X.den, e1, e2, hval, vb_bool, vi_int, and_true]
        exact ⟨ge0 y, ltN hyl⟩
      refine ⟨fun _ => ⟨ge0 j, by show cmpOp .lss (j : Int) ((vlen vn : Nat) : Int) = true; rw [hnl]; exact ltN hjN, trivial⟩, h_load [.int .i64 (y : Int)] ⟨⟨_, rfl⟩, trivial⟩ (fun _ => (hN4.le hle5).read hx) ⟨fun _ => ndy _ rfl rfl, h_load [u] ⟨hu.row0.fit, trivial⟩ (fun _ => rdu) ?_⟩⟩
      simp only [List.cons_append, List.nil_append]
      refine ⟨[natV i], 1, ⟨rfl, rfl⟩, ?_⟩
      show AppSpec _ _ _ _ _ u _ _ _
      have hul := len_of_rowF hu
      rw [List.length_map] at hul
      have hal := aheadI_len B y i
      refine app_rowF hu rfl zero_int (by rw [hul]; omega) fun u' h6 f6 m1 m2 m3 m4 => ?_
      have m4' : ∀ z ∈ f6, z ∈ f ∨ h5 z = none := fun z hz => by
        rcases m4 with rfl | ⟨z', rfl, hz'⟩
        · exact .inl hz
        · rw [List.mem_singleton] at hz; subst hz; exact .inr hz'
      obtain ⟨w1, w2, w3⟩ := K.upd intF_good hnd5 m3 (o := 0) (N := [u']) (A := []) (B := [u]) (C := []) rfl rfl rfl (by simp)
      refine ⟨fun _ => ndy _ rfl rfl, h_store ((vaddr va).add (y * 1 + 0)) [u'] rfl rfl w1 ?_⟩
      have hnd6 := K.nodup intF_good hnd5 m4' (rowF_nodup m1)
      have hfr : ∀ z ∈ f6, z ∉ fr := fun z hz hz' => by
        rcases m4' z hz with q | q
        · exact K.apart hnd5 z q hz'
        · have := K.row.live z hz'; rw [q] at this; cases this
      have hr6 : IntF (h6.sets ((vaddr va).add (y * 1 + 0)) [u']) ([] ++ [u'] ++ []) (aheadI B y i ++ [i]) f6 := ⟨u', rfl, by rw [List.map_append]; exact m1.agree fun z hz => w2 z (hfr z hz)⟩
      have hs6 := w3 _ _ hr6
      have hk6 : KeptH h5 (h6.sets ((vaddr va).add (y * 1 + 0)) [u']) f5 := fun z hz hzs => by
        have hzf : z ∉ f := fun q => hz (by rw [K.foot]; simp [q])
        have hzr : z ∉ fr := fun q => hz (by rw [K.foot]; simp [q])
        rw [w2 z hzr]; exact m3 z hzf hzs
      show J5 [.int .i64 (intOp .add .i64 (j : Int) 1)] _
      rw [int_add_one (n := 1000) (by omega) (by omega)]
      refine hJ5 _ _ ⟨j + 1, _, rfl, by omega, ?_, hnd6, fun z hz => ?_, hk6.le hle5 hf5⟩ ?_
      · have : ((List.range B.length).map fun m => aheadJ B i j m).set y (aheadI B y i ++ [i]) = (List.range B.length).map fun m => aheadJ B i (j + 1) m := by
          apply List.ext_getElem?
          intro p
          rw [List.getElem?_set, List.length_map, List.length_range, List.getElem?_map, List.getElem?_map]
          by_cases hp : p < B.length
          · rw [List.getElem?_range hp]
            by_cases e : y = p
            · subst e
              rw [if_pos rfl, if_pos hp]
              simp only [Option.map_some, aheadJ, ← hNd, hyt]
              rw [if_pos (by simp)]
            · rw [if_neg e]
              simp only [Option.map_some, aheadJ, ← hNd, hyt]
              have e' : p ≠ y := fun q => e q.symm
              simp [e']
          · rw [if_neg (by omega), List.getElem?_eq_none (by simpa using hp)]
            rfl
        rw [← this]; exact hs6
      · have hz' : z ∈ f5 ∨ h5 z = none := by
          simp only [List.mem_append] at hz
          rw [K.foot]; simp only [List.mem_append]
          rcases hz with q | q | q | q
          · exact .inl (.inl q)
          · exact .inl (.inr (.inl q))
          · rcases m4' z q with q | q
            · exact .inl (.inr (.inr (.inl q)))
            · exact .inr q
          · exact .inl (.inr (.inr (.inr q)))
        rcases hz' with q | q
        · exact hf5 z q
        · exact H.le_none hle5 q
      · simp only [gv_zero, vi_int]; omega
    · replace hc5 : cmpOp .lss (j : Int) ((vlen vn : Nat) : Int) = false := hc5
      rw [hnl, cmp_lss, decide_eq_false_iff_not] at hc5
      have hje : j = N.length := by omega
      show J [.int .i64 (intOp .add .i64 (i : Int) 1)] h5
      rw [int_add_one (n := 1000) (by omega) (by omega)]
      refine hJ _ _ ⟨i + 1, f5, rfl, by omega, ?_, hnd5, fun z hz => H.le_none hlb (hf5 z hz), hlb.trans hle5⟩ ?_
      · have : (fun m => aheadJ B i j m) = fun m => aheadI B m (i + 1) := by
          funext m
          rw [aheadI_succ]
          simp only [aheadJ, ← hNd, hje, List.take_length]
        rw [← this]; exact hs5
      · simp only [gv_zero, vi_int]; omega
  · replace hc : cmpOp .lss (i : Int) ((vlen v : Nat) : Int) = false := hc
    rw [hvl, cmp_lss, decide_eq_false_iff_not] at hc
    have : i = B.length := by omega
    subst this
    exact ⟨rfl, hle, SlF.at (by omega) intF_at hs⟩
/-! ### How many -/
def popc (w : Nat) : Nat := ((List.range 7).filter fun y => w.testBit y).length
theorem popc_all : ∀ w : _root_.Fin 128, vi (X.den [.int .u64 (w.val : Int)] (match t61 with | .done (.int _ e) _ => e | _ => .lit 0)) = (popc w.val : Int) := by decide +kernel
theorem s61 {h : H} {w : Nat} (hw : w < 128) : CallsA Tryd.prog 61 (fun _ => [.int .u64 (w : Int)]) [] h (Ret fun r h' => h' = h ∧ r = .int .i64 (popc w : Int)) := by
  refine c61 (G := [.int .u64 (w : Int)]) ⟨⟨_, rfl⟩, trivial⟩ ?_
  have := popc_all ⟨w, hw⟩
  refine ⟨rfl, rfl, ?_⟩
  rw [← this]; rfl
theorem popc_le (w : Nat) : popc w ≤ 7 := by
  unfold popc
  have := List.length_filter_le (fun y => w.testBit y) (List.range 7)
  rwa [List.length_range] at this
theorem popc_zero : popc 0 = 0 := by decide
theorem s33 {h : H} {v : Value} {ws : List Int} (hv : WordsAt h v ws) (hw : InW ws) (hl : ws.length ≤ 64) (h7 : ∀ y, hasW ws y = true → y < 7) :
    CallsA Tryd.prog 33 (fun _ => [.agg #[v]]) [] h (Ret fun r h' => h' = h ∧ r = .int .i64 (((List.range 7).filter (hasW ws)).length : Int)) := by
  refine c33 (G := [v]) ⟨hv.fit, trivial⟩ ?_
  have hvl := hv.len
  have hbit : ∀ (i : Nat) (x : Int), ws[i]? = some x → ∀ b, b < 64 → x.toNat.testBit b = hasW ws (64 * i + b) := fun i x hx b hb => by
    unfold hasW
    rw [show (64 * i + b) / 64 = i by omega, show (64 * i + b) % 64 = b by omega, List.getD_eq_getElem?_getD, hx]; rfl
  have hsm : ∀ (i : Nat) (x : Int), ws[i]? = some x → x.toNat < 128 ∧ (1 ≤ i → x.toNat = 0) := fun i x hx => by
    have hx64 := hw x (List.mem_of_getElem? hx)
    have hbig : ∀ b, 64 ≤ b → x.toNat.testBit b = false := fun b hb => by
      apply Nat.testBit_lt_two_pow
      have : 2 ^ 64 ≤ 2 ^ b := Nat.pow_le_pow_right (by decide) hb
      have : x.toNat < 2 ^ 64 := by omega
      omega
    have h0 : ∀ b, 7 ≤ 64 * i + b → x.toNat.testBit b = false := fun b hb => by
      by_cases hb64 : b < 64
      · rw [hbit i x hx b hb64]
        cases e : hasW ws (64 * i + b) with
        | false => rfl
        | true => have := h7 _ e; omega
      · exact hbig b (by omega)
    refine ⟨?_, fun hi => ?_⟩
    · have : x.toNat < 2 ^ 7 := Nat.lt_pow_two_of_testBit _ fun b hb => h0 b (by omega)
      simpa using this
    · exact Nat.eq_of_testBit_eq fun b => by rw [h0 b (by omega), Nat.zero_testBit]
  refine h_loop (fun xs h' => ∃ i : Nat, h' = h ∧ i ≤ ws.length ∧ xs = [.int .i64 (if i = 0 then 0 else ((((List.range 7).filter (hasW ws)).length : Nat) : Int)), .int .i64 (i : Int)])
    (fun xs h' => (ws.length - vi (gv xs 1)).toNat) ⟨0, rfl, by omega, rfl⟩ ?_
  rintro xs h' J - ⟨i, e, hi, rfl⟩ hJ
  have e' := e.symm
  subst e'
  simp only [List.cons_append, List.nil_append]
  refine h_ite (fun hc => ?_) (fun hc => ?_)
  · replace hc : cmpOp .lss (i : Int) ((vlen v : Nat) : Int) = true := hc
    rw [hvl, cmp_lss, decide_eq_true_eq] at hc
    have hiB : i < ws.length := by omega
    have hx : ws[i]? = some ws[i] := List.getElem?_eq_getElem hiB
    have hxm : ws[i] ∈ ws := List.getElem_mem _
    generalize ws[i] = x at hx hxm
    obtain ⟨s1, s2⟩ := hsm i x hx
    have hx0 := hw x hxm
    obtain ⟨n, rfl⟩ : ∃ n : Nat, x = n := ⟨x.toNat, by omega⟩
    rw [Int.toNat_natCast] at s1 s2
    refine ⟨fun _ => ⟨ge0 i, by show cmpOp .lss (i : Int) ((vlen v : Nat) : Int) = true; rw [hvl]; exact ltN hiB, trivial⟩, h_load [.int .u64 (n : Int)] ⟨⟨_, rfl⟩, trivial⟩ (fun _ => hv.read hx) ?_⟩
    simp only [List.cons_append, List.nil_append]
    refine h_call0 (s61 s1) ?_
    rintro _ h3 ⟨e3, rfl⟩
    have e3' := e3.symm
    subst e3'
    refine ⟨[.int .i64 (popc n : Int)], ⟨⟨_, rfl⟩, trivial⟩, rfl, ?_⟩
    have hpl := popc_le n
    show J [.int .i64 (intOp .add .i64 (if i = 0 then 0 else ((((List.range 7).filter (hasW ws)).length : Nat) : Int)) (popc n : Int)), .int .i64 (intOp .add .i64 (i : Int) 1)] h
    rw [int_add_one (n := 1000) (by omega) (by omega)]
    have hcl : ((List.range 7).filter (hasW ws)).length ≤ 7 := by
      have := List.length_filter_le (hasW ws) (List.range 7)
      rwa [List.length_range] at this
    refine hJ _ _ ⟨i + 1, rfl, by omega, ?_⟩ ?_
    · by_cases h0 : i = 0
      · subst h0
        rw [if_pos rfl, if_neg (by omega)]
        have e1 : popc n = ((List.range 7).filter (hasW ws)).length := by
          unfold popc
          congr 1
          apply List.filter_congr
          intro y hy
          have hy7 := List.mem_range.1 hy
          have := hbit 0 (n : Int) hx y (by omega)
          rw [Int.toNat_natCast] at this
          simpa using this
        have : intOp .add .i64 0 (popc n : Int) = (popc n : Int) := by simp only [intOp]; rw [wrap_i64 (by omega) (by omega)]; omega
        rw [this, e1]
      · rw [if_neg h0, if_neg (by omega)]
        have hz : popc n = 0 := by rw [s2 (by omega)]; exact popc_zero
        rw [hz]
        have : intOp .add .i64 ((((List.range 7).filter (hasW ws)).length : Nat) : Int) ((0 : Nat) : Int) = ((((List.range 7).filter (hasW ws)).length : Nat) : Int) := by simp only [intOp]; rw [wrap_i64 (by omega) (by omega)]; omega
        rw [this]
    · simp only [gv_zero, gv_succ, vi_int]; omega
  · replace hc : cmpOp .lss (i : Int) ((vlen v : Nat) : Int) = false := hc
    rw [hvl, cmp_lss, decide_eq_false_iff_not] at hc
    have hie : i = ws.length := by omega
    refine ⟨rfl, rfl, ?_⟩
    show Value.int .i64 (if i = 0 then 0 else ((((List.range 7).filter (hasW ws)).length : Nat) : Int)) = _
    by_cases h0 : i = 0
    · rw [if_pos h0]
      have : ws = [] := List.eq_nil_of_length_eq_zero (by omega)
      subst this
      rfl
    · rw [if_neg h0]
end Go.Proofs.YtgcaicdmjbkplaaDoor
