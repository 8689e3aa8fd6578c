/-
  The document's answer for the order. Conditions: as each contract says.
-/
import Derived.Test.YtgcaicdmjbkplaaR4C
set_option linter.unusedVariables false
set_option linter.unusedSimpArgs false
namespace Go.Proofs.Ytgcaicdmjbkplaa
open Go

theorem downM_mem {B : List Blk} {n b : Nat} {s : List Nat × List Nat} (h : b ∈ s.1) : downM B n b s = s := by
  cases n with
  | zero => rfl
  | succ n => unfold downM; rw [if_pos h]
def DownR (B : List Blk) (h0 h : H) (vo vs : Value) (s : List Nat × List Nat) : Prop :=
  ∃ (fo fb : List Nat) (bs : List Bool), RowF h 3 1 vo (s.2.map natV) fo ∧ RowF h 4 1 vs (bs.map .bool) fb ∧ bs.length = B.length ∧ (∀ x, x < B.length → bs[x]? = some (decide (x ∈ s.1))) ∧ (∀ b ∈ fo, b ∉ fb) ∧ Fresh h0 fo ∧ Fresh h0 fb ∧ h0.le h
theorem DownR.fit {B : List Blk} {h0 h : H} {vo vs : Value} {s : List Nat × List Nat} : DownR B h0 h vo vs s → Fits .sl vo ∧ Fits .sl vs ∧ vlen vs = B.length := fun ⟨fo, fb, bs, h1, h2, h3, _⟩ =>
  ⟨h1.row0.fit, h2.row0.fit, by rw [len_of_rowF h2, List.length_map, h3]⟩
set_option maxRecDepth 4000 in
theorem s27 {v : Value} {B : List Blk} (hB : OkB B) (hBl : B.length ≤ 1000) : ∀ (n : Nat) {h0 h : H} {vo vs : Value} {s : List Nat × List Nat} {b : Nat}, BlksAt h0 v B → DownR B h0 h vo vs s → b < B.length → b ∉ s.1 → csM B s.1 ≤ n → s.2.length + csM B s.1 ≤ 1000 →
    CallsA Try.prog 27 (fun _ => [v, .int .i64 (b : Int), vo, vs]) [] h (Ret fun r h' => DownR B h0 h' r vs (downM B n b s)) := by
  intro n
  induction n with
  | zero =>
    intro h0 h vo vs s b hv D hb hm hcs hlen
    exact absurd (csM_zero hb (by omega)) hm
  | succ n ih =>
    intro h0 h vo vs s b hv D hb hm hcs hlen
    have hvf := hv.fit
    have hvl := hv.len
    obtain ⟨hvof, hvsf, hvsl⟩ := D.fit
    obtain ⟨fo, fb, bs, d1, d2, d3, d4, d5, d6, d7, d8⟩ := D
    refine c27 (G := [v, .int .i64 (b : Int), vo, vs]) ⟨hvf, ⟨_, rfl⟩, hvof, hvsf, trivial⟩ ?_
    obtain ⟨w1, w2, w3⟩ := rowF_set (i := b) (x := .bool true) d2 (by rw [List.length_map, d3]; exact hb)
    have hset : (bs.map Value.bool).set b (.bool true) = (bs.set b true).map .bool := by rw [List.map_set]
    rw [hset] at w2
    have hcs1 := csM_cons hb hm
    have hbl := List.getElem?_eq_getElem hb
    generalize B[b] = x at hbl
    refine ⟨fun _ => ?_, h_store ((vaddr vs).add b) [.bool true] (by show (vaddr vs).add (b * 1) = _; rw [Nat.mul_one]) rfl w1 ⟨fun _ => ?_, h_load (endC x.en) (endFit x.en) (fun _ => ?_) ?_⟩⟩
    · exact ⟨ge0 b, by show cmpOp .lss (b : Int) ((vlen vs : Nat) : Int) = true; rw [hvsl]; exact ltN hb, trivial⟩
    · exact ⟨ge0 b, by show cmpOp .lss (b : Int) ((vlen v : Nat) : Int) = true; rw [hvl]; exact ltN hb, trivial⟩
    · have l1 : h0.le (h.sets ((vaddr vs).add b) [.bool true]) := w3.le d8 d7
      exact (show Reads _ (((vaddr v).add (b * 5)).add 1) (endC x.en) from by rw [add_add]; exact blks_get (SlAt.le blkC_mono l1 hv) hbl)
    have l1 : h0.le (h.sets ((vaddr vs).add b) [.bool true]) := w3.le d8 d7
    have e1 : RowF (h.sets ((vaddr vs).add b) [.bool true]) 3 1 vo (s.2.map natV) fo := d1.agree (w3.agree d1.live d5)
    generalize h.sets ((vaddr vs).add b) [.bool true] = g1 at w2 l1 e1
    obtain ⟨N, hNd⟩ : ∃ N, N = nextN B b := ⟨_, rfl⟩
    have e : downM B (n + 1) b s = ((N.foldl (fun s m => downM B n m s) (b :: s.1, s.2)).1, (N.foldl (fun s m => downM B n m s) (b :: s.1, s.2)).2 ++ [b]) := by rw [hNd]; exact downM_succ hm
    rw [e]
    simp only [endC, List.cons_append, List.nil_append]
    refine h_call0 (s17 x.en) ?_
    rintro vn g4 ⟨hl4, hon⟩
    refine ⟨[vn], ⟨hon.ints.fit, trivial⟩, rfl, ?_⟩
    simp only [List.cons_append, List.nil_append]
    have hN : N = (nextL x.en).map Int.toNat := by rw [hNd]; exact nextN_at hbl
    have hNr : ∀ n ∈ nextL x.en, 0 ≤ n ∧ n < (B.length : Int) := hB x (List.mem_of_getElem? hbl)
    have hnl := hon.ints.len
    have hNl : N.length = (nextL x.en).length := by rw [hN, List.length_map]
    have hN2 : N.length ≤ 2 := by rw [hNl]; unfold nextL; split <;> (try split) <;> simp
    have hlf : Live g1 (fo ++ fb) := fun y hy => by
      rcases List.mem_append.1 hy with q | q
      · exact e1.live y q
      · exact w2.live y q
    obtain ⟨hb4, hbd⟩ : ∃ hb4, hb4 = H.cut g4 (fo ++ fb) := ⟨_, rfl⟩
    have hlb : h0.le hb4 := by
      rw [hbd]; exact H.le_cut (l1.trans hl4) fun y hy => by
        rcases List.mem_append.1 hy with q | q
        · exact d6 y q
        · exact d7 y q
    have hbl4 : hb4.le g4 := by rw [hbd]; exact H.cut_le _ _
    have hfb : Fresh hb4 (fo ++ fb) := by rw [hbd]; exact H.cut_fresh _ _
    have hN4 : IntsAt hb4 vn (nextL x.en) := by rw [hbd]; exact OwnInts.ints (Row.cut hon hlf)
    have W4 : DownR B hb4 g4 vo vs (b :: s.1, s.2) := by
      refine ⟨fo, fb, bs.set b true, e1.agree (hl4.kept.agree e1.live fun y _ => by simp), w2.agree (hl4.kept.agree w2.live fun y _ => by simp), by rw [List.length_set, d3], fun y hy => ?_, d5, fun y hy => hfb y (by simp [hy]), fun y hy => hfb y (by simp [hy]), hbl4⟩
      rw [List.getElem?_set]
      by_cases e : b = y
      · subst e; rw [if_pos rfl, if_pos (by omega)]; simp
      · rw [if_neg e, d4 y hy]
        have : y ≠ b := fun q => e q.symm
        simp [this]
    refine h_loop (fun xs h5 => ∃ (i : Nat) (u5 : Value), xs = [u5, .int .i64 (i : Int)] ∧ i ≤ N.length ∧ DownR B hb4 h5 u5 vs ((N.take i).foldl (fun s m => downM B n m s) (b :: s.1, s.2)))
      (fun xs h' => (N.length - vi (gv xs 1)).toNat) ⟨0, vo, rfl, by omega, W4⟩ ?_
    rintro xs h5 J5 - ⟨i, vo5, rfl, hi, W5⟩ hJ5
    have hW5 := W5
    obtain ⟨hof5, hsf5, hsl5⟩ := W5.fit
    obtain ⟨fo5, fb5, bs5, a1, a2, a3, a4, a5, a6, a7, a8⟩ := W5
    simp only [List.cons_append, List.nil_append]
    obtain ⟨S5, hS5⟩ : ∃ S5, S5 = (N.take i).foldl (fun s m => downM B n m s) (b :: s.1, s.2) := ⟨_, rfl⟩
    have hNt : ∀ m ∈ N.take i, m < B.length := fun m hm => nextN_lt hB (hNd ▸ List.mem_of_mem_take hm)
    have hl5 := foldM_len hB n (N.take i) (b :: s.1, s.2) hNt
    rw [← hS5] at a1 a4 hW5 hl5
    simp only at hl5
    refine h_ite (fun hc5 => ?_) (fun hc5 => ?_)
    · replace hc5 : cmpOp .lss (i : Int) ((vlen vn : Nat) : Int) = true := hc5
      rw [hnl, cmp_lss, decide_eq_true_eq] at hc5
      have hiN : i < (nextL x.en).length := by omega
      have hx : (nextL x.en)[i]? = some (nextL x.en)[i] := List.getElem?_eq_getElem hiN
      have hxm : (nextL x.en)[i] ∈ nextL x.en := List.getElem_mem _
      generalize (nextL x.en)[i] = y at hx hxm
      obtain ⟨hy0, hy1⟩ := hNr y hxm
      obtain ⟨y, rfl⟩ : ∃ z : Nat, y = z := ⟨y.toNat, by omega⟩
      have hyl : y < B.length := by omega
      have hyt : N.take (i + 1) = N.take i ++ [y] := by
        have : N[i]? = some y := by rw [hN, List.getElem?_map, hx]; simp
        rw [List.take_add_one, this]; rfl
      have ndi : ∀ D : List Value, gv D 10 = .int .i64 (i : Int) → gv D 8 = vn → needs D [(.cmp .geq (.var 10) (.lit 0)), (.cmp .lss (.var 10) (.len 8))] := fun D e1 e2 => by
        simp only [needs, X.den, e1, e2, hnl, vb_bool, vi_int, and_true]
        exact ⟨ge0 i, ltN hiN⟩
      have rdi : Reads h5 ((vaddr vn).add (i * 1)) [.int .i64 (y : Int)] := (hN4.le a8).read hx
      have a4y : (bs5.map Value.bool)[y]? = some (.bool (decide (y ∈ S5.1))) := by rw [List.getElem?_map, a4 y hyl]; rfl
      refine ⟨fun _ => ndi _ rfl rfl, h_load [.int .i64 (y : Int)] ⟨⟨_, rfl⟩, trivial⟩ (fun _ => rdi) ⟨fun _ => ⟨ge0 y, ?_, trivial⟩, h_load [.bool (decide (y ∈ S5.1))] ⟨⟨_, rfl⟩, trivial⟩ (fun _ => rowF_read a2 a4y) ?_⟩⟩
      · show cmpOp .lss (y : Int) ((vlen vs : Nat) : Int) = true
        rw [hvsl]; exact ltN hyl
      simp only [List.cons_append, List.nil_append]
      refine h_ite (fun hc6 => ?_) (fun hc6 => ?_)
      · replace hc6 : (!decide (y ∈ S5.1)) = true := hc6
        rw [Bool.not_eq_true', decide_eq_false_iff_not] at hc6
        have hsub : csM B S5.1 ≤ n := by
          have : csM B S5.1 ≤ csM B (b :: s.1) := csM_le fun z hz => by rw [hS5]; exact foldM_sub B n _ _ hz
          omega
        refine ⟨fun _ => ndi _ rfl rfl, h_load [.int .i64 (y : Int)] ⟨⟨_, rfl⟩, trivial⟩ (fun _ => rdi) ?_⟩
        refine h_call0 (ih (SlAt.le blkC_mono hlb hv) hW5 hyl hc6 hsub (by omega)) ?_
        intro r h6 W6
        obtain ⟨hof6, -, -⟩ := W6.fit
        refine ⟨[r], ⟨hof6, trivial⟩, rfl, ?_⟩
        show J5 [r, .int .i64 (intOp .add .i64 (i : Int) 1)] h6
        rw [int_add_one (n := 1000) (by omega) (by omega)]
        refine hJ5 _ _ ⟨i + 1, r, rfl, by omega, ?_⟩ ?_
        · rw [hyt, foldM_snoc, ← hS5]; exact W6
        · simp only [gv_zero, gv_succ, vi_int]; omega
      · replace hc6 : (!decide (y ∈ S5.1)) = false := hc6
        rw [Bool.not_eq_false', decide_eq_true_eq] at hc6
        show J5 [vo5, .int .i64 (intOp .add .i64 (i : Int) 1)] h5
        rw [int_add_one (n := 1000) (by omega) (by omega)]
        refine hJ5 _ _ ⟨i + 1, vo5, rfl, by omega, ?_⟩ ?_
        · rw [hyt, foldM_snoc, ← hS5, downM_mem hc6]; exact hW5
        · simp only [gv_zero, gv_succ, vi_int]; omega
    · replace hc5 : cmpOp .lss (i : Int) ((vlen vn : Nat) : Int) = false := hc5
      rw [hnl, cmp_lss, decide_eq_false_iff_not] at hc5
      have hie : i = N.length := by omega
      have htk : N.take i = N := by rw [hie, List.take_length]
      rw [htk] at hS5
      rw [← hS5]
      refine ⟨[natV b], 1, ⟨rfl, rfl⟩, ?_⟩
      show AppSpec _ _ _ _ _ vo5 _ _ _
      have hlo := len_of_rowF a1
      rw [List.length_map] at hlo
      refine app_rowF a1 rfl zero_int (by rw [hlo]; omega) fun vo7 h7' fo7 m1 m2 m3 m4 => ?_
      have m4' : ∀ y ∈ fo7, y ∈ fo5 ∨ h5 y = none := fun y hy => by
        rcases m4 with rfl | ⟨y', rfl, hy'⟩
        · exact .inl hy
        · rw [List.mem_singleton] at hy; subst hy; exact .inr hy'
      refine ⟨rfl, fo7, fb5, bs5, by rw [List.map_append]; exact m1, a2.agree (m3.agree a2.live fun y hy hy' => a5 y hy' hy), a3, a4, fun y hy hy' => ?_, fun y hy => ?_, fun y hy => H.le_none hlb (a7 y hy), hlb.trans (m3.le a8 a6)⟩
      · rcases m4' y hy with q | q
        · exact a5 y q hy'
        · have := a2.live y hy'; rw [q] at this; cases this
      · rcases m4' y hy with q | q
        · exact H.le_none hlb (a6 y q)
        · exact H.le_none (hlb.trans a8) q
theorem zero_bool : (zeroCells Try.prog 4).getD [] = [.bool false] := by kernel_rfl
theorem repZ_bool (n : Nat) : repZ [Value.bool false] n = (List.replicate n false).map .bool := by
  apply List.ext_getElem?
  intro i
  unfold repZ
  simp only [List.length_cons, List.length_nil, Nat.zero_add, Nat.mul_one, Nat.mod_one, List.getElem?_map, List.getElem?_replicate]
  by_cases hi : i < n
  · rw [List.getElem?_range hi, if_pos hi]; rfl
  · rw [List.getElem?_eq_none (by simpa using hi), if_neg hi]; rfl
theorem mk_bools {h : H} {b n : Nat} (hb : h b = none) : RowF (h.put b (.cells (repZ ((zeroCells Try.prog 4).getD []) n).toArray 4 (0, 0))) 4 1 (.slice (some ⟨b, 0, none⟩) n n) ((List.replicate n false).map .bool) [b] := by
  rw [zero_bool, repZ_bool]
  have := RowF.new (h := h) (e := 4) (sz := 1) (b := b) (n := n) (c := n) (cs := (List.replicate n false).map Value.bool) (r := []) (by simp) (by simp) (Nat.le_refl _)
  rwa [List.append_nil] at this
theorem s15 {h : H} {v : Value} {B : List Blk} (hv : BlksAt h v B) (hB : OkB B) (h1 : 1 ≤ B.length) (h2 : B.length ≤ 1000) :
    CallsA Try.prog 15 (fun _ => [v]) [] h (Ret fun r h' => h.le h' ∧ IntsAt h' r ((orderM B).map Int.ofNat)) := by
  refine c15 (G := [v]) ⟨hv.fit, trivial⟩ ?_
  have hvl := hv.len
  have hcs := csM_nil B
  refine ⟨?_, ?_, fun b hb => ?_⟩
  · show (0 : Int) ≤ ((vlen v : Nat) : Int); omega
  · show ((vlen v : Nat) : Int) * 1 ≤ 281474976710656; rw [hvl]; omega
  show holds _ _ _ [v, .slice (some ⟨b, 0, none⟩) (Int.toNat ((vlen v : Nat) : Int)) (Int.toNat ((vlen v : Nat) : Int))] [] (h.put b (.cells (repZ ((zeroCells Try.prog 4).getD []) (Int.toNat ((vlen v : Nat) : Int))).toArray 4 (0, 0)))
  rw [Int.toNat_natCast, hvl]
  have hbo := mk_bools (n := B.length) hb
  have q0 : h.le (h.put b (.cells (repZ ((zeroCells Try.prog 4).getD []) B.length).toArray 4 (0, 0))) := H.le_put hb
  generalize h.put b (.cells (repZ ((zeroCells Try.prog 4).getD []) B.length).toArray 4 (0, 0)) = g0 at hbo q0
  have D0 : DownR B h g0 (.slice none 0 0) (.slice (some ⟨b, 0, none⟩) B.length B.length) ([], []) :=
    ⟨[], [b], List.replicate B.length false, .inl ⟨rfl, rfl, rfl⟩, hbo, by simp, (fun x hx => by rw [List.getElem?_replicate, if_pos hx]; rfl), (by simp), (fun b hb => by cases hb), (fun x hx => by rw [List.mem_singleton] at hx; subst hx; exact hb), q0⟩
  refine h_call0 (s27 hB h2 B.length (vo := .slice none 0 0) (s := ([], [])) (b := 0) hv D0 (by omega) (by simp) (by rw [hcs]; exact Nat.le_refl _) (by rw [hcs]; simpa using h2)) ?_
  intro vr g1 D1
  have hlen := downM_len hB B.length 0 ([], []) (by omega)
  obtain ⟨O, hO⟩ : ∃ O, O = (downM B B.length 0 ([], [])).2 := ⟨_, rfl⟩
  have hord : orderM B = O.reverse := by rw [hO]; rfl
  rw [hord]
  rw [hcs] at hlen
  simp only [List.length_nil] at hlen
  obtain ⟨fo, fb, bs, a1, a2, a3, a4, a5, a6, a7, a8⟩ := D1
  rw [← hO] at a1 hlen
  have hO1 : O.length ≤ 1000 := by omega
  have hI := ints_of_nats a1
  have hIl := hI.len
  rw [List.length_map] at hIl
  refine ⟨[vr], ⟨hI.fit, trivial⟩, rfl, ?_⟩
  simp only [List.cons_append, List.nil_append]
  have hk0 : intOp .sub .i64 ((O.length : Nat) : Int) 1 = (O.length : Int) - 1 := by
    simp only [intOp]; rw [wrap_i64 (by omega) (by omega)]
  refine h_loop (fun xs h' => ∃ (j : Nat) (u : Value), xs = [u, .int .i64 ((O.length : Int) - 1 - j)] ∧ j ≤ O.length ∧ OwnInts g1 h' u ((O.reverse.take j).map Int.ofNat) ∧ g1.le h')
    (fun xs h' => (vi (gv xs 1) + 1).toNat) ⟨0, .slice none 0 0, ?_, by omega, .inl ⟨rfl, rfl⟩, H.le_refl _⟩ ?_
  · show [Value.slice none 0 0, .int .i64 (intOp .sub .i64 ((vlen vr : Nat) : Int) 1)] = _
    rw [hIl, hk0]; simp
  rintro xs h' J - ⟨j, u, rfl, hj, hu, hl5⟩ hJ
  simp only [List.cons_append, List.nil_append]
  refine h_ite (fun hc => ?_) (fun hc => ?_)
  · replace hc : cmpOp .geq ((O.length : Int) - 1 - j) 0 = true := hc
    rw [cmp_geq, decide_eq_true_eq] at hc
    obtain ⟨k, hk⟩ : ∃ k : Nat, k = O.length - 1 - j := ⟨_, rfl⟩
    have hkI : (O.length : Int) - 1 - j = (k : Int) := by omega
    rw [hkI]
    have hkl : k < O.length := by omega
    have hx : O[k]? = some O[k] := List.getElem?_eq_getElem hkl
    have hrj : O.reverse[j]? = some O[k] := by rw [List.getElem?_reverse (by omega), ← hk, hx]
    generalize O[k] = x at hx hrj
    refine ⟨fun _ => ⟨ge0 k, ?_, trivial⟩, h_load [.int .i64 (x : Int)] ⟨⟨_, rfl⟩, trivial⟩ (fun _ => ?_) ?_⟩
    · show cmpOp .lss (k : Int) ((vlen vr : Nat) : Int) = true
      rw [hIl]; exact ltN hkl
    · have : (O.map Int.ofNat)[k]? = some (x : Int) := by rw [List.getElem?_map, hx]; rfl
      exact (hI.le hl5).read this
    refine ⟨[natV x], 1, ⟨rfl, rfl⟩, ?_⟩
    show AppSpec _ _ _ _ _ u _ _ _
    have hul := hu.ints.len
    refine app_row hu hl5 rfl zero_int (by rw [hul]; simp; omega) fun u' h6 k1 k2 k3 k4 k5 => ?_
    show J [u', .int .i64 (intOp .sub .i64 (k : Int) 1)] h6
    refine hJ _ _ ⟨j + 1, u', ?_, by omega, ?_, k3⟩ ?_
    · have : intOp .sub .i64 (k : Int) 1 = (k : Int) - 1 := by simp only [intOp]; rw [wrap_i64 (by omega) (by omega)]
      rw [this]
      have : (k : Int) - 1 = (O.length : Int) - 1 - ((j + 1 : Nat) : Int) := by omega
      rw [this]
    · rw [List.take_add_one, hrj, List.map_append]
      unfold OwnInts; rw [List.map_append]; exact k1
    · have : intOp .sub .i64 (k : Int) 1 = (k : Int) - 1 := by simp only [intOp]; rw [wrap_i64 (by omega) (by omega)]
      rw [this]
      simp only [gv_zero, gv_succ, vi_int]; omega
  · replace hc : cmpOp .geq ((O.length : Int) - 1 - j) 0 = false := hc
    rw [cmp_geq, decide_eq_false_iff_not] at hc
    rw [List.take_of_length_le (by rw [List.length_reverse]; omega)] at hu
    exact ⟨rfl, a8.trans hl5, hu.ints⟩
end Go.Proofs.Ytgcaicdmjbkplaa
