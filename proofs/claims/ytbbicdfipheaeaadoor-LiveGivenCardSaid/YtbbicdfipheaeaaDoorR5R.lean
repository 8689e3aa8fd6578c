/-
  What is behind blocks and instructions, as it is told and as live computes it. Conditions: as each contract says.
-/
import Derived.Test.YtbbicdfipheaeaaDoorR5Q
set_option linter.unusedVariables false
set_option linter.unusedSimpArgs false
namespace Go.Proofs.YtbbicdfipheaeaaDoor
open Go

theorem s35 {h : H} {u : Value} {B : List Blk} {b v : Nat} (hu : BlksAt h u B) (hO : OkB B) (hS : SmB B) (hN : B.length ≤ 1000) (hb : b < B.length) :
    CallsA Tryd.prog 35 (fun _ => [u, natV b, natV v]) [] h (Ret fun r h' => h.le h' ∧ ∃ q : Bool, r = .bool q ∧ (q = true ↔ ∃ a ∈ nextN B b, Nd B v a)) := by
  refine c35 (G := [u, natV b, natV v]) ⟨hu.fit, ⟨_, rfl⟩, ⟨_, rfl⟩, trivial⟩ ?_
  have hul := hu.len
  have hx := List.getElem?_eq_getElem hb
  generalize B[b] = x at hx
  have hrd := blks_get hu hx
  refine ⟨fun _ => ⟨ge0 b, ?_, trivial⟩, h_load (endC x.en) ⟨⟨_, rfl⟩, ⟨_, rfl⟩, ⟨_, rfl⟩, ⟨_, rfl⟩, trivial⟩ (fun _ => ?_) ?_⟩
  · show cmpOp .lss (b : Int) ((vlen u : Nat) : Int) = true
    rw [hul]; exact ltN hb
  · show Reads h (((vaddr u).add (b * 5)).add 1) _
    rw [add_add]; exact hrd
  refine h_call0 (s32 x.en) ?_
  rintro w g1 ⟨l1, ho⟩
  rw [← next_nat hO hx] at ho
  refine ⟨[w], ⟨ho.ints.fit, trivial⟩, rfl, ?_⟩
  simp only [endC, List.cons_append, List.nil_append]
  have hwl := ho.ints.len
  rw [List.length_map] at hwl
  have hn2 := nextN_len B b
  refine h_loop (fun xs h' => ∃ j : Nat, xs = [natV j] ∧ j ≤ (nextN B b).length ∧ g1.le h' ∧ ∀ a ∈ (nextN B b).take j, ¬ Nd B v a) (fun xs h' => (nextN B b).length - (vi (gv xs 0)).toNat) ⟨0, rfl, Nat.zero_le _, H.le_refl _, fun a ha => by simp at ha⟩ ?_
  rintro xs g2 J - ⟨j, rfl, hj, l2, hno⟩ hJ
  simp only [List.cons_append, List.nil_append]
  refine h_ite (fun hc => ?_) (fun hc => ?_)
  · have hc' : cmpOp .lss (j : Int) ((vlen w : Nat) : Int) = true := hc
    replace hc := hc'
    rw [hwl, cmp_lss, decide_eq_true_eq] at hc
    have hjl : j < (nextN B b).length := by omega
    have hxa : (nextN B b)[j]? = some (nextN B b)[j] := List.getElem?_eq_getElem hjl
    have hxm : (nextN B b)[j] ∈ nextN B b := List.getElem_mem _
    generalize (nextN B b)[j] = a at hxa hxm
    have haN := nextN_lt hO hxm
    have hya := List.getElem?_eq_getElem haN
    have hxi : ((nextN B b).map Int.ofNat)[j]? = some (a : Int) := by rw [List.getElem?_map, hxa]; rfl
    refine ⟨fun _ => ⟨ge0 j, hc', trivial⟩, h_load [natV a] ⟨⟨_, rfl⟩, trivial⟩ (fun _ => (ho.ints.le l2).read hxi) ?_⟩
    simp only [List.cons_append, List.nil_append]
    refine h_call0 (s34 (b := a) (k := 0) (v := v) (SlAt.le blkC_mono (l1.trans l2) hu) hO hS hN hya (Nat.zero_le _)) ?_
    rintro _ g3 ⟨l3, q, rfl, hq⟩
    rw [List.drop_zero, ← tkB_at hya, ndAt_zero haN] at hq
    refine ⟨[.bool q], ⟨⟨_, rfl⟩, trivial⟩, rfl, h_ite (fun h10 => ?_) (fun h10 => ?_)⟩
    · replace h10 : q = true := h10
      exact ⟨rfl, l1.trans (l2.trans l3), true, rfl, fun _ => ⟨a, hxm, hq.1 h10⟩, fun _ => rfl⟩
    · replace h10 : q = false := h10
      show J [.int .i64 (intOp .add .i64 (j : Int) 1)] g3
      rw [int_add_one (n := 1000) (by omega) (by omega)]
      refine hJ _ _ ⟨j + 1, rfl, by omega, l2.trans l3, fun c hc => ?_⟩ ?_
      · rw [List.take_add_one, hxa] at hc
        rcases List.mem_append.1 hc with p | p
        · exact hno c p
        · simp at p; subst p
          intro hn
          rw [hq.2 hn] at h10; cases h10
      · simp only [gv_zero, vi_int]; omega
  · replace hc : cmpOp .lss (j : Int) ((vlen w : Nat) : Int) = false := hc
    rw [hwl, cmp_lss, decide_eq_false_iff_not] at hc
    have hje : j = (nextN B b).length := by omega
    subst hje
    rw [List.take_length] at hno
    exact ⟨rfl, l1.trans l2, false, rfl, fun q => (by cases q), fun ⟨a, h1, h2⟩ => absurd h2 (hno a h1)⟩

/-! ### Behind each instruction -/
def behT (ch m : Nat) : Out :=
  (.mk 39 1 24 (.len 0) 
  (.loop 0 [(.int .i64 (.op .sub .i64 (.len 0) (.lit 1))), (.val ch)] [.int .i64, .sl] 
   (.ite (.cmp .geq (.var (m + 1)) (.lit 0))
    (.call 19 [(.agg [(.val (m + 2))])] [] [] [] [(true, [.sl])] 
    (.need (.tt true) [(.cmp .geq (.var (m + 1)) (.lit 0)), (.cmp .lss (.var (m + 1)) (.len m))] 
    (.store (.idx (.var m) (.var (m + 1)) 1) [(.val (m + 3))] 
    (.need (.tt true) [(.cmp .geq (.var (m + 1)) (.lit 0)), (.cmp .lss (.var (m + 1)) (.len 0))] 
    (.load (.tt true) (.idx (.var 0) (.var (m + 1)) 7) [.int .u8, .int .u8, .int .i64, .int .i64, .int .i64, .int .i64, .sl] 
    (.call 62 [(.agg [(.int .u8 (.var (m + 4))), (.int .u8 (.var (m + 5))), (.int .i64 (.var (m + 6))), (.int .i64 (.var (m + 7))), (.int .i64 (.var (m + 8))), (.int .i64 (.var (m + 9))), (.val (m + 10))]), (.loc 5 0)] [5] [[(.val (m + 2))]] [[.sl]] [] 
    (.again 0 [(.int .i64 (.op .sub .i64 (.var (m + 1)) (.lit 1))), (.val (m + 11))])))))))
    (.done (.val m) []))))
def behL (xs : List Ins) (p : SP) (k : Nat) : List SP := (List.range xs.length).map fun j => if k ≤ j then (xs.drop (j + 1)).foldr backP p else fun _ => false
theorem behL_set {xs : List Ins} {p : SP} {k : Nat} (hk : k < xs.length) : (behL xs p (k + 1)).set k ((xs.drop (k + 1)).foldr backP p) = behL xs p k := by
  apply List.ext_getElem?
  intro i
  unfold behL
  rw [List.getElem?_set, List.getElem?_map, List.getElem?_map]
  by_cases e : k = i
  · subst e
    rw [if_pos rfl, if_pos (by simpa using hk), List.getElem?_range hk]
    simp
  · rw [if_neg e]
    by_cases hi : i < xs.length
    · rw [List.getElem?_range hi]
      simp only [Option.map_some]
      congr 1
      by_cases h1 : k + 1 ≤ i
      · rw [if_pos h1, if_pos (by omega)]
      · rw [if_neg h1, if_neg (by omega)]
    · rw [List.getElem?_eq_none (by simpa using hi)]; rfl
theorem behL_at {xs : List Ins} {p : SP} {j : Nat} (hj : j < xs.length) : (behL xs p 0)[j]? = some ((xs.drop (j + 1)).foldr backP p) := by
  unfold behL
  rw [List.getElem?_map, List.getElem?_range hj]
  simp
theorem behL_len (xs : List Ins) (p : SP) (k : Nat) : (behL xs p k).length = xs.length := by simp [behL]
theorem behL_full (xs : List Ins) (p : SP) : behL xs p xs.length = List.replicate xs.length (fun _ => false) := by
  apply List.ext_getElem?
  intro i
  unfold behL
  rw [List.getElem?_map, List.getElem?_replicate]
  by_cases hi : i < xs.length
  · rw [List.getElem?_range hi, if_pos hi]
    simp only [Option.map_some]
    rw [if_neg (by omega)]
  · rw [List.getElem?_eq_none (by simpa using hi), if_neg hi]; rfl
theorem behT_holds {G : List Value} {L : Lv} {h0 h : H} {w v : Value} {xs : List Ins} {ch m : Nat} {ws : List Int} {fp : List Nat} (hG : G.length = m) (hc : ch < m) (h00 : 0 < m) (ew : gv G 0 = w) (ec : gv G ch = v) (hw : SlAt 7 InsC h0 w xs) (hx : ∀ x ∈ xs, RegI x) (hl : xs.length ≤ 100000)
    (hs : SetIs h v ws fp) (hB : Base h0 h fp) : holds Tryd.prog (Ret fun r h' => SetsSt h0 h' r (behL xs (hasW ws) 0)) (behT ch m) G L h := by
  have hwl := hw.len
  have e0 : vi ((X.len 0).den G) = (xs.length : Int) := by
    show vi (.int .i64 ((vlen (gv G 0) : Nat) : Int)) = _; rw [ew, hwl]; rfl
  refine ⟨by rw [e0]; omega, by rw [e0]; omega, fun b hb => ?_⟩
  rw [e0, Int.toNat_natCast]
  have z0 := zero_set (h1 := h) (b := b) (N := xs.length)
  have l0 : h.le (h.put b (.cells (repZ ((zeroCells Tryd.prog 39).getD []) xs.length).toArray 39 (0, 0))) := H.le_put hb
  generalize h.put b (.cells (repZ ((zeroCells Tryd.prog 39).getD []) xs.length).toArray 39 (0, 0)) = g0 at z0 l0 ⊢
  obtain ⟨vr, hvr⟩ : ∃ vr, vr = Value.slice (some ⟨b, 0, none⟩) xs.length xs.length := ⟨_, rfl⟩
  have hvrl : vlen vr = xs.length := by rw [hvr]; rfl
  rw [← hvr] at z0 ⊢
  have g1 : ∀ D, gv (G ++ ([vr] ++ D)) 0 = w := fun D => by rw [gv_of_lt (by omega), ew]
  have g2 : ∀ D, gv (G ++ ([vr] ++ D)) m = vr := fun D => gv_eq0 hG
  have gp : ∀ D j, gv (G ++ D) (m + j) = gv D j := fun D j => gv_eq hG j
  refine h_loop (fun ys h' => ∃ (k : Nat) (v' : Value) (ws' : List Int) (fp' fr : List Nat), ys = [.int .i64 ((k : Int) - 1), v'] ∧ k ≤ xs.length ∧ SetIs h' v' ws' fp' ∧ Base h0 h' fp' ∧ hasW ws' = (xs.drop k).foldr backP (hasW ws) ∧ SlF 39 1 SetF h' vr (behL xs (hasW ws) k) fr ∧ fr.Nodup ∧ Fresh h0 fr ∧ ∀ z ∈ fp', z ∉ fr)
    (fun ys h' => (vi (gv ys 0) + 1).toNat) ⟨xs.length, v, ws, fp, [b], ?_, Nat.le_refl _, hs.agree (le_agree' l0 hs.live), hB.grow l0, by simp, by rw [behL_full]; exact z0, by simp, fun z hz => ?_, fun z hz hz' => ?_⟩ ?_
  · simp only [SV.denL, SV.den, X.den, gv_of_lt (show 0 < G.length by omega), gv_of_lt (show ch < G.length by omega), ec, ew, hwl, vi_int, sub_one (k := xs.length) (by omega)]
  · rw [List.mem_singleton] at hz; subst hz; exact H.le_none hB.1 hb
  · rw [List.mem_singleton] at hz'; subst hz'
    have := hs.live z hz; rw [hb] at this; cases this
  rintro ys h' J - ⟨k, v', ws', fp', fr, rfl, hk, hs', hB', hw', kr, nr, ffr, hd⟩ hJ
  simp only [List.append_assoc, List.cons_append, List.nil_append]
  refine h_ite (fun hc => ?_) (fun hc => ?_)
  · simp only [X.den, gp, gv_zero, gv_succ, vi_int, vb_bool, cmp_geq, decide_eq_true_eq] at hc
    obtain ⟨i, rfl⟩ : ∃ i, k = i + 1 := ⟨k - 1, by omega⟩
    have hm : i < xs.length := by omega
    have e1 : ((i + 1 : Nat) : Int) - 1 = (i : Int) := by omega
    rw [e1]
    have hxm := List.getElem?_eq_getElem hm
    have hxin := List.getElem_mem hm
    generalize xs[i] = x at hxm hxin
    refine h_call0 (Q := fun r h2 => KeptH h' h2 [] ∧ ∃ v2 f2, r = .agg #[v2] ∧ SetIs h2 v2 ws' f2 ∧ Fresh h' f2) ?_ ?_
    · have := s19 (rowF_words hs'.1) hs'.2.1 hs'.2.2
      simp only [SV.denL, SV.den, gp, gv_zero, gv_succ]
      exact this
    rintro _ h2 ⟨k2, c2, f2, rfl, hs2, hf2⟩
    have l2 := k2.le_nil
    refine ⟨[c2], ⟨hs2.fit, trivial⟩, rfl, ?_⟩
    simp only [List.append_assoc, List.cons_append, List.nil_append]
    have kr2 := kr.agree setF_good (le_agree' l2 (kr.live setF_good))
    have hs'2 : SetIs h2 v' ws' fp' := hs'.agree (le_agree' l2 hs'.live)
    have hd2 : ∀ z ∈ f2, z ∉ fr := fun z hz hz' => by
      have := kr.live setF_good z hz'
      rw [hf2 z hz] at this; cases this
    have hd3 : ∀ z ∈ f2, z ∉ fp' := fun z hz hz' => by
      have := hs'.live z hz'
      rw [hf2 z hz] at this; cases this
    have hbi : (behL xs (hasW ws) (i + 1))[i]? = some (behL xs (hasW ws) (i + 1))[i]! := by
      have : i < (behL xs (hasW ws) (i + 1)).length := by rw [behL_len]; exact hm
      rw [List.getElem?_eq_getElem this]; simp [this]
    obtain ⟨wr, fr3, kr3, nr3, hfr3, kk3⟩ := SlF.put1 setF_good kr2 nr hbi (c' := c2) (x' := hasW ws') (f' := f2) ⟨c2, ws', rfl, hs2, rfl⟩ hd2 hs2.nodup
    have nd1 : ∀ D, needs (G ++ (vr :: .int .i64 (i : Int) :: D)) [(.cmp .geq (.var (m + 1)) (.lit 0)), (.cmp .lss (.var (m + 1)) (.len m))] := fun D => by
      simp only [needs, X.den, gp, gv_eq0 hG, gv_zero, gv_succ, vi_int, vb_bool, hvrl, and_true]
      exact ⟨ge0 i, ltN hm⟩
    have nd2 : ∀ D, needs (G ++ (vr :: .int .i64 (i : Int) :: D)) [(.cmp .geq (.var (m + 1)) (.lit 0)), (.cmp .lss (.var (m + 1)) (.len 0))] := fun D => by
      simp only [needs, X.den, gp, gv_of_lt (show 0 < G.length by omega), ew, gv_zero, gv_succ, vi_int, vb_bool, hwl, and_true]
      exact ⟨ge0 i, ltN hm⟩
    refine ⟨fun _ => nd1 _, h_store ((vaddr vr).add (i * 1)) [c2] ?_ ?_ wr ?_⟩
    · simp only [PE.den, X.den, gp, gv_eq0 hG, gv_zero, gv_succ, vi_int, Int.toNat_natCast]
    · simp only [SV.denL, SV.den, gp, gv_zero, gv_succ]
    generalize h2.sets ((vaddr vr).add (i * 1)) [c2] = h3 at kr3 kk3 ⊢
    have l3 : h0.le h3 := kk3.le (hB'.1.trans l2) ffr
    have hs3 : SetIs h3 v' ws' fp' := hs'2.agree (kk3.agree hs'2.live hd)
    have hfp3 : ∀ z ∈ fp', z ∉ fr3 := fun z hz hz' => by
      rcases hfr3 z hz' with q | q
      · exact hd z hz q
      · exact hd3 z q hz
    have ffr3 : Fresh h0 fr3 := fun z hz => by
      rcases hfr3 z hz with q | q
      · exact ffr z q
      · exact H.le_none hB'.1 (hf2 z q)
    obtain ⟨cs, ⟨q, rfl, hq⟩, hrd⟩ := hw.get i x hxm
    refine ⟨fun _ => nd2 _, h_load (insC x q) (insFit x q hq.fit) (fun _ => ?_) ?_⟩
    · simp only [PE.den, X.den, gp, gv_of_lt (show 0 < G.length by omega), ew, gv_zero, gv_succ, vi_int, Int.toNat_natCast]
      exact hrd.le l3
    simp only [List.append_assoc, List.cons_append, List.nil_append]
    refine h_call1 (Q := SetQ h3 fp' (backP x (hasW ws'))) ?_ ?_
    · have := s62k hs3 (hx x hxin) (hq.le (H.le_cut l3 hB'.2))
      simp only [SV.denL, SV.den, X.den, gp, gv_zero, gv_succ, vi_int, insC, List.cons_append, List.nil_append]
      exact this
    rintro _ c h4 ⟨rfl, v4, ws4, fp4, rfl, hs4, hw4, hk4, hn4⟩
    refine ⟨⟨hs4.fit, trivial⟩, [], trivial, rfl, ?_⟩
    simp only [List.append_assoc, List.cons_append, List.nil_append]
    show J [_, _] h4
    simp only [SV.den, X.den, gp, gv_zero, gv_succ, vi_int, insC, List.cons_append, List.nil_append, sub_one (k := i) (by omega)]
    have kr4 := kr3.agree setF_good (hk4.agree (kr3.live setF_good) fun z hz hz' => hfp3 z hz' hz)
    rw [show behL xs (hasW ws) (i + 1) = behL xs (hasW ws) (i + 1) from rfl, hw', behL_set hm] at kr4
    refine hJ _ _ ⟨i, v4, ws4, fp4, fr3, rfl, by omega, hs4, ?_, ?_, kr4, nr3, ffr3, fun z hz hz' => ?_⟩ ?_
    · exact Base.step ⟨l3, hB'.2⟩ hk4 hn4
    · rw [hw4, hw', drop_foldr hxm]
    · rcases hn4 z hz with p | p
      · exact hfp3 z p hz'
      · have := kr3.live setF_good z hz'; rw [p] at this; cases this
    · simp only [gv_zero, vi_int]; omega
  · simp only [X.den, gp, gv_zero, gv_succ, vi_int, vb_bool, cmp_geq, decide_eq_false_iff_not] at hc
    obtain rfl : k = 0 := by omega
    refine ⟨rfl, ?_⟩
    have : SV.den (G ++ (vr :: [.int .i64 (((0 : Nat) : Int) - 1), v'])) dE (.val m) = vr := g2 _
    rw [this]
    exact ⟨fr, kr, nr, hB'.1, ffr⟩
theorem s33 {h : H} {w c : Value} {b : Blk} {p : SP} {f : List Nat} (hw : SlAt 7 InsC h w b.ins) (hp : SetF h [c] p f) (hb : RegB b) :
    CallsA Tryd.prog 33 (fun _ => [.agg (w :: endC b.en).toArray, .agg #[c]]) [] h (Ret fun r h' => SetsSt h h' r (behL b.ins (topP b p) 0)) := by
  refine c33 (G := [w, .int .u8 b.en.kind, .int .i64 b.en.a, .int .i64 b.en.to, .int .i64 b.en.el, c]) ⟨hw.fit, ⟨_, rfl⟩, ⟨_, rfl⟩, ⟨_, rfl⟩, ⟨_, rfl⟩, hp.fit1, trivial⟩ ?_
  refine top_holds hw.fit hp hb (fun _ h' v0 v ws fp hs hB e => ?_) (fun _ h' v ws fp hs hB e => ?_)
  · have := behT_holds (G := [w, .int .u8 b.en.kind, .int .i64 b.en.a, .int .i64 b.en.to, .int .i64 b.en.el, c, v0, .int .i64 b.en.a, .bool true, v, .bool (!p b.en.a.toNat)]) (L := []) (ch := 9) (m := 11) rfl (by omega) (by omega) rfl rfl hw hb.ins hb.len hs hB
    rw [e] at this
    exact this
  · have := behT_holds (G := [w, .int .u8 b.en.kind, .int .i64 b.en.a, .int .i64 b.en.to, .int .i64 b.en.el, c, v, .int .i64 b.en.a, .bool false]) (L := []) (ch := 6) (m := 9) rfl (by omega) (by omega) rfl rfl hw hb.ins hb.len hs hB
    rw [e] at this
    exact this
end Go.Proofs.YtbbicdfipheaeaaDoor
