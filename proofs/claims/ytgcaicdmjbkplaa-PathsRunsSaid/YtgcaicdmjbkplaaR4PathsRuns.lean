/-
  The law PathsRuns answers true. Conditions: none.
-/
import Derived.Test.YtgcaicdmjbkplaaR4P
import Derived.Test.YtgcaicdmjbkplaaRows
set_option linter.unusedVariables false
set_option linter.unusedSimpArgs false
namespace Go.Proofs.Ytgcaicdmjbkplaa
open Go Go.ChangeShapes Go.WideShapes Go.ChangeAt Go.RowKit

/-- Is the block we came from among those that the next one follows? -/
def foundT (n l y : Nat) : Out :=
  (.loop 1 [(.bool (.tt false)), (.int .i64 (.lit 0))] [.bool, .int .i64]
   (.ite (.cmp .lss (.var (n + 1)) (.len l))
    (.need (.tt true) [(.cmp .geq (.var (n + 1)) (.lit 0)), (.cmp .lss (.var (n + 1)) (.len l))]
    (.load (.tt true) (.idx (.var l) (.var (n + 1)) 1) [.int .i64]
    (.again 1 [(.bool (.ite (.var (n + 0)) (.tt true) (.cmp .eql (.var (n + 2)) (.var 10)))), (.int .i64 (.op .add .i64 (.var (n + 1)) (.lit 1)))])))
    (.ite (.not (.var (n + 0)))
     (.done (.bool (.tt false)) [])
     (.again 0 [(.int .i64 (.var y)), (.int .i64 (.op .add .i64 (.var 11) (.lit 1)))]))))
theorem found_holds {R : Value → List (List Value) → H → Prop} {J0 : List Value → H → Prop} {G : List Value} {h : H} {n l y : Nat} {v : Value} {L : List Int} {b yv i : Int} (hG : G.length = n) (hl : gv G l = v) (hln : l < n) (hy : gv G y = .int .i64 yv) (hyn : y < n) (hb : gv G 10 = .int .i64 b)
    (hi : gv G 11 = .int .i64 i) (h11 : 11 < n) (hv : IntsAt h v L) (hL : L.length ≤ 1000) (hm : b ∈ L) (HJ : J0 [.int .i64 yv, .int .i64 (intOp .add .i64 i 1)] h) : holds Try.prog R (foundT n l y) G [J0] h := by
  have hvl := hv.len
  refine h_loop (fun xs h' => ∃ k : Nat, h' = h ∧ k ≤ L.length ∧ xs = [.bool (decide (b ∈ L.take k)), .int .i64 (k : Int)]) (fun xs h' => (L.length - vi (gv xs 1)).toNat) ⟨0, rfl, by omega, by simp [SV.denL, SV.den, X.den]⟩ ?_
  rintro xs h' J - ⟨k, e, hk, rfl⟩ hJ
  have e' := e.symm
  subst e'
  have g0 : ∀ D : List Value, gv (G ++ (.bool (decide (b ∈ L.take k)) :: .int .i64 (k : Int) :: D)) (n + 0) = .bool (decide (b ∈ L.take k)) := fun D => gv_at (j := 0) (by omega)
  have g1 : ∀ D : List Value, gv (G ++ (.bool (decide (b ∈ L.take k)) :: .int .i64 (k : Int) :: D)) (n + 1) = .int .i64 (k : Int) := fun D => gv_at (j := 1) (by omega)
  have gl : ∀ D : List Value, gv (G ++ D) l = v := fun D => by rw [gv_of_lt (by omega)]; exact hl
  have gb : ∀ D : List Value, gv (G ++ D) 10 = .int .i64 b := fun D => by rw [gv_of_lt (by omega)]; exact hb
  have gi : ∀ D : List Value, gv (G ++ D) 11 = .int .i64 i := fun D => by rw [gv_of_lt (by omega)]; exact hi
  have gy : ∀ D : List Value, gv (G ++ D) y = .int .i64 yv := fun D => by rw [gv_of_lt (by omega)]; exact hy
  refine h_ite (fun hc => ?_) (fun hc => ?_)
  · simp only [X.den, g1, gl, hvl, vi_int, vb_bool, cmp_lss, decide_eq_true_eq] at hc
    have hkl : k < L.length := by omega
    have hx : L[k]? = some L[k] := List.getElem?_eq_getElem hkl
    generalize L[k] = x at hx
    refine ⟨fun _ => ?_, h_load [.int .i64 x] ⟨⟨_, rfl⟩, trivial⟩ (fun _ => ?_) ?_⟩
    · simp only [needs, X.den, g1, gl, hvl, vi_int, vb_bool, and_true]; exact ⟨ge0 k, ltN hkl⟩
    · have := hv.read hx
      simp only [PE.den, X.den, g1, gl, vi_int, Int.toNat_natCast]; exact this
    simp only [List.append_assoc, List.cons_append, List.nil_append]
    have g2 : gv (G ++ [.bool (decide (b ∈ L.take k)), .int .i64 (k : Int), .int .i64 x]) (n + 2) = .int .i64 x := gv_at (j := 2) (by omega)
    show J _ _
    simp only [SV.denL, SV.den, X.den, g0, g1, g2, gb, vi_int, vb_ite, vb_bool]
    rw [int_add_one (n := 1000) (by omega) (by omega)]
    refine hJ _ _ ⟨k + 1, rfl, by omega, ?_⟩ ?_
    · congr 2
      rw [List.take_add_one, hx, cmp_eql]
      simp only [Option.toList_some, List.mem_append, List.mem_singleton]
      by_cases q : b ∈ L.take k
      · simp [q]
      · by_cases q2 : x = b
        · subst q2; simp
        · have q3 : ¬ b = x := fun e => q2 e.symm
          simp [q, q2, q3]
    · simp only [gv_zero, gv_succ, vi_int]; omega
  · simp only [X.den, g1, gl, hvl, vi_int, vb_bool, cmp_lss, decide_eq_false_iff_not] at hc
    have hke : k = L.length := by omega
    have hall : decide (b ∈ L.take k) = true := by rw [hke, List.take_length]; simpa using hm
    refine iteF ?_ ?_
    · show (!vb (gv (G ++ [.bool (decide (b ∈ L.take k)), .int .i64 (k : Int)]) (n + 0))) = false
      rw [g0, hall]; rfl
    · show J0 _ _
      simp only [SV.denL, SV.den, X.den, gy, gi, vi_int]
      exact HJ
set_option maxRecDepth 8000 in
theorem s3 {h : H} {vs tv : Value} {p0 p1 p2 : Int} {l : List Int} {tl : List Bool} (hs : BytesAt h vs l) (h0 : 0 ≤ p0) (h1 : 0 ≤ p1) (h2 : 0 ≤ p2) (ht : BoolsAt h tv tl) :
    CallsA Try.prog 3 (fun _ => [.agg #[.int .u8 p0, .int .u8 p1, .int .u8 p2, vs], tv]) [] h (Ret fun r h' => h.le h' ∧ r = .bool true) := by
  refine c3 (G := [.int .u8 p0, .int .u8 p1, .int .u8 p2, vs, tv]) ⟨⟨_, rfl⟩, ⟨_, rfl⟩, ⟨_, rfl⟩, hs.fit, ht.fit, trivial⟩ ?_
  obtain ⟨hB, hB1, hB7⟩ := made_B h0 h1 h2 hs.inB
  have htl := ht.len
  refine h_call0 s6 ?_
  rintro _ g1 ⟨hl1, rfl⟩
  refine ⟨[.bool true], ⟨⟨_, rfl⟩, trivial⟩, rfl, iteF rfl ?_⟩
  refine h_call0 (s7 (p0 := p0) (p1 := p1) (p2 := p2) (hs.le hl1) h0 h1 h2) ?_
  rintro _ g2 ⟨hk2, u, fp, rfl, hu, hfp, hnd⟩
  generalize madeB p0 p1 p2 l = B at hB hB1 hB7 hu
  have hua := hu.at
  refine ⟨[.int .i64 (madeP p0), .int .i64 (madeV p0 p1), u], ⟨⟨_, rfl⟩, ⟨_, rfl⟩, hua.fit, trivial⟩, rfl, ?_⟩
  simp only [List.cons_append, List.nil_append]
  refine h_call0 (s8 hua hB hB1 (by omega)) ?_
  rintro _ g3 ⟨hl3, vw, ws, fw, rfl, hw, hr⟩
  refine ⟨[vw], ⟨hw.fit, trivial⟩, rfl, ?_⟩
  simp only [List.cons_append, List.nil_append]
  have hle3 : h.le g3 := (hl1.trans hk2.le_nil).trans hl3
  have hu3 := SlAt.le blkC_mono hl3 hua
  have hwd := rowF_words hw.1
  have hul := hua.len
  have has : ∀ {x : Nat}, Rch B x → hasW ws x = true ∧ x < B.length := fun q => ⟨(hr _).2 q, q.lt hB hB1⟩
  refine h_loop (fun xs h' => ∃ b i : Nat, xs = [.int .i64 (b : Int), .int .i64 (i : Int)] ∧ i ≤ 101 ∧ i ≤ tl.length ∧ Rch B b ∧ g3.le h') (fun xs h' => (101 - vi (gv xs 1)).toNat) ⟨0, 0, rfl, by omega, by omega, .zero, H.le_refl _⟩ ?_
  rintro xs h' J - ⟨b, i, rfl, hi, hit, hb, hle⟩ hJ
  obtain ⟨hbw, hbl⟩ := has hb
  have hw' : WordsAt h' vw ws := SlAt.le u64C_mono hle hwd
  have askHas : ∀ {G : List Value} {k : Out} {L : Lv} {g : H} {j c : Nat} (e : gv G c = vw) (eb : gv G 10 = .int .i64 (b : Int)) (hg : g3.le g) (hk : holds Try.prog (Ret fun r h' => h.le h' ∧ r = .bool true) k (G ++ [.bool true]) L g),
      holds Try.prog (Ret fun r h' => h.le h' ∧ r = .bool true) (.call 9 [(.agg [(.val c)]), (.int .i64 (.var 10))] [] [] [] [(false, [.bool])] k) G L g := fun {G k L g j c} e eb hg hk => by
    refine h_call0 (Q := fun r g' => g' = g ∧ r = .bool (hasW ws b)) ?_ ?_
    · have := s9 (x := b) (SlAt.le u64C_mono hg hwd) hw.2.1 (by omega)
      simp only [SV.denL, SV.den, X.den, e, eb, vi_int]; exact this
    · rintro _ g' ⟨e', rfl⟩
      have e2 := e'.symm
      subst e2
      exact ⟨[.bool (hasW ws b)], ⟨⟨_, rfl⟩, trivial⟩, rfl, by rw [hbw]; exact hk⟩
  have stop : ∀ {G : List Value} {L : Lv} {g : H} {n : Nat} (hn : G.length = n) (e : gv G 9 = vw) (eb : gv G 10 = .int .i64 (b : Int)) (hg : g3.le g),
      holds Try.prog (Ret fun r h' => h.le h' ∧ r = .bool true) (.call 9 [(.agg [(.val 9)]), (.int .i64 (.var 10))] [] [] [] [(false, [.bool])] (.done (.bool (.var n)) [])) G L g := fun {G L g n} hn e eb hg => by
    refine askHas (j := 0) e eb hg ⟨rfl, hle3.trans hg, ?_⟩
    show Value.bool (vb (gv _ n)) = _
    rw [← hn, gv_last]; rfl
  simp only [List.cons_append, List.nil_append]
  refine h_ite (fun hc => ?_) (fun hc => stop rfl rfl rfl hle)
  replace hc : cmpOp .lss (i : Int) ((vlen tv : Nat) : Int) = true := hc
  rw [htl, cmp_lss, decide_eq_true_eq] at hc
  have hil : i < tl.length := by omega
  have hx : tl[i]? = some tl[i] := List.getElem?_eq_getElem hil
  generalize tl[i] = tb at hx
  refine ⟨fun _ => ⟨ge0 i, by show cmpOp .lss (i : Int) ((vlen tv : Nat) : Int) = true; rw [htl]; exact ltN hil, trivial⟩, h_load [.bool tb] ⟨⟨_, rfl⟩, trivial⟩ (fun _ => BoolsAt.read (SlAt.le boolC_mono (hle3.trans hle) ht) hx) ?_⟩
  simp only [List.cons_append, List.nil_append]
  refine h_ite (fun hc2 => ?_) (fun _ => stop rfl rfl rfl hle)
  replace hc2 : (!(cmpOp .gtr (i : Int) 100)) = true := hc2
  rw [Bool.not_eq_true', cmp_gtr, decide_eq_false_iff_not] at hc2
  refine askHas (j := 0) rfl rfl hle (iteF rfl ?_)
  simp only [List.cons_append, List.nil_append]
  have hbl' := List.getElem?_eq_getElem hbl
  generalize B[b] = x at hbl'
  refine ⟨fun _ => ⟨ge0 b, by show cmpOp .lss (b : Int) ((vlen u : Nat) : Int) = true; rw [hul]; exact ltN hbl, trivial⟩, h_load (endC x.en) (endFit x.en) (fun _ => ?_) ?_⟩
  · exact (show Reads h' (((vaddr u).add (b * 5)).add 1) (endC x.en) from by rw [add_add]; exact blks_get (SlAt.le blkC_mono hle hu3) hbl')
  simp only [endC, List.cons_append, List.nil_append]
  refine h_call0 (s10 x.en) ?_
  rintro vn g4 ⟨hl4, hon⟩
  have hN := hon.ints
  have hNl := hN.len
  have hle4 : g3.le g4 := hle.trans hl4
  refine ⟨[vn], ⟨hN.fit, trivial⟩, rfl, ?_⟩
  simp only [List.cons_append, List.nil_append]
  have hNr : ∀ n ∈ nextL x.en, 0 ≤ n ∧ n < (B.length : Int) := hB x (List.mem_of_getElem? hbl')
  have hN2 : (nextL x.en).length ≤ 2 := by unfold nextL; split <;> (try split) <;> simp
  refine h_ite (fun hc3 => stop rfl rfl rfl hle4) (fun hc3 => ?_)
  replace hc3 : cmpOp .eql ((vlen vn : Nat) : Int) 0 = false := hc3
  rw [hNl, cmp_eql, decide_eq_false_iff_not] at hc3
  have h0l : 0 < (nextL x.en).length := by omega
  have ex0 : (nextL x.en)[0]? = some (nextL x.en)[0] := List.getElem?_eq_getElem h0l
  have em0 : (nextL x.en)[0] ∈ nextL x.en := List.getElem_mem _
  generalize (nextL x.en)[0] = y0 at ex0 em0
  obtain ⟨r0, r1⟩ := hNr y0 em0
  obtain ⟨y0, rfl⟩ : ∃ z : Nat, y0 = z := ⟨y0.toNat, by omega⟩
  refine ⟨fun _ => ⟨rfl, by show cmpOp .lss 0 ((vlen vn : Nat) : Int) = true; rw [hNl, cmp_lss, decide_eq_true_eq]; omega, trivial⟩, h_load [.int .i64 (y0 : Int)] ⟨⟨_, rfl⟩, trivial⟩ (fun _ => hN.read ex0) ?_⟩
  simp only [List.cons_append, List.nil_append]
  have go : ∀ {y : Nat} {g5 : H} (hy : (y : Int) ∈ nextL x.en) (hg : g3.le g5), Rch B y ∧ y < B.length ∧ b ∈ aheadM B y := fun {y g5} hy hg => by
    have hyn := (mem_next hB hbl').1 hy
    refine ⟨.step hb hyn, nextN_lt hB hyn, ?_⟩
    unfold aheadM
    rw [List.mem_filter, List.mem_range]
    exact ⟨hbl, by simpa using hyn⟩
  refine h_ite (fun hc4 => ?_) (fun hc4 => ?_)
  · -- the last one
    obtain ⟨m, hm⟩ : ∃ m, m = (nextL x.en).length - 1 := ⟨_, rfl⟩
    have hml : m < (nextL x.en).length := by omega
    have hsub : intOp .sub .i64 (((nextL x.en).length : Nat) : Int) 1 = (m : Int) := by simp only [intOp]; rw [wrap_i64 (by omega) (by omega)]; omega
    have ex1 : (nextL x.en)[m]? = some (nextL x.en)[m] := List.getElem?_eq_getElem hml
    have em1 : (nextL x.en)[m] ∈ nextL x.en := List.getElem_mem _
    generalize (nextL x.en)[m] = y1 at ex1 em1
    obtain ⟨q0, q1⟩ := hNr y1 em1
    obtain ⟨y1, rfl⟩ : ∃ z : Nat, y1 = z := ⟨y1.toNat, by omega⟩
    refine ⟨fun _ => ?_, h_load [.int .i64 (y1 : Int)] ⟨⟨_, rfl⟩, trivial⟩ (fun _ => ?_) ?_⟩
    · show cmpOp .geq (intOp .sub .i64 ((vlen vn : Nat) : Int) 1) 0 = true ∧ cmpOp .lss (intOp .sub .i64 ((vlen vn : Nat) : Int) 1) ((vlen vn : Nat) : Int) = true ∧ True
      rw [hNl, hsub]; exact ⟨ge0 m, ltN hml, trivial⟩
    · show Reads g4 ((vaddr vn).add ((intOp .sub .i64 ((vlen vn : Nat) : Int) 1).toNat * 1)) _
      rw [hNl, hsub, Int.toNat_natCast]; exact hN.read ex1
    simp only [List.cons_append, List.nil_append]
    refine h_call0 (s11 (SlAt.le blkC_mono hle4 hu3) hB (by omega)) ?_
    rintro va g5 ⟨hl5, ha⟩
    refine ⟨[va], ⟨ha.fit, trivial⟩, rfl, ?_⟩
    simp only [List.cons_append, List.nil_append]
    have hal := ha.len
    rw [List.length_map, List.length_range] at hal
    obtain ⟨k1, k2, k3⟩ := go em1 (hle4.trans hl5)
    obtain ⟨cs, ⟨ua, rfl, hua'⟩, hra⟩ := ha.get y1 (aheadM B y1) (by rw [List.getElem?_map, List.getElem?_range k2]; rfl)
    refine ⟨fun _ => ⟨ge0 y1, by show cmpOp .lss (y1 : Int) ((vlen va : Nat) : Int) = true; rw [hal]; exact ltN k2, trivial⟩, h_load [ua] ⟨hua'.fit, trivial⟩ (fun _ => hra) ?_⟩
    simp only [List.cons_append, List.nil_append]
    have hlen : ((aheadM B y1).map Int.ofNat).length ≤ 1000 := by
      rw [List.length_map]; have := aheadI_len B y1 B.length; unfold aheadI at this; unfold aheadM; omega
    refine found_holds (n := 23) (l := 22) (y := 20) (L := (aheadM B y1).map Int.ofNat) (b := (b : Int)) (yv := (y1 : Int)) (i := (i : Int)) rfl rfl (by omega) rfl (by omega) rfl rfl (by omega) hua' hlen (List.mem_map.2 ⟨b, k3, rfl⟩) ?_
    rw [int_add_one (n := 1000) (by omega) (by omega)]
    refine hJ _ _ ⟨y1, i + 1, rfl, by omega, by omega, k1, hle4.trans hl5⟩ ?_
    simp only [gv_zero, gv_succ, vi_int]; omega
  · -- the first one
    refine h_call0 (s11 (SlAt.le blkC_mono hle4 hu3) hB (by omega)) ?_
    rintro va g5 ⟨hl5, ha⟩
    refine ⟨[va], ⟨ha.fit, trivial⟩, rfl, ?_⟩
    simp only [List.cons_append, List.nil_append]
    have hal := ha.len
    rw [List.length_map, List.length_range] at hal
    obtain ⟨k1, k2, k3⟩ := go em0 (hle4.trans hl5)
    obtain ⟨cs, ⟨ua, rfl, hua'⟩, hra⟩ := ha.get y0 (aheadM B y0) (by rw [List.getElem?_map, List.getElem?_range k2]; rfl)
    refine ⟨fun _ => ⟨ge0 y0, by show cmpOp .lss (y0 : Int) ((vlen va : Nat) : Int) = true; rw [hal]; exact ltN k2, trivial⟩, h_load [ua] ⟨hua'.fit, trivial⟩ (fun _ => hra) ?_⟩
    simp only [List.cons_append, List.nil_append]
    have hlen : ((aheadM B y0).map Int.ofNat).length ≤ 1000 := by
      rw [List.length_map]; have := aheadI_len B y0 B.length; unfold aheadI at this; unfold aheadM; omega
    refine found_holds (n := 22) (l := 21) (y := 19) (L := (aheadM B y0).map Int.ofNat) (b := (b : Int)) (yv := (y0 : Int)) (i := (i : Int)) rfl rfl (by omega) rfl (by omega) rfl rfl (by omega) hua' hlen (List.mem_map.2 ⟨b, k3, rfl⟩) ?_
    rw [int_add_one (n := 1000) (by omega) (by omega)]
    refine hJ _ _ ⟨y0, i + 1, rfl, by omega, by omega, k1, hle4.trans hl5⟩ ?_
    simp only [gv_zero, gv_succ, vi_int]; omega
namespace pathsRuns
theorem own : ownKnob Try.prog.godebug = none := by kernel_rfl
set_option maxRecDepth 100000 in
theorem laidOut : laidOutB Try.prog = true := by kernel_rfl
set_option maxRecDepth 100000 in
theorem contract (H : Type) (enc : TypeId × Value → H) (W : World) (base : Nat) (args : Array Value) (ds gs : List (DataW H)) (before : List MemPlace)
    (hval : ∀ (j : Nat) t v, Try.f3.params[j]? = some t → args[j]? = some v → Value.okWide Try.prog W .any base t v)
    (hW : DataW.Whole enc Try.prog Try.f3.params.toList Rows.pathsRunsSpec.vars false W args.toList ds gs before) :
    Calls Try.prog 3 args W fun e W' => ∃ v, e = .returned v ∧ Rows.pathsRunsSpec.post enc Try.prog Try.f3 false true false false W args v W' := by
  have hW' := hW
  obtain ⟨p, q, hA, hV, rfl, hfz, hnd⟩ := hW
  rw [Try.params3] at hA hval
  obtain ⟨v0, vs0, d0, ds0, p0, q0, hargs, rfl, rfl, h0, r0⟩ := trodAll_cons hA
  obtain ⟨v1, vs1, d1, ds1, p1, q1, rfl, rfl, rfl, h1, r1⟩ := trodAll_cons r0
  obtain ⟨rfl, rfl, rfl⟩ := trodAll_nil r1
  obtain rfl : args = #[v0, v1] := by cases args; simp_all
  obtain ⟨cs0, rfl, -⟩ := okWide_struct Try.underlying24 (hval 0 24 v0 rfl rfl)
  obtain ⟨p0, p1, p2, vs, l, he0, g0, g1, g2, hs⟩ := rd_spec (Rd.of h0)
  obtain rfl : cs0 = ([Value.int .u8 p0, .int .u8 p1, .int .u8 p2, vs]).toArray := by rw [← he0]; simp [Value.cells]
  obtain ⟨a1, n1, c1, rfl⟩ := okWide_slice Try.underlying25 (hval 1 25 v1 rfl rfl)
  obtain ⟨tv, tl, he1, htv, -⟩ := rd_bools (Rd.of h1)
  obtain rfl : Value.slice a1 n1 c1 = tv := by simpa [Value.cells] using he1
  refine (law_calls (f := 3) (args := [.agg ([Value.int .u8 p0, .int .u8 p1, .int .u8 p2, vs]).toArray, .slice a1 n1 c1]) (s3 hs g0 g1 g2 htv)).mono ?_
  rintro e' W' ⟨rfl, bel⟩
  exact ⟨_, rfl, law_post laidOut hW' rfl (of_decide_eq_true (by kernel_rfl)) rfl Try.underlying4 rfl bel⟩
set_option maxRecDepth 100000 in
theorem lifted (os : Os) (started : os.Started) (H : Type) (enc : TypeId × Value → H) :
    ReturnsInHanded {} Try.checked os 3 .any (Rows.pathsRunsSpec.pre6 enc Try.prog Try.f3 Rows.pathsRunsRow.domain false) (Rows.pathsRunsSpec.post enc Try.prog Try.f3 false true false false) := by
  refine returnsInHanded_of_change (C := Try.checked) own started (by kernel_rfl) Try.func3
    (ChangeSpec.witness6 (enc := enc) (C := Try.checked) false ⟨#[], #[.agg #[.int .u8 0, .int .u8 0, .int .u8 0, .slice none 0 0], .slice none 0 0], []⟩ 8 (by kernel_rfl) (by kernel_rfl) (by kernel_rfl) (by kernel_rfl)) ?_
  intro W base args ds gs before hval hW _ _
  exact contract H enc W base args ds gs before hval hW
set_option maxRecDepth 100000 in
theorem proved : Rows.PathsRunsSaid :=
  OpenClaim.holds_of_wide 3 Try.f3 rfl rfl rfl rfl rfl rfl rfl ⟨rfl, rfl, rfl, rfl, rfl⟩ rfl rfl rfl rfl rfl (by kernel_rfl) Try.func3 (by kernel_rfl)
    (of_decide_eq_true (by kernel_rfl)) (by unfold Func.isWrapper; first | (rw [if_pos (by decide +kernel)]; kernel_rfl) | (rw [if_neg (by decide +kernel)]; exact ⟨rfl, rfl⟩))
    (fun os started H enc _ => lifted os started H enc)
end pathsRuns
/-- The row, under a short name, for the claim. -/
theorem pathsRunsHolds : Rows.PathsRunsSaid := pathsRuns.proved
#print axioms pathsRunsHolds
end Go.Proofs.Ytgcaicdmjbkplaa
