/-
  Long: what it tells of blocks. Conditions: as the contract says.
-/
import Derived.Test.YtibdneedfopcoaaR1C
set_option linter.unusedVariables false
set_option linter.unusedSimpArgs false
namespace Go.Proofs.Ytibdneedfopcoaa
open Go

def NotLong (bs : List Blk) : Prop := ∀ b ∈ bs, b.ins.length ≤ 2000 ∧ ∀ x ∈ b.ins, x.args.length ≤ 5000
def LX (k : Nat) : X := .ite (.cmp .lss (.lit 10000) (.len k)) (.lit 10000) (.len k)
theorem lx_val {G : List Value} {k m : Nat} (e : vlen (gv G k) = m) : vi ((LX k).den G) = if (10000 : Int) < m then 10000 else (m : Int) := by
  simp only [LX, X.den, e, vi_ite, vi_int, vb_bool, cmp_lss, decide_eq_true_eq]
theorem gtr_val {G : List Value} {a : X} {n k : Int} (h : vi (a.den G) = n) : vb ((X.cmp .gtr a (.lit k)).den G) = decide (k < n) := by
  simp only [X.den, h, vb_bool, vi_int, cmp_gtr]
theorem again_of {P : Program} {R : Value → List (List Value) → H → Prop} {G : List Value} {L : Lv} {h : H} {lvl : Nat} {l : List SV} {xs : List Value} {J : List Value → H → Prop} (e : SV.denL G dE l = xs) (hL : L[lvl]? = some J) (hj : J xs h) :
    holds P R (.again lvl l) G L h := by
  show Lv.at L lvl _ h
  unfold Lv.at
  rw [hL, e]; exact hj
theorem s14 {h : H} {v : Value} {bs : List Blk} (hv : BlksAt h v bs) :
    CallsA Try.prog 14 (fun _ => [v]) [] h (Ret fun r h' => h' = h ∧ ∃ b : Bool, r = .bool b ∧ (b = false → NotLong bs)) := by
  refine c14 (G := [v]) ⟨hv.fit, trivial⟩ ?_
  have hl := hv.len
  refine h_loop (fun xs h' => ∃ n i : Nat, xs = [.int .i64 (n : Int), .int .i64 (i : Int)] ∧ h' = h ∧ n ≤ 5000 ∧ i ≤ 101 ∧ i ≤ bs.length ∧ NotLong (bs.take i))
    (fun xs h' => bs.length - (vi (gv xs 1)).toNat) ⟨0, 0, rfl, rfl, by omega, by omega, Nat.zero_le _, fun b hb => by simp at hb⟩ ?_
  rintro xs h' J - ⟨n, i, rfl, rfl, hn, hi, hil, hd⟩ hJ
  refine h_ite (fun hc => ?_) (fun hc => ?_)
  · replace hc : cmpOp .lss (i : Int) ((vlen v : Nat) : Int) = true := hc
    have hc' := hc
    rw [hl, cmp_lss, decide_eq_true_eq] at hc
    have hlt : i < bs.length := by omega
    have hx : bs[i]? = some bs[i] := List.getElem?_eq_getElem hlt
    have hst : bs.take (i + 1) = bs.take i ++ [bs[i]] := by rw [List.take_add_one, hx]; rfl
    generalize bs[i] = x at hx hst
    obtain ⟨cs, ⟨u, rfl, hu⟩, hr⟩ := hv.get i x hx
    have hul := hu.len
    refine ⟨fun _ => ⟨?_, hc', trivial⟩, h_load (u :: endC x.en) ⟨hu.fit, endFit x.en⟩ (fun _ => hr) ?_⟩
    · show cmpOp .geq (i : Int) 0 = true
      rw [cmp_geq, decide_eq_true_eq]; omega
    refine h_loop (fun xs h'' => ∃ m j : Nat, xs = [.int .i64 (m : Int), .int .i64 (j : Int)] ∧ h'' = h' ∧ m ≤ 5000 ∧ j ≤ m ∧ j ≤ x.ins.length ∧ ∀ y ∈ x.ins.take j, y.args.length ≤ 5000)
      (fun xs h' => x.ins.length - (vi (gv xs 1)).toNat) ⟨n, 0, rfl, rfl, hn, Nat.zero_le _, Nat.zero_le _, fun b hb => by simp at hb⟩ ?_
    rintro xs h'' J2 - ⟨m, j, rfl, rfl, hm, hj, hjl, hd2⟩ hJ2
    refine h_ite (fun hc2 => ?_) (fun hc2 => ?_)
    · replace hc2 : cmpOp .lss (j : Int) ((vlen u : Nat) : Int) = true := hc2
      have hc2' := hc2
      rw [hul, cmp_lss, decide_eq_true_eq] at hc2
      have hlt2 : j < x.ins.length := by omega
      have hy : x.ins[j]? = some x.ins[j] := List.getElem?_eq_getElem hlt2
      have hst2 : x.ins.take (j + 1) = x.ins.take j ++ [x.ins[j]] := by rw [List.take_add_one, hy]; rfl
      generalize x.ins[j] = y at hy hst2
      obtain ⟨cs2, ⟨w, rfl, hw⟩, hr2⟩ := hu.get j y hy
      have hwl := hw.len
      refine ⟨fun _ => ⟨?_, hc2', trivial⟩, h_load (insC y w) (insFit y w hw.fit) (fun _ => hr2) ?_⟩
      · show cmpOp .geq (j : Int) 0 = true
        rw [cmp_geq, decide_eq_true_eq]; omega
      -- the sum so far
      obtain ⟨a, ha⟩ : ∃ a : Nat, (a : Int) = if (10000 : Int) < y.args.length then 10000 else (y.args.length : Int) := ⟨if 10000 < y.args.length then 10000 else y.args.length, by split <;> split <;> omega⟩
      have hab : a ≤ 10000 := by split at ha <;> omega
      have hsum : ∀ G : List Value, vlen (gv G 16) = y.args.length → gv G 8 = .int .i64 (m : Int) → vi ((X.op .add .i64 (.var 8) (.op .add .i64 (.lit 1) (LX 16))).den G) = ((m + (1 + a) : Nat) : Int) := by
        intro G e1 e2
        have e3 := lx_val e1
        rw [← ha] at e3
        simp only [X.den, e2, e3, vi_int, intOp]
        rw [wrap_i64 (n := 1 + (a : Int)) (by omega) (by omega), wrap_i64 (by omega) (by omega)]; omega
      have hsum' := hsum (v :: .int .i64 (n : Int) :: .int .i64 (i : Int) :: u :: .int .u8 x.en.kind :: .int .i64 x.en.a :: .int .i64 x.en.to :: .int .i64 x.en.el :: .int .i64 (m : Int) :: .int .i64 (j : Int) :: insC y w) hwl rfl
      refine h_ite (fun hc3 => ⟨rfl, rfl, true, rfl, fun e => by cases e⟩) (fun hc3 => ?_)
      have hc4 := (gtr_val (k := 5000) hsum').symm.trans hc3
      rw [decide_eq_false_iff_not] at hc4
      have hag : SV.denL (v :: .int .i64 (n : Int) :: .int .i64 (i : Int) :: u :: .int .u8 x.en.kind :: .int .i64 x.en.a :: .int .i64 x.en.to :: .int .i64 x.en.el :: .int .i64 (m : Int) :: .int .i64 (j : Int) :: insC y w) dE
          [.int .i64 (.op .add .i64 (.var 8) (.op .add .i64 (.lit 1) (LX 16))), .int .i64 (.op .add .i64 (.var 9) (.lit 1))] = [.int .i64 ((m + (1 + a) : Nat) : Int), .int .i64 ((j + 1 : Nat) : Int)] := by
        simp only [SV.denL, SV.den, hsum']
        rw [← int_add_one (n := j + 1) (by omega) (by omega)]; rfl
      refine again_of (xs := [.int .i64 ((m + (1 + a) : Nat) : Int), .int .i64 ((j + 1 : Nat) : Int)]) (J := J2) hag rfl ?_
      refine hJ2 _ _ ⟨m + (1 + a), j + 1, rfl, rfl, by omega, by omega, by omega, fun z hz => ?_⟩ ?_
      · rw [hst2] at hz
        rcases List.mem_append.1 hz with q | q
        · exact hd2 z q
        · rw [List.mem_singleton] at q; subst q
          split at ha <;> omega
      · simp only [gv_zero, gv_succ, vi_int]; omega
    · replace hc2 : cmpOp .lss (j : Int) ((vlen u : Nat) : Int) = false := hc2
      rw [hul, cmp_lss, decide_eq_false_iff_not] at hc2
      have hjx : j = x.ins.length := by omega
      rw [hjx, List.take_of_length_le (Nat.le_refl _)] at hd2
      refine h_ite (fun hc3 => ⟨rfl, rfl, true, rfl, fun e => by cases e⟩) (fun hc3 => ?_)
      replace hc3 : vb (if cmpOp .gtr (i : Int) 100 = true then Value.bool true else Value.bool (cmpOp .gtr ((vlen u : Nat) : Int) 2000)) = false := hc3
      rw [hul] at hc3
      simp only [vb_ite, vb_bool, cmp_gtr, decide_eq_true_eq] at hc3
      have hc4 : (i : Int) ≤ 100 ∧ (x.ins.length : Int) ≤ 2000 := by grind
      show J [.int .i64 (m : Int), .int .i64 (intOp .add .i64 (i : Int) 1)] h''
      rw [int_add_one (n := 101) (by omega) (by omega)]
      refine hJ _ _ ⟨m, i + 1, rfl, rfl, hm, by omega, by omega, fun b hb => ?_⟩ ?_
      · rw [hst] at hb
        rcases List.mem_append.1 hb with q | q
        · exact hd b q
        · rw [List.mem_singleton] at q; subst q
          exact ⟨by omega, hd2⟩
      · simp only [gv_zero, gv_succ, vi_int]; omega
  · replace hc : cmpOp .lss (i : Int) ((vlen v : Nat) : Int) = false := hc
    rw [hl, cmp_lss, decide_eq_false_iff_not] at hc
    have : i = bs.length := by omega
    rw [this, List.take_of_length_le (Nat.le_refl _)] at hd
    exact ⟨rfl, rfl, false, rfl, fun _ => hd⟩
end Go.Proofs.Ytibdneedfopcoaa
