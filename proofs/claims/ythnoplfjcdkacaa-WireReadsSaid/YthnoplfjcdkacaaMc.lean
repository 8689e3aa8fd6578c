/-
  What the document's answer for an instruction computes. Conditions: as each contract says.
-/
import Derived.Test.YthnoplfjcdkacaaMb
import Derived.Test.YthnoplfjcdkacaaTt
import Derived.Test.YthnoplfjcdkacaaMa
set_option linter.unusedVariables false
set_option linter.unusedSimpArgs false
namespace Go.Proofs.Ythnoplfjcdkacaa
open Go

def namesL : List ByteArray := [⟨#[]⟩, ⟨#[68, 78]⟩, ⟨#[68, 65]⟩, ⟨#[79, 68, 65, 66]⟩, ⟨#[68, 65]⟩, ⟨#[65, 66]⟩, ⟨#[68, 78, 82]⟩, ⟨#[68, 65]⟩, ⟨#[68, 65]⟩]
theorem s59 {h : H} {k : Nat} {s : ByteArray} (hs : namesL[k]? = some s) : CallsA Try.prog 59 (fun _ => [.int .u8 (k : Int)]) [] h (Ret fun r h' => h.le h' ∧ r = .string s) := by
  refine c59 (G := [.int .u8 (k : Int)]) ⟨⟨_, rfl⟩, trivial⟩ ?_
  have hk : k < 9 := (List.getElem?_eq_some_iff.1 hs).1
  intro b hb
  refine ⟨fun _ => ⟨?_, ?_, trivial⟩, h_load [.string s] ⟨⟨_, rfl⟩, trivial⟩ (fun _ => ?_) ⟨rfl, H.le_put hb, rfl⟩⟩
  · show cmpOp .geq (k : Int) 0 = true
    rw [cmp_geq, decide_eq_true_eq]; omega
  · show cmpOp .lss (k : Int) 9 = true
    rw [cmp_lss, decide_eq_true_eq]; omega
  · show Reads _ ((⟨b, 0, none⟩ : Addr).add ((k : Int).toNat * 1)) [.string s]
    rw [Int.toNat_natCast, Nat.mul_one]
    refine Reads.put (l := namesL.map .string) (o := k) fun i v hi => ?_
    obtain ⟨rfl, rfl⟩ := get_one hi
    rw [List.getElem?_map, Nat.add_zero, hs]; rfl
def setM (x : Ins) : Nat → Bool
  | 0 => decide (x.op ≠ 0)
  | 1 => decide (x.d ≠ 0)
  | 2 => decide (x.a ≠ 0)
  | 3 => decide (x.b ≠ 0)
  | 4 => decide (x.n ≠ 0)
  | 5 => decide (x.args ≠ [])
  | _ => false
def letters : List UInt8 := [79, 68, 65, 66, 78, 82]
def hasM (nm : ByteArray) (k j : Nat) : Bool := (nm.data.toList.take j).any fun c => c == letters.getD k 0
def zeroM (x : Ins) (nm : ByteArray) : Bool := (List.range 6).all fun k => !(setM x k) || hasM nm k nm.size
theorem hasM_succ {nm : ByteArray} {k j : Nat} (hj : j < nm.size) : hasM nm k (j + 1) = (hasM nm k j || (nm.data.getD j 0 == letters.getD k 0)) := by
  have h1 : j < nm.data.toList.length := by simpa using hj
  have h2 : nm.data.getD j 0 = nm.data.toList[j] := by
    rw [Array.getD_eq_getD_getElem?, Array.getElem?_eq_getElem (by simpa using hj)]; simp
  unfold hasM
  rw [List.take_succ_eq_append_getElem h1, List.any_append, h2]; simp
theorem beq_u8 (a b : UInt8) : decide ((a.toNat : Int) = (b.toNat : Int)) = (a == b) := by
  rw [Bool.eq_iff_iff, decide_eq_true_eq, beq_iff_eq]
  constructor
  · intro h; exact UInt8.toNat_inj.1 (by omega)
  · rintro rfl; rfl
theorem letters_byte {k : Nat} (hk : k < 6) : (ByteArray.mk #[79, 68, 65, 66, 78, 82]).data.getD k 0 = letters.getD k 0 := by
  have : k = 0 ∨ k = 1 ∨ k = 2 ∨ k = 3 ∨ k = 4 ∨ k = 5 := by omega
  rcases this with rfl | rfl | rfl | rfl | rfl | rfl <;> rfl
theorem setM_get {x : Ins} {k : Nat} (hk : k < 6) : ([.bool (setM x 0), .bool (setM x 1), .bool (setM x 2), .bool (setM x 3), .bool (setM x 4), .bool (setM x 5)] : List Value)[k]? = some (.bool (setM x k)) := by
  have : k = 0 ∨ k = 1 ∨ k = 2 ∨ k = 3 ∨ k = 4 ∨ k = 5 := by omega
  rcases this with rfl | rfl | rfl | rfl | rfl | rfl <;> rfl
theorem zeroM_of {x : Ins} {nm : ByteArray} (h : ∀ m, m < 6 → (!(setM x m) || hasM nm m nm.size) = true) : zeroM x nm = true := by
  unfold zeroM; rw [List.all_eq_true]; intro m hm; exact h m (List.mem_range.1 hm)
theorem zeroM_no {x : Ins} {nm : ByteArray} {k : Nat} (hk : k < 6) (h : (!(setM x k) || hasM nm k nm.size) = false) : zeroM x nm = false := by
  unfold zeroM; rw [List.all_eq_false]; exact ⟨k, List.mem_range.2 hk, by rw [h]; simp⟩
theorem s77 {h : H} (x : Ins) (v : Value) (nm : ByteArray) (hv : IntsAt h v x.args) (hn : nm.size ≤ 1000) :
    CallsA Try.prog 77 (fun _ => [.agg (insC x v).toArray, .string nm]) [] h (Ret fun r h' => h.le h' ∧ r = .bool (zeroM x nm)) := by
  refine c77 (G := insG x v [.string nm]) (insGFit x v hv.fit ⟨⟨_, rfl⟩, trivial⟩) ?_
  have hz := len_pos hv.len
  refine h_loop (fun xs h' => ∃ k : Nat, xs = [.int .i64 (k : Int)] ∧ k ≤ 6 ∧ h.le h' ∧ ∀ m, m < k → (!(setM x m) || hasM nm m nm.size) = true) (fun xs h' => 6 - (vi (gv xs 0)).toNat) ⟨0, rfl, by omega, H.le_refl _, fun m hm => absurd hm (Nat.not_lt_zero _)⟩ ?_
  rintro xs h1 J - ⟨k, rfl, hk, hl, hd⟩ hJ
  simp only [List.cons_append, List.nil_append, insG]
  refine h_ite (fun hc => ?_) (fun hc => ?_)
  · replace hc : cmpOp .lss (k : Int) 6 = true := hc
    rw [cmp_lss, decide_eq_true_eq] at hc
    refine ⟨fun _ => ⟨?_, ?_, trivial⟩, ?_⟩
    · show cmpOp .geq (k : Int) 0 = true
      rw [cmp_geq, decide_eq_true_eq]; omega
    · show cmpOp .lss (k : Int) 6 = true
      rw [cmp_lss, decide_eq_true_eq]; omega
    refine h_loop (fun xs h' => ∃ j : Nat, xs = [.bool (hasM nm k j), .int .i64 (j : Int)] ∧ j ≤ nm.size ∧ h' = h1) (fun xs h' => nm.size - (vi (gv xs 1)).toNat) ⟨0, rfl, by omega, rfl⟩ ?_
    rintro xs h2 J2 - ⟨j, rfl, hj, rfl⟩ hJ2
    simp only [List.cons_append, List.nil_append]
    refine h_ite (fun hc2 => ?_) (fun hc2 => ?_)
    · replace hc2 : cmpOp .lss (j : Int) (nm.size : Int) = true := hc2
      rw [cmp_lss, decide_eq_true_eq] at hc2
      refine ⟨fun _ => ⟨?_, ?_, trivial⟩, ?_⟩
      · show cmpOp .geq (j : Int) 0 = true
        rw [cmp_geq, decide_eq_true_eq]; omega
      · show cmpOp .lss (j : Int) (nm.size : Int) = true
        rw [cmp_lss, decide_eq_true_eq]; omega
      · refine again_of (xs := [.bool (hasM nm k (j + 1)), .int .i64 ((j + 1 : Nat) : Int)]) (J := J2) ?_ rfl (hJ2 _ h2 ⟨j + 1, rfl, by omega, rfl⟩ ?_)
        · have e1 := hasM_succ (k := k) (nm := nm) (j := j) (by omega)
          have e2 := letters_byte (k := k) (by omega)
          have e3 := beq_u8 (nm.data.getD j 0) (letters.getD k 0)
          have e4 : intOp .add .i64 (j : Int) 1 = ((j + 1 : Nat) : Int) := int_add_one (n := nm.size) (by omega) (by omega)
          show [Value.bool (vb (if hasM nm k j = true then Value.bool true else Value.bool (cmpOp .eql ((nm.data.getD (Int.toNat j) 0).toNat : Int) (((ByteArray.mk #[79, 68, 65, 66, 78, 82]).data.getD (Int.toNat k) 0).toNat : Int)))), Value.int .i64 (intOp .add .i64 (j : Int) 1)] = _
          rw [e4, Int.toNat_natCast, Int.toNat_natCast, cmp_eql, e2, e3, e1]
          cases hasM nm k j <;> rfl
        · simp only [gv_zero, gv_succ, vi_int]; omega
    · replace hc2 : cmpOp .lss (j : Int) (nm.size : Int) = false := hc2
      rw [cmp_lss, decide_eq_false_iff_not] at hc2
      have hje : j = nm.size := by omega
      subst hje
      intro b hb
      have hs : ∀ {w}, w = [Value.bool (cmpOp .neq x.op 0), .bool (cmpOp .neq x.d 0), .bool (cmpOp .neq x.a 0), .bool (cmpOp .neq x.b 0), .bool (cmpOp .neq x.n 0), .bool (cmpOp .gtr (vlen v : Int) 0)] → w = ([.bool (setM x 0), .bool (setM x 1), .bool (setM x 2), .bool (setM x 3), .bool (setM x 4), .bool (setM x 5)] : List Value) := by
        rintro _ rfl
        simp only [setM, cmp_neq, cmp_gtr, hz]
      refine ⟨fun _ => ⟨?_, ?_, trivial⟩, h_load [.bool (setM x k)] ⟨⟨_, rfl⟩, trivial⟩ (fun _ => ?_) ?_⟩
      · show cmpOp .geq (k : Int) 0 = true
        rw [cmp_geq, decide_eq_true_eq]; omega
      · show cmpOp .lss (k : Int) 6 = true
        rw [cmp_lss, decide_eq_true_eq]; omega
      · show Reads _ ((⟨b, 0, none⟩ : Addr).add ((k : Int).toNat * 1)) [.bool (setM x k)]
        rw [Int.toNat_natCast, Nat.mul_one]
        refine Reads.put (o := k) fun i v hi => ?_
        obtain ⟨rfl, rfl⟩ := get_one hi
        rw [Nat.add_zero]; exact (congrArg (fun w : List Value => w[k]?) (hs rfl)).trans (setM_get (by omega))
      · refine h_ite (fun hc3 => ⟨rfl, hl.trans (H.le_put hb), ?_⟩) (fun hc3 => ?_)
        · replace hc3 : vb (if setM x k = true then Value.bool (!hasM nm k nm.size) else Value.bool false) = true := hc3
          have h6 : (!(setM x k) || hasM nm k nm.size) = false := by
            revert hc3; cases setM x k <;> cases hasM nm k nm.size <;> simp [vb]
          rw [zeroM_no (k := k) (by omega) h6]; rfl
        · replace hc3 : vb (if setM x k = true then Value.bool (!hasM nm k nm.size) else Value.bool false) = false := hc3
          refine again_of (xs := [.int .i64 ((k + 1 : Nat) : Int)]) (J := J) ?_ rfl (hJ _ _ ⟨k + 1, rfl, by omega, hl.trans (H.le_put hb), fun m hm => ?_⟩ ?_)
          · exact congrArg (fun z => [Value.int .i64 z]) (int_add_one (n := 6) (by omega) (by omega))
          · rcases Nat.lt_succ_iff_lt_or_eq.1 hm with h | rfl
            · exact hd m h
            · revert hc3; cases setM x m <;> cases hasM nm m nm.size <;> simp [vb]
          · simp only [gv_zero, vi_int]; omega
  · replace hc : cmpOp .lss (k : Int) 6 = false := hc
    rw [cmp_lss, decide_eq_false_iff_not] at hc
    have hke : k = 6 := by omega
    subst hke
    exact ⟨rfl, hl, by rw [zeroM_of hd]; rfl⟩
end Go.Proofs.Ythnoplfjcdkacaa

/-
  What the document's answer for an instruction computes, and that it is the check's. Conditions: as each contract says.
-/
set_option linter.unusedVariables false
set_option linter.unusedSimpArgs false
namespace Go.Proofs.Ythnoplfjcdkacaa
open Go

def plainR (x : Ins) : Prop := (x.op = 0 ∨ x.kind = 3) ∧ (x.d = 0 ∨ x.kind = 1 ∨ x.kind = 2 ∨ x.kind = 3 ∨ x.kind = 4 ∨ x.kind = 6 ∨ x.kind = 7 ∨ x.kind = 8) ∧ (x.a = 0 ∨ x.kind = 2 ∨ x.kind = 4 ∨ x.kind = 3 ∨ x.kind = 5 ∨ x.kind = 7 ∨ x.kind = 8) ∧
  (x.b = 0 ∨ x.kind = 3 ∨ x.kind = 5) ∧ (x.n = 0 ∨ x.kind = 1 ∨ x.kind = 6) ∧ (x.args = [] ∨ x.kind = 6)
instance (x : Ins) : Decidable (plainR x) := by unfold plainR; infer_instance
theorem zeroM_plain {x : Ins} {k : Nat} {nm : ByteArray} (hk : x.kind = (k : Int)) (h1 : 1 ≤ k) (hs : namesL[k]? = some nm) : zeroM x nm = decide (plainR x) := by
  have hk9 : k < 9 := (List.getElem?_eq_some_iff.1 hs).1
  have : k = 1 ∨ k = 2 ∨ k = 3 ∨ k = 4 ∨ k = 5 ∨ k = 6 ∨ k = 7 ∨ k = 8 := by omega
  rw [Bool.eq_iff_iff, decide_eq_true_eq]
  unfold plainR
  rw [hk]
  rcases this with rfl | rfl | rfl | rfl | rfl | rfl | rfl | rfl <;> (cases hs; simp [zeroM, List.range, List.range.loop, setM, hasM, letters, ByteArray.size])
def lowR (s : Int) : Int := if 0 ≤ s then 23 else 21
def insRM (x : Ins) (n s : Int) : Int :=
  if ¬ (1 ≤ x.kind ∧ x.kind ≤ (if 0 ≤ s then 8 else 6)) ∨ ¬ plainR x ∨ (x.kind = 3 ∧ ¬ (1 ≤ x.op ∧ x.op ≤ 7)) then 20
  else if 3 < x.args.length then 25
  else if (namedM x).all (inR n) = false then lowR s
  else if (x.kind = 7 ∧ ¬ (0 ≤ x.d ∧ x.d < s)) ∨ (x.kind = 8 ∧ ¬ (0 ≤ x.a ∧ x.a < s)) then 24 else 0
/-- The loop that looks at each named number. -/
theorem ref_loop {R : Value → List (List Value) → H → Prop} {G : List Value} {L : Lv} {h : H} {v : Value} {l : List Int} {n s : Int} {j k : Nat} {fin : Out} (hv : IntsAt h v l) (hj : gv G j = v) (hjk : j < k) (h8 : 8 < k) (hk : G.length = k)
    (hn : gv G 7 = .int .i64 n) (hs : gv G 8 = .int .i64 s) (hl : l.length ≤ 100000) (H1 : l.all (inR n) = false → R (Value.int .i64 (lowR s)) [] h) (H0 : l.all (inR n) = true → ∀ i J, holds Try.prog R fin (G ++ [i]) J h) :
    holds Try.prog R (.loop 0 [(.int .i64 (.lit 0))] [.int .i64] (.ite (.cmp .lss (.var k) (.len j)) (.need (.tt true) [(.cmp .geq (.var k) (.lit 0)), (.cmp .lss (.var k) (.len j))]
       (.load (.tt true) (.idx (.var j) (.var k) 1) [.int .i64]
       (.need (.not (.cmp .lss (.var (k + 1)) (.lit 0))) [(.cmp .geq (.var k) (.lit 0)), (.cmp .lss (.var k) (.len j))]
       (.load (.not (.cmp .lss (.var (k + 1)) (.lit 0))) (.idx (.var j) (.var k) 1) [.int .i64]
       (.ite (.ite (.cmp .lss (.var (k + 1)) (.lit 0)) (.tt true) (.cmp .geq (.var (k + 2)) (.var 7)))
        (.ite (.cmp .geq (.var 8) (.lit 0)) (.done (.int .i64 (.lit 23)) []) (.done (.int .i64 (.lit 21)) []))
        (.again 0 [(.int .i64 (.op .add .i64 (.var k) (.lit 1)))]))))))
       fin)) G L h := by
  refine h_range (n := l.length) (fun i h' => h' = h ∧ ∀ m, m < i → ∀ y, l[m]? = some y → inR n y = true) (by rw [hj]; exact hv.len) hjk hk (by omega) ⟨rfl, fun m hm => absurd hm (Nat.not_lt_zero _)⟩ ?_ ?_
  · rintro i h' J hi ⟨rfl, hI⟩ hJ
    have hy : l[i]? = some l[i] := List.getElem?_eq_getElem hi
    generalize l[i] = y at hy
    have e1 : gv (G ++ [Value.int .i64 (i : Int)]) k = .int .i64 (i : Int) := by rw [← hk]; exact gv_last
    have e2 : gv (G ++ [Value.int .i64 (i : Int)]) j = v := by rw [gv_of_lt (by omega), hj]
    have hr : Reads h' ((PE.idx (.var j) (.var k) 1).den (G ++ [Value.int .i64 (i : Int)])) [.int .i64 y] := by
      simp only [PE.den, X.den, e1, e2, vi_int, Int.toNat_natCast]
      exact hv.read hy
    refine h_load [.int .i64 y] ⟨⟨_, rfl⟩, trivial⟩ (fun _ => hr) ?_
    have hL1 : (G ++ [Value.int .i64 (i : Int)]).length = k + 1 := by simp [hk]
    have e3 : gv (G ++ [Value.int .i64 (i : Int)] ++ [Value.int .i64 y]) (k + 1) = .int .i64 y := by rw [← hL1]; exact gv_last
    have e5 : gv (G ++ [Value.int .i64 (i : Int)] ++ [Value.int .i64 y]) k = .int .i64 (i : Int) := by rw [gv_of_lt (by simp; omega), e1]
    have e6 : gv (G ++ [Value.int .i64 (i : Int)] ++ [Value.int .i64 y]) j = v := by rw [gv_of_lt (by simp; omega), e2]
    refine ⟨fun _ => ?_, h_load [.int .i64 y] ⟨⟨_, rfl⟩, trivial⟩ (fun _ => ?_) ?_⟩
    · simp only [needs, X.den, e5, e6, hv.len, vb_bool, vi_int, cmp_lss, cmp_geq, decide_eq_true_eq, and_true]
      omega
    · simp only [PE.den, X.den, e5, e6, vi_int, Int.toNat_natCast]
      exact hv.read hy
    have hL2 : (G ++ [Value.int .i64 (i : Int)] ++ [Value.int .i64 y]).length = k + 2 := by simp [hk]
    have f3 : gv (G ++ [Value.int .i64 (i : Int)] ++ [Value.int .i64 y] ++ [Value.int .i64 y]) (k + 2) = .int .i64 y := by rw [← hL2]; exact gv_last
    have f1 : gv (G ++ [Value.int .i64 (i : Int)] ++ [Value.int .i64 y] ++ [Value.int .i64 y]) (k + 1) = .int .i64 y := by rw [gv_of_lt (by simp; omega), e3]
    have f4 : gv (G ++ [Value.int .i64 (i : Int)] ++ [Value.int .i64 y] ++ [Value.int .i64 y]) 7 = .int .i64 n := by rw [gv_of_lt (by simp; omega), gv_of_lt (by simp; omega), gv_of_lt (by omega), hn]
    have f8 : gv (G ++ [Value.int .i64 (i : Int)] ++ [Value.int .i64 y] ++ [Value.int .i64 y]) 8 = .int .i64 s := by rw [gv_of_lt (by simp; omega), gv_of_lt (by simp; omega), gv_of_lt (by omega), hs]
    have f5 : gv (G ++ [Value.int .i64 (i : Int)] ++ [Value.int .i64 y] ++ [Value.int .i64 y]) k = .int .i64 (i : Int) := by rw [gv_of_lt (by simp; omega), e5]
    refine h_ite (fun hc => ?_) (fun hc => ?_)
    · have hF : l.all (inR n) = false := by
        simp only [X.den, f1, f3, f4, vb_ite, vb_bool, vi_int, cmp_lss, cmp_geq, decide_eq_true_eq] at hc
        rw [List.all_eq_false]
        refine ⟨y, List.mem_of_getElem? hy, ?_⟩
        unfold inR; grind
      have hR := H1 hF
      unfold lowR at hR
      refine h_ite (fun hd => ?_) (fun hd => ?_) <;> simp only [X.den, f8, vi_int, vb_bool, cmp_geq, decide_eq_true_eq, decide_eq_false_iff_not] at hd
      · rw [if_pos hd] at hR; exact hR
      · rw [if_neg hd] at hR; exact hR
    · show J _ _
      simp only [SV.denL, SV.den, X.den, f5, vi_int]
      refine hJ _ ⟨rfl, fun m hm z hz => ?_⟩
      rcases Nat.lt_succ_iff_lt_or_eq.1 hm with h | rfl
      · exact hI m h z hz
      · rw [hy] at hz; cases hz
        simp only [X.den, f1, f3, f4, vb_ite, vb_bool, vi_int, cmp_lss, cmp_geq, decide_eq_true_eq] at hc
        unfold inR; grind
  · rintro h' J ⟨rfl, hI⟩
    refine H0 ?_ _ _
    rw [List.all_eq_true]
    intro y hy
    obtain ⟨m, hm⟩ := List.getElem?_of_mem hy
    exact hI m (List.getElem?_eq_some_iff.1 hm).1 y hm
theorem insRM_20 {x : Ins} {n s : Int} (h : ¬ (1 ≤ x.kind ∧ x.kind ≤ (if 0 ≤ s then 8 else 6)) ∨ ¬ plainR x ∨ (x.kind = 3 ∧ ¬ (1 ≤ x.op ∧ x.op ≤ 7))) : insRM x n s = 20 := by unfold insRM; rw [if_pos h]
theorem fin_ref {R : Value → List (List Value) → H → Prop} {G : List Value} {L : Lv} {h : H} {x : Ins} {n s : Int} (e0 : gv G 0 = .int .u8 x.kind) (e2 : gv G 2 = .int .i64 x.d) (e3 : gv G 3 = .int .i64 x.a) (e8 : gv G 8 = .int .i64 s)
    (hof : insRM x n s = if (x.kind = 7 ∧ ¬ (0 ≤ x.d ∧ x.d < s)) ∨ (x.kind = 8 ∧ ¬ (0 ≤ x.a ∧ x.a < s)) then 24 else 0) (H : R (Value.int .i64 (insRM x n s)) [] h) :
    holds Try.prog R (.ite (.ite (.ite (.cmp .eql (.var 0) (.lit 7)) (.ite (.cmp .lss (.var 2) (.lit 0)) (.tt true) (.cmp .geq (.var 2) (.var 8))) (.tt false)) (.tt true) (.ite (.cmp .eql (.var 0) (.lit 8)) (.ite (.cmp .lss (.var 3) (.lit 0)) (.tt true) (.cmp .geq (.var 3) (.var 8))) (.tt false)))
        (.done (.int .i64 (.lit 24)) [])
        (.done (.int .i64 (.lit 0)) [])) G L h := by
  rw [hof] at H
  refine h_ite (fun hc => ?_) (fun hc => ?_) <;> simp only [X.den, e0, e2, e3, e8, vb_ite, vb_bool, vi_int, cmp_lss, cmp_geq, cmp_eql, decide_eq_true_eq] at hc
  · rw [if_pos (by grind)] at H; exact H
  · rw [if_neg (by grind)] at H; exact H
theorem s57 {h : H} (x : Ins) (v : Value) (n s : Int) (hv : IntsAt h v x.args) :
    CallsA Try.prog 57 (fun _ => [.agg (insC x v).toArray, .int .i64 n, .int .i64 s]) [] h (Ret fun r h' => h.le h' ∧ r = .int .i64 (insRM x n s)) := by
  refine c57 (G := insG x v [.int .i64 n, .int .i64 s]) (insGFit x v hv.fit ⟨⟨_, rfl⟩, ⟨_, rfl⟩, trivial⟩) ?_
  have hl := hv.len
  refine h_ite (fun hc => ?_) (fun hc => ⟨rfl, H.le_refl _, ?_⟩)
  rotate_left
  · simp only [holds, X.den, PE.den, SV.den, SV.denL, NK.val, NK.sv, NK.pub, gv_zero, gv_succ, vi_int, vb_bool, vlen_sl, vaddr_ptr, vb_ite, vi_ite, cmp_eql, cmp_neq, cmp_lss, cmp_leq, cmp_gtr, cmp_geq, List.map_nil, List.map_cons, List.cons_append, List.nil_append, List.flatten_nil, needs, Ret, true_and, and_true, decide_eq_true_eq, forall_const, intOp, insG] at hc ⊢
    rw [insRM_20 (by grind)]
  simp only [holds, X.den, PE.den, SV.den, SV.denL, NK.val, NK.sv, NK.pub, gv_zero, gv_succ, vi_int, vb_bool, vlen_sl, vaddr_ptr, vb_ite, vi_ite, cmp_eql, cmp_neq, cmp_lss, cmp_leq, cmp_gtr, cmp_geq, List.map_nil, List.map_cons, List.cons_append, List.nil_append, List.flatten_nil, needs, Ret, true_and, and_true, decide_eq_true_eq, forall_const, intOp, insG] at hc
  have hkr : 1 ≤ x.kind ∧ x.kind ≤ (if 0 ≤ s then 8 else 6) := by grind
  obtain ⟨k, hk⟩ : ∃ k : Nat, x.kind = (k : Int) := ⟨x.kind.toNat, by omega⟩
  have hk8 : k ≤ 8 := by split at hkr <;> omega
  obtain ⟨nm, hnm⟩ : ∃ nm, namesL[k]? = some nm := ⟨_, List.getElem?_eq_getElem (by simp [namesL]; omega)⟩
  have hnz : nm.size ≤ 1000 := by
    have : k = 0 ∨ k = 1 ∨ k = 2 ∨ k = 3 ∨ k = 4 ∨ k = 5 ∨ k = 6 ∨ k = 7 ∨ k = 8 := by omega
    rcases this with rfl | rfl | rfl | rfl | rfl | rfl | rfl | rfl | rfl <;> cases hnm <;> simp [ByteArray.size]
  have hz := zeroM_plain (x := x) hk (by omega) hnm
  refine h_call0 (Q := fun r h' => h.le h' ∧ r = .string nm) (by have := s59 (h := h) (k := k) hnm; rw [← hk] at this; exact this) ?_
  rintro _ h1 ⟨hl1, rfl⟩
  refine ⟨[.string nm], ⟨⟨_, rfl⟩, trivial⟩, rfl, h_call0 (s77 x v nm (hv.le hl1) hnz) ?_⟩
  rintro _ h2 ⟨hl2, rfl⟩
  replace hl2 := hl1.trans hl2
  rw [hz]
  refine ⟨[.bool (decide (plainR x))], ⟨⟨_, rfl⟩, trivial⟩, rfl, h_ite (fun hp => ⟨rfl, hl2, ?_⟩) (fun hp => h_ite (fun ha => ⟨rfl, hl2, ?_⟩) (fun ha => ?_))⟩
  · simp only [holds, X.den, PE.den, SV.den, SV.denL, NK.val, NK.sv, NK.pub, gv_zero, gv_succ, vi_int, vb_bool, vlen_sl, vaddr_ptr, vb_ite, vi_ite, cmp_eql, cmp_neq, cmp_lss, cmp_leq, cmp_gtr, cmp_geq, List.map_nil, List.map_cons, List.cons_append, List.nil_append, List.flatten_nil, needs, Ret, true_and, and_true, decide_eq_true_eq, forall_const, intOp, insG] at hp ⊢
    rw [insRM_20 (by grind)]
  · simp only [holds, X.den, PE.den, SV.den, SV.denL, NK.val, NK.sv, NK.pub, gv_zero, gv_succ, vi_int, vb_bool, vlen_sl, vaddr_ptr, vb_ite, vi_ite, cmp_eql, cmp_neq, cmp_lss, cmp_leq, cmp_gtr, cmp_geq, List.map_nil, List.map_cons, List.cons_append, List.nil_append, List.flatten_nil, needs, Ret, true_and, and_true, decide_eq_true_eq, forall_const, intOp, insG] at hp ha ⊢
    rw [hl] at ha
    unfold insRM
    rw [if_neg (by grind), if_pos (by omega)]
  simp only [holds, X.den, PE.den, SV.den, SV.denL, NK.val, NK.sv, NK.pub, gv_zero, gv_succ, vi_int, vb_bool, vlen_sl, vaddr_ptr, vb_ite, vi_ite, cmp_eql, cmp_neq, cmp_lss, cmp_leq, cmp_gtr, cmp_geq, List.map_nil, List.map_cons, List.cons_append, List.nil_append, List.flatten_nil, needs, Ret, true_and, and_true, decide_eq_true_eq, forall_const, intOp, insG] at hp ha
  rw [hl] at ha
  simp only [decide_eq_false_iff_not, Int.not_lt] at ha
  have hof : insRM x n s = if (namedM x).all (inR n) = false then lowR s else if (x.kind = 7 ∧ ¬ (0 ≤ x.d ∧ x.d < s)) ∨ (x.kind = 8 ∧ ¬ (0 ≤ x.a ∧ x.a < s)) then 24 else 0 := by
    unfold insRM; rw [if_neg (by grind), if_neg (by omega)]
  clear hp hc
  intro b0 hb0
  have hl3 := hl2.trans (H.le_put (o := .cells ([] : List Value).toArray 3 (0, 0)) hb0)
  have hown : OwnInts h (h2.put b0 (.cells (([] : List Int).map (Value.int .i64)).toArray 3 (0, 0))) (.slice (some ⟨b0, 0, none⟩) 0 0) [] := own_new (l := []) (H.le_none hl2 hb0)
  refine h_call0 (s78 x v (hv.le hl3)) ?_
  rintro u h4 ⟨hl4, hu⟩
  have hul := usesM_len (x := x) (by omega)
  have hui := hu.len
  have hown4 := hown.le hl4
  have hl5 := hl3.trans hl4
  refine ⟨[u], ⟨hu.fit, trivial⟩, rfl, ?_⟩
  refine ⟨(usesM x).map (.int .i64), (usesM x).length, ⟨by simp, by simp [Value.oneCell'], hu.src⟩, ?_⟩
  refine app_row (h0 := h) (cs := []) hown4 hl5 (by simp) (by rw [zero3]; rfl) ?_ ?_
  · show (0 + (usesM x).length) * 8 ≤ _; omega
  intro w h5 k1 k2 k3 k4 k5
  have k1' : OwnInts h h5 w (usesM x) := k1
  have hwl := k1'.ints.len
  refine h_call0 (s79 (h := h5) x.kind) ?_
  rintro _ _ ⟨rfl, rfl⟩
  refine ⟨[.bool (givesM x.kind)], ⟨⟨_, rfl⟩, trivial⟩, rfl, h_ite (fun hg => ?_) (fun hg => ?_)⟩
  · have hg' : givesM x.kind = true := hg
    have hN : namedM x = usesM x ++ [x.d] := by unfold namedM; rw [if_pos hg']
    rw [hN] at hof
    refine ⟨[.int .i64 x.d], 1, ⟨rfl, rfl⟩, app_row k1' k3 rfl (by rw [zero3]; rfl) ?_ ?_⟩
    · show (vlen w + 1) * 8 ≤ _; omega
    intro v' h' j1 j2 j3 j4 j5
    have j1' : OwnInts h h' v' (usesM x ++ [x.d]) := by unfold OwnInts; rw [List.map_append]; exact j1
    refine ref_loop (v := v') (l := usesM x ++ [x.d]) (n := n) (s := s) j1'.ints rfl (by omega) (by omega) rfl rfl rfl (by simp; omega) (fun e => ⟨rfl, j3, ?_⟩) (fun e i J => ?_)
    · rw [hof, if_pos e]
    · rw [if_neg (by rw [e]; simp)] at hof
      exact fin_ref rfl rfl rfl rfl hof ⟨rfl, j3, rfl⟩
  · have hg' : givesM x.kind = false := hg
    have hN : namedM x = usesM x := by unfold namedM; rw [hg']; simp
    rw [hN] at hof
    refine ref_loop (v := w) (l := usesM x) (n := n) (s := s) k1'.ints rfl (by omega) (by omega) rfl rfl rfl (by omega) (fun e => ⟨rfl, k3, ?_⟩) (fun e i J => ?_)
    · rw [hof, if_pos e]
    · rw [if_neg (by rw [e]; simp)] at hof
      exact fin_ref rfl rfl rfl rfl hof ⟨rfl, k3, rfl⟩
theorem insRM_ir (x : Ins) (n : Int) : insRM x n (-1) = ofM x n := by
  unfold insRM ofM lowR plainR plainM
  by_cases h6 : 1 ≤ x.kind ∧ x.kind ≤ 6
  · have e : ¬ (0 : Int) ≤ -1 := by omega
    simp only [e, if_false]
    grind (splits := 80)
  · rw [if_pos (.inl (by simpa using h6)), if_pos (.inl h6)]
theorem ofM_mapE (x : Ins) (r : Int) (h3 : 3 ≤ r) (h8 : r ≤ 8) : mapE (checkM 0 r [⟨[x], ⟨1, 0, 0, 0⟩⟩]).1 = mapE (ofM x r) := by
  unfold checkM
  rw [if_neg (by simp; omega)]
  simp only [blkF, insF, List.length_cons, List.length_nil]
  rw [if_neg (by omega)]
  by_cases h0 : ofM x r = 0
  · simp [h0, endM]
  · simp [h0]
theorem insRM_mach (x : Ins) (r s : Int) (h3 : 3 ≤ r) (h8 : r ≤ 8) (hs : 0 ≤ s) : insRM x r s = mofM x r s := by
  unfold mofM
  rw [ofM_mapE x r h3 h8]
  unfold insRM ofM lowR plainR plainM mapE
  simp only [hs, if_true, namedM, usesM, givesM]
  by_cases h8 : x.kind = 8
  · simp [h8, inR]; grind (splits := 80)
  by_cases h7 : x.kind = 7
  · simp [h7, inR]; grind (splits := 80)
  simp only [h8, h7, if_false, or_false, false_and]
  grind (splits := 80)
end Go.Proofs.Ythnoplfjcdkacaa

/-
  What the document's answer for a function, and for code, computes: the same as the check. Conditions: as each contract says.
-/
set_option linter.unusedVariables false
set_option linter.unusedSimpArgs false
namespace Go.Proofs.Ythnoplfjcdkacaa
open Go

theorem low_val {G : List Value} {s : Int} (e : gv G 2 = .int .i64 s) : vi ((X.ite (.cmp .geq (.var 2) (.lit 0)) (.lit 23) (.lit 21)).den G) = lowR s := by
  simp only [X.den, e, vi_ite, vb_bool, vi_int, cmp_geq, decide_eq_true_eq, lowR]
theorem s38 {h : H} (v : Value) (bs : List Blk) (n s : Int) (most : Nat) (hv : BlksAt h v bs) (hb : bs.length ≤ 1000) (hm : most ≤ 1000) :
    CallsA Try.prog 38 (fun _ => [v, .int .i64 n, .int .i64 s, .int .i64 (most : Int)]) [] h (Ret fun q h' => h.le h' ∧ q = faultV (blkF (fun x => insRM x n s) (fun e => endM e n bs.length (lowR s)) most 0 bs)) := by
  refine c38 (G := [v, .int .i64 n, .int .i64 s, .int .i64 (most : Int)]) ⟨hv.fit, ⟨_, rfl⟩, ⟨_, rfl⟩, ⟨_, rfl⟩, trivial⟩ ?_
  have hl := hv.len
  generalize hF : blkF (fun x => insRM x n s) (fun e => endM e n bs.length (lowR s)) most 0 bs = F
  refine h_range (n := bs.length) (fun i h' => h.le h' ∧ F = blkF (fun x => insRM x n s) (fun e => endM e n bs.length (lowR s)) most i (bs.drop i)) hl (by omega) rfl (by omega)
    ⟨H.le_refl _, hF.symm⟩ ?_ ?_
  · rintro i h1 J hi ⟨hl1, hI⟩ hJ
    have hy : bs[i]? = some bs[i] := List.getElem?_eq_getElem hi
    generalize bs[i] = y at hy
    have hst := blkF_step hy (hF.trans hI)
    rw [hF] at hst
    obtain ⟨cs, ⟨u, rfl, hu⟩, hr⟩ := (SlAt.le blkC_mono hl1 hv).get i y hy
    have hul := hu.len
    have f1 : Reads h1 (((vaddr v).add (i * 5)).add 0) [u] := hr.sub fun j z hz => by obtain ⟨rfl, rfl⟩ := get_one hz; rfl
    have f2 : Reads h1 (((vaddr v).add (i * 5)).add 1) (endC y.en) := hr.sub fun j z hz => by rw [Nat.add_comm]; simpa using hz
    have n0 : cmpOp .geq (i : Int) 0 = true := by rw [cmp_geq, decide_eq_true_eq]; omega
    have n1 : cmpOp .lss (i : Int) ((vlen v : Nat) : Int) = true := by rw [hl, cmp_lss, decide_eq_true_eq]; omega
    refine h_load [u] ⟨hu.fit, trivial⟩ (fun _ => f1) ?_
    refine h_ite (fun hc => ⟨rfl, hl1, ?_⟩) (fun hc => ?_)
    · replace hc : cmpOp .gtr ((vlen u : Nat) : Int) (most : Int) = true := hc
      rw [hul, cmp_gtr, decide_eq_true_eq] at hc
      rw [if_pos (by omega)] at hst
      rw [hst]; rfl
    replace hc : cmpOp .gtr ((vlen u : Nat) : Int) (most : Int) = false := hc
    rw [hul, cmp_gtr, decide_eq_false_iff_not] at hc
    rw [if_neg (by omega)] at hst
    refine h_loop (fun xs h' => ∃ k : Nat, xs = [.int .i64 (k : Int)] ∧ k ≤ y.ins.length ∧ h1.le h' ∧ insF (fun x => insRM x n s) 0 y.ins = insF (fun x => insRM x n s) k (y.ins.drop k)) (fun xs g => y.ins.length - (vi (gv xs 0)).toNat) ⟨0, rfl, Nat.zero_le _, H.le_refl _, rfl⟩ ?_
    rintro xs h2 J2 - ⟨k, rfl, hk, hl2, hI2⟩ hJ2
    have f1' := f1.le hl2
    have f2' := f2.le hl2
    refine ⟨fun _ => ⟨n0, n1, trivial⟩, h_load [u] ⟨hu.fit, trivial⟩ (fun _ => f1') (h_ite (fun hc3 => ?_) (fun hc3 => ?_))⟩
    · replace hc3 : cmpOp .lss (k : Int) ((vlen u : Nat) : Int) = true := hc3
      have hc3' := hc3
      rw [hul, cmp_lss, decide_eq_true_eq] at hc3
      have hlt : k < y.ins.length := by omega
      have hz : y.ins[k]? = some y.ins[k] := List.getElem?_eq_getElem hlt
      generalize y.ins[k] = z at hz
      have hst2 := insF_step hz hI2
      have m0 : cmpOp .geq (k : Int) 0 = true := by rw [cmp_geq, decide_eq_true_eq]; omega
      obtain ⟨cs2, ⟨w, rfl, hw⟩, hr2⟩ := (SlAt.le insC_mono hl2 hu).get k z hz
      refine ⟨fun _ => ⟨n0, n1, trivial⟩, h_load [u] ⟨hu.fit, trivial⟩ (fun _ => f1') ⟨fun _ => ⟨m0, hc3', trivial⟩, h_load (insC z w) (insFit z w hw.fit) (fun _ => hr2) (h_call0 (s57 z w n s hw) ?_)⟩⟩
      rintro q h3 ⟨hl3, rfl⟩
      refine ⟨[.int .i64 (insRM z n s)], ⟨⟨_, rfl⟩, trivial⟩, rfl, h_ite (fun hf => ⟨rfl, (hl1.trans hl2).trans hl3, ?_⟩) (fun hf => ?_)⟩
      · replace hf : cmpOp .neq (insRM z n s) 0 = true := hf
        rw [cmp_neq, decide_eq_true_eq] at hf
        rw [if_pos hf] at hst2
        rw [hst2] at hst
        rw [hst]; rfl
      · replace hf : cmpOp .neq (insRM z n s) 0 = false := hf
        rw [cmp_neq, decide_eq_false_iff_not] at hf
        rw [if_neg hf] at hst2
        refine again_of (xs := [.int .i64 ((k + 1 : Nat) : Int)]) (J := J2) ?_ rfl (hJ2 _ _ ⟨k + 1, rfl, by omega, hl2.trans hl3, hst2⟩ ?_)
        · exact congrArg (fun z => [Value.int .i64 z]) (int_add_one (n := y.ins.length) (by omega) (by omega))
        · simp only [gv_zero, vi_int]; omega
    · replace hc3 : cmpOp .lss (k : Int) ((vlen u : Nat) : Int) = false := hc3
      rw [hul, cmp_lss, decide_eq_false_iff_not] at hc3
      have hke : k = y.ins.length := by omega
      subst hke
      rw [List.drop_eq_nil_of_le (Nat.le_refl _)] at hI2
      have hI3 : insF (fun x => insRM x n s) 0 y.ins = none := hI2
      rw [hI3] at hst
      refine ⟨fun _ => ⟨n0, n1, trivial⟩, h_load (endC y.en) (endFit y.en) (fun _ => f2') ?_⟩
      simp only [List.cons_append, List.nil_append, endC]
      refine h_call0 (Q := fun r h' => h' = h2 ∧ r = .int .i64 (endM y.en n bs.length (lowR s))) ?_ ?_
      · have := s58 (h := h2) y.en n (vlen v : Nat) (lowR s)
        rw [hl] at this
        simp only [SV.denL, SV.den]
        rw [low_val (s := s) rfl]
        rw [← hl] at this ⊢
        exact this
      rintro r _ ⟨rfl, rfl⟩
      refine ⟨[.int .i64 (endM y.en n bs.length (lowR s))], ⟨⟨_, rfl⟩, trivial⟩, rfl, h_ite (fun hf => ?_) (fun hf => ?_)⟩
      · replace hf : cmpOp .neq (endM y.en n bs.length (lowR s)) 0 = true := hf
        rw [cmp_neq, decide_eq_true_eq] at hf
        simp only [if_pos hf] at hst
        refine ⟨fun _ => ⟨n0, n1, trivial⟩, h_load [u] ⟨hu.fit, trivial⟩ (fun _ => f1') ⟨rfl, hl1.trans hl2, ?_⟩⟩
        rw [hst, ← hul]; rfl
      · replace hf : cmpOp .neq (endM y.en n bs.length (lowR s)) 0 = false := hf
        rw [cmp_neq, decide_eq_false_iff_not] at hf
        simp only [if_neg hf] at hst
        exact hJ _ ⟨hl1.trans hl2, hst⟩
  · rintro h1 J ⟨hl1, hI⟩
    refine ⟨rfl, hl1, ?_⟩
    rw [hI, List.drop_eq_nil_of_le (Nat.le_refl _)]; rfl
theorem insF_congr {f g : Ins → Int} {l : List Ins} (hf : ∀ x ∈ l, f x = g x) : ∀ k, insF f k l = insF g k l := by
  induction l with
  | nil => intro k; rfl
  | cons x l ih => intro k; simp only [insF]; rw [hf x (by simp), ih (fun y hy => hf y (by simp [hy]))]
theorem blkF_congr {f g : Ins → Int} {a b : Fin4 → Int} {m : Nat} {l : List Blk} (hf : ∀ x, f x = g x) (hg : ∀ e, a e = b e) : ∀ k, blkF f a m k l = blkF g b m k l := by
  induction l with
  | nil => intro k; rfl
  | cons x l ih => intro k; simp only [blkF]; rw [insF_congr (fun y _ => hf y), hg, ih]
theorem s15 {h : H} (p n : Int) (v : Value) (bs : List Blk) (hv : BlksAt h v bs) :
    CallsA Try.prog 15 (fun _ => [.agg #[.int .i64 p, .int .i64 n, v]]) [] h (Ret fun r h' => h.le h' ∧ r = faultV (checkM p n bs)) := by
  refine c15 (G := [.int .i64 p, .int .i64 n, v]) ⟨⟨_, rfl⟩, ⟨_, rfl⟩, hv.fit, trivial⟩ ?_
  have hl := hv.len
  refine h_ite (fun hc => ⟨rfl, H.le_refl _, ?_⟩) (fun hc => ?_)
  · simp only [holds, X.den, PE.den, SV.den, SV.denL, NK.val, NK.sv, NK.pub, gv_zero, gv_succ, vi_int, vb_bool, vlen_sl, vaddr_ptr, vb_ite, vi_ite, cmp_eql, cmp_neq, cmp_lss, cmp_leq, cmp_gtr, cmp_geq, List.map_nil, List.map_cons, List.cons_append, List.nil_append, List.flatten_nil, needs, Ret, true_and, and_true, decide_eq_true_eq, forall_const, intOp, X.den] at hc ⊢
    rw [hl] at hc
    unfold checkM
    rw [if_pos (by grind (splits := 60))]; rfl
  · simp only [holds, X.den, PE.den, SV.den, SV.denL, NK.val, NK.sv, NK.pub, gv_zero, gv_succ, vi_int, vb_bool, vlen_sl, vaddr_ptr, vb_ite, vi_ite, cmp_eql, cmp_neq, cmp_lss, cmp_leq, cmp_gtr, cmp_geq, List.map_nil, List.map_cons, List.cons_append, List.nil_append, List.flatten_nil, needs, Ret, true_and, and_true, decide_eq_true_eq, forall_const, intOp, X.den] at hc
    rw [hl] at hc
    have hcm : checkM p n bs = blkF (fun x => insRM x n (-1)) (fun e => endM e n bs.length (lowR (-1))) 32 0 bs := by
      unfold checkM
      rw [if_neg (by grind (splits := 60))]
      exact blkF_congr (fun x => (insRM_ir x n).symm) (fun e => rfl) 0
    refine h_call0 (s38 v bs n (-1) 32 hv (by grind (splits := 60)) (by omega)) ?_
    rintro r h1 ⟨hl1, rfl⟩
    rw [hcm]
    generalize blkF _ _ _ _ _ = f
    exact ⟨[.int .i64 f.1, .int .i64 f.2.1, .int .i64 f.2.2], ⟨⟨_, rfl⟩, ⟨_, rfl⟩, ⟨_, rfl⟩, trivial⟩, rfl, rfl, hl1, rfl⟩
theorem mapE_end (e : Fin4) (n m : Int) : endM e n m 23 = mapE (endM e n m 21) := by
  unfold mapE endM; grind (splits := 60)
theorem s20 {h : H} (p r s : Int) (v : Value) (bs : List Blk) (hv : BlksAt h v bs) :
    CallsA Try.prog 20 (fun _ => [.agg #[.int .i64 p, .int .i64 r, .int .i64 s, v]]) [] h (Ret fun q h' => h.le h' ∧ q = faultV (mcheckM p r s bs)) := by
  refine c20 (G := [.int .i64 p, .int .i64 r, .int .i64 s, v]) ⟨⟨_, rfl⟩, ⟨_, rfl⟩, ⟨_, rfl⟩, hv.fit, trivial⟩ ?_
  have hl := hv.len
  refine h_ite (fun hc => ⟨rfl, H.le_refl _, ?_⟩) (fun hc => ?_)
  · simp only [holds, X.den, PE.den, SV.den, SV.denL, NK.val, NK.sv, NK.pub, gv_zero, gv_succ, vi_int, vb_bool, vlen_sl, vaddr_ptr, vb_ite, vi_ite, cmp_eql, cmp_neq, cmp_lss, cmp_leq, cmp_gtr, cmp_geq, List.map_nil, List.map_cons, List.cons_append, List.nil_append, List.flatten_nil, needs, Ret, true_and, and_true, decide_eq_true_eq, forall_const, intOp, X.den] at hc ⊢
    rw [hl] at hc
    unfold mcheckM
    rw [if_pos (by grind (splits := 60))]; rfl
  · simp only [holds, X.den, PE.den, SV.den, SV.denL, NK.val, NK.sv, NK.pub, gv_zero, gv_succ, vi_int, vb_bool, vlen_sl, vaddr_ptr, vb_ite, vi_ite, cmp_eql, cmp_neq, cmp_lss, cmp_leq, cmp_gtr, cmp_geq, List.map_nil, List.map_cons, List.cons_append, List.nil_append, List.flatten_nil, needs, Ret, true_and, and_true, decide_eq_true_eq, forall_const, intOp, X.den] at hc
    rw [hl] at hc
    have h1 : 0 ≤ s ∧ 3 ≤ r ∧ r ≤ 8 ∧ bs.length ≤ 1000 := by grind (splits := 60)
    have hcm : mcheckM p r s bs = blkF (fun x => insRM x r s) (fun e => endM e r bs.length (lowR s)) 400 0 bs := by
      unfold mcheckM
      rw [if_neg (by grind (splits := 60))]
      refine blkF_congr (fun x => (insRM_mach x r s h1.2.1 h1.2.2.1 h1.1).symm) (fun e => ?_) 0
      unfold lowR; rw [if_pos h1.1]; exact (mapE_end e _ _).symm
    refine h_call0 (s38 v bs r s 400 hv h1.2.2.2 (by omega)) ?_
    rintro q h1 ⟨hl1, rfl⟩
    rw [hcm]
    generalize blkF _ _ _ _ _ = f
    exact ⟨[.int .i64 f.1, .int .i64 f.2.1, .int .i64 f.2.2], ⟨⟨_, rfl⟩, ⟨_, rfl⟩, ⟨_, rfl⟩, trivial⟩, rfl, rfl, hl1, rfl⟩
end Go.Proofs.Ythnoplfjcdkacaa

/-
  One block's instructions changed in place; two checks that agree. Conditions: as each contract says.
-/
set_option linter.unusedVariables false
set_option linter.unusedSimpArgs false
namespace Go.Proofs.Ythnoplfjcdkacaa
open Go

theorem ofM_zeroJ {x : Ins} {n : Int} (h : ofM x n = 0) : x.args.length ≤ 3 ∧ ∀ y ∈ namedM x, 0 ≤ y ∧ y < n := by
  unfold ofM at h
  split at h
  · cases h
  · split at h
    · cases h
    · split at h
      · rename_i h1 h2 h3
        refine ⟨by omega, fun y hy => ?_⟩
        have := List.all_eq_true.1 h3 y hy
        simpa [inR] using this
      · cases h
theorem endM_zeroJ {e : Fin4} {n m : Int} (hm : 1 ≤ m) (h : endM e n m 21 = 0) : (lastM e = true → 0 ≤ e.a ∧ e.a < n) ∧ (0 ≤ e.to ∧ e.to < m) ∧ 0 ≤ e.el ∧ e.el < m := by
  unfold endM at h
  unfold lastM
  grind (splits := 60)
theorem madeB_small {p0 p1 p2 : Int} {l : List Int} (h0 : 0 ≤ p0) (h1 : 0 ≤ p1) (h2 : 0 ≤ p2) (hl : InB l) : Small (madeB p0 p1 p2 l) := by
  have b := madeV_range h0 h1
  have c := madeN_range h2
  refine ⟨by have := madeB_len (p0 := p0) (p1 := p1) (l := l) h2; omega, fun x hx => ?_⟩
  obtain ⟨k1, k2, k3⟩ := blksM_ok (w := madeV p0 p1) (m := madeN p2) (by omega) (Int.le_refl _) (by omega) (Int.le_refl _) hl _ x hx
  exact ⟨by omega, fun y hy => by have := (ofM_zeroJ (k2 y hy)).1; omega⟩
def faultG (f : Int × Int × Int) : List Value := [.int .i64 f.1, .int .i64 f.2.1, .int .i64 f.2.2]
theorem faultG_fit (f : Int × Int × Int) : FitsL [.int .i64, .int .i64, .int .i64] (faultG f) := ⟨⟨_, rfl⟩, ⟨_, rfl⟩, ⟨_, rfl⟩, trivial⟩
theorem same3 {G : List Value} {a b c a' b' c' : Nat} {f : Int × Int × Int} (e1 : gv G a = .int .i64 f.1) (e2 : gv G b = .int .i64 f.2.1) (e3 : gv G c = .int .i64 f.2.2) (e1' : gv G a' = .int .i64 f.1) (e2' : gv G b' = .int .i64 f.2.1) (e3' : gv G c' = .int .i64 f.2.2) :
    vb ((X.and (.cmp .eql (.var a) (.var a')) (.and (.cmp .eql (.var b) (.var b')) (.cmp .eql (.var c) (.var c')))).den G) = true := by
  simp [X.den, e1, e2, e3, e1', e2', e3', cmp_eql]
theorem not_same3 {G : List Value} {a b c a' b' c' : Nat} {f : Int × Int × Int} (e1 : gv G a = .int .i64 f.1) (e2 : gv G b = .int .i64 f.2.1) (e3 : gv G c = .int .i64 f.2.2) (e1' : gv G a' = .int .i64 f.1) (e2' : gv G b' = .int .i64 f.2.1) (e3' : gv G c' = .int .i64 f.2.2) :
    vb ((X.not (X.and (.cmp .eql (.var a) (.var a')) (.and (.cmp .eql (.var b) (.var b')) (.cmp .eql (.var c) (.var c'))))).den G) = false := by
  simp [X.den, e1, e2, e3, e1', e2', e3', cmp_eql]
theorem le_agree {h h' : H} {fp : List Nat} (hl : h.le h') (hv : Live h fp) : Agree h h' fp := fun x hx => by
  obtain ⟨o, ho⟩ := Option.isSome_iff_exists.1 (hv x hx)
  rw [hl _ _ ho, ho]
theorem iteT {P : Program} {R : Value → List (List Value) → H → Prop} {G : List Value} {L : Lv} {h : H} {c : X} {a b : Out} (hc : vb (c.den G) = true) (ha : holds P R a G L h) : holds P R (.ite c a b) G L h := ⟨fun _ => ha, fun h => absurd (hc.symm.trans h) (by simp)⟩
theorem iteF {P : Program} {R : Value → List (List Value) → H → Prop} {G : List Value} {L : Lv} {h : H} {c : X} {a b : Out} (hc : vb (c.den G) = false) (hb : holds P R b G L h) : holds P R (.ite c a b) G L h := ⟨fun h => absurd (hc.symm.trans h) (by simp), fun _ => hb⟩
theorem zero3f {G : List Value} {a b c : Nat} (e1 : gv G a = .int .i64 0) (e2 : gv G b = .int .i64 0) (e3 : gv G c = .int .i64 0) :
    vb ((X.and (.cmp .eql (.var a) (.lit 0)) (.and (.cmp .eql (.var b) (.lit 0)) (.cmp .eql (.var c) (.lit 0)))).den G) = true := by
  simp [X.den, e1, e2, e3, cmp_eql]
/-- The check and the document's answer, one behind the other. -/
theorem two_checks {R : Value → List (List Value) → H → Prop} {G : List Value} {L : Lv} {h : H} {k : Out} {i j m : Nat} {p n : Int} {v : Value} {bs : List Blk} (hi : gv G i = .int .i64 p) (hj : gv G j = .int .i64 n) (hm : gv G m = v)
    (li : i < G.length) (lj : j < G.length) (lm : m < G.length) (hv : BlksAt h v bs) (hk : ∀ h', h.le h' → holds Try.prog R k (G ++ faultG (checkM p n bs) ++ faultG (checkM p n bs)) L h') :
    holds Try.prog R (.call 35 [(.agg [(.int .i64 (.var i)), (.int .i64 (.var j)), (.val m)])] [] [] [] [(true, [.int .i64, .int .i64, .int .i64])]
      (.call 15 [(.agg [(.int .i64 (.var i)), (.int .i64 (.var j)), (.val m)])] [] [] [] [(true, [.int .i64, .int .i64, .int .i64])] k)) G L h := by
  refine h_call0 (Q := fun r h' => h.le h' ∧ r = faultV (checkM p n bs)) ?_ ?_
  · simp only [SV.denL, SV.den, X.den, hi, hj, hm, vi_int]
    exact s35 p n v bs hv
  rintro _ h1 ⟨hl1, rfl⟩
  refine ⟨faultG (checkM p n bs), faultG_fit _, rfl, h_call0 (Q := fun r h' => h1.le h' ∧ r = faultV (checkM p n bs)) ?_ ?_⟩
  · simp only [SV.denL, SV.den, X.den, gv_of_lt li, gv_of_lt lj, gv_of_lt lm, hi, hj, hm, vi_int]
    exact s15 p n v bs (SlAt.le blkC_mono hl1 hv)
  rintro _ h2 ⟨hl2, rfl⟩
  exact ⟨faultG (checkM p n bs), faultG_fit _, rfl, hk h2 (hl1.trans hl2)⟩
section
variable {h : H} {v : Value} {bs : List Blk} {fp : List Nat} {i : Nat} {x : Blk} {w : Value} {f : List Nat} {L1 L2 : List (El Blk)} {fr : List Nat}
theorem Lens.nodup_in {α : Type} {e : TypeId} {sz : Nat} {R : RepF α} {l : List α} {x : α} {c : List Value} {L1 L2 : List (El α)} (K : Lens e sz R h v l fp i x c f L1 L2 fr) (hnd : fp.Nodup) : f.Nodup := by
  have := hnd; rw [K.foot] at this
  exact (List.nodup_append.1 (List.nodup_append.1 (List.nodup_append.1 this).2.1).2.1).1
/-- A block's instructions are others from now on. -/
theorem blk_ins (hnd : fp.Nodup) (K : Lens 83 5 BlkF h v bs fp i x (w :: endC x.en) f L1 L2 fr) {h1 : H} (hk : KeptH h h1 f) {w' : Value} {ins' : List Ins} {f' : List Nat}
    (hw : SlF 87 7 InsF h1 w' ins' f') (hf : ∀ b ∈ f', b ∈ f ∨ h b = none) (hn : f'.Nodup) :
    Writable h1 ((vaddr v).add (i * 5 + 0)) 1 ∧ ∃ fp', OwnBlks (h1.sets ((vaddr v).add (i * 5 + 0)) [w']) v (bs.set i ⟨ins', x.en⟩) fp' ∧ fp'.Nodup ∧ KeptH h (h1.sets ((vaddr v).add (i * 5 + 0)) [w']) fp ∧ ∀ b ∈ fp', b ∈ fp ∨ h b = none := by
  obtain ⟨m1, m2, m3⟩ := K.upd blkF_good hnd hk (o := 0) (N := [w']) (A := []) (B := [w]) (C := endC x.en) rfl rfl rfl (by simp)
  have hag : Agree h1 (h1.sets ((vaddr v).add (i * 5 + 0)) [w']) f' := fun b hb => m2 b fun hr => by
    rcases hf b hb with e | e
    · exact K.apart hnd b e hr
    · have := K.row.live b hr; rw [e] at this; cases this
  refine ⟨m1, _, m3 ⟨ins', x.en⟩ f' ⟨w', rfl, hw.agree insF_good hag⟩, K.nodup blkF_good hnd hf hn, fun b hb hl => ?_, fun b hb => ?_⟩
  · rw [m2 b fun hr => hb (by rw [K.foot]; simp [hr])]
    exact hk b (fun hr => hb (by rw [K.foot]; simp [hr])) hl
  · rw [K.foot]
    simp only [List.mem_append] at hb ⊢
    rcases hb with hb | hb | hb | hb
    · exact .inl (.inl hb)
    · exact .inl (.inr (.inl hb))
    · rcases hf b hb with e | e
      · exact .inl (.inr (.inr (.inl e)))
      · exact .inr e
    · exact .inl (.inr (.inr (.inr hb)))
end
def kIns (k : Int) : Ins := ⟨k, 0, 0, 0, 0, 0, []⟩
theorem kIns_own {h : H} (k : Int) : InsF h (insC (kIns k) (.slice none 0 0)) (kIns k) [] := ⟨_, rfl, .inl ⟨rfl, rfl, rfl⟩⟩
theorem zero46' : ((zeroCells Try.prog 87).getD []).length = 7 := by kernel_rfl
end Go.Proofs.Ythnoplfjcdkacaa

/-
  Instructions changed in place within blocks of one's own; rows made anew of parts of old ones. Conditions: none (plain lemmas).
-/
set_option linter.unusedVariables false
set_option linter.unusedSimpArgs false
namespace Go.Proofs.Ythnoplfjcdkacaa
open Go

/-! ### A list of which the first so many are changed -/
def modL {α : Type} (f : α → α) (i : Nat) (l : List α) : List α := (l.take i).map f ++ l.drop i
theorem modL_zero {α : Type} (f : α → α) (l : List α) : modL f 0 l = l := rfl
theorem modL_all {α : Type} (f : α → α) (l : List α) : modL f l.length l = l.map f := by simp [modL]
theorem modL_len {α : Type} (f : α → α) (i : Nat) (l : List α) : (modL f i l).length = l.length := by simp [modL]; omega
theorem modL_get {α : Type} (f : α → α) {i : Nat} {l : List α} {x : α} (hi : l[i]? = some x) : (modL f i l)[i]? = some x := by
  have hlt := (List.getElem?_eq_some_iff.1 hi).1
  unfold modL
  rw [List.getElem?_append_right (by simp; omega)]
  simp only [List.length_map, List.length_take, List.getElem?_drop]
  rw [show i + (i - min i l.length) = i by omega]; exact hi
theorem modL_set {α : Type} (f : α → α) {i : Nat} {l : List α} {x : α} (hi : l[i]? = some x) : (modL f i l).set i (f x) = modL f (i + 1) l := by
  obtain ⟨hlt, rfl⟩ := List.getElem?_eq_some_iff.1 hi
  unfold modL
  rw [List.set_append_right _ _ (by simp; omega)]
  simp only [List.length_map, List.length_take]
  rw [show i - min i l.length = 0 by omega, List.drop_eq_getElem_cons hlt, List.set_cons_zero, List.take_succ_eq_append_getElem hlt]
  simp only [List.map_append, List.map_cons, List.map_nil, List.append_assoc, List.cons_append, List.nil_append]

/-! ### A part of a row, set: the row seen at that part -/
section
variable {α : Type} {e : TypeId} {sz : Nat} {R : RepF α} {h : H} {v : Value} {l : List α} {fp : List Nat} {i : Nat} {x : α} {c : List Value} {f : List Nat} {L1 L2 : List (El α)} {fr : List Nat}
theorem Lens.storeL (hR : GoodF R) (K : Lens e sz R h v l fp i x c f L1 L2 fr) (hnd : fp.Nodup) {o : Nat} {N A B C : List Value} (hc : c = A ++ B ++ C) (ho : A.length = o) (hN : N.length = B.length) (hne : B ≠ []) :
    Writable h ((vaddr v).add (i * sz + o)) N.length ∧ (∀ b, b ∉ fr → (h.sets ((vaddr v).add (i * sz + o)) N) b = h b) ∧
    ∀ x', (R (h.sets ((vaddr v).add (i * sz + o)) N) c x f → R (h.sets ((vaddr v).add (i * sz + o)) N) (A ++ N ++ C) x' f) → Lens e sz R (h.sets ((vaddr v).add (i * sz + o)) N) v (l.set i x') fp i x' (A ++ N ++ C) f L1 L2 fr := by
  obtain ⟨q1, q2, -⟩ := K.store hR hnd hc ho hN hne
  refine ⟨q1, q2, fun x' hx => ?_⟩
  subst hc
  have hrow : RowF h e sz v ((cellsE L1 ++ A) ++ B ++ (C ++ cellsE L2)) fr := by have := K.row; simpa [List.append_assoc] using this
  have hA : (cellsE L1 ++ A).length = i * sz + o := by rw [List.length_append, K.pre, ho]
  obtain ⟨s1, s2⟩ := set_rowF hrow hN hne
  rw [hA] at s1 s2
  rw [K.foot] at hnd
  obtain ⟨n1, n2, n3⟩ := List.nodup_append.1 hnd
  have ag : ∀ {g : List Nat}, (∀ b ∈ g, b ∈ fpE L1 ++ (f ++ fpE L2)) → Agree h (h.sets ((vaddr v).add (i * sz + o)) N) g := fun hg b hb => s2 b fun hr => n3 b hr b (hg b hb) rfl
  have hlist : l.set i x' = L1.map El.x ++ x' :: L2.map El.x := by
    rw [K.list, List.set_append_right _ _ (by rw [List.length_map, K.at_]; omega), List.length_map, K.at_, Nat.sub_self]; rfl
  refine ⟨hlist, K.foot, K.at_, by simpa [List.append_assoc] using s1, ?_, hx (hR.agree (ag fun b hb => by simp [hb]) K.rep), K.e1.agree hR (ag fun b hb => by simp [hb]), K.e2.agree hR (ag fun b hb => by simp [hb])⟩
  have := K.len
  simp only [List.length_append] at this ⊢; omega
theorem Lens.slF (K : Lens e sz R h v l fp i x c f L1 L2 fr) : SlF e sz R h v l fp := by
  refine ⟨L1 ++ ⟨c, x, f⟩ :: L2, fr, by rw [K.list]; simp, by rw [fpE_append, fpE_cons]; exact K.foot, ?_, fun s hs => ?_⟩
  · rw [cellsE_append, cellsE_cons, ← List.append_assoc]; exact K.row
  · rcases List.mem_append.1 hs with q | q
    · exact K.e1 s q
    · rcases List.mem_cons.1 q with rfl | q
      · exact ⟨K.len, K.rep⟩
      · exact K.e2 s q
theorem Lens.get (K : Lens e sz R h v l fp i x c f L1 L2 fr) : l[i]? = some x := by
  rw [K.list, List.getElem?_append_right (by rw [List.length_map, K.at_]; omega), List.length_map, K.at_, Nat.sub_self]; rfl
end

/-! ### One instruction of one block -/
/-- Block i is x, whose instructions lie at w; of these number j is y, whose arguments lie at q. -/
def View (h : H) (v : Value) (bs : List Blk) (fp : List Nat) (i : Nat) (x : Blk) (w : Value) (j : Nat) (y : Ins) (q : Value) : Prop :=
  fp.Nodup ∧ ∃ f L1 L2 fr f2 M1 M2 fr2, Lens 83 5 BlkF h v bs fp i x (w :: endC x.en) f L1 L2 fr ∧ Lens 87 7 InsF h w x.ins f j y (insC y q) f2 M1 M2 fr2
section
variable {h : H} {v : Value} {bs : List Blk} {fp : List Nat} {i : Nat} {x : Blk} {w : Value} {j : Nat} {y : Ins} {q : Value}
theorem view_of (k : OwnBlks h v bs fp) (hnd : fp.Nodup) (hx : bs[i]? = some x) (hy : x.ins[j]? = some y) : ∃ w q, View h v bs fp i x w j y q := by
  obtain ⟨c, f, L1, L2, fr, K⟩ := k.lens hx
  obtain ⟨w, rfl, hw⟩ := K.rep
  obtain ⟨c2, f2, M1, M2, fr2, K2⟩ := hw.lens hy
  obtain ⟨q, rfl, hq⟩ := K2.rep
  exact ⟨w, q, hnd, _, _, _, _, _, _, _, _, K, K2⟩
theorem View.own (V : View h v bs fp i x w j y q) : OwnBlks h v bs fp := by obtain ⟨_, _, _, _, _, _, _, _, _, K, K2⟩ := V; exact K.slF
theorem View.blk (V : View h v bs fp i x w j y q) : Reads h ((vaddr v).add (i * 5 + 0)) [w] := by
  obtain ⟨_, _, _, _, _, _, _, _, _, K, K2⟩ := V; exact K.reads fun j u hj => by obtain ⟨rfl, rfl⟩ := get_one hj; rfl
theorem View.ins (V : View h v bs fp i x w j y q) : Reads h ((vaddr w).add (j * 7 + 0)) (insC y q) := by
  obtain ⟨_, _, _, _, _, _, _, _, _, K, K2⟩ := V; exact K2.reads fun j u hj => by rw [Nat.zero_add]; exact hj
theorem View.insAt (V : View h v bs fp i x w j y q) : SlAt 7 InsC h w x.ins := by
  obtain ⟨_, _, _, _, _, _, _, _, _, K, K2⟩ := V; exact SlF.at (sz := 7) (Rep := InsC) (Nat.zero_lt_succ 6) insF_at K2.slF
theorem View.argsAt (V : View h v bs fp i x w j y q) : IntsAt h q y.args := by
  obtain ⟨_, _, _, _, _, _, _, _, _, K, K2⟩ := V
  obtain ⟨u, e, hu⟩ := K2.rep
  obtain rfl : q = u := by simp only [insC, List.cons.injEq] at e; exact e.2.2.2.2.2.2.1
  exact rowF_ints hu
theorem View.getB (V : View h v bs fp i x w j y q) : bs[i]? = some x := by obtain ⟨_, _, _, _, _, _, _, _, _, K, K2⟩ := V; exact K.get
theorem View.getI (V : View h v bs fp i x w j y q) : x.ins[j]? = some y := by obtain ⟨_, _, _, _, _, _, _, _, _, K, K2⟩ := V; exact K2.get
/-- A cell of the instruction is set. -/
theorem View.set (V : View h v bs fp i x w j y q) {o : Nat} {w0 w1 : Value} {A C : List Value} {y' : Ins} (h1 : insC y q = A ++ [w0] ++ C) (ho : A.length = o) (h2 : A ++ [w1] ++ C = insC y' q) (ha : y'.args = y.args) :
    Writable h ((vaddr w).add (j * 7 + o)) 1 ∧ View (h.sets ((vaddr w).add (j * 7 + o)) [w1]) v (bs.set i ⟨x.ins.set j y', x.en⟩) fp i ⟨x.ins.set j y', x.en⟩ w j y' q ∧ KeptH h (h.sets ((vaddr w).add (j * 7 + o)) [w1]) fp := by
  obtain ⟨hnd, f, L1, L2, fr, f2, M1, M2, fr2, K, K2⟩ := V
  have hfn := K.nodup_in hnd
  obtain ⟨m1, m2, m3⟩ := K2.storeL insF_good hfn (o := o) (N := [w1]) (A := A) (B := [w0]) (C := C) h1 ho rfl (by simp)
  have K2' := m3 y' fun ⟨u, e, hu⟩ => by
    obtain rfl : q = u := by simp only [insC, List.cons.injEq] at e; exact e.2.2.2.2.2.2.1
    exact ⟨q, h2, by rw [ha]; exact hu⟩
  rw [h2] at K2'
  have hk : KeptH h (h.sets ((vaddr w).add (j * 7 + o)) [w1]) f := fun b hb _ => m2 b fun hr => hb (by rw [K2.foot]; simp [hr])
  obtain ⟨_, _, K'⟩ := K.inner blkF_good hnd hk (x' := ⟨x.ins.set j y', x.en⟩) (f' := f) ⟨w, rfl, K2'.slF⟩ (fun b hb => .inl hb) hfn
  rw [← K.foot] at K'
  exact ⟨m1, ⟨hnd, f, L1, L2, fr, f2, M1, M2, fr2, K', K2'⟩, hk.mono fun b hb => by rw [K.foot]; simp [hb]⟩
/-- An argument is set. -/
theorem View.arg (V : View h v bs fp i x w j y q) {a : Nat} {z z' : Int} (hz : y.args[a]? = some z) :
    Writable h ((vaddr q).add a) 1 ∧ View (h.sets ((vaddr q).add a) [.int .i64 z']) v (bs.set i ⟨x.ins.set j { y with args := y.args.set a z' }, x.en⟩) fp i ⟨x.ins.set j { y with args := y.args.set a z' }, x.en⟩ w j { y with args := y.args.set a z' } q ∧
      KeptH h (h.sets ((vaddr q).add a) [.int .i64 z']) fp := by
  obtain ⟨hnd, f, L1, L2, fr, f2, M1, M2, fr2, K, K2⟩ := V
  have hfn := K.nodup_in hnd
  have hf2n := K2.nodup_in hfn
  obtain ⟨u, e, hu⟩ := K2.rep
  obtain rfl : q = u := by simp only [insC, List.cons.injEq] at e; exact e.2.2.2.2.2.2.1
  obtain ⟨hlt, rfl⟩ := List.getElem?_eq_some_iff.1 hz
  have hsp : y.args.map (Value.int .i64) = (y.args.take a).map (.int .i64) ++ [.int .i64 y.args[a]] ++ (y.args.drop (a + 1)).map (.int .i64) := by
    conv => lhs; rw [← List.take_append_drop a y.args, List.drop_eq_getElem_cons hlt]
    simp only [List.map_append, List.map_cons, List.append_assoc, List.cons_append, List.nil_append]
  have hsp' : (y.args.set a z').map (Value.int .i64) = (y.args.take a).map (.int .i64) ++ [.int .i64 z'] ++ (y.args.drop (a + 1)).map (.int .i64) := by
    rw [List.set_eq_take_append_cons_drop, if_pos hlt]
    simp only [List.map_append, List.map_cons, List.append_assoc, List.cons_append, List.nil_append]
  have hal : ((y.args.take a).map (Value.int .i64)).length = a := by simp; omega
  have hrow := hu
  rw [hsp] at hrow
  obtain ⟨s1, s2⟩ := set_rowF (N := [Value.int .i64 z']) hrow rfl (by simp)
  rw [hal] at s1 s2
  rw [← hsp'] at s1
  have hk2 : KeptH h (h.sets ((vaddr q).add a) [.int .i64 z']) f2 := fun b hb _ => s2 b hb
  obtain ⟨_, _, K2'⟩ := K2.inner insF_good hfn hk2 (x' := { y with args := y.args.set a z' }) (f' := f2) ⟨q, rfl, s1⟩ (fun b hb => .inl hb) hf2n
  rw [← K2.foot] at K2'
  have hk : KeptH h (h.sets ((vaddr q).add a) [.int .i64 z']) f := hk2.mono fun b hb => by rw [K2.foot]; simp [hb]
  obtain ⟨_, _, K'⟩ := K.inner blkF_good hnd hk (x' := ⟨x.ins.set j { y with args := y.args.set a z' }, x.en⟩) (f' := f) ⟨w, rfl, K2'.slF⟩ (fun b hb => .inl hb) hfn
  rw [← K.foot] at K'
  refine ⟨?_, ⟨hnd, f, L1, L2, fr, f2, M1, M2, fr2, K', K2'⟩, hk.mono fun b hb => by rw [K.foot]; simp [hb]⟩
  refine hrow.row0.writable ?_
  have e1 := hrow.row0.len
  obtain ⟨aa, nn, cc, rfl, _, e3⟩ := hrow.row0.fit
  simp only [List.length_append, List.length_cons, List.length_nil, vlen_sl, vcap_sl, hal] at e1 ⊢
  omega
end
/-- The end's cells are set. -/
theorem blk_end {h : H} {v : Value} {bs : List Blk} {fp : List Nat} {i : Nat} {x : Blk} (k : OwnBlks h v bs fp) (hnd : fp.Nodup) (hx : bs[i]? = some x) {o : Nat} {w0 w1 : Value} {A C : List Value} {en : Fin4} (h1 : endC x.en = A ++ [w0] ++ C) (ho : A.length = o) (h2 : A ++ [w1] ++ C = endC en) :
    Writable h ((vaddr v).add (i * 5 + (1 + o))) 1 ∧ OwnBlks (h.sets ((vaddr v).add (i * 5 + (1 + o))) [w1]) v (bs.set i ⟨x.ins, en⟩) fp ∧ KeptH h (h.sets ((vaddr v).add (i * 5 + (1 + o))) [w1]) fp := by
  obtain ⟨c, f, L1, L2, fr, K⟩ := k.lens hx
  obtain ⟨u, rfl, hs⟩ := K.rep
  obtain ⟨k1, k2, k3⟩ := K.store blkF_good hnd (o := 1 + o) (N := [w1]) (A := u :: A) (B := [w0]) (C := C) (by rw [h1]; simp) (by simp [ho]; omega) rfl (by simp)
  refine ⟨k1, k3 _ fun ⟨u', e1, e2⟩ => ?_, fun b hb _ => k2 b fun hr => hb (by rw [K.foot]; simp [hr])⟩
  have : u = u' := by simp only [List.cons.injEq] at e1; exact e1.1
  exact ⟨u, by rw [← h2]; simp, by rw [this]; exact e2⟩
end Go.Proofs.Ythnoplfjcdkacaa

/-
  What code that is made is: the parts that need no program. Conditions: none (plain lemmas).
-/
set_option linter.unusedVariables false
set_option linter.unusedSimpArgs false
namespace Go.Proofs.Ythnoplfjcdkacaa
open Go

def modI (R : Int) (x : Ins) : Ins := ⟨x.kind, x.op, x.d.tmod R, x.a.tmod R, x.b.tmod R, x.n, x.args.map (·.tmod R)⟩
def modE (R : Int) (e : Fin4) : Fin4 := ⟨e.kind, e.a.tmod R, e.to, e.el⟩
def modB (R : Int) (b : Blk) : Blk := ⟨b.ins.map (modI R), modE R b.en⟩
theorem tmod_zero' (R : Int) : (0 : Int).tmod R = 0 := by simp
theorem inR_tmod {v R z : Int} (hR : 0 < R) (h : inR v z = true) : inR R (z.tmod R) = true := by
  simp only [inR, decide_eq_true_eq] at h ⊢
  exact tmod_range h.1 hR
theorem usesM_mod (R : Int) (x : Ins) : usesM (modI R x) = (usesM x).map (·.tmod R) := by
  unfold usesM modI
  simp only
  split
  · rfl
  · split
    · rfl
    · split <;> rfl
theorem namedM_mod (R : Int) (x : Ins) : namedM (modI R x) = (namedM x).map (·.tmod R) := by
  unfold namedM
  rw [usesM_mod, List.map_append]
  congr 1
  show (if givesM x.kind then [x.d.tmod R] else []) = _
  split <;> rfl
theorem plainM_mod {R : Int} {x : Ins} (h : plainM x) : plainM (modI R x) := by
  unfold plainM at h ⊢
  obtain ⟨h1, h2, h3, h4, h5, h6⟩ := h
  refine ⟨h1, ?_, ?_, ?_, h5, ?_⟩
  · rcases h2 with e | e
    · left; show x.d.tmod R = 0; rw [e]; simp
    · exact .inr e
  · rcases h3 with e | e
    · left; show x.a.tmod R = 0; rw [e]; simp
    · exact .inr e
  · rcases h4 with e | e
    · left; show x.b.tmod R = 0; rw [e]; simp
    · exact .inr e
  · rcases h6 with e | e
    · left; show x.args.map _ = []; rw [e]; rfl
    · exact .inr e
theorem modI_ok {x : Ins} {v R : Int} (hR : 0 < R) (h : ofM x v = 0) : ofM (modI R x) R = 0 := by
  unfold ofM at h ⊢
  split at h
  · cases h
  · rename_i h1
    split at h
    · cases h
    · rename_i h2
      split at h
      · rename_i h3
        rw [if_neg, if_neg, if_pos]
        · rw [namedM_mod, List.all_map]
          rw [List.all_eq_true] at h3 ⊢
          intro y hy
          exact inR_tmod hR (h3 y hy)
        · show ¬ 3 < (x.args.map _).length
          rw [List.length_map]; exact h2
        · simp only [not_or, Decidable.not_not] at h1 ⊢
          exact ⟨h1.1, h1.2.1, plainM_mod h1.2.2⟩
      · cases h
theorem modE_ok {e : Fin4} {v R N : Int} (hR : 0 < R) (h : endM e v N 21 = 0) : endM (modE R e) R N 21 = 0 := by
  have hz : ∀ z : Int, 0 ≤ z → 0 ≤ z.tmod R ∧ z.tmod R < R := fun z hz => tmod_range hz hR
  have h0 : (0 : Int).tmod R = 0 := by simp
  have := hz e.a
  have h1 : e.a = 0 → e.a.tmod R = 0 := fun q => by rw [q]; simp
  unfold endM modE at *
  simp only at *
  grind (splits := 80)
theorem mofM_kind {x : Ins} {r s : Int} (h3 : 3 ≤ r) (h8 : r ≤ 8) (h : ofM x r = 0) : mofM x r s = 0 := by
  have hk : 1 ≤ x.kind ∧ x.kind ≤ 6 := by
    unfold ofM at h
    split at h
    · cases h
    · rename_i h1; grind
  unfold mofM
  rw [if_neg (by omega), if_neg (by omega), ofM_mapE x r h3 h8, h]; rfl
theorem n64_small {n : Int} (h0 : -1000000 ≤ n) (h1 : n ≤ 1000000) : N64 n := ⟨by omega, by omega⟩
theorem insM_n {v : Int} {l : List Int} (hl : InB l) : N64 (insM v l).1.n := by
  unfold insM
  have la := nextM_inB (n := 9) hl
  obtain ⟨b, hb⟩ : ∃ b, b = nextM 9 l := ⟨_, rfl⟩
  rw [← hb] at la ⊢
  simp only
  have z : N64 0 := n64_small (by omega) (by omega)
  split
  · have := nextM_range (n := 256) (by omega) (nextM_inB (n := v) la)
    exact n64_small (by simp only; omega) (by simp only; omega)
  · split
    · exact z
    · split
      · exact z
      · split
        · have := nextM_range (n := 5) (by omega) (nextM_inB (n := v) la)
          exact n64_small (by simp only; omega) (by simp only; omega)
        · split <;> exact z
theorem insLoopM_n {v : Int} {l : List Int} (hl : InB l) : ∀ k, ∀ x ∈ (insLoopM v l k).1, N64 x.n
  | 0, x, h => by cases h
  | k + 1, x, h => by
    simp only [insLoopM] at h
    rcases List.mem_append.1 h with h | h
    · exact insLoopM_n hl k x h
    · rw [List.mem_singleton] at h
      rw [h]; exact insM_n (insLoopM_inB hl k)
theorem blksM_n {v n : Int} {l : List Int} (hl : InB l) : ∀ k, NB (blksM v n l k).1
  | 0, b, h => by cases h
  | k + 1, b, h => by
    simp only [blksM] at h
    rcases List.mem_append.1 h with h | h
    · exact blksM_n hl k b h
    · rw [List.mem_singleton] at h
      subst h
      exact insLoopM_n (nextM_inB (blksM_inB hl k)) _
theorem madeB_n {p0 p1 p2 : Int} {l : List Int} (hl : InB l) : NB (madeB p0 p1 p2 l) := blksM_n hl _
/-- Blocks that are right code. -/
def MOk (r s N : Int) (n : Nat) (b : Blk) : Prop := b.ins.length ≤ n ∧ (∀ y ∈ b.ins, mofM y r s = 0 ∧ y.args.length ≤ 1000 ∧ N64 y.n) ∧ endM b.en r N 21 = 0
theorem mcheck_ok {p r s : Int} {bs : List Blk} {n : Nat} (h0 : 0 ≤ p) (h4 : p ≤ 4) (h3 : 3 ≤ r) (h8 : r ≤ 8) (hp : p ≤ s) (hs : s ≤ 64) (h1 : 1 ≤ bs.length) (h16 : bs.length ≤ 16) (hn : n ≤ 400) (hb : ∀ b ∈ bs, MOk r s bs.length n b) : mcheckM p r s bs = (0, 0, 0) := by
  unfold mcheckM
  rw [if_neg (by omega)]
  refine blkF_ok fun b hm => ?_
  obtain ⟨k1, k2, k3⟩ := hb b hm
  exact ⟨by omega, fun y hy => (k2 y hy).1, by rw [k3]; rfl⟩
def spillI (k d a : Int) : Ins := ⟨k, 0, d, a, 0, 0, []⟩
theorem spill_ok {r s d a : Int} (hd : 0 ≤ d ∧ d < s) (ha : 0 ≤ a ∧ a < r) : mofM (spillI 7 d a) r s = 0 := by
  unfold mofM spillI; simp [hd, ha]
theorem fill_ok {r s d a : Int} (hd : 0 ≤ d ∧ d < r) (ha : 0 ≤ a ∧ a < s) : mofM (spillI 8 d a) r s = 0 := by
  unfold mofM spillI; simp [hd, ha]

/-! ### Parts of a row as what is appended -/
theorem add_zero' (a : Addr) : a.add 0 = a := by unfold Addr.add; simp
theorem src_take {h : H} {e : TypeId} {sz : Nat} {v : Value} {cs : List Value} {fp : List Nat} {k : Nat} (H : RowF h e sz v cs fp) (hk : k ≤ vlen v) : SlSrc h (cs.take (k * sz)) k (sliceV v 0 k sz) := by
  have hr : Reads h (vaddr v) cs := by
    have := H.row0.reads (o := 0) (xs := cs) (fun j u hj => by simpa using hj)
    rwa [add_zero'] at this
  have hl := H.row0.len
  have hf := H.row0.fit
  obtain ⟨a, n, c, rfl, h1, h2⟩ := hf
  cases a with
  | none =>
    obtain ⟨rfl, rfl⟩ := h1 rfl
    simp only [vlen_sl] at hk
    obtain rfl : k = 0 := by omega
    simp [sliceV, SlSrc]
  | some ad =>
    have hr' : Reads h ad (cs.take (k * sz)) := fun j u hj => hr j u (by rw [List.getElem?_take] at hj; split at hj <;> simp_all)
    simp only [sliceV, SlSrc]
    by_cases hc : c = 0
    · simp only [if_pos hc]; exact ⟨by omega, hr'⟩
    · simp only [if_neg hc, Option.map_some, Nat.zero_mul]
      exact ⟨by omega, by rw [add_zero']; exact hr'⟩
theorem src_drop {h : H} {e : TypeId} {sz : Nat} {v : Value} {cs : List Value} {fp : List Nat} {k : Nat} (H : RowF h e sz v cs fp) (hk : k ≤ vlen v) : SlSrc h (cs.drop (k * sz)) (vlen v - k) (sliceV v k (vlen v) sz) := by
  have hr : Reads h ((vaddr v).add (k * sz)) (cs.drop (k * sz)) := H.row0.reads fun j u hj => by rw [List.getElem?_drop] at hj; exact hj
  have hl := H.row0.len
  have hf := H.row0.fit
  obtain ⟨a, n, c, rfl, h1, h2⟩ := hf
  simp only [vlen_sl] at hk hl ⊢
  cases a with
  | none =>
    obtain ⟨rfl, rfl⟩ := h1 rfl
    simp [sliceV, SlSrc]
  | some ad =>
    simp only [sliceV, SlSrc]
    by_cases hc : c = k
    · simp only [if_pos hc]
      refine ⟨by first | trivial | rfl, ?_⟩
      rw [List.drop_eq_nil_of_le (by rw [hl, ← hc]; exact Nat.mul_le_mul_right _ h2)]
      intro j u hj; simp at hj
    · simp only [if_neg hc, Option.map_some]
      exact ⟨trivial, hr⟩
theorem insF_cell {h : H} {cs : List Value} {x : Ins} {fp : List Nat} (H : InsF h cs x fp) : ∀ v ∈ cs, v.oneCell' = true := by
  obtain ⟨u, rfl, hu⟩ := H
  obtain ⟨a, n, c, rfl, -, -⟩ := hu.row0.fit
  intro v hv
  simp only [insC, List.mem_cons, List.not_mem_nil, or_false] at hv
  rcases hv with rfl | rfl | rfl | rfl | rfl | rfl | rfl <;> rfl
theorem cells_all {h : H} {L : List (El Ins)} (H : EltsF 7 InsF h L) : ∀ v ∈ cellsE L, v.oneCell' = true := fun v hv => by
  obtain ⟨t, ht, hv⟩ := List.mem_flatMap.1 hv
  exact insF_cell (H t ht).2 v hv
theorem cells_take {α : Type} {sz : Nat} {R : RepF α} {h : H} {L : List (El α)} (H : EltsF sz R h L) (k : Nat) : (cellsE L).take (k * sz) = cellsE (L.take k) ∧ (cellsE L).drop (k * sz) = cellsE (L.drop k) := by
  have h1 : EltsF sz R h (L.take k) := fun t ht => H t (List.mem_of_mem_take ht)
  have hl := cellsE_length h1
  have hsp : cellsE L = cellsE (L.take k) ++ cellsE (L.drop k) := by rw [← cellsE_append, List.take_append_drop]
  by_cases hk : k ≤ L.length
  · rw [List.length_take, Nat.min_eq_left hk] at hl
    rw [hsp, ← hl]
    simp
  · have h2 := cellsE_length H
    have : L.length * sz ≤ k * sz := Nat.mul_le_mul_right _ (by omega)
    rw [List.take_of_length_le (by omega), List.take_of_length_le (by omega), List.drop_eq_nil_of_le (by omega), List.drop_eq_nil_of_le (by omega)]
    exact ⟨rfl, rfl⟩
def stills (p : PE) (l : List Nat) (k : Out) : Out := l.foldr (fun i k => .still (.tt true) p [.val i] k) k
theorem h_stills {P : Program} {R : Value → List (List Value) → H → Prop} {G : List Value} {L : Lv} {h : H} {p : PE} {k : Out} : ∀ {l : List Nat}, (∀ i ∈ l, Reads h (p.den G) [gv G i]) → holds P R k G L h → holds P R (stills p l k) G L h
  | [], _, hk => hk
  | i :: l, hr, hk => ⟨fun _ => hr i (by simp), h_stills (fun j hj => hr j (by simp [hj])) hk⟩
theorem src_ok {G : List Value} {h : H} {sz m i : Nat} {N : List Value} {v : Value} (hv : gv G i = v) (hs : SlSrc h N m v) (hN : N.length = m * sz) (hc : ∀ v ∈ N, v.oneCell' = true) : SrcOk G h sz (.sl (.val i)) N m := by
  refine ⟨hN, hc, ?_⟩
  show (match gv G i with | .slice (some b) n _ => m = n ∧ Reads h b N | .slice none n _ => m = n ∧ n = 0 | _ => False)
  rw [hv]
  exact hs
theorem SlSrc.le {h h' : H} {N : List Value} {m : Nat} {v : Value} (hl : h.le h') (H : SlSrc h N m v) : SlSrc h' N m v := by
  unfold SlSrc at *
  split at H
  · exact ⟨H.1, H.2.le hl⟩
  · exact H
  · exact H
/-- An instruction put between others, in a row anew. -/
theorem ins_chain {R : Value → List (List Value) → H → Prop} {G : List Value} {Lv : Lv} {h : H} {v : Value} {bs : List Blk} {fp : List Nat} {i : Nat} {x : Blk} {w : Value} {f : List Nat} {L1 L2 : List (El Blk)} {fr : List Nat}
    (hnd : fp.Nodup) (K : Lens 83 5 BlkF h v bs fp i x (w :: endC x.en) f L1 L2 fr) {k : Nat} (hk : k ≤ x.ins.length) {y : Ins} (hy : y.args = []) (hlen : x.ins.length ≤ 1000)
    {b0 : Nat} (hb0 : h b0 = none) {n : Nat} {p : PE} {cs : List SV} (lA lB lC lD : List Nat) {fin : Out}
    (hG : G.length = n + 5) (gw : gv G n = w) (g1 : gv G (n + 1) = sliceV w 0 k 7) (g2 : gv G (n + 2) = w) (g3 : gv G (n + 3) = sliceV w k x.ins.length 7) (g4 : gv G (n + 4) = .slice (some ⟨b0, 0, none⟩) 0 0)
    (hp : ∀ D, p.den (G ++ D) = (vaddr v).add (i * 5 + 0)) (hcs : ∀ D, SV.denL (G ++ D) dE cs = insC y (.slice none 0 0))
    (hl : ∀ q ∈ lA ++ (lB ++ (lC ++ lD)), q = n ∨ q = n + 2)
    (hfin : ∀ h' fp' D, OwnBlks h' v (bs.set i ⟨x.ins.take k ++ [y] ++ x.ins.drop k, x.en⟩) fp' → fp'.Nodup → KeptH h h' fp → (∀ b ∈ fp', b ∈ fp ∨ h b = none) → holds Try.prog R fin (G ++ D) Lv h') :
    holds Try.prog R (stills p lA (.app 87 7 64 (.val (n + 4)) (.sl (.val (n + 1))) (stills p lB (.app 87 7 64 (.val (n + 5)) (.cells cs 1) (stills p lC (.app 87 7 64 (.val (n + 6)) (.sl (.val (n + 3))) (stills p lD (.store p [.val (n + 7)] fin)))))))) G Lv
      (h.put b0 (.cells ([] : List Value).toArray 87 (0, 0))) := by
  obtain ⟨u, e, hw⟩ := K.rep
  obtain rfl : w = u := by simp only [List.cons.injEq] at e; exact e.1
  have hwl := hw.len (by omega)
  have hfn := K.nodup_in hnd
  obtain ⟨Lw, frw, hins, hf, hrow, helts⟩ := hw
  have hLl : Lw.length = x.ins.length := by rw [hins, List.length_map]
  obtain ⟨t1, t2⟩ := cells_take helts k
  have hrd : Reads h ((vaddr v).add (i * 5 + 0)) [w] := K.reads fun j u hj => by obtain ⟨rfl, rfl⟩ := get_one hj; rfl
  have hst : ∀ (h' : H) (D : List Value) (l : List Nat), KeptH h h' [] → (∀ q ∈ l, q = n ∨ q = n + 2) → ∀ q ∈ l, Reads h' (p.den (G ++ D)) [gv (G ++ D) q] := fun h' D l hk' hl' q hq => by
    have : gv (G ++ D) q = w := by
      rcases hl' q hq with rfl | rfl
      · rw [gv_of_lt (by omega), gw]
      · rw [gv_of_lt (by omega), g2]
    rw [this, hp]
    exact hrd.le hk'.le_nil
  have k0 : KeptH h (h.put b0 (.cells ([] : List Value).toArray 87 (0, 0))) [] := KeptH.put hb0 _
  have r0 : RowF (h.put b0 (.cells ([] : List Value).toArray 87 (0, 0))) 87 7 (.slice (some ⟨b0, 0, none⟩) 0 0) [] [b0] := RowF.new (r := []) (c := 0) rfl rfl (Nat.le_refl _)
  have one : ∀ {h1 h2 : H} {f1 f2 : List Nat}, KeptH h h1 [] → KeptH h1 h2 f1 → Fresh h f1 → (f2 = f1 ∨ ∃ b, f2 = [b] ∧ h1 b = none) → KeptH h h2 [] ∧ Fresh h f2 := fun {h1 h2 f1 f2} a b c d => by
    refine ⟨KeptH.trans_nil a b c, ?_⟩
    rcases d with rfl | ⟨b', rfl, hb'⟩
    · exact c
    · intro q hq
      rw [List.mem_singleton] at hq; subst hq
      exact H.le_none a.le_nil hb'
  have fr0 : Fresh h [b0] := fun q hq => by rw [List.mem_singleton] at hq; subst hq; exact hb0
  refine h_stills (by have := hst _ [] lA k0 (fun q hq => hl q (by simp [hq])); simpa using this) ?_
  refine ⟨(cellsE Lw).take (k * 7), k, src_ok g1 ((src_take hrow (by omega)).le k0.le_nil) ?_ (fun v hv => cells_all helts v (List.mem_of_mem_take hv)), ?_⟩
  · rw [List.length_take, cellsE_length helts, hLl]
    exact Nat.min_eq_left (Nat.mul_le_mul_right _ hk)
  have hc1 : ((cellsE Lw).take (k * 7)).length = k * 7 := by
    rw [List.length_take, cellsE_length helts, hLl]; exact Nat.min_eq_left (Nat.mul_le_mul_right _ hk)
  show AppSpec _ _ _ _ _ (gv G (n + 4)) _ _ _
  rw [g4]
  refine app_rowF r0 hc1 zero46' (by simp only [vlen_sl]; omega) fun v1 h1 f1 m1 m2 m3 m4 => ?_
  obtain ⟨k1, fr1⟩ := one k0 m3 fr0 m4
  have hG1 : (G ++ [v1]).length = n + 6 := by simp [hG]
  have q1 : gv (G ++ [v1]) (n + 5) = v1 := by rw [← hG]; exact gv_last
  refine h_stills (hst _ _ lB k1 (fun q hq => hl q (by simp [hq]))) ?_
  refine ⟨insC y (.slice none 0 0), 1, ⟨(hcs _).symm, rfl⟩, ?_⟩
  show AppSpec _ _ _ _ _ (gv (G ++ [v1]) (n + 5)) _ _ _
  rw [q1]
  refine app_rowF m1 rfl zero46' (by rw [m2]; simp only [vlen_sl]; omega) fun v2 h2 f2 p1 p2 p3 p4 => ?_
  obtain ⟨k2, fr2⟩ := one k1 p3 fr1 p4
  have q2 : gv (G ++ [v1] ++ [v2]) (n + 6) = v2 := by rw [← hG1]; exact gv_last
  have q3 : gv (G ++ [v1] ++ [v2]) (n + 3) = sliceV w k x.ins.length 7 := by rw [gv_of_lt (by omega), gv_of_lt (by omega), g3]
  refine h_stills (by have := hst h2 ([v1] ++ [v2]) lC k2 (fun q hq => hl q (by simp [hq])); simpa [List.append_assoc] using this) ?_
  have hc3 : ((cellsE Lw).drop (k * 7)).length = (x.ins.length - k) * 7 := by
    rw [List.length_drop, cellsE_length helts, hLl, Nat.sub_mul]
  refine ⟨(cellsE Lw).drop (k * 7), x.ins.length - k, src_ok q3 ?_ hc3 (fun v hv => cells_all helts v (List.mem_of_mem_drop hv)), ?_⟩
  · have := (src_drop hrow (k := k) (by omega)).le k2.le_nil
    rw [hwl] at this; exact this
  show AppSpec _ _ _ _ _ (gv (G ++ [v1] ++ [v2]) (n + 6)) _ _ _
  rw [q2]
  refine app_rowF p1 hc3 zero46' (by rw [p2, m2]; simp only [vlen_sl]; omega) fun v3 h3 f3 o1 o2 o3 o4 => ?_
  obtain ⟨k3, fr3⟩ := one k2 o3 fr2 o4
  refine h_stills (by have := hst h3 ([v1] ++ ([v2] ++ [v3])) lD k3 (fun q hq => hl q (by simp [hq])); simpa [List.append_assoc] using this) ?_
  have hlive := helts.live insF_good
  have hnw : (fpE Lw).Nodup := by rw [hf] at hfn; exact (List.nodup_append.1 hfn).2.1
  have he3 : EltsF 7 InsF h3 Lw := helts.agree insF_good (k3.agree hlive fun b _ => by simp)
  have hSl : SlF 87 7 InsF h3 v3 (x.ins.take k ++ [y] ++ x.ins.drop k) (f3 ++ fpE Lw) := by
    refine ⟨Lw.take k ++ ⟨insC y (.slice none 0 0), y, []⟩ :: Lw.drop k, f3, by rw [hins]; simp, ?_, ?_, fun t ht => ?_⟩
    · rw [fpE_append, fpE_cons, List.nil_append, ← fpE_append, List.take_append_drop]
    · rw [cellsE_append, cellsE_cons, ← t1, ← t2, ← List.append_assoc]
      have := o1
      simpa [List.append_assoc] using this
    · rcases List.mem_append.1 ht with q | q
      · exact he3 t (List.mem_of_mem_take q)
      · rcases List.mem_cons.1 q with rfl | q
        · exact ⟨rfl, _, rfl, by rw [hy]; exact .inl ⟨rfl, rfl, rfl⟩⟩
        · exact he3 t (List.mem_of_mem_drop q)
  have hff : ∀ b ∈ f3 ++ fpE Lw, b ∈ f ∨ h b = none := fun b hb => by
    rcases List.mem_append.1 hb with q | q
    · exact .inr (fr3 b q)
    · left; rw [hf]; exact List.mem_append_right _ q
  have hf3n : f3.Nodup := by
    rcases o1 with ⟨_, _, rfl⟩ | ⟨b, _, _, _, _, _, _, _, _, rfl⟩ <;> simp
  have hnn : (f3 ++ fpE Lw).Nodup := nodup_app hf3n hnw fun b hb hb' => by
    have := hlive b hb'; rw [fr3 b hb] at this; cases this
  obtain ⟨z1, fq, z2, z3, z4, z5⟩ := blk_ins hnd K (k3.mono fun b hb => by cases hb) hSl hff hnn
  have hG3 : (G ++ [v1] ++ [v2]).length = n + 7 := by simp [hG]
  have q4 : gv (G ++ [v1] ++ [v2] ++ [v3]) (n + 7) = v3 := by rw [← hG3]; exact gv_last
  have hp3 : p.den (G ++ [v1] ++ [v2] ++ [v3]) = (vaddr v).add (i * 5 + 0) := by have := hp ([v1] ++ ([v2] ++ [v3])); simpa [List.append_assoc] using this
  refine h_store ((vaddr v).add (i * 5 + 0)) [v3] hp3 (by simp only [SV.denL, SV.den, q4]) z1 ?_
  have := hfin _ fq ([v1] ++ ([v2] ++ [v3])) z2 z3 z4 z5
  simpa [List.append_assoc] using this
end Go.Proofs.Ythnoplfjcdkacaa
