/-
  What the document's answer for an instruction computes. Conditions: as each contract says.
-/
import Derived.Test.YtibdneedfopcoaaR1S
import Derived.Test.YtibdneedfopcoaaR1Tl
set_option linter.unusedVariables false
set_option linter.unusedSimpArgs false
namespace Go.Proofs.Ytibdneedfopcoaa
open Go

def namesL : List ByteArray := [⟨#[]⟩, ⟨#[68, 78]⟩, ⟨#[68, 65]⟩, ⟨#[79, 68, 65, 66]⟩, ⟨#[68, 65]⟩, ⟨#[65, 66]⟩, ⟨#[68, 78, 82]⟩, ⟨#[68, 65]⟩, ⟨#[68, 65]⟩]
theorem s47 {h : H} {k : Nat} {s : ByteArray} (hs : namesL[k]? = some s) : CallsA Try.prog 47 (fun _ => [.int .u8 (k : Int)]) [] h (Ret fun r h' => h.le h' ∧ r = .string s) := by
  refine c47 (G := [.int .u8 (k : Int)]) ⟨⟨_, rfl⟩, trivial⟩ ?_
  have hk : k < 9 := (List.getElem?_eq_some_iff.1 hs).1
  intro b hb
  refine ⟨fun _ => ⟨?_, ?_, trivial⟩, h_load [.string s] ⟨⟨_, rfl⟩, trivial⟩ (fun _ => ?_) ⟨rfl, H.le_put hb, rfl⟩⟩
  · show cmpOp .geq (k : Int) 0 = true
    rw [cmp_geq, decide_eq_true_eq]; omega
  · show cmpOp .lss (k : Int) 9 = true
    rw [cmp_lss, decide_eq_true_eq]; omega
  · show Reads _ ((⟨b, 0, none⟩ : Addr).add ((k : Int).toNat * 1)) [.string s]
    rw [Int.toNat_natCast, Nat.mul_one]
    refine Reads.put (l := namesL.map .string) (o := k) fun i v hi => ?_
    obtain ⟨rfl, rfl⟩ := get_one hi
    rw [List.getElem?_map, Nat.add_zero, hs]; rfl
def setM (x : Ins) : Nat → Bool
  | 0 => decide (x.op ≠ 0)
  | 1 => decide (x.d ≠ 0)
  | 2 => decide (x.a ≠ 0)
  | 3 => decide (x.b ≠ 0)
  | 4 => decide (x.n ≠ 0)
  | 5 => decide (x.args ≠ [])
  | _ => false
def letters : List UInt8 := [79, 68, 65, 66, 78, 82]
def hasM (nm : ByteArray) (k j : Nat) : Bool := (nm.data.toList.take j).any fun c => c == letters.getD k 0
def zeroM (x : Ins) (nm : ByteArray) : Bool := (List.range 6).all fun k => !(setM x k) || hasM nm k nm.size
theorem hasM_succ {nm : ByteArray} {k j : Nat} (hj : j < nm.size) : hasM nm k (j + 1) = (hasM nm k j || (nm.data.getD j 0 == letters.getD k 0)) := by
  have h1 : j < nm.data.toList.length := by simpa using hj
  have h2 : nm.data.getD j 0 = nm.data.toList[j] := by
    rw [Array.getD_eq_getD_getElem?, Array.getElem?_eq_getElem (by simpa using hj)]; simp
  unfold hasM
  rw [List.take_succ_eq_append_getElem h1, List.any_append, h2]; simp
theorem beq_u8 (a b : UInt8) : decide ((a.toNat : Int) = (b.toNat : Int)) = (a == b) := by
  rw [Bool.eq_iff_iff, decide_eq_true_eq, beq_iff_eq]
  constructor
  · intro h; exact UInt8.toNat_inj.1 (by omega)
  · rintro rfl; rfl
theorem letters_byte {k : Nat} (hk : k < 6) : (ByteArray.mk #[79, 68, 65, 66, 78, 82]).data.getD k 0 = letters.getD k 0 := by
  have : k = 0 ∨ k = 1 ∨ k = 2 ∨ k = 3 ∨ k = 4 ∨ k = 5 := by omega
  rcases this with rfl | rfl | rfl | rfl | rfl | rfl <;> rfl
theorem setM_get {x : Ins} {k : Nat} (hk : k < 6) : ([.bool (setM x 0), .bool (setM x 1), .bool (setM x 2), .bool (setM x 3), .bool (setM x 4), .bool (setM x 5)] : List Value)[k]? = some (.bool (setM x k)) := by
  have : k = 0 ∨ k = 1 ∨ k = 2 ∨ k = 3 ∨ k = 4 ∨ k = 5 := by omega
  rcases this with rfl | rfl | rfl | rfl | rfl | rfl <;> rfl
theorem zeroM_of {x : Ins} {nm : ByteArray} (h : ∀ m, m < 6 → (!(setM x m) || hasM nm m nm.size) = true) : zeroM x nm = true := by
  unfold zeroM; rw [List.all_eq_true]; intro m hm; exact h m (List.mem_range.1 hm)
theorem zeroM_no {x : Ins} {nm : ByteArray} {k : Nat} (hk : k < 6) (h : (!(setM x k) || hasM nm k nm.size) = false) : zeroM x nm = false := by
  unfold zeroM; rw [List.all_eq_false]; exact ⟨k, List.mem_range.2 hk, by rw [h]; simp⟩
theorem s46 {h : H} (x : Ins) (v : Value) (nm : ByteArray) (hv : IntsAt h v x.args) (hn : nm.size ≤ 1000) :
    CallsA Try.prog 46 (fun _ => [.agg (insC x v).toArray, .string nm]) [] h (Ret fun r h' => h.le h' ∧ r = .bool (zeroM x nm)) := by
  refine c46 (G := insG x v [.string nm]) (insGFit x v hv.fit ⟨⟨_, rfl⟩, trivial⟩) ?_
  have hz := len_pos hv.len
  refine h_loop (fun xs h' => ∃ k : Nat, xs = [.int .i64 (k : Int)] ∧ k ≤ 6 ∧ h.le h' ∧ ∀ m, m < k → (!(setM x m) || hasM nm m nm.size) = true) (fun xs h' => 6 - (vi (gv xs 0)).toNat) ⟨0, rfl, by omega, H.le_refl _, fun m hm => absurd hm (Nat.not_lt_zero _)⟩ ?_
  rintro xs h1 J - ⟨k, rfl, hk, hl, hd⟩ hJ
  simp only [List.cons_append, List.nil_append, insG]
  refine h_ite (fun hc => ?_) (fun hc => ?_)
  · replace hc : cmpOp .lss (k : Int) 6 = true := hc
    rw [cmp_lss, decide_eq_true_eq] at hc
    refine ⟨fun _ => ⟨?_, ?_, trivial⟩, ?_⟩
    · show cmpOp .geq (k : Int) 0 = true
      rw [cmp_geq, decide_eq_true_eq]; omega
    · show cmpOp .lss (k : Int) 6 = true
      rw [cmp_lss, decide_eq_true_eq]; omega
    refine h_loop (fun xs h' => ∃ j : Nat, xs = [.bool (hasM nm k j), .int .i64 (j : Int)] ∧ j ≤ nm.size ∧ h' = h1) (fun xs h' => nm.size - (vi (gv xs 1)).toNat) ⟨0, rfl, by omega, rfl⟩ ?_
    rintro xs h2 J2 - ⟨j, rfl, hj, rfl⟩ hJ2
    simp only [List.cons_append, List.nil_append]
    refine h_ite (fun hc2 => ?_) (fun hc2 => ?_)
    · replace hc2 : cmpOp .lss (j : Int) (nm.size : Int) = true := hc2
      rw [cmp_lss, decide_eq_true_eq] at hc2
      refine ⟨fun _ => ⟨?_, ?_, trivial⟩, ?_⟩
      · show cmpOp .geq (j : Int) 0 = true
        rw [cmp_geq, decide_eq_true_eq]; omega
      · show cmpOp .lss (j : Int) (nm.size : Int) = true
        rw [cmp_lss, decide_eq_true_eq]; omega
      · refine again_of (xs := [.bool (hasM nm k (j + 1)), .int .i64 ((j + 1 : Nat) : Int)]) (J := J2) ?_ rfl (hJ2 _ h2 ⟨j + 1, rfl, by omega, rfl⟩ ?_)
        · have e1 := hasM_succ (k := k) (nm := nm) (j := j) (by omega)
          have e2 := letters_byte (k := k) (by omega)
          have e3 := beq_u8 (nm.data.getD j 0) (letters.getD k 0)
          have e4 : intOp .add .i64 (j : Int) 1 = ((j + 1 : Nat) : Int) := int_add_one (n := nm.size) (by omega) (by omega)
          show [Value.bool (vb (if hasM nm k j = true then Value.bool true else Value.bool (cmpOp .eql ((nm.data.getD (Int.toNat j) 0).toNat : Int) (((ByteArray.mk #[79, 68, 65, 66, 78, 82]).data.getD (Int.toNat k) 0).toNat : Int)))), Value.int .i64 (intOp .add .i64 (j : Int) 1)] = _
          rw [e4, Int.toNat_natCast, Int.toNat_natCast, cmp_eql, e2, e3, e1]
          cases hasM nm k j <;> rfl
        · simp only [gv_zero, gv_succ, vi_int]; omega
    · replace hc2 : cmpOp .lss (j : Int) (nm.size : Int) = false := hc2
      rw [cmp_lss, decide_eq_false_iff_not] at hc2
      have hje : j = nm.size := by omega
      subst hje
      intro b hb
      have hs : ∀ {w}, w = [Value.bool (cmpOp .neq x.op 0), .bool (cmpOp .neq x.d 0), .bool (cmpOp .neq x.a 0), .bool (cmpOp .neq x.b 0), .bool (cmpOp .neq x.n 0), .bool (cmpOp .gtr (vlen v : Int) 0)] → w = ([.bool (setM x 0), .bool (setM x 1), .bool (setM x 2), .bool (setM x 3), .bool (setM x 4), .bool (setM x 5)] : List Value) := by
        rintro _ rfl
        simp only [setM, cmp_neq, cmp_gtr, hz]
      refine ⟨fun _ => ⟨?_, ?_, trivial⟩, h_load [.bool (setM x k)] ⟨⟨_, rfl⟩, trivial⟩ (fun _ => ?_) ?_⟩
      · show cmpOp .geq (k : Int) 0 = true
        rw [cmp_geq, decide_eq_true_eq]; omega
      · show cmpOp .lss (k : Int) 6 = true
        rw [cmp_lss, decide_eq_true_eq]; omega
      · show Reads _ ((⟨b, 0, none⟩ : Addr).add ((k : Int).toNat * 1)) [.bool (setM x k)]
        rw [Int.toNat_natCast, Nat.mul_one]
        refine Reads.put (o := k) fun i v hi => ?_
        obtain ⟨rfl, rfl⟩ := get_one hi
        rw [Nat.add_zero]; exact (congrArg (fun w : List Value => w[k]?) (hs rfl)).trans (setM_get (by omega))
      · refine h_ite (fun hc3 => ⟨rfl, hl.trans (H.le_put hb), ?_⟩) (fun hc3 => ?_)
        · replace hc3 : vb (if setM x k = true then Value.bool (!hasM nm k nm.size) else Value.bool false) = true := hc3
          have h6 : (!(setM x k) || hasM nm k nm.size) = false := by
            revert hc3; cases setM x k <;> cases hasM nm k nm.size <;> simp [vb]
          rw [zeroM_no (k := k) (by omega) h6]; rfl
        · replace hc3 : vb (if setM x k = true then Value.bool (!hasM nm k nm.size) else Value.bool false) = false := hc3
          refine again_of (xs := [.int .i64 ((k + 1 : Nat) : Int)]) (J := J) ?_ rfl (hJ _ _ ⟨k + 1, rfl, by omega, hl.trans (H.le_put hb), fun m hm => ?_⟩ ?_)
          · exact congrArg (fun z => [Value.int .i64 z]) (int_add_one (n := 6) (by omega) (by omega))
          · rcases Nat.lt_succ_iff_lt_or_eq.1 hm with h | rfl
            · exact hd m h
            · revert hc3; cases setM x m <;> cases hasM nm m nm.size <;> simp [vb]
          · simp only [gv_zero, vi_int]; omega
  · replace hc : cmpOp .lss (k : Int) 6 = false := hc
    rw [cmp_lss, decide_eq_false_iff_not] at hc
    have hke : k = 6 := by omega
    subst hke
    exact ⟨rfl, hl, by rw [zeroM_of hd]; rfl⟩
end Go.Proofs.Ytibdneedfopcoaa
