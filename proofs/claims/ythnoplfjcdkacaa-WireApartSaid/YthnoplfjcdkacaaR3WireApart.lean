/-
  The law WireApart answers true. Conditions: none.
-/
import Derived.Test.YthnoplfjcdkacaaR3E
import Derived.Test.YthnoplfjcdkacaaR3G
import Derived.Test.YthnoplfjcdkacaaR3La
import Derived.Test.YthnoplfjcdkacaaRows
import Derived.Lib.Strings
set_option linter.unusedVariables false
set_option linter.unusedSimpArgs false
namespace Go.Proofs.Ythnoplfjcdkacaa
open Go Go.ChangeShapes Go.WideShapes Go.ChangeAt Go.RowKit

def fA : SV := .agg [(.int .i64 (.var 10)), (.int .i64 (.var 11)), (.val 12)]
def gA : SV := .agg [(.int .i64 (.var 13)), (.int .i64 (.var 14)), (.val 15)]
def sameC (k : Out) : Out := .call 17 [fA, gA] [] [] [] [(false, [.bool])] k
def eqT (a b c : Nat) : Out := .done (.bool (.ite (.seq (.var a) (.var b)) (.var c) (.not (.var c)))) []
def okX : X := .ite (.cmp .eql (.var 17) (.lit 0)) (.cmp .eql (.var 19) (.lit 0)) (.tt false)
def leafA : Out :=
  (.both (.ite okX (.bstr (.val 16) (.both (.bstr (.val 18) (sameC (eqT 20 21 22))) (sameC (.bstr (.val 18) (eqT 20 22 21))))) (.done (.bool (.tt false)) []))
  (.both (.ite okX (.bstr (.val 18) (.both (.bstr (.val 16) (sameC (eqT 21 20 22))) (sameC (.bstr (.val 16) (eqT 22 20 21))))) (.done (.bool (.tt false)) []))
   (.ite okX (sameC (.both (.bstr (.val 16) (.bstr (.val 18) (eqT 21 22 20))) (.bstr (.val 18) (.bstr (.val 16) (eqT 22 21 20))))) (.done (.bool (.tt false)) []))))
def bytesT : Out := .call 14 [fA] [] [] [] [(false, [.sl]), (false, [.int .i64])] (.call 14 [gA] [] [] [] [(false, [.sl]), (false, [.int .i64])] leafA)
def mkT (i : Nat) (k : Out) : Out := .call 12 [(.agg [(.int .u8 (.var i)), (.int .u8 (.var (i + 1))), (.int .u8 (.var (i + 2))), (.val (i + 3))])] [] [] [] [(true, [.int .i64, .int .i64, .sl])] k
def armT (j : Nat) (K : Out) : Out :=
  (.both (mkT 0 (.both (mkT j (.both K K)) (.both (.both (mkT j K) (mkT j K)) (.both (mkT j K) (mkT j K)))))
   (.both (.both (mkT 0 (.both (mkT j K) (mkT j K))) (mkT 0 (mkT j K))) (.both (mkT 0 (.both (mkT j K) (mkT j K))) (mkT 0 (mkT j K)))))
theorem t4_eq : t4 = .call 10 [] [] [] [] [(false, [.bool])] (.ite (.not (.var 9)) (.done (.bool (.tt false)) []) (.ite (.var 8) (armT 0 bytesT) (armT 4 bytesT))) := by kernel_rfl
theorem strOf_inj {l m : List Int} (hl : InB l) (hm : InB m) (h : (strOfNums l).toList = (strOfNums m).toList) : l = m := by
  have e : (strOfNums l).data.toList = (strOfNums m).data.toList := by
    rw [← Lib.toList_data, ← Lib.toList_data]; exact h
  rw [strOfNums_data, strOfNums_data] at e
  have hlen := congrArg List.length e
  simp only [List.length_map] at hlen
  refine List.ext_getElem hlen fun i h1 h2 => ?_
  have e1 := congrArg (·[i]?) e
  simp only [List.getElem?_map, List.getElem?_eq_getElem h1, List.getElem?_eq_getElem h2, Option.map_some, Option.some.injEq] at e1
  have b1 := hl _ (List.getElem_mem h1)
  have b2 := hm _ (List.getElem_mem h2)
  have e2 := congrArg UInt8.toNat e1
  simp only [UInt8.toNat_ofNat'] at e2
  omega
theorem seq_val {l m : List Int} (hl : InB l) (hm : InB m) : ((strOfNums l).toList == (strOfNums m).toList) = true ↔ l = m :=
  ⟨fun h => strOf_inj hl hm (by simpa using h), fun h => by rw [h]; simp⟩
theorem eqv {a b : Bool} {P : Prop} (ha : a = true ↔ P) (hb : b = true ↔ P) : vb (if a = true then Value.bool b else Value.bool (!b)) = true := by
  have : a = b := by
    cases a <;> cases b <;> simp_all
  subst this
  cases a <;> rfl
/-- What is made of the one, of the other. -/
structure AtA (G : List Value) (p n p' n' : Int) (u v : Value) : Prop where
  len : G.length = 16
  g10 : gv G 10 = .int .i64 p
  g11 : gv G 11 = .int .i64 n
  g12 : gv G 12 = u
  g13 : gv G 13 = .int .i64 p'
  g14 : gv G 14 = .int .i64 n'
  g15 : gv G 15 = v
theorem AtA.f {G : List Value} {p n p' n' : Int} {u v : Value} (A : AtA G p n p' n' u v) (D : List Value) (E : Nat → CE) : SV.den (G ++ D) E fA = .agg #[.int .i64 p, .int .i64 n, u] := by
  have := A.len
  have e1 := (gv_of_lt (G := G) (D := D) (i := 10) (by omega)).trans A.g10
  have e2 := (gv_of_lt (G := G) (D := D) (i := 11) (by omega)).trans A.g11
  have e3 := (gv_of_lt (G := G) (D := D) (i := 12) (by omega)).trans A.g12
  simp only [fA, SV.den, SV.denL, X.den, e1, e2, e3, vi_int]
theorem AtA.g {G : List Value} {p n p' n' : Int} {u v : Value} (A : AtA G p n p' n' u v) (D : List Value) (E : Nat → CE) : SV.den (G ++ D) E gA = .agg #[.int .i64 p', .int .i64 n', v] := by
  have := A.len
  have e1 := (gv_of_lt (G := G) (D := D) (i := 13) (by omega)).trans A.g13
  have e2 := (gv_of_lt (G := G) (D := D) (i := 14) (by omega)).trans A.g14
  have e3 := (gv_of_lt (G := G) (D := D) (i := 15) (by omega)).trans A.g15
  simp only [gA, SV.den, SV.denL, X.den, e1, e2, e3, vi_int]
section
variable {G : List Value} {L : Lv} {h g : H} {p n p' n' : Int} {u v : Value} {bs cs : List Blk}
theorem bytes_holds (A : AtA G p n p' n' u v) (hl : h.le g) (hu : BlksAt g u bs) (hv : BlksAt g v cs) (c1 : (checkM p n bs).1 = 0) (c2 : (checkM p' n' cs).1 = 0) (n1 : NB bs) (n2 : NB cs) (ok : Okay bs) :
    holds Try.prog (Ret fun r h' => h.le h' ∧ r = .bool true) bytesT G L g := by
  have hG := A.len
  refine h_call0 (Q := fun r h' => g.le h' ∧ ∃ x, r = .tuple #[x, .int .i64 0] ∧ OwnB g h' x (encF p n bs)) ?_ ?_
  · have := (s14 (p := p) (n := n) hu n1).mono (R' := Ret fun r h' => g.le h' ∧ ∃ x, r = .tuple #[x, .int .i64 0] ∧ OwnB g h' x (encF p n bs)) fun r cs h' ⟨e, a, b⟩ => ⟨e, a, by
      rcases b with ⟨b, _⟩ | ⟨_, b⟩
      · exact absurd c1 b
      · exact b⟩
    have e := fun E => A.f [] E
    simp only [List.append_nil] at e
    simp only [SV.denL, e]
    exact this
  rintro _ g1 ⟨hl1, x, rfl, ox⟩
  refine ⟨[x, .int .i64 0], ⟨ox.at.fit, ⟨_, rfl⟩, trivial⟩, rfl, ?_⟩
  have hv1 := SlAt.le blkC_mono hl1 hv
  refine h_call0 (Q := fun r h' => g1.le h' ∧ ∃ x, r = .tuple #[x, .int .i64 0] ∧ OwnB g1 h' x (encF p' n' cs)) ?_ ?_
  · have := (s14 (p := p') (n := n') hv1 n2).mono (R' := Ret fun r h' => g1.le h' ∧ ∃ x, r = .tuple #[x, .int .i64 0] ∧ OwnB g1 h' x (encF p' n' cs)) fun r cs h' ⟨e, a, b⟩ => ⟨e, a, by
      rcases b with ⟨b, _⟩ | ⟨_, b⟩
      · exact absurd c2 b
      · exact b⟩
    simp only [SV.denL, A.g]
    exact this
  rintro _ g2 ⟨hl2, y, rfl, oy⟩
  refine ⟨[y, .int .i64 0], ⟨oy.at.fit, ⟨_, rfl⟩, trivial⟩, rfl, ?_⟩
  simp only [List.append_assoc, List.cons_append, List.nil_append]
  have hl12 := hl1.trans hl2
  have hh := hl.trans hl12
  have ox2 := ox.at.le hl2
  have k := fun (D : List Value) (i : Nat) => gv_at (G := G) (D := x :: .int .i64 0 :: y :: .int .i64 0 :: D) (i := 16 + i) (j := i) (by omega)
  have hok : vb (okX.den (G ++ [x, .int .i64 0, y, .int .i64 0])) = true := by
    simp only [okX, X.den, k [] 1, k [] 3, gv_succ, gv_zero, vi_int, vb_bool, vb_ite, cmp_eql]; rfl
  have k16 : ∀ D, gv (G ++ x :: .int .i64 0 :: y :: .int .i64 0 :: D) 16 = x := fun D => k D 0
  have k18 : ∀ D, gv (G ++ x :: .int .i64 0 :: y :: .int .i64 0 :: D) 18 = y := fun D => k D 2
  have eqP : encF p n bs = encF p' n' cs ↔ p = p' ∧ n = n' ∧ bs = cs := ⟨encF_inj c1 n1 c2 n2, fun ⟨a, b, c⟩ => by subst a; subst b; subst c; rfl⟩
  have q1 := (seq_val ox.2 oy.2).trans eqP
  have sm : ∀ (D : List Value) (kk : Out), (∀ b : Bool, (b = true ↔ p = p' ∧ n = n' ∧ bs = cs) → holds Try.prog (Ret fun r h' => h.le h' ∧ r = .bool true) kk (G ++ (x :: .int .i64 0 :: y :: .int .i64 0 :: D) ++ [.bool b]) L g2) →
      holds Try.prog (Ret fun r h' => h.le h' ∧ r = .bool true) (sameC kk) (G ++ (x :: .int .i64 0 :: y :: .int .i64 0 :: D)) L g2 := fun D kk hk => by
    refine h_call0 (Q := fun r h' => h' = g2 ∧ ∃ b, r = .bool b ∧ (b = true ↔ p = p' ∧ n = n' ∧ bs = cs)) ?_ ?_
    · have := s17g (p := p) (n := n) (p' := p') (n' := n') (SlAt.le blkC_mono hl12 hu) (SlAt.le blkC_mono hl2 hv1) ok
      simp only [SV.denL, A.f, A.g]
      exact this
    · rintro _ _ ⟨rfl, b, rfl, hb⟩
      exact ⟨[.bool b], ⟨⟨_, rfl⟩, trivial⟩, rfl, hk b hb⟩
  have bx : ∀ (D : List Value) (kk : Out), holds Try.prog (Ret fun r h' => h.le h' ∧ r = .bool true) kk (G ++ (x :: .int .i64 0 :: y :: .int .i64 0 :: D) ++ [.string (strOfNums (encF p n bs))]) L g2 →
      holds Try.prog (Ret fun r h' => h.le h' ∧ r = .bool true) (.bstr (.val 16) kk) (G ++ (x :: .int .i64 0 :: y :: .int .i64 0 :: D)) L g2 := fun D kk hk => by
    refine ⟨_, ?_, hk⟩
    simp only [SV.den, k16]; exact ox2.bin
  have by_ : ∀ (D : List Value) (kk : Out), holds Try.prog (Ret fun r h' => h.le h' ∧ r = .bool true) kk (G ++ (x :: .int .i64 0 :: y :: .int .i64 0 :: D) ++ [.string (strOfNums (encF p' n' cs))]) L g2 →
      holds Try.prog (Ret fun r h' => h.le h' ∧ r = .bool true) (.bstr (.val 18) kk) (G ++ (x :: .int .i64 0 :: y :: .int .i64 0 :: D)) L g2 := fun D kk hk => by
    refine ⟨_, ?_, hk⟩
    simp only [SV.den, k18]; exact oy.at.bin
  have fin : ∀ (D : List Value) (a b c : Nat) {s t : ByteArray} {z : Bool}, gv D a = .string s → gv D b = .string t → gv D c = .bool z → ((s.toList == t.toList) = true ↔ p = p' ∧ n = n' ∧ bs = cs) → (z = true ↔ p = p' ∧ n = n' ∧ bs = cs) →
      holds Try.prog (Ret fun r h' => h.le h' ∧ r = .bool true) (eqT (20 + a) (20 + b) (20 + c)) (G ++ (x :: .int .i64 0 :: y :: .int .i64 0 :: D)) L g2 := fun D a b c {s t z} ha hb hc hs hz => by
    refine ⟨rfl, hh, ?_⟩
    have e : ∀ i, gv (G ++ (x :: .int .i64 0 :: y :: .int .i64 0 :: D)) (20 + i) = gv D i := fun i => by
      have := k D (4 + i)
      rw [show 16 + (4 + i) = 20 + i by omega] at this
      rw [this, show 4 + i = i + 1 + 1 + 1 + 1 by omega]; rfl
    have := eqv hs hz
    simp only [eqT, SV.den, X.den, e, ha, hb, hc, vb_bool]
    exact congrArg Value.bool this
  have nn : ∀ {D : List Value} {z : Value}, G ++ (x :: .int .i64 0 :: y :: .int .i64 0 :: D) ++ [z] = G ++ (x :: .int .i64 0 :: y :: .int .i64 0 :: (D ++ [z])) := fun {D z} => by simp
  refine ⟨iteT hok (bx [] _ ?_), iteT hok (by_ [] _ ?_), iteT hok (sm [] _ fun b hb => ?_)⟩
  · rw [nn]
    refine ⟨by_ _ _ ?_, sm _ _ fun b hb => ?_⟩
    · rw [nn]; refine sm _ _ fun b hb => ?_
      rw [nn]; exact fin _ 0 1 2 rfl rfl rfl q1 hb
    · rw [nn]; refine by_ _ _ ?_
      rw [nn]; exact fin _ 0 2 1 rfl rfl rfl q1 hb
  · rw [nn]
    refine ⟨bx _ _ ?_, sm _ _ fun b hb => ?_⟩
    · rw [nn]; refine sm _ _ fun b hb => ?_
      rw [nn]; exact fin _ 1 0 2 rfl rfl rfl q1 hb
    · rw [nn]; refine bx _ _ ?_
      rw [nn]; exact fin _ 2 0 1 rfl rfl rfl q1 hb
  · rw [nn]
    refine ⟨bx _ _ ?_, by_ _ _ ?_⟩
    · rw [nn]; refine by_ _ _ ?_
      rw [nn]; exact fin _ 1 2 0 rfl rfl rfl q1 hb
    · rw [nn]; refine bx _ _ ?_
      rw [nn]; exact fin _ 2 1 0 rfl rfl rfl q1 hb
/-- One made. -/
theorem mk_holds {R : Value → List (List Value) → H → Prop} {i : Nat} {k : Out} {vs : Value} {p0 p1 p2 : Int} {l : List Int} (e0 : gv G i = .int .u8 p0) (e1 : gv G (i + 1) = .int .u8 p1) (e2 : gv G (i + 2) = .int .u8 p2) (e3 : gv G (i + 3) = vs) (hs : BytesAt g vs l) (h0 : 0 ≤ p0) (h1 : 0 ≤ p1) (h2 : 0 ≤ p2)
    (HK : ∀ u g', g.le g' → BlksAt g' u (madeB p0 p1 p2 l) → holds Try.prog R k (G ++ [.int .i64 (madeP p0), .int .i64 (madeV p0 p1), u]) L g') : holds Try.prog R (mkT i k) G L g := by
  refine h_call0 (Q := fun r h' => KeptH g h' [] ∧ ∃ u fp, r = .agg #[.int .i64 (madeP p0), .int .i64 (madeV p0 p1), u] ∧ OwnBlks h' u (madeB p0 p1 p2 l) fp ∧ Fresh g fp ∧ fp.Nodup) ?_ ?_
  · have := s12 (p0 := p0) (p1 := p1) (p2 := p2) hs h0 h1 h2
    simp only [SV.denL, SV.den, X.den, e0, e1, e2, e3, vi_int]
    exact this
  · rintro _ g1 ⟨hk, u, fp, rfl, hu, -, -⟩
    exact ⟨[.int .i64 (madeP p0), .int .i64 (madeV p0 p1), u], ⟨⟨_, rfl⟩, ⟨_, rfl⟩, hu.at.fit, trivial⟩, rfl, HK u g1 hk.le_nil hu.at⟩
theorem arm_holds {R : Value → List (List Value) → H → Prop} {K : Out} {j : Nat} {a b : H → Value → Prop} (m1 : ∀ k, (∀ u g', g.le g' → a g' u → holds Try.prog R k (G ++ [.int .i64 p, .int .i64 n, u]) L g') → holds Try.prog R (mkT 0 k) G L g)
    (m2 : ∀ u g1, g.le g1 → a g1 u → ∀ k, (∀ v g', g1.le g' → b g' v → holds Try.prog R k (G ++ [.int .i64 p, .int .i64 n, u] ++ [.int .i64 p', .int .i64 n', v]) L g') → holds Try.prog R (mkT j k) (G ++ [.int .i64 p, .int .i64 n, u]) L g1)
    (hk : ∀ u v g1 g2, g.le g1 → g1.le g2 → a g1 u → b g2 v → holds Try.prog R K (G ++ [.int .i64 p, .int .i64 n, u] ++ [.int .i64 p', .int .i64 n', v]) L g2) : holds Try.prog R (armT j K) G L g := by
  have one : ∀ u g1, g.le g1 → a g1 u → holds Try.prog R (mkT j K) (G ++ [.int .i64 p, .int .i64 n, u]) L g1 := fun u g1 c d => m2 u g1 c d _ fun v g2 e f => hk u v g1 g2 c e d f
  have two : ∀ u g1, g.le g1 → a g1 u → holds Try.prog R (mkT j (.both K K)) (G ++ [.int .i64 p, .int .i64 n, u]) L g1 := fun u g1 c d => m2 u g1 c d _ fun v g2 e f => ⟨hk u v g1 g2 c e d f, hk u v g1 g2 c e d f⟩
  have A1 := m1 _ fun u g1 c d => one u g1 c d
  have A2 := m1 (.both (mkT j K) (mkT j K)) fun u g1 c d => ⟨one u g1 c d, one u g1 c d⟩
  exact ⟨m1 _ fun u g1 c d => ⟨two u g1 c d, ⟨one u g1 c d, one u g1 c d⟩, one u g1 c d, one u g1 c d⟩, ⟨A2, A1⟩, A2, A1⟩
end
theorem okay_made {p0 p1 p2 : Int} {l : List Int} (h0 : 0 ≤ p0) (h1 : 0 ≤ p1) (h2 : 0 ≤ p2) (hl : InB l) : Okay (madeB p0 p1 p2 l) := by
  have := madeB_small (p0 := p0) (p1 := p1) (p2 := p2) h0 h1 h2 hl
  exact ⟨this.1, fun b hb => ⟨by have := (this.2 b hb).1; omega, fun x hx => by have := (this.2 b hb).2 x hx; omega⟩⟩
theorem made_zero {p0 p1 p2 : Int} {l : List Int} (h0 : 0 ≤ p0) (h1 : 0 ≤ p1) (h2 : 0 ≤ p2) (hl : InB l) : (checkM (madeP p0) (madeV p0 p1) (madeB p0 p1 p2 l)).1 = 0 := by
  have bb := madeV_range h0 h1
  have c := madeN_range h2
  have hBl := madeB_len (p0 := p0) (p1 := p1) (l := l) h2
  rw [made_ok (w := madeV p0 p1) h0 h1 h2 hl (Int.le_refl _) (by omega) (fun b hb => hb) (by omega) (by omega)]
theorem s4 {h : H} {vs vt : Value} {p0 p1 p2 q0 q1 q2 : Int} {l k : List Int} {b : Bool} (hs : BytesAt h vs l) (ht : BytesAt h vt k) (h0 : 0 ≤ p0) (h1 : 0 ≤ p1) (h2 : 0 ≤ p2) (k0 : 0 ≤ q0) (k1 : 0 ≤ q1) (k2 : 0 ≤ q2) :
    CallsA Try.prog 4 (fun _ => [.agg #[.int .u8 p0, .int .u8 p1, .int .u8 p2, vs], .agg #[.int .u8 q0, .int .u8 q1, .int .u8 q2, vt], .bool b]) [] h (Ret fun r h' => h.le h' ∧ r = .bool true) := by
  refine c4 (G := [.int .u8 p0, .int .u8 p1, .int .u8 p2, vs, .int .u8 q0, .int .u8 q1, .int .u8 q2, vt, .bool b]) ⟨⟨_, rfl⟩, ⟨_, rfl⟩, ⟨_, rfl⟩, hs.fit, ⟨_, rfl⟩, ⟨_, rfl⟩, ⟨_, rfl⟩, ht.fit, ⟨_, rfl⟩, trivial⟩ ?_
  rw [t4_eq]
  have hB := hs.inB
  have hB2 := ht.inB
  refine h_call0 s10 ?_
  rintro _ g ⟨hl, rfl⟩
  refine ⟨[.bool true], ⟨⟨_, rfl⟩, trivial⟩, rfl, h_ite (fun hc => by cases hc) (fun _ => h_ite (fun _ => ?_) (fun _ => ?_))⟩
  · simp only [List.cons_append, List.nil_append]
    refine arm_holds (p := madeP p0) (n := madeV p0 p1) (p' := madeP p0) (n' := madeV p0 p1) (a := fun g u => BlksAt g u (madeB p0 p1 p2 l)) (b := fun g u => BlksAt g u (madeB p0 p1 p2 l)) (fun k hk => mk_holds rfl rfl rfl rfl (hs.le hl) h0 h1 h2 hk) (fun u g1 c d k hk => mk_holds rfl rfl rfl rfl (hs.le (hl.trans c)) h0 h1 h2 hk) ?_
    intro u v g1 g2 c d hu hv
    exact bytes_holds ⟨rfl, rfl, rfl, rfl, rfl, rfl, rfl⟩ (hl.trans (c.trans d)) (SlAt.le blkC_mono d hu) hv (made_zero h0 h1 h2 hB) (made_zero h0 h1 h2 hB) (madeB_n hB) (madeB_n hB) (okay_made h0 h1 h2 hB)
  · simp only [List.cons_append, List.nil_append]
    refine arm_holds (p := madeP p0) (n := madeV p0 p1) (p' := madeP q0) (n' := madeV q0 q1) (a := fun g u => BlksAt g u (madeB p0 p1 p2 l)) (b := fun g u => BlksAt g u (madeB q0 q1 q2 k)) (fun k hk => mk_holds rfl rfl rfl rfl (hs.le hl) h0 h1 h2 hk) (fun u g1 c d k hk => mk_holds rfl rfl rfl rfl (ht.le (hl.trans c)) k0 k1 k2 hk) ?_
    intro u v g1 g2 c d hu hv
    exact bytes_holds ⟨rfl, rfl, rfl, rfl, rfl, rfl, rfl⟩ (hl.trans (c.trans d)) (SlAt.le blkC_mono d hu) hv (made_zero h0 h1 h2 hB) (made_zero k0 k1 k2 hB2) (madeB_n hB) (madeB_n hB2) (okay_made h0 h1 h2 hB)
namespace wireApart
theorem own : ownKnob Try.prog.godebug = none := by kernel_rfl
set_option maxRecDepth 100000 in
theorem laidOut : laidOutB Try.prog = true := by kernel_rfl
set_option maxRecDepth 100000 in
theorem contract (H : Type) (enc : TypeId × Value → H) (W : World) (base : Nat) (args : Array Value) (ds gs : List (DataW H)) (before : List MemPlace)
    (hval : ∀ (j : Nat) t v, Try.f4.params[j]? = some t → args[j]? = some v → Value.okWide Try.prog W .any base t v)
    (hW : DataW.Whole enc Try.prog Try.f4.params.toList Rows.wireApartSpec.vars false W args.toList ds gs before) :
    Calls Try.prog 4 args W fun e W' => ∃ v, e = .returned v ∧ Rows.wireApartSpec.post enc Try.prog Try.f4 false true false false W args v W' := by
  have hW' := hW
  obtain ⟨p, q, hA, hV, rfl, hfz, hnd⟩ := hW
  rw [Try.params4] at hA hval
  obtain ⟨v0, vs0, d0, ds0, p0, q0, hargs, rfl, rfl, h0, r0⟩ := trodAll_cons hA
  obtain ⟨v1, vs1, d1, ds1, p1, q1, rfl, rfl, rfl, h1, r1⟩ := trodAll_cons r0
  obtain ⟨v2, vs2, d2, ds2, p2, q2, rfl, rfl, rfl, h2, r2⟩ := trodAll_cons r1
  obtain ⟨rfl, rfl, rfl⟩ := trodAll_nil r2
  obtain rfl : args = #[v0, v1, v2] := by cases args; simp_all
  obtain ⟨cs0, rfl, -⟩ := okWide_struct Try.underlying27 (hval 0 27 v0 rfl rfl)
  obtain ⟨p0, p1, p2, vs, l, he0, g0, g1, g2, hs⟩ := rd_spec (Rd.of h0)
  obtain rfl : cs0 = ([Value.int .u8 p0, .int .u8 p1, .int .u8 p2, vs]).toArray := by rw [← he0]; simp [Value.cells]
  obtain ⟨cs1, rfl, -⟩ := okWide_struct Try.underlying27 (hval 1 27 v1 rfl rfl)
  obtain ⟨q0, q1', q2', vs2, l2, he1, k0, k1, k2, hs2⟩ := rd_spec (Rd.of h1)
  obtain rfl : cs1 = ([Value.int .u8 q0, .int .u8 q1', .int .u8 q2', vs2]).toArray := by rw [← he1]; simp [Value.cells]
  obtain ⟨bb, rfl, -⟩ := open_bool Try.underlying4 (hval 2 4 v2 rfl rfl) h2
  refine (law_calls (f := 4) (args := [.agg ([Value.int .u8 p0, .int .u8 p1, .int .u8 p2, vs]).toArray, .agg ([Value.int .u8 q0, .int .u8 q1', .int .u8 q2', vs2]).toArray, .bool bb]) (s4 hs hs2 g0 g1 g2 k0 k1 k2)).mono ?_
  rintro e' W' ⟨rfl, bel⟩
  exact ⟨_, rfl, law_post laidOut hW' rfl (of_decide_eq_true (by kernel_rfl)) rfl Try.underlying4 rfl bel⟩
set_option maxRecDepth 100000 in
theorem lifted (os : Os) (started : os.Started) (H : Type) (enc : TypeId × Value → H) :
    ReturnsInHanded {} Try.checked os 4 .any (Rows.wireApartSpec.pre6 enc Try.prog Try.f4 Rows.wireApartRow.domain false) (Rows.wireApartSpec.post enc Try.prog Try.f4 false true false false) := by
  refine returnsInHanded_of_change (C := Try.checked) own started (by kernel_rfl) Try.func4
    (ChangeSpec.witness6 (enc := enc) (C := Try.checked) false ⟨#[], #[.agg #[.int .u8 0, .int .u8 0, .int .u8 0, .slice none 0 0], .agg #[.int .u8 0, .int .u8 0, .int .u8 0, .slice none 0 0], .bool false], []⟩ 8 (by kernel_rfl) (by kernel_rfl) (by kernel_rfl) (by kernel_rfl)) ?_
  intro W base args ds gs before hval hW _ _
  exact contract H enc W base args ds gs before hval hW
set_option maxRecDepth 100000 in
theorem proved : Rows.WireApartSaid :=
  OpenClaim.holds_of_wide 4 Try.f4 rfl rfl rfl rfl rfl rfl rfl ⟨rfl, rfl, rfl, rfl, rfl⟩ rfl rfl rfl rfl rfl (by kernel_rfl) Try.func4 (by kernel_rfl)
    (of_decide_eq_true (by kernel_rfl)) (by unfold Func.isWrapper; first | (rw [if_pos (by decide +kernel)]; kernel_rfl) | (rw [if_neg (by decide +kernel)]; exact ⟨rfl, rfl⟩))
    (fun os started H enc _ => lifted os started H enc)
end wireApart
/-- The row, under a short name, for the claim. -/
theorem wireApartHolds : Rows.WireApartSaid := wireApart.proved
#print axioms wireApartHolds
end Go.Proofs.Ythnoplfjcdkacaa
