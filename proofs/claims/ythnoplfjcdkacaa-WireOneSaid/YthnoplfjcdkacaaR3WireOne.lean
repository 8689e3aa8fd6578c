/-
  The law WireOne answers true. Conditions: none.
-/
import Derived.Test.YthnoplfjcdkacaaR3Q
import Derived.Test.YthnoplfjcdkacaaR3M
import Derived.Test.YthnoplfjcdkacaaR3E
import Derived.Test.YthnoplfjcdkacaaR3Le
import Derived.Test.YthnoplfjcdkacaaRows
set_option linter.unusedVariables false
set_option linter.unusedSimpArgs false
namespace Go.Proofs.Ythnoplfjcdkacaa
open Go Go.ChangeShapes Go.WideShapes Go.ChangeAt Go.RowKit

def againT : Out := .again 0 [(.int .i64 (.op .add .i64 (.var 15) (.lit 1)))]
def noT : Out := .done (.bool (.tt false)) []
/-- The bytes that were written are those that were read. -/
def sameT (a : Nat) (b : Nat) (k : Out) : Out := .bstr (.val a) (.bstr (.val 16) (.ite (.not (.seq (.var b) (.var (b + 1)))) noT k))
def certT (m : Nat) : Out := .call 25 [(.val 16)] [] [] [] [(false, [.sl]), (false, [.int .i64])]
  (.ite (.cmp .eql (.var (m + 1)) (.lit 0)) (.call 22 [(.val m)] [] [] [] [(false, [.sl]), (false, [.int .i64])] (.ite (.not (.cmp .neq (.var (m + 3)) (.lit 0))) (sameT (m + 2) (m + 4) againT) noT)) againT)
def codeT (m : Nat) : Out := .call 30 [(.val 16)] [] [] [] [(true, [.int .i64, .int .i64, .int .i64, .sl]), (false, [.int .i64])]
  (.ite (.cmp .eql (.var (m + 4)) (.lit 0)) (.call 19 [(.agg [(.int .i64 (.var m)), (.int .i64 (.var (m + 1))), (.int .i64 (.var (m + 2))), (.val (m + 3))])] [] [] [] [(false, [.sl]), (false, [.int .i64])]
    (.ite (.not (.cmp .neq (.var (m + 6)) (.lit 0))) (sameT (m + 5) (m + 7) (certT (m + 9))) noT)) (certT (m + 5)))
def funcT (m : Nat) : Out := .call 28 [(.val 16)] [] [] [] [(true, [.int .i64, .int .i64, .sl]), (false, [.int .i64])]
  (.ite (.cmp .eql (.var (m + 3)) (.lit 0)) (.call 14 [(.agg [(.int .i64 (.var m)), (.int .i64 (.var (m + 1))), (.val (m + 2))])] [] [] [] [(false, [.sl]), (false, [.int .i64])]
    (.ite (.not (.cmp .neq (.var (m + 5)) (.lit 0))) (sameT (m + 4) (m + 6) (codeT (m + 8))) noT)) (codeT (m + 4)))
theorem t9_eq : t9 = .call 10 [] [] [] [] [(false, [.bool])] (.ite (.not (.var 7)) noT (.ite (.cmp .gtr (.len 0) (.lit 3000)) (.done (.bool (.tt true)) [])
  (.call 12 [(.agg [(.int .u8 (.var 1)), (.int .u8 (.var 2)), (.int .u8 (.var 3)), (.val 4)])] [] [] [] [(true, [.int .i64, .int .i64, .sl])]
  (.call 14 [(.agg [(.int .i64 (.var 8)), (.int .i64 (.var 9)), (.val 10)])] [] [] [] [(false, [.sl]), (false, [.int .i64])]
  (.call 24 [(.val 11), (.val 5), (.val 6)] [] [] [] [(false, [.sl])]
  (.alloc 25 [(.val 0), (.val 13)] (.lsl 2)
  (.loop 0 [(.int .i64 (.lit 0))] [.int .i64] (.ite (.cmp .lss (.var 15) (.len 14)) (.need (.tt true) [(.cmp .geq (.var 15) (.lit 0)), (.cmp .lss (.var 15) (.len 14))] (.load (.tt true) (.idx (.var 14) (.var 15) 1) [.sl] (funcT 17))) (.done (.bool (.tt true)) []))))))))) := by kernel_rfl
section
variable {R : Value → List (List Value) → H → Prop} {G : List Value} {L : Lv} {h : H} {z : Value} {l : List Int} {i m : Nat} {J : List Value → H → Prop}
structure AtO (G : List Value) (m i : Nat) (z : Value) : Prop where
  len : G.length = m
  lt : 17 ≤ m
  g15 : gv G 15 = .int .i64 (i : Int)
  g16 : gv G 16 = z
theorem AtO.app (A : AtO G m i z) (D : List Value) : AtO (G ++ D) (m + D.length) i z := by
  have h1 := A.len
  have h2 := A.lt
  exact ⟨by rw [List.length_append, h1], by omega, by rw [gv_of_lt (by omega)]; exact A.g15, by rw [gv_of_lt (by omega)]; exact A.g16⟩
theorem AtO.hi (A : AtO G m i z) {D : List Value} (k : Nat) : gv (G ++ D) (m + k) = gv D k := gv_at (by rw [A.len])
theorem again_holds (A : AtO G m i z) (hL : L[0]? = some J) (hJ : J [.int .i64 (intOp .add .i64 (i : Int) 1)] h) : holds Try.prog R againT G L h := by
  refine again_of ?_ hL hJ
  simp only [SV.denL, SV.den, X.den, A.g15, vi_int]
/-- The same bytes: nothing to find. -/
theorem same_holds {a b : Nat} {k : Out} {x : Value} (A : AtO G b i z) (ea : gv G a = x) (hx : BytesAt h x l) (hz : BytesAt h z l) (HK : ∀ D, D.length = 2 → holds Try.prog R k (G ++ D) L h) : holds Try.prog R (sameT a b k) G L h := by
  refine ⟨l, by simp only [SV.den, ea]; exact hx.bin, l, ?_, ?_⟩
  · have := (A.app [.string (strOfNums l)]).g16
    simp only [SV.den, this]; exact hz.bin
  · rw [List.append_assoc]
    refine iteF ?_ (HK _ rfl)
    have e1 := A.hi (D := [.string (strOfNums l), .string (strOfNums l)]) 0
    have e2 := A.hi (D := [.string (strOfNums l), .string (strOfNums l)]) 1
    rw [Nat.add_zero] at e1
    simp only [List.cons_append, List.nil_append, X.den, e1, e2, gv_zero, gv_succ, vb_bool]
    simp [vs]
theorem cert_holds (A : AtO G m i z) (hz : BytesAt h z l) (hl : l.length ≤ 100000000) (hL : L[0]? = some J) (hJ : ∀ h', h.le h' → J [.int .i64 (intOp .add .i64 (i : Int) 1)] h') : holds Try.prog R (certT m) G L h := by
  refine h_call0 (Q := fun r h' => h.le h' ∧ ∃ u, r = .tuple #[u, .int .i64 (readCt l).2] ∧ CertAt h' u (readCt l).1) ?_ ?_
  · have := s25 hz (by omega)
    simp only [SV.denL, SV.den, A.g16]
    exact this
  rintro _ h1 ⟨hl1, u, rfl, hu⟩
  refine ⟨[u, .int .i64 (readCt l).2], ⟨hu.fit, ⟨_, rfl⟩, trivial⟩, rfl, ?_⟩
  have e1 := fun (D : List Value) => A.hi (D := u :: .int .i64 (readCt l).2 :: D) 1
  have e0 := fun (D : List Value) => A.hi (D := u :: .int .i64 (readCt l).2 :: D) 0
  rw [Nat.add_zero] at e0
  refine h_ite (fun hc => ?_) (fun _ => again_holds (A.app _) hL (hJ h1 hl1))
  simp only [X.den, e1, gv_succ, gv_zero, vi_int, vb_bool, cmp_eql, decide_eq_true_eq] at hc
  obtain ⟨r1, r2, r3⟩ := readCt_inv hc hz.inB
  refine h_call0 (Q := fun r h' => h1.le h' ∧ ∃ x, r = .tuple #[x, .int .i64 0] ∧ OwnB h1 h' x l) ?_ ?_
  · have := (s22 hu r3).mono (R' := Ret fun r h' => h1.le h' ∧ ∃ x, r = .tuple #[x, .int .i64 0] ∧ OwnB h1 h' x l) fun r cs h' ⟨e, a, b⟩ => ⟨e, a, by
      rcases b with ⟨b, _⟩ | ⟨_, x, b1, b2⟩
      · exact absurd r2 b
      · exact ⟨x, b1, by rw [← r1] at b2; exact b2⟩⟩
    simp only [SV.denL, SV.den, e0, gv_zero]
    exact this
  rintro _ h2 ⟨hl2, x, rfl, ox⟩
  refine ⟨[x, .int .i64 0], ⟨ox.at.fit, ⟨_, rfl⟩, trivial⟩, rfl, ?_⟩
  rw [List.append_assoc]
  simp only [List.cons_append, List.nil_append]
  have f3 := A.hi (D := [u, .int .i64 (readCt l).2, x, .int .i64 0]) 3
  have f2 := A.hi (D := [u, .int .i64 (readCt l).2, x, .int .i64 0]) 2
  refine iteT ?_ ?_
  · simp only [X.den, f3, gv_succ, gv_zero, vi_int, vb_bool, cmp_neq]; rfl
  have hl12 := hl1.trans hl2
  exact same_holds (A.app [u, .int .i64 (readCt l).2, x, .int .i64 0]) f2 ox.at (hz.le hl12) fun D _ => again_holds ((A.app _).app D) hL (hJ h2 hl12)
theorem code_holds (A : AtO G m i z) (hz : BytesAt h z l) (hl : l.length ≤ 100000000) (hL : L[0]? = some J) (hJ : ∀ h', h.le h' → J [.int .i64 (intOp .add .i64 (i : Int) 1)] h') : holds Try.prog R (codeT m) G L h := by
  refine h_call0 (Q := fun r h' => h.le h' ∧ ∃ u fp, r = .tuple #[.agg #[.int .i64 (readC l).1.1, .int .i64 (readC l).1.2.1, .int .i64 (readC l).1.2.2.1, u], .int .i64 (readC l).2] ∧ OwnBlks h' u (readC l).1.2.2.2 fp ∧ Fresh h fp ∧ fp.Nodup) ?_ ?_
  · have := s30 hz (by omega)
    simp only [SV.denL, SV.den, A.g16]
    exact this
  rintro _ h1 ⟨hl1, u, fp, rfl, hu, -, -⟩
  refine ⟨[.int .i64 (readC l).1.1, .int .i64 (readC l).1.2.1, .int .i64 (readC l).1.2.2.1, u, .int .i64 (readC l).2], ⟨⟨_, rfl⟩, ⟨_, rfl⟩, ⟨_, rfl⟩, (OwnBlks.at hu).fit, ⟨_, rfl⟩, trivial⟩, rfl, ?_⟩
  have e := fun (D : List Value) (k : Nat) => A.hi (D := .int .i64 (readC l).1.1 :: .int .i64 (readC l).1.2.1 :: .int .i64 (readC l).1.2.2.1 :: u :: .int .i64 (readC l).2 :: D) k
  have e0 := fun D => e D 0
  simp only [Nat.add_zero] at e0
  refine h_ite (fun hc => ?_) (fun _ => cert_holds (A.app _) (hz.le hl1) hl hL fun h' q => hJ h' (hl1.trans q))
  simp only [X.den, e, gv_succ, gv_zero, vi_int, vb_bool, cmp_eql, decide_eq_true_eq] at hc
  obtain ⟨r1, r2, r3⟩ := readC_inv hc hz.inB
  refine h_call0 (Q := fun r h' => h1.le h' ∧ ∃ x, r = .tuple #[x, .int .i64 0] ∧ OwnB h1 h' x l) ?_ ?_
  · have := (s19 (p := (readC l).1.1) (r := (readC l).1.2.1) (s := (readC l).1.2.2.1) (OwnBlks.at hu) r3).mono (R' := Ret fun r h' => h1.le h' ∧ ∃ x, r = .tuple #[x, .int .i64 0] ∧ OwnB h1 h' x l) fun r cs h' ⟨e, a, b⟩ => ⟨e, a, by
      rcases b with ⟨b, _⟩ | ⟨_, x, b1, b2⟩
      · exact absurd r2 b
      · exact ⟨x, b1, by rw [← r1] at b2; exact b2⟩⟩
    simp only [SV.denL, SV.den, X.den, e0, e, gv_succ, gv_zero, vi_int]
    exact this
  rintro _ h2 ⟨hl2, x, rfl, ox⟩
  refine ⟨[x, .int .i64 0], ⟨ox.at.fit, ⟨_, rfl⟩, trivial⟩, rfl, ?_⟩
  rw [List.append_assoc]
  simp only [List.cons_append, List.nil_append]
  have f6 := e [x, .int .i64 0] 6
  have f5 := e [x, .int .i64 0] 5
  refine iteT ?_ ?_
  · simp only [X.den, f6, gv_succ, gv_zero, vi_int, vb_bool, cmp_neq]; rfl
  have hl12 := hl1.trans hl2
  refine same_holds (A.app [.int .i64 (readC l).1.1, .int .i64 (readC l).1.2.1, .int .i64 (readC l).1.2.2.1, u, .int .i64 (readC l).2, x, .int .i64 0]) f5 ox.at (hz.le hl12) fun D hD => ?_
  have A2 := (A.app [.int .i64 (readC l).1.1, .int .i64 (readC l).1.2.1, .int .i64 (readC l).1.2.2.1, u, .int .i64 (readC l).2, x, .int .i64 0]).app D
  rw [hD] at A2
  exact cert_holds A2 (hz.le hl12) hl hL fun h' q => hJ h' (hl12.trans q)
theorem func_holds (A : AtO G m i z) (hz : BytesAt h z l) (hl : l.length ≤ 100000000) (hL : L[0]? = some J) (hJ : ∀ h', h.le h' → J [.int .i64 (intOp .add .i64 (i : Int) 1)] h') : holds Try.prog R (funcT m) G L h := by
  refine h_call0 (Q := fun r h' => h.le h' ∧ ∃ u fp, r = .tuple #[.agg #[.int .i64 (readF l).1.1, .int .i64 (readF l).1.2.1, u], .int .i64 (readF l).2] ∧ OwnBlks h' u (readF l).1.2.2 fp ∧ Fresh h fp ∧ fp.Nodup) ?_ ?_
  · have := s28 hz (by omega)
    simp only [SV.denL, SV.den, A.g16]
    exact this
  rintro _ h1 ⟨hl1, u, fp, rfl, hu, -, -⟩
  refine ⟨[.int .i64 (readF l).1.1, .int .i64 (readF l).1.2.1, u, .int .i64 (readF l).2], ⟨⟨_, rfl⟩, ⟨_, rfl⟩, (OwnBlks.at hu).fit, ⟨_, rfl⟩, trivial⟩, rfl, ?_⟩
  have e := fun (D : List Value) (k : Nat) => A.hi (D := .int .i64 (readF l).1.1 :: .int .i64 (readF l).1.2.1 :: u :: .int .i64 (readF l).2 :: D) k
  have e0 := fun D => e D 0
  simp only [Nat.add_zero] at e0
  refine h_ite (fun hc => ?_) (fun _ => code_holds (A.app _) (hz.le hl1) hl hL fun h' q => hJ h' (hl1.trans q))
  simp only [X.den, e, gv_succ, gv_zero, vi_int, vb_bool, cmp_eql, decide_eq_true_eq] at hc
  obtain ⟨r1, r2, r3⟩ := readF_inv hc hz.inB
  refine h_call0 (Q := fun r h' => h1.le h' ∧ ∃ x, r = .tuple #[x, .int .i64 0] ∧ OwnB h1 h' x l) ?_ ?_
  · have := (s14 (p := (readF l).1.1) (n := (readF l).1.2.1) (OwnBlks.at hu) r3).mono (R' := Ret fun r h' => h1.le h' ∧ ∃ x, r = .tuple #[x, .int .i64 0] ∧ OwnB h1 h' x l) fun r cs h' ⟨e, a, b⟩ => ⟨e, a, by
      rcases b with ⟨b, _⟩ | ⟨_, x, b1, b2⟩
      · exact absurd r2 b
      · exact ⟨x, b1, by rw [← r1] at b2; exact b2⟩⟩
    simp only [SV.denL, SV.den, X.den, e0, e, gv_succ, gv_zero, vi_int]
    exact this
  rintro _ h2 ⟨hl2, x, rfl, ox⟩
  refine ⟨[x, .int .i64 0], ⟨ox.at.fit, ⟨_, rfl⟩, trivial⟩, rfl, ?_⟩
  rw [List.append_assoc]
  simp only [List.cons_append, List.nil_append]
  have f5 := e [x, .int .i64 0] 5
  have f4 := e [x, .int .i64 0] 4
  refine iteT ?_ ?_
  · simp only [X.den, f5, gv_succ, gv_zero, vi_int, vb_bool, cmp_neq]; rfl
  have hl12 := hl1.trans hl2
  refine same_holds (A.app [.int .i64 (readF l).1.1, .int .i64 (readF l).1.2.1, u, .int .i64 (readF l).2, x, .int .i64 0]) f4 ox.at (hz.le hl12) fun D hD => ?_
  have A2 := (A.app [.int .i64 (readF l).1.1, .int .i64 (readF l).1.2.1, u, .int .i64 (readF l).2, x, .int .i64 0]).app D
  rw [hD] at A2
  exact code_holds A2 (hz.le hl12) hl hL fun h' q => hJ h' (hl12.trans q)
end
theorem s9 {h : H} {bv vs av bt : Value} {p0 p1 p2 : Int} {bl l al tl : List Int} (hb : BytesAt h bv bl) (hs : BytesAt h vs l) (ha : IntsAt h av al) (ht : BytesAt h bt tl) (h0 : 0 ≤ p0) (h1 : 0 ≤ p1) (h2 : 0 ≤ p2) :
    CallsA Try.prog 9 (fun _ => [bv, .agg #[.int .u8 p0, .int .u8 p1, .int .u8 p2, vs], av, bt]) [] h (Ret fun r h' => h.le h' ∧ r = .bool true) := by
  refine c9 (G := [bv, .int .u8 p0, .int .u8 p1, .int .u8 p2, vs, av, bt]) ⟨hb.fit, ⟨_, rfl⟩, ⟨_, rfl⟩, ⟨_, rfl⟩, hs.fit, ha.fit, ht.fit, trivial⟩ ?_
  rw [t9_eq]
  have hB := hs.inB
  have hbl := hb.len
  refine h_call0 s10 ?_
  rintro _ g ⟨hl, rfl⟩
  refine ⟨[.bool true], ⟨⟨_, rfl⟩, trivial⟩, rfl, h_ite (fun hc => by cases hc) (fun _ => h_ite (fun _ => ⟨rfl, hl, rfl⟩) (fun hc => ?_))⟩
  replace hc : cmpOp .gtr ((vlen bv : Nat) : Int) 3000 = false := hc
  rw [hbl, cmp_gtr, decide_eq_false_iff_not] at hc
  simp only [List.cons_append, List.nil_append]
  refine h_call0 (s12 (p0 := p0) (p1 := p1) (p2 := p2) (hs.le hl) h0 h1 h2) ?_
  rintro _ g1 ⟨hk1, u, fp, rfl, hu, -, -⟩
  have hl1 := hl.trans hk1.le_nil
  refine ⟨[.int .i64 (madeP p0), .int .i64 (madeV p0 p1), u], ⟨⟨_, rfl⟩, ⟨_, rfl⟩, (OwnBlks.at hu).fit, trivial⟩, rfl, ?_⟩
  simp only [List.cons_append, List.nil_append]
  have bb := madeV_range h0 h1
  have cN := madeN_range h2
  have hBl := madeB_len (p0 := p0) (p1 := p1) (l := l) h2
  have mz : (checkM (madeP p0) (madeV p0 p1) (madeB p0 p1 p2 l)).1 = 0 := by
    rw [made_ok (w := madeV p0 p1) h0 h1 h2 hB (Int.le_refl _) (by omega) (fun b hb => hb) (by omega) (by omega)]
  refine h_call0 (s14 (p := madeP p0) (n := madeV p0 p1) (OwnBlks.at hu) (madeB_n hB)) ?_
  rintro _ g2 ⟨hl2, ⟨hc2, -⟩ | ⟨-, y, rfl, oy⟩⟩
  · exact absurd mz hc2
  refine ⟨[y, .int .i64 0], ⟨oy.at.fit, ⟨_, rfl⟩, trivial⟩, rfl, ?_⟩
  simp only [List.cons_append, List.nil_append]
  have hl02 := hl1.trans hl2
  have flen : (encF (madeP p0) (madeV p0 p1) (madeB p0 p1 p2 l)).length ≤ 100000000 := by
    have F := (checkM_good mz).fine (madeB_n hB)
    have a1 := lebI_len (madeP p0)
    have a2 := lebI_len (madeV p0 p1)
    have a3 := lebI_len (madeB p0 p1 p2 l).length
    have a4 := blks_enc_len F.2
    have h16 := F.1
    unfold encF encBs
    simp only [List.length_append]; omega
  refine h_call0 (s24 oy.at (ha.le hl02) (ht.le hl02) flen) ?_
  rintro w g3 ⟨hl3, lw, hw, hlw⟩
  refine ⟨[w], ⟨hw.fit, trivial⟩, rfl, ?_⟩
  simp only [List.cons_append, List.nil_append]
  have hl03 := hl02.trans hl3
  intro b4 hb4
  obtain ⟨g4, e4⟩ : ∃ g4, g4 = g3.put b4 (.cells (SV.denL [bv, .int .u8 p0, .int .u8 p1, .int .u8 p2, vs, av, bt, .bool true, .int .i64 (madeP p0), .int .i64 (madeV p0 p1), u, y, .int .i64 0, w] dE [(.val 0), (.val 13)]).toArray 25 (0, 0)) := ⟨_, rfl⟩
  have hl4 : g3.le g4 := by rw [e4]; exact H.le_put hb4
  rw [← e4]
  have hl04 := hl03.trans hl4
  have it : ∀ i : Nat, i < 2 → ∃ z m, Reads g4 ((⟨b4, 0, none⟩ : Addr).add (i * 1)) [z] ∧ BytesAt g4 z m ∧ m.length ≤ 100000000 := by
    intro i hi
    have : i = 0 ∨ i = 1 := by omega
    rcases this with rfl | rfl
    · exact ⟨bv, bl, by rw [e4]; exact row_at (A := []) (C := [w]) rfl rfl, hb.le hl04, by omega⟩
    · exact ⟨w, lw, by rw [e4]; exact row_at (A := [bv]) (C := []) rfl rfl, hw.le hl4, by omega⟩
  refine h_loop (fun xs h' => ∃ i : Nat, xs = [.int .i64 (i : Int)] ∧ i ≤ 2 ∧ g4.le h') (fun xs h' => 2 - (vi (gv xs 0)).toNat) ⟨0, rfl, by omega, H.le_refl _⟩ ?_
  rintro xs h8 J - ⟨i, rfl, hi, hl8⟩ hJ
  simp only [List.cons_append, List.nil_append]
  have hl08 := hl04.trans hl8
  refine h_ite (fun hc => ?_) (fun hc => ⟨rfl, hl08, rfl⟩)
  replace hc : cmpOp .lss (i : Int) 2 = true := hc
  have hc' := hc
  rw [cmp_lss, decide_eq_true_eq] at hc
  obtain ⟨z, m, hr, hz, hm⟩ := it i (by omega)
  refine ⟨fun _ => ⟨nat_ge0 i, hc', trivial⟩, h_load [z] ⟨hz.fit, trivial⟩ (fun _ => hr.le hl8) ?_⟩
  simp only [List.cons_append, List.nil_append]
  refine func_holds (J := J) ⟨rfl, by omega, rfl, rfl⟩ (hz.le hl8) hm rfl fun h' q => ?_
  rw [int_add_one (n := 2) (by omega) (by omega)]
  refine hJ _ _ ⟨i + 1, rfl, by omega, hl8.trans q⟩ ?_
  show 2 - ((((i + 1 : Nat) : Nat) : Int)).toNat < 2 - ((i : Int)).toNat
  omega
namespace wireOne
theorem own : ownKnob Try.prog.godebug = none := by kernel_rfl
set_option maxRecDepth 100000 in
theorem laidOut : laidOutB Try.prog = true := by kernel_rfl
set_option maxRecDepth 100000 in
theorem contract (H : Type) (enc : TypeId × Value → H) (W : World) (base : Nat) (args : Array Value) (ds gs : List (DataW H)) (before : List MemPlace)
    (hval : ∀ (j : Nat) t v, Try.f9.params[j]? = some t → args[j]? = some v → Value.okWide Try.prog W .any base t v)
    (hW : DataW.Whole enc Try.prog Try.f9.params.toList Rows.wireOneSpec.vars false W args.toList ds gs before) :
    Calls Try.prog 9 args W fun e W' => ∃ v, e = .returned v ∧ Rows.wireOneSpec.post enc Try.prog Try.f9 false true false false W args v W' := by
  have hW' := hW
  obtain ⟨p, q, hA, hV, rfl, hfz, hnd⟩ := hW
  rw [Try.params9] at hA hval
  obtain ⟨v0, vs0, d0, ds0, p0, q0, hargs, rfl, rfl, h0, r0⟩ := trodAll_cons hA
  obtain ⟨v1, vs1, d1, ds1, p1, q1, rfl, rfl, rfl, h1, r1⟩ := trodAll_cons r0
  obtain ⟨v2, vs2, d2, ds2, p2, q2, rfl, rfl, rfl, h2, r2⟩ := trodAll_cons r1
  obtain ⟨v3, vs3, d3, ds3, p3, q3, rfl, rfl, rfl, h3, r3⟩ := trodAll_cons r2
  obtain ⟨rfl, rfl, rfl⟩ := trodAll_nil r3
  obtain rfl : args = #[v0, v1, v2, v3] := by cases args; simp_all
  obtain ⟨a0, n0, c0, rfl⟩ := okWide_slice Try.underlying25 (hval 0 25 v0 rfl rfl)
  obtain ⟨bv, bl, he0, hbv, -⟩ := rd_bytes (Rd.of h0)
  obtain rfl : Value.slice a0 n0 c0 = bv := by simpa [Value.cells] using he0
  obtain ⟨cs1, rfl, -⟩ := okWide_struct Try.underlying27 (hval 1 27 v1 rfl rfl)
  obtain ⟨p0, p1, p2, vs, l, he1, g0, g1, g2, hs⟩ := rd_spec (Rd.of h1)
  obtain rfl : cs1 = ([Value.int .u8 p0, .int .u8 p1, .int .u8 p2, vs]).toArray := by rw [← he1]; simp [Value.cells]
  obtain ⟨a2, n2, c2, rfl⟩ := okWide_slice Try.underlying52 (hval 2 52 v2 rfl rfl)
  obtain ⟨av, al, he2, hav⟩ := rd_nums (Rd.of h2)
  obtain rfl : Value.slice a2 n2 c2 = av := by simpa [Value.cells] using he2
  obtain ⟨a3, n3, c3, rfl⟩ := okWide_slice Try.underlying25 (hval 3 25 v3 rfl rfl)
  obtain ⟨bt, tl, he3, hbt, -⟩ := rd_bytes (Rd.of h3)
  obtain rfl : Value.slice a3 n3 c3 = bt := by simpa [Value.cells] using he3
  refine (law_calls (f := 9) (args := [.slice a0 n0 c0, .agg ([Value.int .u8 p0, .int .u8 p1, .int .u8 p2, vs]).toArray, .slice a2 n2 c2, .slice a3 n3 c3]) (s9 hbv hs hav hbt g0 g1 g2)).mono ?_
  rintro e' W' ⟨rfl, bel⟩
  exact ⟨_, rfl, law_post laidOut hW' rfl (of_decide_eq_true (by kernel_rfl)) rfl Try.underlying4 rfl bel⟩
set_option maxRecDepth 100000 in
theorem lifted (os : Os) (started : os.Started) (H : Type) (enc : TypeId × Value → H) :
    ReturnsInHanded {} Try.checked os 9 .any (Rows.wireOneSpec.pre6 enc Try.prog Try.f9 Rows.wireOneRow.domain false) (Rows.wireOneSpec.post enc Try.prog Try.f9 false true false false) := by
  refine returnsInHanded_of_change (C := Try.checked) own started (by kernel_rfl) Try.func9
    (ChangeSpec.witness6 (enc := enc) (C := Try.checked) false ⟨#[], #[.slice none 0 0, .agg #[.int .u8 0, .int .u8 0, .int .u8 0, .slice none 0 0], .slice none 0 0, .slice none 0 0], []⟩ 8 (by kernel_rfl) (by kernel_rfl) (by kernel_rfl) (by kernel_rfl)) ?_
  intro W base args ds gs before hval hW _ _
  exact contract H enc W base args ds gs before hval hW
set_option maxRecDepth 100000 in
theorem proved : Rows.WireOneSaid :=
  OpenClaim.holds_of_wide 9 Try.f9 rfl rfl rfl rfl rfl rfl rfl ⟨rfl, rfl, rfl, rfl, rfl⟩ rfl rfl rfl rfl rfl (by kernel_rfl) Try.func9 (by kernel_rfl)
    (of_decide_eq_true (by kernel_rfl)) (by unfold Func.isWrapper; first | (rw [if_pos (by decide +kernel)]; kernel_rfl) | (rw [if_neg (by decide +kernel)]; exact ⟨rfl, rfl⟩))
    (fun os started H enc _ => lifted os started H enc)
end wireOne
/-- The row, under a short name, for the claim. -/
theorem wireOneHolds : Rows.WireOneSaid := wireOne.proved
#print axioms wireOneHolds
end Go.Proofs.Ythnoplfjcdkacaa
