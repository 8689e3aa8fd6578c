/-
  The law PathsTurned answers true. Conditions: none.
-/
import Derived.Test.YtgcaicdmjbkplaaDoorR4Lay
import Derived.Test.YtgcaicdmjbkplaaDoorR4P
import Derived.Test.YtgcaicdmjbkplaaDoorR4Ltb
set_option linter.unusedVariables false
set_option linter.unusedSimpArgs false
namespace Go.Proofs.YtgcaicdmjbkplaaDoor
open Go Go.ChangeShapes Go.WideShapes Go.ChangeAt Go.RowKit

def hasC (c q m : Nat) (k : Out) : Out := (.call 16 [(.agg [(.val c)]), (.int .i64 (.op .rem .i64 (.conv .i64 (.var q)) (.len 12)))] [] [] [] [(false, [.bool])] k)
def leafT (m : Nat) : Out :=
  (.call 13 [(.agg [(.val (m + 1))])] [] [] [] [(true, [.sl])]
  (.call 14 [(.loc 13 0), (.agg [(.val (m + 0))])] [13] [[(.val (m + 2))]] [[.sl]] [(false, [.bool])]
  (.call 15 [(.agg [(.val (m + 3))]), (.agg [(.val (m + 1))])] [] [] [] [(false, [.bool])]
  (.need (.var (m + 5)) [(.cmp .neq (.len 12) (.lit 0))]
  (.ite (.var (m + 5))
   (hasC (m + 0) 4 m
   (.ite (.var (m + 6))
    (hasC (m + 1) 5 m
    (.done (.bool (.var (m + 7))) []))
    (.done (.bool (.tt true)) [])))
   (.done (.bool (.tt false)) []))))))
def q1T (k : Out) : Out := (.call 12 [(.val 9)] [] [] [] [(true, [.sl])] k)
def q2T (k : Out) : Out := (.call 12 [(.val 12)] [] [] [] [(true, [.sl])] k)
def reachT (m : Nat) : Out :=
  (.both (q1T (.both (q2T (.both (leafT m) (leafT m))) (.both (.both (q2T (leafT m)) (q2T (leafT m))) (.both (q2T (leafT m)) (q2T (leafT m))))))
   (.both (.both (q1T (.both (q2T (leafT m)) (q2T (leafT m)))) (q1T (q2T (leafT m)))) (.both (q1T (.both (q2T (leafT m)) (q2T (leafT m)))) (q1T (q2T (leafT m))))))
def bX : X := .op .rem .i64 (.conv .i64 (.var 4)) (.len 12)
def nX : X := .op .rem .i64 (.conv .i64 (.var 5)) (.len 12)
theorem pick3_eq : pick3 = (.need (.tt true) [(.cmp .neq (.len 12) (.lit 0))] (.need (.tt true) [(.cmp .geq bX (.lit 0)), (.cmp .lss bX (.len 12))] (.need (.tt true) [(.cmp .neq (.len 12) (.lit 0))]
    (.load (.tt true) (.fld (.fld (.idx (.var 12) bX 5) 1) 0) [.int .u8]
    (.ite (.cmp .eql (.var 13) (.lit 3))
     (.store (.fld (.idx (.var 12) bX 5) 1) [(.int .u8 (.lit 1)), (.int .i64 (.lit 0)), (.int .i64 nX), (.int .i64 (.lit 0))] (reachT 14))
     (.ite (.cmp .eql (.var 13) (.lit 1))
      (.load (.tt true) (.fld (.fld (.idx (.var 12) bX 5) 1) 2) [.int .i64]
      (.store (.fld (.idx (.var 12) bX 5) 1) [(.int .u8 (.lit 2)), (.int .i64 (.lit 0)), (.int .i64 (.var 14)), (.int .i64 nX)] (reachT 15)))
      (.done (.bool (.tt true)) []))))))) := by kernel_rfl
theorem blk_end4 {h : H} {v : Value} {bs : List Blk} {fp : List Nat} {i : Nat} {x : Blk} (k : OwnBlks h v bs fp) (hnd : fp.Nodup) (hx : bs[i]? = some x) (en : Fin4) :
    Writable h ((vaddr v).add (i * 5 + 1)) 4 ∧ OwnBlks (h.sets ((vaddr v).add (i * 5 + 1)) (endC en)) v (bs.set i ⟨x.ins, en⟩) fp ∧ KeptH h (h.sets ((vaddr v).add (i * 5 + 1)) (endC en)) fp := by
  obtain ⟨c, f, L1, L2, fr, K⟩ := k.lens hx
  obtain ⟨u, rfl, hs⟩ := K.rep
  obtain ⟨k1, k2, k3⟩ := K.store blkF_good hnd (o := 1) (N := endC en) (A := [u]) (B := endC x.en) (C := []) (by simp) rfl rfl (by simp [endC])
  refine ⟨k1, k3 _ fun ⟨u', e1, e2⟩ => ?_, fun b hb _ => k2 b fun hr => hb (by rw [K.foot]; simp [hr])⟩
  have : u = u' := by simp only [List.cons.injEq] at e1; exact e1.1
  exact ⟨u, by simp, by rw [this]; exact e2⟩
/-- An edge more. -/
theorem more_edge {B : List Blk} {i n : Nat} {x : Blk} {en : Fin4} (hB : OkB B) (hx : B[i]? = some x) (hn : n < B.length) (hs : ∀ y ∈ nextL x.en, y ∈ nextL en) (hm : (n : Int) ∈ nextL en) (hr : ∀ y ∈ nextL en, 0 ≤ y ∧ y < (B.length : Int)) :
    OkB (B.set i ⟨x.ins, en⟩) ∧ (∀ y, Rch B y → Rch (B.set i ⟨x.ins, en⟩) y) ∧ (Rch B i → Rch (B.set i ⟨x.ins, en⟩) n) := by
  obtain ⟨hlt, hxe⟩ := List.getElem?_eq_some_iff.1 hx
  have hat : (B.set i ⟨x.ins, en⟩)[i]? = some ⟨x.ins, en⟩ := by rw [List.getElem?_set_self hlt]
  have hne : ∀ k, k ≠ i → (B.set i ⟨x.ins, en⟩)[k]? = B[k]? := fun k hk => List.getElem?_set_ne (fun e => hk e.symm)
  have hsub : ∀ k y, y ∈ nextN B k → y ∈ nextN (B.set i ⟨x.ins, en⟩) k := fun k y hy => by
    by_cases e : k = i
    · subst e
      rw [nextN_at hx] at hy
      rw [nextN_at hat]
      obtain ⟨z, hz, rfl⟩ := List.mem_map.1 hy
      exact List.mem_map.2 ⟨z, hs z hz, rfl⟩
    · unfold nextN at hy ⊢
      rw [hne k e]; exact hy
  have hrch : ∀ y, Rch B y → Rch (B.set i ⟨x.ins, en⟩) y := fun y hy => by
    induction hy with
    | zero => exact .zero
    | step hk hn ih => exact .step ih (hsub _ _ hn)
  refine ⟨fun b hb y hy => ?_, hrch, fun hi => .step (hrch i hi) ?_⟩
  · rw [List.length_set]
    rcases List.mem_or_eq_of_mem_set hb with q | rfl
    · exact hB b q y hy
    · exact hr y hy
  · rw [nextN_at hat]; exact List.mem_map.2 ⟨_, hm, by simp⟩
theorem rem_val {c : Int} {m : Nat} (hc : 0 ≤ c ∧ c ≤ 255) (hm : 0 < m) : intOp .rem .i64 (IntKind.i64.wrap c) (m : Int) = (((c.toNat % m : Nat) : Nat) : Int) := by
  rw [wrap_i64 (by omega) (by omega)]
  simp only [intOp]
  rw [Int.tmod_eq_emod_of_nonneg hc.1]
  have : c = ((c.toNat : Nat) : Int) := by omega
  conv => lhs; rw [this]
  exact (Int.natCast_emod _ _).symm
section
variable {G : List Value} {h0 g : H} {u v : Value} {m i n : Nat} {c4 c5 : Int} {B B' : List Blk} {L : Lv}
/-- What is behind the store. -/
structure AtT (G : List Value) (m : Nat) (c4 c5 : Int) (u v : Value) : Prop where
  len : G.length = m
  lt : 13 ≤ m
  g4 : gv G 4 = .int .u8 c4
  g5 : gv G 5 = .int .u8 c5
  g9 : gv G 9 = u
  g12 : gv G 12 = v
theorem AtT.old (A : AtT G m c4 c5 u v) (D : List Value) : gv (G ++ D) 4 = .int .u8 c4 ∧ gv (G ++ D) 5 = .int .u8 c5 ∧ gv (G ++ D) 9 = u ∧ gv (G ++ D) 12 = v := by
  have := A.lt
  have := A.len
  refine ⟨?_, ?_, ?_, ?_⟩
  · rw [gv_of_lt (by omega)]; exact A.g4
  · rw [gv_of_lt (by omega)]; exact A.g5
  · rw [gv_of_lt (by omega)]; exact A.g9
  · rw [gv_of_lt (by omega)]; exact A.g12
theorem AtT.hi (A : AtT G m c4 c5 u v) {D : List Value} (k : Nat) {c : Value} (hc : gv D k = c) : gv (G ++ D) (m + k) = c := (gv_at (by rw [A.len])).trans hc
theorem leaf_holds {h : H} {vw vn : Value} {ws wn : List Int} {fw fn : List Nat} (A : AtT G m c4 c5 u v) (b4 : 0 ≤ c4 ∧ c4 ≤ 255) (b5 : 0 ≤ c5 ∧ c5 ≤ 255) (hvl : vlen v = B.length) (hB1 : 1 ≤ B.length) (hB7 : B.length ≤ 7) (hi : i = c4.toNat % B.length) (hn : n = c5.toNat % B.length)
    (hle : h.le g) (ht : Tab h) (hw : SetIs g vw ws fw) (hnw : SetIs g vn wn fn) (hr : ∀ x, (hasW ws x = true ↔ Rch B x)) (hrn : ∀ x, (hasW wn x = true ↔ Rch B' x)) (hlt : ∀ x, Rch B x → x < 7) (hlt' : ∀ x, Rch B' x → x < 7)
    (hup : ∀ x, Rch B x → Rch B' x) (hst : Rch B i → Rch B' n) :
    holds Tryd.prog (Ret fun r h' => h.le h' ∧ r = .bool true) (leafT m) (G ++ [vw, vn]) L g := by
  have hwd := rowF_words hw.1
  have hnd := rowF_words hnw.1
  have hi7 : i < 7 := by rw [hi]; have := Nat.mod_lt c4.toNat (show 0 < B.length by omega); omega
  have hn7 : n < 7 := by rw [hn]; have := Nat.mod_lt c5.toNat (show 0 < B.length by omega); omega
  refine h_call0 (Q := fun r h' => KeptH g h' [] ∧ ∃ v' fp, r = .agg #[v'] ∧ SetIs h' v' wn fp ∧ Fresh g fp) ?_ ?_
  · have := s13 hnd hnw.2.1 hnw.2.2
    simp only [SV.denL, SV.den, A.hi (D := [vw, vn]) 1 rfl]
    exact this
  rintro _ g1 ⟨hk1, vc, fc, rfl, hc, hfc⟩
  refine ⟨[vc], ⟨hc.fit, trivial⟩, rfl, ?_⟩
  simp only [List.append_assoc, List.cons_append, List.nil_append]
  have hle1 : h.le g1 := hle.trans hk1.le_nil
  have hwd1 : WordsAt g1 vw ws := SlAt.le u64C_mono hk1.le_nil hwd
  refine h_call1 (Q := fun r c h' => (∃ b, r = .bool b) ∧ ∃ v' ws' fp', c = [v'] ∧ SetIs h' v' ws' fp' ∧ (∀ y, hasW ws' y = (hasW wn y || hasW ws y)) ∧ KeptH g1 h' fc ∧ ∀ x ∈ fp', x ∈ fc ∨ g1 x = none) ?_ ?_
  · have := s14k (ht.le hle1) hc hwd1 hw.2.1 hw.2.2 (fun y hy => hlt' y ((hrn y).1 hy)) (fun y hy => hlt y ((hr y).1 hy))
    simp only [SV.denL, SV.den, A.hi (D := [vw, vn, vc]) 0 rfl, A.hi (D := [vw, vn, vc]) 2 rfl]
    exact this
  rintro _ c g2 ⟨⟨b, rfl⟩, va, wa, fa, rfl, ha, hwa, hk2, hn2⟩
  refine ⟨⟨ha.fit, trivial⟩, [.bool b], ⟨⟨_, rfl⟩, trivial⟩, rfl, ?_⟩
  simp only [List.append_assoc, List.cons_append, List.nil_append]
  have hg2 : g.le g2 := hk2.le hk1.le_nil hfc
  have hle2 : h.le g2 := hle.trans hg2
  have hwd2 : WordsAt g2 vw ws := SlAt.le u64C_mono hg2 hwd
  have hnd2 : WordsAt g2 vn wn := SlAt.le u64C_mono hg2 hnd
  refine h_call0 (Q := fun r h' => g2.le h' ∧ r = .bool (decide (allW wa = allW wn))) ?_ ?_
  · have := s15 (ht.le hle2) (rowF_words ha.1) ha.2.1 ha.2.2 hnd2 hnw.2.1 hnw.2.2
    simp only [SV.denL, SV.den, A.hi (D := [vw, vn, vc, va, .bool b]) 3 rfl, A.hi (D := [vw, vn, vc, va, .bool b]) 1 rfl]
    exact this
  rintro _ g3 ⟨hl3, rfl⟩
  have hsame : allW wa = allW wn := allW_eq fun x => by
    rw [hwa]
    cases e : hasW ws x with
    | true => rw [(hrn x).2 (hup x ((hr x).1 e))]; rfl
    | false => simp
  rw [hsame, decide_eq_true rfl]
  refine ⟨[.bool true], ⟨⟨_, rfl⟩, trivial⟩, rfl, ?_⟩
  simp only [List.append_assoc, List.cons_append, List.nil_append]
  have hle3 : h.le g3 := hle2.trans hl3
  have rv : ∀ (D : List Value), vi (X.den (G ++ D) (.op .rem .i64 (.conv .i64 (.var 4)) (.len 12))) = (i : Int) ∧ vi (X.den (G ++ D) (.op .rem .i64 (.conv .i64 (.var 5)) (.len 12))) = (n : Int) := fun D => by
    obtain ⟨o4, o5, o9, o12⟩ := A.old D
    simp only [X.den, o4, o5, o12, vi_int, hvl, rem_val b4 (show 0 < B.length by omega), rem_val b5 (show 0 < B.length by omega), ← hi, ← hn]
    exact ⟨by first | trivial | rfl, by first | trivial | rfl⟩
  refine ⟨fun _ => ?_, iteT ?_ ?_⟩
  · simp only [needs, X.den, (A.old _).2.2.2, hvl, vi_int, vb_bool, cmp_neq, decide_eq_true_eq, and_true]; omega
  · show vb (gv _ (m + 5)) = true
    rw [A.hi (D := [vw, vn, vc, va, .bool b, .bool true]) 5 rfl]; rfl
  refine h_call0 (Q := fun r h' => h' = g3 ∧ r = .bool (hasW ws i)) ?_ ?_
  · have := s16 (x := i) (SlAt.le u64C_mono hl3 hwd2) hw.2.1 (by omega)
    simp only [SV.denL, SV.den, A.hi (D := [vw, vn, vc, va, .bool b, .bool true]) 0 rfl, (rv _).1]
    exact this
  rintro _ g4 ⟨e4, rfl⟩
  have e4' := e4.symm
  subst e4'
  refine ⟨[.bool (hasW ws i)], ⟨⟨_, rfl⟩, trivial⟩, rfl, ?_⟩
  simp only [List.append_assoc, List.cons_append, List.nil_append]
  refine h_ite (fun hc6 => ?_) (fun _ => ⟨rfl, hle3, rfl⟩)
  replace hc6 : vb (gv (G ++ [vw, vn, vc, va, .bool b, .bool true, .bool (hasW ws i)]) (m + 6)) = true := hc6
  rw [A.hi (D := [vw, vn, vc, va, .bool b, .bool true, .bool (hasW ws i)]) (c := .bool (hasW ws i)) 6 rfl, vb_bool] at hc6
  refine h_call0 (Q := fun r h' => h' = g3 ∧ r = .bool (hasW wn n)) ?_ ?_
  · have := s16 (x := n) (SlAt.le u64C_mono hl3 hnd2) hnw.2.1 (by omega)
    simp only [SV.denL, SV.den, A.hi (D := [vw, vn, vc, va, .bool b, .bool true, .bool (hasW ws i)]) 1 rfl, (rv _).2]
    exact this
  rintro _ g5 ⟨e5, rfl⟩
  have e5' := e5.symm
  subst e5'
  rw [(hrn n).2 (hst ((hr i).1 hc6))]
  refine ⟨[.bool true], ⟨⟨_, rfl⟩, trivial⟩, rfl, rfl, hle3, ?_⟩
  simp only [List.append_assoc, List.cons_append, List.nil_append]
  show Value.bool (vb (gv _ (m + 7))) = _
  rw [A.hi (D := [vw, vn, vc, va, .bool b, .bool true, .bool (hasW ws i), .bool true]) 7 rfl]; rfl
theorem reach_holds {h : H} (A : AtT G m c4 c5 u v) (b4 : 0 ≤ c4 ∧ c4 ≤ 255) (b5 : 0 ≤ c5 ∧ c5 ≤ 255) (hvl : vlen v = B.length) (hB : OkB B) (hB' : OkB B') (hBl : B'.length = B.length) (hB1 : 1 ≤ B.length) (hB7 : B.length ≤ 7) (hi : i = c4.toNat % B.length) (hn : n = c5.toNat % B.length)
    (hle : h.le g) (ht : Tab h) (hu : BlksAt g u B) (hv : BlksAt g v B') (hup : ∀ x, Rch B x → Rch B' x) (hst : Rch B i → Rch B' n) :
    holds Tryd.prog (Ret fun r h' => h.le h' ∧ r = .bool true) (reachT m) G L g := by
  have hlt : ∀ x, Rch B x → x < 7 := fun x hx => by have := hx.lt hB hB1; omega
  have hlt' : ∀ x, Rch B' x → x < 7 := fun x hx => by have := hx.lt hB' (by omega); omega
  have L1 : ∀ (k : Out), (∀ (g1 : H) (vw : Value) (ws : List Int) (fw : List Nat), g.le g1 → SetIs g1 vw ws fw → (∀ x, (hasW ws x = true ↔ Rch B x)) → holds Tryd.prog (Ret fun r h' => h.le h' ∧ r = .bool true) k (G ++ [vw]) L g1) →
      holds Tryd.prog (Ret fun r h' => h.le h' ∧ r = .bool true) (q1T k) G L g := fun k hk => by
    refine h_call0 (Q := fun r h' => g.le h' ∧ ∃ vw ws fp, r = .agg #[vw] ∧ SetIs h' vw ws fp ∧ ∀ x, (hasW ws x = true ↔ Rch B x)) ?_ ?_
    · have := s12 hu hB hB1 (by omega)
      simp only [SV.denL, SV.den, A.g9]
      exact this
    rintro _ g1 ⟨hl1, vw, ws, fw, rfl, hw, hr⟩
    exact ⟨[vw], ⟨hw.fit, trivial⟩, rfl, hk g1 vw ws fw hl1 hw hr⟩
  have L2 : ∀ (g1 : H) (vw : Value) (ws : List Int) (fw : List Nat), g.le g1 → SetIs g1 vw ws fw → (∀ x, (hasW ws x = true ↔ Rch B x)) → ∀ k, (∀ (g2 : H) (vn : Value) (wn : List Int) (fn : List Nat), h.le g2 → SetIs g2 vw ws fw → SetIs g2 vn wn fn → (∀ x, (hasW wn x = true ↔ Rch B' x)) →
        holds Tryd.prog (Ret fun r h' => h.le h' ∧ r = .bool true) k (G ++ [vw, vn]) L g2) →
      holds Tryd.prog (Ret fun r h' => h.le h' ∧ r = .bool true) (q2T k) (G ++ [vw]) L g1 := fun g1 vw ws fw hl1 hw hr k hk => by
    refine h_call0 (Q := fun r h' => g1.le h' ∧ ∃ vn wn fp, r = .agg #[vn] ∧ SetIs h' vn wn fp ∧ ∀ x, (hasW wn x = true ↔ Rch B' x)) ?_ ?_
    · have := s12 (SlAt.le blkC_mono hl1 hv) hB' (by omega) (by omega)
      simp only [SV.denL, SV.den, (A.old [vw]).2.2.2]
      exact this
    rintro _ g2 ⟨hl2, vn, wn, fn, rfl, hn', hrn⟩
    refine ⟨[vn], ⟨hn'.fit, trivial⟩, rfl, ?_⟩
    have := hk g2 vn wn fn (hle.trans (hl1.trans hl2)) (hw.agree (hl2.kept.agree hw.live fun b _ => by simp)) hn' hrn
    simpa [List.append_assoc] using this
  have F : ∀ (g1 : H) (vw : Value) (ws : List Int) (fw : List Nat), g.le g1 → SetIs g1 vw ws fw → (∀ x, (hasW ws x = true ↔ Rch B x)) → ∀ (g2 : H) (vn : Value) (wn : List Int) (fn : List Nat), h.le g2 → SetIs g2 vw ws fw → SetIs g2 vn wn fn → (∀ x, (hasW wn x = true ↔ Rch B' x)) →
      holds Tryd.prog (Ret fun r h' => h.le h' ∧ r = .bool true) (leafT m) (G ++ [vw, vn]) L g2 := fun g1 vw ws fw hl1 hw hr g2 vn wn fn hl2 hw2 hn2 hrn =>
    leaf_holds A b4 b5 hvl hB1 hB7 hi hn hl2 ht hw2 hn2 hr hrn hlt hlt' hup hst
  have one : ∀ (g1 : H) (vw : Value) (ws : List Int) (fw : List Nat) (a : g.le g1) (b : SetIs g1 vw ws fw) (c : ∀ x, (hasW ws x = true ↔ Rch B x)), _ := fun g1 vw ws fw a b c => L2 g1 vw ws fw a b c (leafT m) (F g1 vw ws fw a b c)
  have two : ∀ (g1 : H) (vw : Value) (ws : List Int) (fw : List Nat) (a : g.le g1) (b : SetIs g1 vw ws fw) (c : ∀ x, (hasW ws x = true ↔ Rch B x)), _ := fun g1 vw ws fw a b c => L2 g1 vw ws fw a b c (.both (leafT m) (leafT m)) (fun g2 vn wn fn d e f i' => ⟨F g1 vw ws fw a b c g2 vn wn fn d e f i', F g1 vw ws fw a b c g2 vn wn fn d e f i'⟩)
  exact ⟨L1 _ fun g1 vw ws fw a b c => ⟨two g1 vw ws fw a b c, ⟨one g1 vw ws fw a b c, one g1 vw ws fw a b c⟩, one g1 vw ws fw a b c, one g1 vw ws fw a b c⟩,
    ⟨L1 _ fun g1 vw ws fw a b c => ⟨one g1 vw ws fw a b c, one g1 vw ws fw a b c⟩, L1 _ fun g1 vw ws fw a b c => one g1 vw ws fw a b c⟩, L1 _ fun g1 vw ws fw a b c => ⟨one g1 vw ws fw a b c, one g1 vw ws fw a b c⟩, L1 _ fun g1 vw ws fw a b c => one g1 vw ws fw a b c⟩
end
set_option maxRecDepth 8000 in
theorem pick_holds {h g2 g3 : H} {vs u v : Value} {p0 p1 p2 c4 c5 P V : Int} {B : List Blk} {fq : List Nat} (b4 : 0 ≤ c4 ∧ c4 ≤ 255) (b5 : 0 ≤ c5 ∧ c5 ≤ 255) (ht : Tab h) (hl2 : h.le g2) (hl23 : g2.le g3) (hu : BlksAt g2 u B) (own : OwnBlks g3 v B fq) (nd : fq.Nodup) (hfq : Fresh g2 fq)
    (hB : OkB B) (hB1 : 1 ≤ B.length) (hB7 : B.length ≤ 7) :
    holds Tryd.prog (Ret fun r h' => h.le h' ∧ r = .bool true) pick3 [.int .u8 p0, .int .u8 p1, .int .u8 p2, vs, .int .u8 c4, .int .u8 c5, .bool true, .int .i64 P, .int .i64 V, u, .int .i64 P, .int .i64 V, v] [] g3 := by
  rw [pick3_eq]
  have hvl := own.at.len
  obtain ⟨i, hi⟩ : ∃ i, i = c4.toNat % B.length := ⟨_, rfl⟩
  obtain ⟨n, hn⟩ : ∃ n, n = c5.toNat % B.length := ⟨_, rfl⟩
  have hil : i < B.length := by rw [hi]; exact Nat.mod_lt _ (by omega)
  have hnl : n < B.length := by rw [hn]; exact Nat.mod_lt _ (by omega)
  have hx : B[i]? = some B[i] := List.getElem?_eq_getElem hil
  have hxm : B[i] ∈ B := List.getElem_mem _
  generalize B[i] = x at hx hxm
  obtain ⟨G, hG⟩ : ∃ G, G = [Value.int .u8 p0, .int .u8 p1, .int .u8 p2, vs, .int .u8 c4, .int .u8 c5, .bool true, .int .i64 P, .int .i64 V, u, .int .i64 P, .int .i64 V, v] := ⟨_, rfl⟩
  have hGl : G.length = 13 := by rw [hG]; rfl
  have A0 : ∀ D : List Value, AtT (G ++ D) (13 + D.length) c4 c5 u v := fun D => by
    refine ⟨by rw [List.length_append, hGl], by omega, ?_, ?_, ?_, ?_⟩ <;> (rw [gv_of_lt (by omega), hG]; rfl)
  have rv : ∀ (D : List Value), vi (bX.den (G ++ D)) = (i : Int) ∧ vi (nX.den (G ++ D)) = (n : Int) := fun D => by
    obtain ⟨o4, o5, o9, o12⟩ := (A0 D).old []
    rw [List.append_nil] at o4 o5 o12
    simp only [bX, nX, X.den, o4, o5, o12, vi_int, hvl, rem_val b4 (show 0 < B.length by omega), rem_val b5 (show 0 < B.length by omega), ← hi, ← hn]
    exact ⟨by first | trivial | rfl, by first | trivial | rfl⟩
  have g12 : ∀ D : List Value, gv (G ++ D) 12 = v := fun D => (A0 D).g12
  have pe : ∀ (D : List Value) (o : Nat), PE.den (G ++ D) (.fld (.fld (.idx (.var 12) bX 5) 1) o) = (vaddr v).add (i * 5 + (1 + o)) := fun D o => by
    simp only [PE.den, g12, (rv D).1, Int.toNat_natCast, add_add, Nat.add_assoc]
  have pe1 : ∀ (D : List Value), PE.den (G ++ D) (.fld (.idx (.var 12) bX 5) 1) = (vaddr v).add (i * 5 + 1) := fun D => by
    simp only [PE.den, g12, (rv D).1, Int.toNat_natCast, add_add]
  have cell : ∀ o c, (endC x.en)[o]? = some c → Reads g3 ((vaddr v).add (i * 5 + (1 + o))) [c] := fun o c hc j y hj => by
    obtain ⟨rfl, rfl⟩ := get_one hj
    have := blks_get own.at hx o _ hc
    rw [add_add] at this ⊢
    rw [show i * 5 + (1 + o) + 0 = i * 5 + 1 + o by omega]; exact this
  have hl3 := hl2.trans hl23
  rw [← hG]
  have ndl : ∀ D : List Value, needs (G ++ D) [(.cmp .neq (.len 12) (.lit 0))] := fun D => by
    simp only [needs, X.den, g12, hvl, vi_int, vb_bool, cmp_neq, decide_eq_true_eq, and_true]; omega
  have ndl0 := ndl []
  rw [List.append_nil] at ndl0
  have rv0 := rv []
  rw [List.append_nil] at rv0
  have pe0 := pe [] 0
  rw [List.append_nil] at pe0
  refine ⟨fun _ => ndl0, fun _ => ?_, fun _ => ndl0, h_load [.int .u8 x.en.kind] ⟨⟨_, rfl⟩, trivial⟩ (fun _ => by rw [pe0]; exact cell 0 _ rfl) ?_⟩
  · have e12 := g12 []
    rw [List.append_nil] at e12
    refine ⟨?_, ?_, trivial⟩
    · show cmpOp .geq (vi (bX.den G)) 0 = true
      rw [rv0.1]; exact ge0 i
    · show cmpOp .lss (vi (bX.den G)) ((vlen (gv G 12) : Nat) : Int) = true
      rw [rv0.1, e12, hvl]; exact ltN hil
  have k13 : ∀ D : List Value, gv (G ++ (.int .u8 x.en.kind :: D)) 13 = .int .u8 x.en.kind := fun D => gv_at (j := 0) (by omega)
  have fin : ∀ {en : Fin4} {D : List Value} {m : Nat} (hD : 13 + D.length = m) (hs : ∀ y ∈ nextL x.en, y ∈ nextL en) (hm : (n : Int) ∈ nextL en) (hr : ∀ y ∈ nextL en, 0 ≤ y ∧ y < (B.length : Int)),
      holds Tryd.prog (Ret fun r h' => h.le h' ∧ r = .bool true) (reachT m) (G ++ D) [] (g3.sets ((vaddr v).add (i * 5 + 1)) (endC en)) := fun {en D m} hD hs hm hr => by
    subst hD
    obtain ⟨w1, w2, w3⟩ := blk_end4 own nd hx en
    obtain ⟨e1, e2, e3⟩ := more_edge hB hx hnl hs hm hr
    have hle5 : g2.le (g3.sets ((vaddr v).add (i * 5 + 1)) (endC en)) := w3.le hl23 hfq
    exact reach_holds (A0 D) b4 b5 hvl hB e1 (by rw [List.length_set]) hB1 hB7 hi hn (hl2.trans hle5) ht (SlAt.le blkC_mono hle5 hu) w2.at e2 e3
  refine h_ite (fun hc => ?_) (fun hc => h_ite (fun hc2 => ?_) (fun hc2 => ⟨rfl, hl3, rfl⟩))
  · simp only [X.den, k13, vi_int, vb_bool, cmp_eql, decide_eq_true_eq] at hc
    have hnx : nextL x.en = [] := by unfold nextL; rw [if_neg (by omega), if_neg (by omega)]
    refine h_store _ (endC ⟨1, 0, n, 0⟩) (pe1 _) ?_ (blk_end4 own nd hx ⟨1, 0, n, 0⟩).1 (fin (en := ⟨1, 0, n, 0⟩) (D := [.int .u8 x.en.kind]) rfl (by rw [hnx]; simp) (by simp [nextL]) (fun y hy => by simp [nextL] at hy; omega))
    simp only [SV.denL, SV.den, (rv _).2]; rfl
  · simp only [X.den, k13, vi_int, vb_bool, cmp_eql, decide_eq_true_eq] at hc2
    have hnx : nextL x.en = [x.en.to] := by unfold nextL; rw [if_pos (.inl hc2)]
    have hto := hB x hxm x.en.to (by rw [hnx]; simp)
    refine h_load [.int .i64 x.en.to] ⟨⟨_, rfl⟩, trivial⟩ (fun _ => by rw [pe]; exact cell 2 _ rfl) ?_
    simp only [List.append_assoc, List.cons_append, List.nil_append]
    have k14 : gv (G ++ [.int .u8 x.en.kind, .int .i64 x.en.to]) 14 = .int .i64 x.en.to := gv_at (j := 1) (by omega)
    have hnl2 : nextL ⟨2, 0, x.en.to, (n : Int)⟩ = if x.en.to = (n : Int) then [x.en.to] else [x.en.to, (n : Int)] := by unfold nextL; simp
    refine h_store _ (endC ⟨2, 0, x.en.to, n⟩) (pe1 _) ?_ (blk_end4 own nd hx ⟨2, 0, x.en.to, n⟩).1 (fin (en := ⟨2, 0, x.en.to, n⟩) (D := [.int .u8 x.en.kind, .int .i64 x.en.to]) rfl (fun y hy => ?_) ?_ (fun y hy => ?_))
    · simp only [SV.denL, SV.den, X.den, k14, (rv _).2, vi_int]; rfl
    · rw [hnx, List.mem_singleton] at hy; subst hy; rw [hnl2]; split <;> simp
    · rw [hnl2]; split
      · rename_i e; rw [e]; simp
      · simp
    · rw [hnl2] at hy
      split at hy
      · rw [List.mem_singleton] at hy; subst hy; exact hto
      · simp at hy; rcases hy with rfl | rfl
        · exact hto
        · omega
set_option maxRecDepth 8000 in
theorem s3 {h : H} {vs : Value} {p0 p1 p2 c4 c5 : Int} {l : List Int} (ht : Tab h) (hs : BytesAt h vs l) (h0 : 0 ≤ p0) (h1 : 0 ≤ p1) (h2 : 0 ≤ p2) (b4 : 0 ≤ c4 ∧ c4 ≤ 255) (b5 : 0 ≤ c5 ∧ c5 ≤ 255) :
    CallsA Tryd.prog 3 (fun _ => [.agg #[.int .u8 p0, .int .u8 p1, .int .u8 p2, vs], .int .u8 c4, .int .u8 c5]) [] h (Ret fun r h' => h.le h' ∧ r = .bool true) := by
  refine c3 (G := [.int .u8 p0, .int .u8 p1, .int .u8 p2, vs, .int .u8 c4, .int .u8 c5]) ⟨⟨_, rfl⟩, ⟨_, rfl⟩, ⟨_, rfl⟩, hs.fit, ⟨_, rfl⟩, ⟨_, rfl⟩, trivial⟩ ?_
  obtain ⟨hB, hB1, hB7⟩ := made_B h0 h1 h2 hs.inB
  refine h_call0 s10 ?_
  rintro _ g1 ⟨hl1, rfl⟩
  refine ⟨[.bool true], ⟨⟨_, rfl⟩, trivial⟩, rfl, h_ite (fun hc => by cases hc) (fun _ => ?_)⟩
  simp only [List.cons_append, List.nil_append]
  have L1 : ∀ (k : Out) (g2 : H) (u : Value), g1.le g2 → BlksAt g2 u (madeB p0 p1 p2 l) →
      (∀ (g3 : H) (v : Value) (fq : List Nat), g2.le g3 → OwnBlks g3 v (madeB p0 p1 p2 l) fq → fq.Nodup → Fresh g2 fq → holds Tryd.prog (Ret fun r h' => h.le h' ∧ r = .bool true) k [.int .u8 p0, .int .u8 p1, .int .u8 p2, vs, .int .u8 c4, .int .u8 c5, .bool true, .int .i64 (madeP p0), .int .i64 (madeV p0 p1), u, .int .i64 (madeP p0), .int .i64 (madeV p0 p1), v] [] g3) →
      holds Tryd.prog (Ret fun r h' => h.le h' ∧ r = .bool true) (.call 11 [(.agg [(.int .u8 (.var 0)), (.int .u8 (.var 1)), (.int .u8 (.var 2)), (.val 3)])] [] [] [] [(true, [.int .i64, .int .i64, .sl])] k)
        [.int .u8 p0, .int .u8 p1, .int .u8 p2, vs, .int .u8 c4, .int .u8 c5, .bool true, .int .i64 (madeP p0), .int .i64 (madeV p0 p1), u] [] g2 := fun k g2 u hl12 hu hk => by
    refine h_call0 (s11 (p0 := p0) (p1 := p1) (p2 := p2) ((hs.le hl1).le hl12) h0 h1 h2) ?_
    rintro _ g3 ⟨hk3, v, fq, rfl, hv, hfq, hnd⟩
    exact ⟨[.int .i64 (madeP p0), .int .i64 (madeV p0 p1), v], ⟨⟨_, rfl⟩, ⟨_, rfl⟩, hv.at.fit, trivial⟩, rfl, hk g3 v fq hk3.le_nil hv hnd hfq⟩
  have L0 : ∀ (k : Out), (∀ (g2 : H) (u : Value), g1.le g2 → BlksAt g2 u (madeB p0 p1 p2 l) → holds Tryd.prog (Ret fun r h' => h.le h' ∧ r = .bool true) k [.int .u8 p0, .int .u8 p1, .int .u8 p2, vs, .int .u8 c4, .int .u8 c5, .bool true, .int .i64 (madeP p0), .int .i64 (madeV p0 p1), u] [] g2) →
      holds Tryd.prog (Ret fun r h' => h.le h' ∧ r = .bool true) (.call 11 [(.agg [(.int .u8 (.var 0)), (.int .u8 (.var 1)), (.int .u8 (.var 2)), (.val 3)])] [] [] [] [(true, [.int .i64, .int .i64, .sl])] k)
        [.int .u8 p0, .int .u8 p1, .int .u8 p2, vs, .int .u8 c4, .int .u8 c5, .bool true] [] g1 := fun k hk => by
    refine h_call0 (s11 (p0 := p0) (p1 := p1) (p2 := p2) (hs.le hl1) h0 h1 h2) ?_
    rintro _ g2 ⟨hk2, u, fp, rfl, hu, -, -⟩
    exact ⟨[.int .i64 (madeP p0), .int .i64 (madeV p0 p1), u], ⟨⟨_, rfl⟩, ⟨_, rfl⟩, hu.at.fit, trivial⟩, rfl, hk g2 u hk2.le_nil hu.at⟩
  have LP : ∀ (g2 : H) (u : Value), g1.le g2 → BlksAt g2 u (madeB p0 p1 p2 l) → ∀ (g3 : H) (v : Value) (fq : List Nat), g2.le g3 → OwnBlks g3 v (madeB p0 p1 p2 l) fq → fq.Nodup → Fresh g2 fq → holds Tryd.prog (Ret fun r h' => h.le h' ∧ r = .bool true) pick3 [.int .u8 p0, .int .u8 p1, .int .u8 p2, vs, .int .u8 c4, .int .u8 c5, .bool true, .int .i64 (madeP p0), .int .i64 (madeV p0 p1), u, .int .i64 (madeP p0), .int .i64 (madeV p0 p1), v] [] g3 := fun g2 u hl12 hu g3 v fq hl23 own nd hfq =>
    pick_holds b4 b5 ht (hl1.trans hl12) hl23 hu own nd hfq hB hB1 hB7
  have one : ∀ (g2 : H) (u : Value) (a : g1.le g2) (b : BlksAt g2 u (madeB p0 p1 p2 l)), _ := fun g2 u a b => L1 pick3 g2 u a b (LP g2 u a b)
  have two : ∀ (g2 : H) (u : Value) (a : g1.le g2) (b : BlksAt g2 u (madeB p0 p1 p2 l)), _ := fun g2 u a b => L1 (.both pick3 pick3) g2 u a b (fun g3 v fq c d e f => ⟨LP g2 u a b g3 v fq c d e f, LP g2 u a b g3 v fq c d e f⟩)
  refine ⟨L0 _ fun g2 u a b => ⟨two g2 u a b, ⟨one g2 u a b, one g2 u a b⟩, one g2 u a b, one g2 u a b⟩, ⟨L0 _ fun g2 u a b => ⟨one g2 u a b, one g2 u a b⟩, L0 _ fun g2 u a b => one g2 u a b⟩, L0 _ fun g2 u a b => ⟨one g2 u a b, one g2 u a b⟩, L0 _ fun g2 u a b => one g2 u a b⟩
namespace pathsTurned
theorem own : ownKnob Tryd.prog.godebug = none := by kernel_rfl
set_option maxRecDepth 100000 in
theorem laidOut : laidOutB Tryd.prog = true := by kernel_rfl
set_option maxRecDepth 100000 in
theorem contract (H : Type) (enc : TypeId × Value → H) (W : World) (base : Nat) (args : Array Value) (ds gs : List (DataW H)) (before : List MemPlace)
    (hval : ∀ (j : Nat) t v, Tryd.f3.params[j]? = some t → args[j]? = some v → Value.okWide Tryd.prog W .any base t v)
    (hW : DataW.Whole enc Tryd.prog Tryd.f3.params.toList Rows.pathsTurnedSpec.vars false W args.toList ds gs before) (hL : laidMetH Tryd.prog laid1 W) :
    Calls Tryd.prog 3 args W fun e W' => ∃ v, e = .returned v ∧ Rows.pathsTurnedSpec.post enc Tryd.prog Tryd.f3 false true false false W args v W' := by
  have hW' := hW
  obtain ⟨p, q, hA, hV, rfl, hfz, hnd⟩ := hW
  rw [Tryd.params3] at hA hval
  obtain ⟨v0, vs0, d0, ds0, p0, q0, hargs, rfl, rfl, h0, r0⟩ := trodAll_cons hA
  obtain ⟨v1, vs1, d1, ds1, p1, q1, rfl, rfl, rfl, h1, r1⟩ := trodAll_cons r0
  obtain ⟨v2, vs2, d2, ds2, p2, q2, rfl, rfl, rfl, h2, r2⟩ := trodAll_cons r1
  obtain ⟨rfl, rfl, rfl⟩ := trodAll_nil r2
  obtain rfl : args = #[v0, v1, v2] := by cases args; simp_all
  obtain ⟨cs0, rfl, -⟩ := okWide_struct Tryd.underlying24 (hval 0 24 v0 rfl rfl)
  obtain ⟨p0, p1, p2, vs, l, he0, g0, g1, g2, hs⟩ := rd_spec (Rd.of h0)
  obtain rfl : cs0 = ([Value.int .u8 p0, .int .u8 p1, .int .u8 p2, vs]).toArray := by rw [← he0]; simp [Value.cells]
  obtain ⟨c4, rfl, -, -, wf1⟩ := open_int Tryd.underlying5 (hval 1 5 v1 rfl rfl) h1
  obtain ⟨c5, rfl, -, -, wf2⟩ := open_int Tryd.underlying5 (hval 2 5 v2 rfl rfl) h2
  refine (law_calls (f := 3) (args := [.agg ([Value.int .u8 p0, .int .u8 p1, .int .u8 p2, vs]).toArray, .int .u8 c4, .int .u8 c5]) (s3 (tab_of hL) hs g0 g1 g2 (u8_bounds wf1) (u8_bounds wf2))).mono ?_
  rintro e' W' ⟨rfl, bel⟩
  exact ⟨_, rfl, law_post laidOut hW' rfl (of_decide_eq_true (by kernel_rfl)) rfl Tryd.underlying4 rfl bel⟩
set_option maxRecDepth 100000 in
theorem lifted (os : Os) (started : os.Started) (H : Type) (enc : TypeId × Value → H) :
    ReturnsInHanded {} Tryd.checked os 3 .any (fun w args => (Rows.pathsTurnedSpec.pre enc Tryd.prog Tryd.f3 [] false w args ∧ laidMetH Tryd.prog laid1 w) ∧ sizedMet enc Tryd.prog Tryd.f3 (OpenSpec.ofChange Rows.pathsTurnedSpec) false w args)
      (Rows.pathsTurnedSpec.post enc Tryd.prog Tryd.f3 false true false false) := by
  refine returnsInHanded_of_change_and (C := Tryd.checked) (X := fun w _ => laidMetH Tryd.prog laid1 w) (fun _ _ _ hh h => h.of_heap hh) own started (by kernel_rfl) Tryd.func3
    (ChangeSpec.witness_shaped (enc := enc) (C := Tryd.checked) (os := os) (X := fun w _ => laidMetH Tryd.prog laid1 w) false (World.laidAll Tryd.prog os laid1) #[.agg #[.int .u8 0, .int .u8 0, .int .u8 0, .slice none 0 0], .int .u8 0, .int .u8 0] 8 (World.laidAll_os _ _ _)
      (World.shaped_of_ZipB (by kernel_rfl) (by kernel_rfl)) (by kernel_rfl) (by kernel_rfl) (by kernel_rfl)
      (by rw [MakeChecks.laidMetH_plain _ _ _ (by kernel_rfl)]; exact laidMet_laidAll _ (by kernel_rfl) (by kernel_rfl))) ?_
  intro W base args ds gs before hval hW _ _ hL _
  exact contract H enc W base args ds gs before hval hW hL
set_option maxRecDepth 100000 in
theorem proved : Rows.PathsTurnedSaid :=
  OpenClaim.holds_of_wide 3 Tryd.f3 rfl rfl rfl rfl rfl rfl rfl ⟨rfl, rfl, rfl, rfl, rfl⟩ rfl rfl rfl rfl rfl (by kernel_rfl) Tryd.func3 (by kernel_rfl)
    (of_decide_eq_true (by kernel_rfl)) (by unfold Func.isWrapper; first | (rw [if_pos (by decide +kernel)]; kernel_rfl) | (rw [if_neg (by decide +kernel)]; exact ⟨rfl, rfl⟩))
    (fun os started H enc _ => lifted os started H enc)
set_option maxRecDepth 100000 in
theorem card : Rows.PathsTurnedCardSaid :=
  Claim7.holds_tied_plain_at .later [] [.data] true (true, "b78b0383410a61afe81fbf0c92c434ccf5e3cb3e73f63a0d871732257097e45a") false proved (fun _ h => by cases h) (by kernel_rfl) (fun _ h => by cases h) pathsTurned_row_tie rfl ⟨rfl, rfl⟩ (by kernel_rfl) rfl
    (fun f fn hf hfn => by
      obtain rfl : f = 3 := Option.some.inj ((show Tryd.prog.funcNamed "outworker/outworkerlaw10.PathsTurned" = some 3 by kernel_rfl).symm.trans hf) |>.symm
      obtain rfl : fn = Tryd.f3 := (Option.some.inj (Tryd.func3.symm.trans hfn)).symm
      exact ⟨by kernel_rfl, fun j t ht => by
        rw [Tryd.params3] at ht
        have hm : t ∈ [24, 5, 5] := by simpa using Array.mem_of_getElem? ht
        have hall : ([24, 5, 5].all fun u => !Tryd.prog.wantsStandIn u) = true := by kernel_rfl
        exact (show Tryd.prog.wantsStandIn t = false by simpa using List.all_eq_true.1 hall t hm)⟩)
    (by kernel_rfl)
end pathsTurned
/-- The row, under a short name, for the claim. -/
theorem pathsTurnedHolds : Rows.PathsTurnedCardSaid := pathsTurned.card
#print axioms pathsTurnedHolds
end Go.Proofs.YtgcaicdmjbkplaaDoor
