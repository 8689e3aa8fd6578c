/-
  The law IrOnly answers true. Conditions: none.
-/
import Derived.Test.YtibdneedfopcoaaR1V
import Derived.Test.YtibdneedfopcoaaR1T
import Derived.Test.YtibdneedfopcoaaR1L
import Derived.Test.YtibdneedfopcoaaR1Rd
import Derived.Test.YtibdneedfopcoaaRows
set_option linter.unusedVariables false
set_option linter.unusedSimpArgs false
namespace Go.Proofs.Ytibdneedfopcoaa
open Go Go.ChangeShapes Go.WideShapes Go.ChangeAt Go.RowKit

theorem insF_none {f : Ins → Int} : ∀ {l : List Ins} {k : Nat}, insF f k l = none → ∀ x ∈ l, f x = 0
  | [], _, _, x, hx => by cases hx
  | y :: l, k, h, x, hx => by
    unfold insF at h
    split at h
    · cases h
    · rename_i h0
      rcases List.mem_cons.1 hx with rfl | hx
      · exact Decidable.not_not.1 h0
      · exact insF_none h x hx
theorem insF_some {f : Ins → Int} : ∀ {l : List Ins} {k : Nat} {r : Nat × Int}, insF f k l = some r → r.2 ≠ 0
  | [], _, _, h => by cases h
  | y :: l, k, r, h => by
    unfold insF at h
    split at h
    · rename_i h0; cases h; exact h0
    · exact insF_some h
theorem blkF_zero {f : Ins → Int} {g : Fin4 → Int} {most : Nat} : ∀ {l : List Blk} {k : Nat}, (blkF f g most k l).1 = 0 → ∀ b ∈ l, b.ins.length ≤ most ∧ (∀ x ∈ b.ins, f x = 0) ∧ g b.en = 0
  | [], _, _, b, hb => by cases hb
  | y :: l, k, h, b, hb => by
    unfold blkF at h
    split at h
    · simp at h
    · rename_i h1
      split at h
      · rename_i k' e' he
        have := insF_some he
        exact absurd h this
      · rename_i he
        split at h
        · rename_i h2; exact absurd h h2
        · rename_i h2
          rcases List.mem_cons.1 hb with rfl | hb
          · exact ⟨by omega, insF_none he, Decidable.not_not.1 h2⟩
          · exact blkF_zero h b hb
theorem checkM_zero {p n : Int} {bs : List Blk} (h : (checkM p n bs).1 = 0) : 1 ≤ bs.length ∧ bs.length ≤ 16 ∧ ∀ b ∈ bs, b.ins.length ≤ 32 ∧ (∀ x ∈ b.ins, ofM x n = 0) ∧ endM b.en n bs.length 21 = 0 := by
  unfold checkM at h
  split at h
  · simp at h
  · rename_i h1
    exact ⟨by omega, by omega, blkF_zero h⟩
theorem ofM_zero {x : Ins} {n : Int} (h : ofM x n = 0) : x.args.length ≤ 3 ∧ ∀ y ∈ namedM x, 0 ≤ y ∧ y < n := by
  unfold ofM at h
  split at h
  · cases h
  · split at h
    · cases h
    · split at h
      · rename_i h1 h2 h3
        refine ⟨by omega, fun y hy => ?_⟩
        have := List.all_eq_true.1 h3 y hy
        simpa [inR] using this
      · cases h
theorem endM_zero {e : Fin4} {n m : Int} (hm : 1 ≤ m) (h : endM e n m 21 = 0) : (lastM e = true → 0 ≤ e.a ∧ e.a < n) ∧ (0 ≤ e.to ∧ e.to < m) ∧ 0 ≤ e.el ∧ e.el < m := by
  unfold endM at h
  unfold lastM
  grind (splits := 60)
theorem s28 {h : H} (n m : Int) : CallsA Try.prog 28 (fun _ => [.int .i64 n, .int .i64 m]) [] h (Ret fun r h' => h' = h ∧ r = .bool (decide (0 ≤ n ∧ n < m))) := by
  refine c28 (G := [.int .i64 n, .int .i64 m]) ⟨⟨_, rfl⟩, ⟨_, rfl⟩, trivial⟩ ?_
  unfold t28
  simp only [holds, X.den, PE.den, SV.den, SV.denL, NK.val, NK.sv, NK.pub, gv_zero, gv_succ, vi_int, vb_bool, vlen_sl, vaddr_ptr, vb_ite, vi_ite, cmp_eql, cmp_neq, cmp_lss, cmp_leq, cmp_gtr, cmp_geq, List.map_nil, List.map_cons, List.cons_append, List.nil_append, List.flatten_nil, needs, Ret, true_and, and_true, decide_eq_true_eq, forall_const, intOp, Value.bool.injEq]
  grind
/-- The loop over what an instruction names: all of it is in range. -/
theorem only_loop {R : Value → List (List Value) → H → Prop} {G : List Value} {L : Lv} {h : H} {v : Value} {l : List Int} {n : Int} {j k : Nat} {fin : Out} (hv : IntsAt h v l) (hj : gv G j = v) (hjk : j < k) (h19 : 19 < k) (hk : G.length = k) (hL : L.length = 3)
    (hn : gv G 19 = .int .i64 n) (hl : l.length ≤ 100000) (hin : ∀ y ∈ l, 0 ≤ y ∧ y < n) (hf : ∀ J, holds Try.prog R fin (G ++ [.int .i64 (l.length : Int)]) (List.take 3 L ++ [J]) h) :
    holds Try.prog R (.loop 3 [(.int .i64 (.lit 0))] [.int .i64] (.ite (.cmp .lss (.var k) (.len j)) (.need (.tt true) [(.cmp .geq (.var k) (.lit 0)), (.cmp .lss (.var k) (.len j))]
       (.load (.tt true) (.idx (.var j) (.var k) 1) [.int .i64]
       (.call 28 [(.int .i64 (.var (k + 1))), (.int .i64 (.var 19))] [] [] [] [(false, [.bool])]
       (.ite (.not (.var (k + 2)))
        (.done (.bool (.tt false)) [])
        (.again 3 [(.int .i64 (.op .add .i64 (.var k) (.lit 1)))])))))
       fin)) G L h := by
  refine h_range (n := l.length) (fun i h' => h' = h) (by rw [hj]; exact hv.len) hjk hk (by omega) rfl ?_ ?_
  · rintro i h' J hi rfl hJ
    have hy : l[i]? = some l[i] := List.getElem?_eq_getElem hi
    have hym : l[i] ∈ l := List.getElem_mem _
    generalize l[i] = y at hy hym
    have e1 : gv (G ++ [.int .i64 (i : Int)]) k = .int .i64 (i : Int) := by rw [← hk]; exact gv_last
    have e2 : gv (G ++ [.int .i64 (i : Int)]) j = v := by rw [gv_of_lt (by omega), hj]
    refine h_load [.int .i64 y] ⟨⟨_, rfl⟩, trivial⟩ (fun _ => ?_) ?_
    · simp only [PE.den, X.den, e1, e2, vi_int, Int.toNat_natCast]
      exact hv.read hy
    have l1 : (G ++ [Value.int .i64 (i : Int)]).length = k + 1 := by simp [hk]
    have e3 : gv (G ++ [.int .i64 (i : Int)] ++ [.int .i64 y]) (k + 1) = .int .i64 y := by rw [← l1]; exact gv_last
    have e4 : gv (G ++ [.int .i64 (i : Int)] ++ [.int .i64 y]) 19 = .int .i64 n := by rw [gv_of_lt (by omega), gv_of_lt (by omega), hn]
    have e5 : gv (G ++ [.int .i64 (i : Int)] ++ [.int .i64 y]) k = .int .i64 (i : Int) := by rw [gv_of_lt (by omega), e1]
    have hd : decide (0 ≤ y ∧ y < n) = true := decide_eq_true (hin y hym)
    refine h_call0 (Q := fun r h'' => h'' = h' ∧ r = .bool true) ?_ ?_
    · have := s28 (h := h') y n
      rw [hd] at this
      simp only [SV.denL, SV.den, X.den, e3, e4, vi_int]
      exact this
    rintro r _ ⟨rfl, rfl⟩
    have l2 : (G ++ [Value.int .i64 (i : Int)] ++ [Value.int .i64 y]).length = k + 2 := by simp [hk]
    have e6 : gv (G ++ [.int .i64 (i : Int)] ++ [.int .i64 y] ++ [.bool true]) (k + 2) = .bool true := by rw [← l2]; exact gv_last
    have e7 : gv (G ++ [.int .i64 (i : Int)] ++ [.int .i64 y] ++ [.bool true]) k = .int .i64 (i : Int) := by rw [gv_of_lt (by omega), e5]
    refine ⟨[.bool true], ⟨⟨_, rfl⟩, trivial⟩, rfl, h_ite (fun hc => ?_) (fun _ => ?_)⟩
    · simp only [X.den, e6, vb_bool] at hc; cases hc
    · refine again_of (xs := [.int .i64 (intOp .add .i64 (i : Int) 1)]) (J := J) ?_ ?_ (hJ _ rfl)
      · simp only [SV.denL, SV.den, X.den, e7, vi_int]
      · have : (List.take 3 L).length = 3 := by rw [List.length_take, hL]; rfl
        rw [List.getElem?_append_right (by omega), this]; rfl
  · rintro h' J rfl
    exact hf J
def o6 : Out :=
(.loop 1 [(.int .i64 (.lit 0))] [.int .i64] 
       (.ite (.cmp .lss (.var 24) (.len 20))
        (.need (.tt true) [(.cmp .geq (.var 24) (.lit 0)), (.cmp .lss (.var 24) (.len 20))] 
        (.load (.tt true) (.idx (.var 20) (.var 24) 5) [.sl, .int .u8, .int .i64, .int .i64, .int .i64] 
        (.loop 2 [(.int .i64 (.lit 0))] [.int .i64] 
         (.ite (.cmp .lss (.var 30) (.len 25))
          (.need (.tt true) [(.cmp .geq (.var 30) (.lit 0)), (.cmp .lss (.var 30) (.len 25))] 
          (.load (.tt true) (.idx (.var 25) (.var 30) 7) [.int .u8, .int .u8, .int .i64, .int .i64, .int .i64, .int .i64, .sl] 
          (.call 19 [(.agg [(.int .u8 (.var 31)), (.int .u8 (.var 32)), (.int .i64 (.var 33)), (.int .i64 (.var 34)), (.int .i64 (.var 35)), (.int .i64 (.var 36)), (.val 37)])] [] [] [] [(false, [.sl])] 
          (.call 22 [(.agg [(.int .u8 (.var 31)), (.int .u8 (.var 32)), (.int .i64 (.var 33)), (.int .i64 (.var 34)), (.int .i64 (.var 35)), (.int .i64 (.var 36)), (.val 37)])] [] [] [] [(false, [.int .i64]), (false, [.bool])] 
          (.ite (.var 40)
           (.app 3 1 8 (.val 38) (.cells [(.int .i64 (.var 39))] 1) 
           (.loop 3 [(.int .i64 (.lit 0))] [.int .i64] 
            (.ite (.cmp .lss (.var 42) (.len 41))
             (.need (.tt true) [(.cmp .geq (.var 42) (.lit 0)), (.cmp .lss (.var 42) (.len 41))] 
             (.load (.tt true) (.idx (.var 41) (.var 42) 1) [.int .i64] 
             (.call 28 [(.int .i64 (.var 43)), (.int .i64 (.var 19))] [] [] [] [(false, [.bool])] 
             (.ite (.not (.var 44))
              (.done (.bool (.tt false)) [])
              (.again 3 [(.int .i64 (.op .add .i64 (.var 42) (.lit 1)))])))))
             (.again 2 [(.int .i64 (.op .add .i64 (.var 30) (.lit 1)))]))))
           (.loop 3 [(.int .i64 (.lit 0))] [.int .i64] 
            (.ite (.cmp .lss (.var 41) (.len 38))
             (.need (.tt true) [(.cmp .geq (.var 41) (.lit 0)), (.cmp .lss (.var 41) (.len 38))] 
             (.load (.tt true) (.idx (.var 38) (.var 41) 1) [.int .i64] 
             (.call 28 [(.int .i64 (.var 42)), (.int .i64 (.var 19))] [] [] [] [(false, [.bool])] 
             (.ite (.not (.var 43))
              (.done (.bool (.tt false)) [])
              (.again 3 [(.int .i64 (.op .add .i64 (.var 41) (.lit 1)))])))))
             (.again 2 [(.int .i64 (.op .add .i64 (.var 30) (.lit 1)))]))))))))
          (.call 23 [(.agg [(.int .u8 (.var 26)), (.int .i64 (.var 27)), (.int .i64 (.var 28)), (.int .i64 (.var 29))])] [] [] [] [(false, [.int .i64]), (false, [.bool])] 
          (.ite (.var 32)
           (.call 28 [(.int .i64 (.var 31)), (.int .i64 (.var 19))] [] [] [] [(false, [.bool])] 
           (.ite (.var 33)
            (.call 28 [(.int .i64 (.var 28)), (.int .i64 (.len 20))] [] [] [] [(false, [.bool])] 
            (.ite (.var 34)
             (.call 28 [(.int .i64 (.var 29)), (.int .i64 (.len 20))] [] [] [] [(false, [.bool])] 
             (.ite (.not (.var 35))
              (.done (.bool (.tt false)) [])
              (.again 1 [(.int .i64 (.op .add .i64 (.var 24) (.lit 1)))])))
             (.done (.bool (.tt false)) [])))
            (.done (.bool (.tt false)) [])))
           (.call 28 [(.int .i64 (.var 28)), (.int .i64 (.len 20))] [] [] [] [(false, [.bool])] 
           (.ite (.var 33)
            (.call 28 [(.int .i64 (.var 29)), (.int .i64 (.len 20))] [] [] [] [(false, [.bool])] 
            (.ite (.not (.var 34))
             (.done (.bool (.tt false)) [])
             (.again 1 [(.int .i64 (.op .add .i64 (.var 24) (.lit 1)))])))
            (.done (.bool (.tt false)) [])))))))))
        (.again 0 [(.int .i64 (.op .add .i64 (.var 17) (.lit 1)))])))
theorem h_iteT {P : Program} {R : Value → List (List Value) → H → Prop} {G : List Value} {L : Lv} {h : H} {c : X} {a b : Out} (hc : vb (c.den G) = true) (ha : holds P R a G L h) : holds P R (.ite c a b) G L h := ⟨fun _ => ha, fun h => absurd (hc.symm.trans h) (by simp)⟩
theorem h_iteF {P : Program} {R : Value → List (List Value) → H → Prop} {G : List Value} {L : Lv} {h : H} {c : X} {a b : Out} (hc : vb (c.den G) = false) (hb : holds P R b G L h) : holds P R (.ite c a b) G L h := ⟨fun h => absurd (hc.symm.trans h) (by simp), fun _ => hb⟩
theorem only_fn {R : Value → List (List Value) → H → Prop} {h : H} {J0 : List Value → H → Prop} {g0 g1 g2 g3 g4 g5 g6 g7 g8 g9 g10 g11 g12 g13 g14 g15 g16 g18 g21 g22 g23 v : Value} {bs : List Blk} {n i0 : Int} (hv : BlksAt h v bs) (hb1 : 1 ≤ bs.length) (hb2 : bs.length ≤ 16)
    (hok : ∀ b ∈ bs, b.ins.length ≤ 32 ∧ (∀ x ∈ b.ins, ofM x n = 0) ∧ endM b.en n bs.length 21 = 0) (hJ0 : ∀ h', h.le h' → J0 [.int .i64 (intOp .add .i64 i0 1)] h') :
    holds Try.prog R o6 [g0, g1, g2, g3, g4, g5, g6, g7, g8, g9, g10, g11, g12, g13, g14, g15, g16, Value.int .i64 i0, g18, .int .i64 n, v, g21, g22, g23] [J0] h := by
  have hl := hv.len
  refine h_range (n := bs.length) (fun i h' => h.le h') hl (by omega) rfl (by omega) (H.le_refl _) ?_ ?_
  · rintro i h1 J hi hl1 hJ
    have hy : bs[i]? = some bs[i] := List.getElem?_eq_getElem hi
    have hym : bs[i] ∈ bs := List.getElem_mem _
    generalize bs[i] = y at hy hym
    obtain ⟨k1, k2, k3⟩ := hok y hym
    obtain ⟨cs, ⟨u, rfl, hu⟩, hr⟩ := (SlAt.le blkC_mono hl1 hv).get i y hy
    have hul := hu.len
    refine h_load (u :: endC y.en) ⟨hu.fit, endFit y.en⟩ (fun _ => hr) ?_
    simp only [List.cons_append, List.nil_append, endC]
    refine h_range (n := y.ins.length) (fun k h' => h1.le h') hul (by omega) rfl (by omega) (H.le_refl _) ?_ ?_
    · rintro k h2 J2 hk hl2 hJ2
      have hz : y.ins[k]? = some y.ins[k] := List.getElem?_eq_getElem hk
      have hzm : y.ins[k] ∈ y.ins := List.getElem_mem _
      generalize y.ins[k] = z at hz hzm
      obtain ⟨hz1, hz2⟩ := ofM_zero (k2 z hzm)
      obtain ⟨cs2, ⟨w, rfl, hw⟩, hr2⟩ := (SlAt.le insC_mono hl2 hu).get k z hz
      refine h_load (insC z w) (insFit z w hw.fit) (fun _ => hr2) ?_
      simp only [List.cons_append, List.nil_append, insC]
      refine h_call0 (s19 z w hw (by omega)) ?_
      rintro r h3 ⟨hl3, hr3⟩
      have hr3i := hr3.ints
      have hul3 := usesM_len (x := z) (by omega)
      refine ⟨[r], ⟨hr3i.fit, trivial⟩, rfl, h_call0 (s22 z w hw.fit) ?_⟩
      rintro _ _ ⟨rfl, rfl⟩
      refine ⟨[.int .i64 (if givesM z.kind then z.d else 0), .bool (givesM z.kind)], ⟨⟨_, rfl⟩, ⟨_, rfl⟩, trivial⟩, rfl, ?_⟩
      simp only [List.cons_append, List.nil_append]
      cases hg : givesM z.kind with
      | true =>
        have hN : namedM z = usesM z ++ [z.d] := by unfold namedM; rw [if_pos hg]
        refine h_iteT rfl ⟨[.int .i64 z.d], 1, ⟨by simp only [SV.denL, SV.den, X.den, gv_succ, gv_zero, vi_int, if_true], rfl⟩, app_row hr3 hl3 rfl (by rw [zero3]; rfl) ?_ ?_⟩
        · have := hr3i.len; show (vlen r + 1) * 8 ≤ _; omega
        · intro v' h' q1 q2 q3 q4 q5
          have q1' : OwnInts h2 h' v' (usesM z ++ [z.d]) := by unfold OwnInts; rw [List.map_append]; exact q1
          simp only [List.cons_append, List.nil_append]
          refine only_loop (v := v') (l := usesM z ++ [z.d]) (n := n) q1'.ints rfl (by omega) (by omega) rfl rfl rfl (by simp; omega) (by rw [← hN]; exact hz2) fun J3 => ?_
          exact hJ2 _ (hl2.trans q3)
      | false =>
        have hN : namedM z = usesM z := by unfold namedM; rw [hg]; simp
        refine h_iteF rfl ?_
        refine only_loop (v := r) (l := usesM z) (n := n) hr3i rfl (by omega) (by omega) rfl rfl rfl (by omega) (by rw [← hN]; exact hz2) fun J3 => ?_
        exact hJ2 _ (hl2.trans hl3)
    · rintro h2 J2 hl2
      obtain ⟨e1, e2, e3⟩ := endM_zero (by omega) k3
      refine h_call0 (s23 y.en) ?_
      rintro _ h2 ⟨rfl, rfl⟩
      refine ⟨[.int .i64 y.en.a, .bool (lastM y.en)], ⟨⟨_, rfl⟩, ⟨_, rfl⟩, trivial⟩, rfl, ?_⟩
      simp only [List.cons_append, List.nil_append]
      have hlv : ((vlen v : Nat) : Int) = bs.length := by rw [hl]
      have hto : ∀ {g : H}, CallsA Try.prog 28 (fun _ => [.int .i64 y.en.to, .int .i64 ((vlen v : Nat) : Int)]) [] g (Ret fun r h' => h' = g ∧ r = .bool true) := fun {g} => by
        have := s28 (h := g) y.en.to ((vlen v : Nat) : Int)
        rw [decide_eq_true (p := 0 ≤ y.en.to ∧ y.en.to < ((vlen v : Nat) : Int)) (by rw [hlv]; exact e2)] at this
        exact this
      have hel : ∀ {g : H}, CallsA Try.prog 28 (fun _ => [.int .i64 y.en.el, .int .i64 ((vlen v : Nat) : Int)]) [] g (Ret fun r h' => h' = g ∧ r = .bool true) := fun {g} => by
        have := s28 (h := g) y.en.el ((vlen v : Nat) : Int)
        rw [decide_eq_true (p := 0 ≤ y.en.el ∧ y.en.el < ((vlen v : Nat) : Int)) (by rw [hlv]; exact e3)] at this
        exact this
      cases hg : lastM y.en with
      | true =>
        refine h_iteT rfl (h_call0 (Q := fun r h' => h' = h2 ∧ r = .bool true) (by have := s28 (h := h2) y.en.a n; rw [decide_eq_true (e1 hg)] at this; exact this) ?_)
        rintro _ _ ⟨rfl, rfl⟩
        refine ⟨[.bool true], ⟨⟨_, rfl⟩, trivial⟩, rfl, h_iteT rfl (h_call0 hto ?_)⟩
        rintro _ _ ⟨rfl, rfl⟩
        refine ⟨[.bool true], ⟨⟨_, rfl⟩, trivial⟩, rfl, h_iteT rfl (h_call0 hel ?_)⟩
        rintro _ _ ⟨rfl, rfl⟩
        exact ⟨[.bool true], ⟨⟨_, rfl⟩, trivial⟩, rfl, h_iteF rfl (hJ _ (hl1.trans hl2))⟩
      | false =>
        refine h_iteF rfl (h_call0 hto ?_)
        rintro _ _ ⟨rfl, rfl⟩
        refine ⟨[.bool true], ⟨⟨_, rfl⟩, trivial⟩, rfl, h_iteT rfl (h_call0 hel ?_)⟩
        rintro _ _ ⟨rfl, rfl⟩
        exact ⟨[.bool true], ⟨⟨_, rfl⟩, trivial⟩, rfl, h_iteF rfl (hJ _ (hl1.trans hl2))⟩
  · rintro h1 J hl1
    exact hJ0 _ hl1
theorem made_small {p0 p1 p2 : Int} {l : List Int} (h0 : 0 ≤ p0) (h1 : 0 ≤ p1) (h2 : 0 ≤ p2) (hl : InB l) : Small (madeB p0 p1 p2 l) := by
  have b := madeV_range h0 h1
  have c := madeN_range h2
  refine ⟨by have := madeB_len (p0 := p0) (p1 := p1) (l := l) h2; omega, fun x hx => ?_⟩
  obtain ⟨k1, k2, k3⟩ := blksM_ok (w := madeV p0 p1) (m := madeN p2) (by omega) (Int.le_refl _) (by omega) (Int.le_refl _) hl _ x hx
  exact ⟨by omega, fun y hy => by have := (ofM_zero (k2 y hy)).1; omega⟩
theorem only_round {R : Value → List (List Value) → H → Prop} {h : H} {J0 : List Value → H → Prop} {g0 g1 g2 g3 g4 g5 g6 g7 g8 g9 g10 g11 g12 g13 g14 g15 g16 v : Value} {bs : List Blk} {p n i0 : Int} (hv : BlksAt h v bs) (hJ0 : ∀ h', h.le h' → J0 [.int .i64 (intOp .add .i64 i0 1)] h') :
    holds Try.prog R (.call 16 [(.agg [(.int .i64 (.var 18)), (.int .i64 (.var 19)), (.val 20)])] [] [] [] [(true, [.int .i64, .int .i64, .int .i64])] 
     (.ite (.cmp .neq (.var 21) (.lit 0))
      (.again 0 [(.int .i64 (.op .add .i64 (.var 17) (.lit 1)))]) o6)) [g0, g1, g2, g3, g4, g5, g6, g7, g8, g9, g10, g11, g12, g13, g14, g15, g16, Value.int .i64 i0, .int .i64 p, .int .i64 n, v] [J0] h := by
  refine h_call0 (s16 p n v bs hv) ?_
  rintro r h1 ⟨hl, rfl⟩
  refine ⟨[.int .i64 (checkM p n bs).1, .int .i64 (checkM p n bs).2.1, .int .i64 (checkM p n bs).2.2], ⟨⟨_, rfl⟩, ⟨_, rfl⟩, ⟨_, rfl⟩, trivial⟩, rfl, ?_⟩
  simp only [List.cons_append, List.nil_append]
  refine h_ite (fun _ => hJ0 _ hl) (fun hc => ?_)
  replace hc : cmpOp .neq (checkM p n bs).1 0 = false := hc
  rw [cmp_neq, decide_eq_false_iff_not, Decidable.not_not] at hc
  obtain ⟨k1, k2, k3⟩ := checkM_zero hc
  exact only_fn (SlAt.le blkC_mono hl hv) k1 k2 k3 fun h' hl' => hJ0 _ (hl.trans hl')
theorem s6 {h : H} {p n b k fd m p0 p1 p2 : Int} {v vs : Value} {bs : List Blk} {l : List Int} (hv : BlksAt h v bs) (hs : BytesAt h vs l) (h0 : 0 ≤ p0) (h1 : 0 ≤ p1) (h2 : 0 ≤ p2) (hb : 0 ≤ b ∧ b ≤ 255) (hk : 0 ≤ k ∧ k ≤ 255) :
    CallsA Try.prog 6 (fun _ => [.agg #[.int .i64 p, .int .i64 n, v], .agg #[.int .u8 p0, .int .u8 p1, .int .u8 p2, vs], .int .u8 b, .int .u8 k, .int .u8 fd, .int .i64 m]) [] h (Ret fun r h' => h.le h' ∧ r = .bool true) := by
  refine c6 (G := [.int .i64 p, .int .i64 n, v, .int .u8 p0, .int .u8 p1, .int .u8 p2, vs, .int .u8 b, .int .u8 k, .int .u8 fd, .int .i64 m]) ⟨⟨_, rfl⟩, ⟨_, rfl⟩, hv.fit, ⟨_, rfl⟩, ⟨_, rfl⟩, ⟨_, rfl⟩, hs.fit, ⟨_, rfl⟩, ⟨_, rfl⟩, ⟨_, rfl⟩, ⟨_, rfl⟩, trivial⟩ ?_
  refine h_call0 s13 ?_
  rintro r h1' ⟨hl1, rfl⟩
  refine ⟨[.bool true], ⟨⟨_, rfl⟩, trivial⟩, rfl, h_iteF rfl (h_call0 (s15 (p0 := p0) (p1 := p1) (p2 := p2) (hs.le hl1) h0 h1 h2) ?_)⟩
  rintro r h3 ⟨hk3, u, fp, rfl, hu, hf, hnd⟩
  have hl3 := hl1.trans hk3.le_nil
  refine ⟨[.int .i64 (madeP p0), .int .i64 (madeV p0 p1), u], ⟨⟨_, rfl⟩, ⟨_, rfl⟩, hu.at.fit, trivial⟩, rfl, ?_⟩
  simp only [List.cons_append, List.nil_append]
  refine h_call0 (Q := fun r h' => r = .tuple #[] ∧ ∃ bs' fp', OwnBlks h' u bs' fp' ∧ fp'.Nodup ∧ KeptH h3 h' fp ∧ ∀ b ∈ fp', b ∈ fp ∨ h3 b = none) (s18 hu hnd (made_small h0 h1 h2 hs.inB) hb hk) ?_
  rintro r h4 ⟨rfl, bs', fp', hu4, hnd4, hk4, hf4⟩
  have hl4 : h.le h4 := hk4.le hl3 (fun b hb => H.le_none hl1 (hf b hb))
  have hv4 := SlAt.le blkC_mono hl4 hv
  refine ⟨[], trivial, rfl, h_call0 (s14 hv4) ?_⟩
  rintro r _ ⟨rfl, bl, rfl, hbl⟩
  refine ⟨[.bool bl], ⟨⟨_, rfl⟩, trivial⟩, rfl, h_ite (fun _ => ⟨rfl, hl4, rfl⟩) (fun hc => ?_)⟩
  intro b5 hb5
  simp only [List.cons_append, List.nil_append]
  have hl5 := H.le_put (o := .cells [Value.int .i64 p, .int .i64 n, v, .int .i64 (madeP p0), .int .i64 (madeV p0 p1), u].toArray 24 (0, 0)) hb5
  refine h_range (n := 2) (fun i h' => (H.put _ b5 (.cells [Value.int .i64 p, .int .i64 n, v, .int .i64 (madeP p0), .int .i64 (madeV p0 p1), u].toArray 24 (0, 0))).le h') rfl (by omega) rfl (by omega) (H.le_refl _) ?_ ?_
  · rintro i h6 J hi hl6 hJ
    have hl56 := hl5.trans hl6
    match i, hi with
    | 0, _ =>
      refine h_load [.int .i64 p, .int .i64 n, v] ⟨⟨_, rfl⟩, ⟨_, rfl⟩, hv.fit, trivial⟩ (fun _ => Reads.le hl6 (Reads.put (o := 0) fun i v hi => ?_)) ?_
      · match i with
        | 0 => exact hi
        | 1 => exact hi
        | 2 => exact hi
        | i + 3 => simp at hi
      · simp only [List.cons_append, List.nil_append]
        exact only_round (SlAt.le blkC_mono hl56 hv4) fun h' hl' => hJ _ (hl6.trans hl')
    | 1, _ =>
      refine h_load [.int .i64 (madeP p0), .int .i64 (madeV p0 p1), u] ⟨⟨_, rfl⟩, ⟨_, rfl⟩, hu.at.fit, trivial⟩ (fun _ => Reads.le hl6 (Reads.put (o := 3) fun i v hi => ?_)) ?_
      · match i with
        | 0 => exact hi
        | 1 => exact hi
        | 2 => exact hi
        | i + 3 => simp at hi
      · simp only [List.cons_append, List.nil_append]
        exact only_round (SlAt.le blkC_mono hl56 hu4.at) fun h' hl' => hJ _ (hl6.trans hl')
  · rintro h6 J hl6
    exact ⟨rfl, (hl4.trans hl5).trans hl6, rfl⟩
namespace irOnly
theorem own : ownKnob Try.prog.godebug = none := by kernel_rfl
theorem laidOut : laidOutB Try.prog = true := by kernel_rfl
theorem contract (H : Type) (enc : TypeId × Value → H) (W : World) (base : Nat) (args : Array Value) (ds gs : List (DataW H)) (before : List MemPlace)
    (hval : ∀ (j : Nat) t v, Try.f6.params[j]? = some t → args[j]? = some v → Value.okWide Try.prog W .any base t v)
    (hW : DataW.Whole enc Try.prog Try.f6.params.toList Rows.irOnlySpec.vars false W args.toList ds gs before) :
    Calls Try.prog 6 args W fun e W' => ∃ v, e = .returned v ∧ Rows.irOnlySpec.post enc Try.prog Try.f6 false true false false W args v W' := by
  have hW' := hW
  obtain ⟨p, q, hA, hV, rfl, hfz, hnd⟩ := hW
  rw [Try.params6] at hA hval
  obtain ⟨v0, vs0, d0, ds0, p0, q0, hargs, rfl, rfl, h0, r0⟩ := trodAll_cons hA
  obtain ⟨v1, vs1, d1, ds1, p1, q1, rfl, rfl, rfl, h1, r1⟩ := trodAll_cons r0
  obtain ⟨v2, vs2, d2, ds2, p2, q2, rfl, rfl, rfl, h2, r2⟩ := trodAll_cons r1
  obtain ⟨v3, vs3, d3, ds3, p3, q3, rfl, rfl, rfl, h3, r3⟩ := trodAll_cons r2
  obtain ⟨v4, vs4, d4, ds4, p4, q4, rfl, rfl, rfl, h4, r4⟩ := trodAll_cons r3
  obtain ⟨v5, vs5, d5, ds5, p5, q5, rfl, rfl, rfl, h5, r5⟩ := trodAll_cons r4
  obtain ⟨rfl, rfl, rfl⟩ := trodAll_nil r5
  obtain rfl : args = #[v0, v1, v2, v3, v4, v5] := by cases args; simp_all
  obtain ⟨cs0, rfl, -⟩ := okWide_struct Try.underlying24 (hval 0 24 v0 rfl rfl)
  obtain ⟨p, n, v, bs, he0, hv⟩ := rd_func (Rd.of h0)
  obtain rfl : cs0 = ([Value.int .i64 p, .int .i64 n, v]).toArray := by rw [← he0]; simp [Value.cells]
  obtain ⟨cs1, rfl, -⟩ := okWide_struct Try.underlying27 (hval 1 27 v1 rfl rfl)
  obtain ⟨p0, p1, p2, vs, l, he1, g0, g1, g2, hs⟩ := rd_spec (Rd.of h1)
  obtain rfl : cs1 = ([Value.int .u8 p0, .int .u8 p1, .int .u8 p2, vs]).toArray := by rw [← he1]; simp [Value.cells]
  obtain ⟨b, rfl, -, -, wf2⟩ := open_int Try.underlying5 (hval 2 5 v2 rfl rfl) h2
  obtain ⟨k, rfl, -, -, wf3⟩ := open_int Try.underlying5 (hval 3 5 v3 rfl rfl) h3
  obtain ⟨fd, rfl, -, -, wf4⟩ := open_int Try.underlying5 (hval 4 5 v4 rfl rfl) h4
  obtain ⟨m, rfl, -, -, wf5⟩ := open_int Try.underlying3 (hval 5 3 v5 rfl rfl) h5
  refine (law_calls (f := 6) (args := [.agg ([Value.int .i64 p, .int .i64 n, v]).toArray, .agg ([Value.int .u8 p0, .int .u8 p1, .int .u8 p2, vs]).toArray, .int .u8 b, .int .u8 k, .int .u8 fd, .int .i64 m]) (s6 hv hs g0 g1 g2 (u8r wf2) (u8r wf3))).mono ?_
  rintro e' W' ⟨rfl, bel⟩
  exact ⟨_, rfl, law_post laidOut hW' rfl (of_decide_eq_true (by kernel_rfl)) rfl Try.underlying4 rfl bel⟩
set_option maxRecDepth 100000 in
theorem lifted (os : Os) (started : os.Started) (H : Type) (enc : TypeId × Value → H) :
    ReturnsInHanded {} Try.checked os 6 .any (Rows.irOnlySpec.pre6 enc Try.prog Try.f6 Rows.irOnlyRow.domain false) (Rows.irOnlySpec.post enc Try.prog Try.f6 false true false false) := by
  refine returnsInHanded_of_change (C := Try.checked) own started (by kernel_rfl) Try.func6
    (ChangeSpec.witness6 (enc := enc) (C := Try.checked) false ⟨#[], #[.agg #[.int .i64 0, .int .i64 0, .slice none 0 0], .agg #[.int .u8 0, .int .u8 0, .int .u8 0, .slice none 0 0], .int .u8 0, .int .u8 0, .int .u8 0, .int .i64 0], []⟩ 8 (by kernel_rfl) (by kernel_rfl) (by kernel_rfl) (by kernel_rfl)) ?_
  intro W base args ds gs before hval hW _ _
  exact contract H enc W base args ds gs before hval hW
theorem proved : Rows.IrOnlySaid :=
  OpenClaim.holds_of_wide 6 Try.f6 rfl rfl rfl rfl rfl rfl rfl ⟨rfl, rfl, rfl, rfl, rfl⟩ rfl rfl rfl rfl rfl (by kernel_rfl) Try.func6 (by kernel_rfl)
    (of_decide_eq_true (by kernel_rfl)) (by unfold Func.isWrapper; first | (rw [if_pos (by decide +kernel)]; kernel_rfl) | (rw [if_neg (by decide +kernel)]; exact ⟨rfl, rfl⟩))
    (fun os started H enc _ => lifted os started H enc)
end irOnly
/-- The row, under a short name, for the claim. -/
theorem irOnlyHolds : Rows.IrOnlySaid := irOnly.proved
#print axioms irOnlyHolds
end Go.Proofs.Ytibdneedfopcoaa
