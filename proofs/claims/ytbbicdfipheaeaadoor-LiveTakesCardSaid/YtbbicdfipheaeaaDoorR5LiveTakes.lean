/-
  The law LiveTakes answers true. Conditions: none.
-/
import Derived.Test.YtbbicdfipheaeaaDoorR5X
import Derived.Test.YtbbicdfipheaeaaDoorR5Ltb
import Derived.Test.YtbbicdfipheaeaaDoorR5Lay
set_option linter.unusedVariables false
set_option linter.unusedSimpArgs false
namespace Go.Proofs.YtbbicdfipheaeaaDoor
open Go Go.ChangeShapes Go.WideShapes Go.ChangeAt Go.RowKit

/-! ### Plain -/
theorem back_more {y : Ins} {q : SP} (hg : givesM y.kind = false) : LeP q (backP y q) := fun z hz => by
  unfold backP orP lessP givP
  rw [hz, hg]; simp
theorem passB_more {x : Blk} {y : Ins} {k : Nat} {p : SP} (hg : givesM y.kind = false) : LeP (passB x p) (passB ⟨x.ins.take k ++ [y] ++ x.ins.drop k, x.en⟩ p) := by
  unfold passB
  show LeP (x.ins.foldr backP (topP x p)) ((x.ins.take k ++ [y] ++ x.ins.drop k).foldr backP (topP x p))
  conv => lhs; rw [← List.take_append_drop k x.ins]
  rw [List.append_assoc, List.foldr_append, List.foldr_append, List.foldr_append]
  have : ∀ (xs : List Ins) {p q : SP}, LeP p q → LeP (xs.foldr backP p) (xs.foldr backP q) := fun xs => by
    induction xs with
    | nil => intro p q h; exact h
    | cons z l ih => intro p q h; exact back_mono (ih h)
  exact this _ (back_more hg)
theorem blkP_more {B : List Blk} {i k a : Nat} {x : Blk} {y : Ins} {p : SP} (hx : B[i]? = some x) (hg : givesM y.kind = false) : LeP (blkP B a p) (blkP (B.set i ⟨x.ins.take k ++ [y] ++ x.ins.drop k, x.en⟩) a p) := by
  have hlt := (List.getElem?_eq_some_iff.1 hx).1
  by_cases e : i = a
  · subst e
    rw [blkP_at hx, blkP_at (List.getElem?_set_self hlt)]
    exact passB_more hg
  · unfold blkP
    rw [List.getElem?_set_ne e]
    exact fun z hz => hz
/-- What flows at fewer, at more. -/
theorem way_more {B B2 : List Blk} (hO : OkB B) (hn : ∀ b, nextN B2 b = nextN B b) (hl : B2.length = B.length) (hp : ∀ {a p}, LeP (blkP B a p) (blkP B2 a p)) {L2 : List SP} (K2 : Solved (flV B2) L2) {l : List SP} (h : Way (flV B) l) :
    ∀ {b : Nat} {x x2 : SP}, l[b]? = some x → L2[b]? = some x2 → LeP x x2 := by
  induction h with
  | first =>
    intro b x x2 hx _ y hy
    rw [List.getElem?_map, Option.map_eq_some_iff] at hx
    obtain ⟨c, h1, rfl⟩ := hx
    cases hy
  | @step l b a x y z hw hb ha hx hy hz ok ih =>
    intro c w w2 hc hc2 n hnn
    rw [List.getElem?_set] at hc
    have hlt := (List.getElem?_eq_some_iff.1 hx).1
    by_cases e : b = c
    · subst e
      rw [if_pos rfl, if_pos hlt] at hc
      cases hc
      replace hnn : (x n || blkP B a z n) = true := hnn
      rw [Bool.or_eq_true] at hnn
      rcases hnn with q | q
      · exact ih hx hc2 n q
      · have ha2 : a < L2.length := by rw [K2.len]; show a < B2.length; rw [hl]; exact nextN_lt hO ha
        have hz2 := List.getElem?_eq_getElem ha2
        have hle : LeP z L2[a] := fun n' hn' => ih hy hz2 n' (hz n' hn')
        exact K2.closed (F := flV B2) (by show b < B2.length; rw [hl]; exact hb) (by show a ∈ nextN B2 b; rw [hn]; exact ha) hc2 hz2 n (hp n (blkP_mono hle n q))
    · rw [if_neg e] at hc
      exact ih hc hc2 n hnn

/-! ### The rest of each arm -/
def p13 : PE := .fld (.idx (.var 13) (RX 4 13) 5) 0
def finT : Out :=
  (.call 31 [(.val 10)] [] [] [] [(false, [.sl]), (false, [.sl])] 
  (.call 31 [(.val 13)] [] [] [] [(false, [.sl]), (false, [.sl])] 
  (.loop 0 [(.int .i64 (.lit 0))] [.int .i64] 
   (.ite (.cmp .lss (.var 27) (.len 23))
    (.need (.tt true) [(.cmp .geq (.var 27) (.lit 0)), (.cmp .lss (.var 27) (.len 25))] 
    (.need (.tt true) [(.cmp .geq (.var 27) (.lit 0)), (.cmp .lss (.var 27) (.len 23))] 
    (.load (.tt true) (.idx (.var 23) (.var 27) 1) [.sl] 
    (.call 17 [(.ptr (.idx (.var 25) (.var 27) 1)), (.agg [(.val 28)])] [] [] [] [(false, [.bool])] 
    (.ite (.var 29)
     (.done (.bool (.tt false)) [])
     (.again 0 [(.int .i64 (.op .add .i64 (.var 27) (.lit 1)))]))))))
    (.need (.and (.cmp .eql (.len 23) (.len 25)) (.not (.cmp .gtr (RX1 5 14) (.lit 0)))) [(.cmp .neq (.len 13) (.lit 0))] 
    (.need (.and (.cmp .eql (.len 23) (.len 25)) (.not (.cmp .gtr (RX1 5 14) (.lit 0)))) [(.cmp .geq (RX 4 13) (.lit 0)), (.cmp .lss (RX 4 13) (.len 25))] 
    (.load (.and (.cmp .eql (.len 23) (.len 25)) (.not (.cmp .gtr (RX1 5 14) (.lit 0)))) (.idx (.var 25) (RX 4 13) 1) [.sl] 
    (.ite (.cmp .eql (.len 23) (.len 25))
     (.ite (.not (.cmp .gtr (RX1 5 14) (.lit 0)))
      (.call 23 [(.agg [(.val 28)]), (.int .i64 (RXv 6 12))] [] [] [] [(false, [.bool])] 
      (.done (.bool (.var 29)) []))
      (.done (.bool (.tt true)) []))
     (.done (.bool (.tt false)) [])))))))))
def csT : List SV := [(.int .u8 (.lit 5)), (.int .u8 (.lit 0)), (.int .i64 (.lit 0)), (.int .i64 (RXv 6 12)), (.int .i64 (RXv 6 12)), (.int .i64 (.lit 0)), (.cst (.slice none 0 0))]
def chainT (lA lB lC lD : List Nat) : Out :=
  stills p13 lA (.app 72 7 64 (.val (15 + 4)) (.sl (.val (15 + 1))) (stills p13 lB (.app 72 7 64 (.val (15 + 5)) (.cells csT 1) (stills p13 lC (.app 72 7 64 (.val (15 + 6)) (.sl (.val (15 + 3))) (stills p13 lD (.store p13 [.val (15 + 7)] finT)))))))
def restT : Out :=
  (.need (.tt true) [(.cmp .neq (.len 13) (.lit 0))] 
  (.need (.tt true) [(.cmp .geq (RX 4 13) (.lit 0)), (.cmp .lss (RX 4 13) (.len 13))] 
  (.load (.tt true) p13 [.sl] 
  (.need (.tt true) [(.cmp .neq (.op .add .i64 (.len 14) (.lit 1)) (.lit 0))] 
  (.need (.tt true) [(.cmp .neq (.var 12) (.lit 0))] 
  (.load (.tt true) p13 [.sl] 
  (.need (.tt true) [(.cmp .geq (RX1 5 14) (.lit 0)), (.cmp .leq (RX1 5 14) (.cap 15))] 
  (.bnd (.slice (.val 15) none (some (RX1 5 14)) 7) 
  (.load (.tt true) p13 [.sl] 
  (.need (.tt true) [(.cmp .geq (RX1 5 14) (.lit 0)), (.cmp .leq (RX1 5 14) (.len 17))] 
  (.bnd (.slice (.val 17) (some (RX1 5 14)) none 7) 
  (.both 
    (.alloc 72 [] (.lsl 0) (stills p13 [17, 15] (.both (chainT [] [17, 15, 17, 15] [17, 15] [17, 15]) (chainT [17, 15] [17, 15] [17, 15] [17, 15]))))
    (stills p13 [17, 15] (.alloc 72 [] (.lsl 0) (chainT [17, 15] [17, 15] [17, 15] [17, 15])))))))))))))))
theorem pick_rest : pick7 = restT := by kernel_rfl
def storeI (r : Int) : Ins := ⟨5, 0, 0, r, r, 0, []⟩
set_option maxRecDepth 8000 in
theorem rest_holds {h g2 g3 : H} {vs u v : Value} {p0 p1 p2 c4 c5 c6 : Int} {P V : Int} {N : Nat} {B : List Blk} {fq : List Nat} (ht : Tab h) (b4 : 0 ≤ c4 ∧ c4 ≤ 255) (b5 : 0 ≤ c5 ∧ c5 ≤ 255) (b6 : 0 ≤ c6 ∧ c6 ≤ 255) (hVN : V = (N : Int)) (hN : 1 ≤ N ∧ N ≤ 64) (l2 : h.le g2) (l3 : g2.le g3) (hu : BlksAt g2 u B) (own : OwnBlks g3 v B fq) (hnd : fq.Nodup) (hfq : Fresh g2 fq)
    (hO : OkB B) (hB1 : 1 ≤ B.length) (hB7 : B.length ≤ 90) (hR : RegL B) (hsm : ∀ x ∈ B, x.ins.length ≤ 100) :
    holds Tryd.prog (Ret fun r h' => h.le h' ∧ r = .bool true) pick7 [.int .u8 p0, .int .u8 p1, .int .u8 p2, vs, .int .u8 c4, .int .u8 c5, .int .u8 c6, .bool true, .int .i64 P, .int .i64 V, u, .int .i64 P, .int .i64 V, v] [] g3 := by
  rw [pick_rest]
  subst hVN
  have hvl := own.at.len
  have hlt := bI_lt b4.1 (show 0 < B.length by omega)
  have hx := List.getElem?_eq_getElem hlt
  have hxm := List.getElem_mem hlt
  generalize B[bI c4 B.length] = x at hx hxm
  have hxl := hsm x hxm
  obtain ⟨c, f, L1, L2, fr, KL⟩ := SlF.lens own hx
  obtain ⟨w, rfl, hw⟩ := KL.rep
  have hwl := hw.len (by omega)
  have hwf : Fits .sl w := by obtain ⟨_, _, _, _, h4, _⟩ := hw; exact h4.row0.fit
  have hwc : x.ins.length ≤ vcap w := by
    rw [← hwl]
    obtain ⟨a, n, c, rfl, _, hn⟩ := hwf
    exact hn
  have hrd : Reads g3 ((vaddr v).add (bI c4 B.length * 5 + 0)) [w] := KL.reads fun j z hj => by obtain ⟨rfl, rfl⟩ := get_one hj; rfl
  obtain ⟨G0, hG0⟩ : ∃ G0 : List Value, G0 = [.int .u8 p0, .int .u8 p1, .int .u8 p2, vs, .int .u8 c4, .int .u8 c5, .int .u8 c6, .bool true, .int .i64 P, .int .i64 (N : Int), u, .int .i64 P, .int .i64 (N : Int), v] := ⟨_, rfl⟩
  have rx : ∀ D, vi ((RX 4 13).den (G0 ++ D)) = ((bI c4 B.length : Nat) : Int) := fun D => rx_val (by rw [hG0]; rfl) (by rw [hG0]; exact hvl) b4 (by omega)
  have pe : ∀ D, p13.den (G0 ++ D) = (vaddr v).add (bI c4 B.length * 5 + 0) := fun D => by
    simp only [p13, PE.den, rx, Int.toNat_natCast, add_add]
    rw [hG0]; rfl
  obtain ⟨k, hk⟩ : ∃ k, k = bI c5 (x.ins.length + 1) := ⟨_, rfl⟩
  have hkl : k ≤ x.ins.length := by
    have := bI_lt (m := x.ins.length + 1) b5.1 (by omega)
    omega
  have rx1 : ∀ D, vi ((RX1 5 14).den (G0 ++ (w :: D))) = (k : Int) := fun D => by rw [hk]; exact rx1_val (by rw [hG0]; rfl) (by rw [hG0]; exact hwl) b5 (by omega)
  have rxv : ∀ D, vi ((RXv 6 12).den (G0 ++ D)) = ((bI c6 N : Nat) : Int) := fun D => rxv_val (by rw [hG0]; rfl) (by rw [hG0]; rfl) b6 (by omega)
  have hr := bI_lt b6.1 (show 0 < N by omega)
  rw [← hG0]
  have gN : G0.length = 14 := by rw [hG0]; rfl
  have gp : ∀ D j, gv (G0 ++ D) (14 + j) = gv D j := fun D j => gv_eq gN j
  have pe0 : p13.den G0 = (vaddr v).add (bI c4 B.length * 5 + 0) := by have := pe []; rwa [List.append_nil] at this
  refine ⟨fun _ => need_len (m := B.length) (by rw [hG0]; exact hvl) (by omega), fun _ => need_rx (a := 4) (l := 13) (m := B.length) (by rw [hG0]; rfl) (by rw [hG0]; exact hvl) b4 (by omega), h_load [w] ⟨hwf, trivial⟩ (fun _ => by rw [pe0]; exact hrd) ⟨fun _ => ?_, fun _ => ?_, h_load [w] ⟨hwf, trivial⟩ (fun _ => by rw [pe]; exact hrd) ⟨fun _ => ?_, ?_⟩⟩⟩
  · exact need_len1 (m := x.ins.length) (by rw [show 14 = 14 + 0 from rfl, gp]; exact hwl) (by omega)
  · exact need_var (z := (N : Int)) (by rw [gv_of_lt (by omega), hG0]; rfl) (by omega)
  · rw [List.append_assoc]
    exact need_cap (m := x.ins.length) (by rw [hG0]; rfl) (by rw [hG0]; exact hwl) b5 (by omega) (by rw [hG0]; exact hwc)
  intro v1 hv1
  replace hv1 : v1 = sliceV w 0 k 7 := by
    rw [hv1, List.append_assoc]
    show sliceV (gv (G0 ++ ([w] ++ [w])) 15) 0 (vi ((RX1 5 14).den (G0 ++ (w :: [w])))).toNat 7 = _
    rw [rx1, show 15 = 14 + 1 from rfl, gp, Int.toNat_natCast]; rfl
  simp only [List.append_assoc, List.cons_append, List.nil_append]
  refine h_load [w] ⟨hwf, trivial⟩ (fun _ => by rw [pe]; exact hrd) ⟨fun _ => ?_, ?_⟩
  · simp only [List.append_assoc, List.cons_append, List.nil_append]
    exact need_hi (m := x.ins.length) (by rw [hG0]; rfl) (by rw [hG0]; exact hwl) b5 (by omega) (by rw [hG0]; exact hwl)
  intro v2 hv2
  replace hv2 : v2 = sliceV w k x.ins.length 7 := by
    rw [hv2]
    simp only [List.append_assoc, List.cons_append, List.nil_append]
    show sliceV (gv (G0 ++ [w, w, v1, w]) 17) (vi ((RX1 5 14).den (G0 ++ (w :: [w, v1, w])))).toNat (vlen (gv (G0 ++ [w, w, v1, w]) 17)) 7 = _
    rw [rx1, show 17 = 14 + 3 from rfl, gp, Int.toNat_natCast]
    show sliceV w _ (vlen w) 7 = _
    rw [hwl]
  simp only [List.append_assoc, List.cons_append, List.nil_append]
  -- the end
  obtain ⟨y, hy⟩ : ∃ y, y = storeI ((bI c6 N : Nat) : Int) := ⟨_, rfl⟩
  have hyr : RegI y := by
    rw [hy]
    refine ⟨fun z hz => ?_, fun h => by simp [givesM, storeI] at h, by simp [storeI]⟩
    simp [usesM, storeI] at hz
    subst hz; omega
  have hyg : givesM y.kind = false := by rw [hy]; rfl
  have fin : ∀ (h5 : H) (fp5 : List Nat) (D : List Value), OwnBlks h5 v (B.set (bI c4 B.length) ⟨x.ins.take k ++ [y] ++ x.ins.drop k, x.en⟩) fp5 → KeptH g3 h5 fq → D.length = 8 → holds Tryd.prog (Ret fun r h' => h.le h' ∧ r = .bool true) finT (G0 ++ (w :: D)) [] h5 := fun h5 fp5 D o5 k5 hD => by
    have l5 : g2.le h5 := k5.le l3 hfq
    have W := (WideOk.refl hR).put hx hyr (by omega) (k := k)
    obtain ⟨B2, hB2⟩ : ∃ B2, B2 = B.set (bI c4 B.length) ⟨x.ins.take k ++ [y] ++ x.ins.drop k, x.en⟩ := ⟨_, rfl⟩
    have hp : ∀ {a p}, LeP (blkP B a p) (blkP B2 a p) := fun {a p} => by rw [hB2]; exact blkP_more hx hyg
    have hat : ∀ p : SP, k = 0 → blkP B2 (bI c4 B.length) p (bI c6 N) = true := fun p h0 => by
      rw [hB2, blkP_at (List.getElem?_set_self hlt), h0]
      show orP _ (useP y) _ = true
      unfold orP useP
      rw [hy]
      simp [usesM, storeI]
    rw [← hB2] at o5 W
    have hB2l := W.len
    have hO2 := W.okB hO
    have hv5 := o5.at
    have G10 : ∀ E, gv (G0 ++ (w :: E)) 10 = u := fun E => by rw [hG0]; rfl
    have G13 : ∀ E, gv (G0 ++ (w :: E)) 13 = v := fun E => by rw [hG0]; rfl
    have hu5 : BlksAt h5 u B := SlAt.le blkC_mono l5 hu
    refine h_call0 (Q := fun r h' => h5.le h' ∧ ∃ vi vo L, r = .tuple #[vi, vo] ∧ Solved (flV B) L ∧ SetsSt h5 h' vo L ∧ SetsSt h5 h' vi (inP B L)) ?_ ?_
    · have := s31 (ht.le (l2.trans l5)) hu5 hO hR (by omega)
      simp only [SV.denL, SV.den, G10]
      exact this
    rintro _ g6 ⟨l6, vI, vO, L, rfl, solL, Ko, Ki⟩
    refine ⟨[vI, vO], ⟨Ki.fit, Ko.fit, trivial⟩, rfl, ?_⟩
    simp only [List.append_assoc, List.cons_append]
    refine h_call0 (Q := fun r h' => g6.le h' ∧ ∃ vi vo L, r = .tuple #[vi, vo] ∧ Solved (flV B2) L ∧ SetsSt g6 h' vo L ∧ SetsSt g6 h' vi (inP B2 L)) ?_ ?_
    · have := s31 (ht.le ((l2.trans l5).trans l6)) (SlAt.le blkC_mono l6 hv5) hO2 W.reg (by omega)
      simp only [SV.denL, SV.den, G13]
      exact this
    rintro _ g7 ⟨l7, vI2, vO2, M, rfl, solM, Ko2, Ki2⟩
    refine ⟨[vI2, vO2], ⟨Ki2.fit, Ko2.fit, trivial⟩, rfl, ?_⟩
    simp only [List.append_assoc, List.cons_append, List.nil_append]
    have hLl : L.length = B.length := solL.len
    have hMl : M.length = B.length := by rw [← hB2l]; exact solM.len
    have hil : vlen vI = B.length := by rw [Ki.len, inP_len, hLl]
    have hil2 : vlen vI2 = B.length := by rw [Ki2.len, inP_len, hMl]
    have g23 : ∀ E, gv (G0 ++ (w :: (D ++ vI :: vO :: vI2 :: vO2 :: E))) 23 = vI := fun E => by
      rw [show 23 = 14 + 9 from rfl, gp]
      have := gv_eq (G := D) (D := vI :: vO :: vI2 :: vO2 :: E) hD 0
      exact this
    have g25 : ∀ E, gv (G0 ++ (w :: (D ++ vI :: vO :: vI2 :: vO2 :: E))) 25 = vI2 := fun E => by
      rw [show 25 = 14 + 11 from rfl, gp]
      have := gv_eq (G := D) (D := vI :: vO :: vI2 :: vO2 :: E) hD 2
      exact this
    have g27 : ∀ E j, gv (G0 ++ (w :: (D ++ vI :: vO :: vI2 :: vO2 :: E))) (27 + j) = gv E j := fun E j => by
      rw [show 27 + j = 14 + (13 + j) by omega, gp]
      have := gv_eq (G := D) (D := vI :: vO :: vI2 :: vO2 :: E) hD (4 + j)
      rw [show 8 + (4 + j) = 12 + j by omega] at this
      rw [show 13 + j = (12 + j) + 1 by omega]
      show gv (D ++ vI :: vO :: vI2 :: vO2 :: E) (12 + j) = _
      rw [this, show 4 + j = j + 4 by omega]; rfl
    have g270 : ∀ E, gv (G0 ++ (w :: (D ++ vI :: vO :: vI2 :: vO2 :: E))) 27 = gv E 0 := fun E => g27 E 0
    have g271 : ∀ E, gv (G0 ++ (w :: (D ++ vI :: vO :: vI2 :: vO2 :: E))) 28 = gv E 1 := fun E => g27 E 1
    have g272 : ∀ E, gv (G0 ++ (w :: (D ++ vI :: vO :: vI2 :: vO2 :: E))) 29 = gv E 2 := fun E => g27 E 2
    have hmore : ∀ {b : Nat} {p q : SP}, L[b]? = some p → M[b]? = some q → LeP (blkP B b p) (blkP B2 b q) := fun {b p q} e1 e2 n hn =>
      hp n (blkP_mono (way_more hO (fun b => W.next b) hB2l hp solM solL.way e1 e2) n hn)
    have h0le : h.le g6 := (l2.trans l5).trans l6
    refine h_loop (fun xs h' => ∃ b : Nat, xs = [natV b] ∧ b ≤ B.length ∧ SetsSt g6 h' vI2 (inP B2 M)) (fun xs h' => B.length - (vi (gv xs 0)).toNat) ⟨0, rfl, Nat.zero_le _, Ki2⟩ ?_
    rintro xs g8 J - ⟨b, rfl, hb, K8⟩ hJ
    simp only [List.append_assoc, List.cons_append, List.nil_append]
    have l68 := K8.le
    refine h_ite (fun hc => ?_) (fun hc => ?_)
    · simp only [X.den, g23, g270, gv_zero, vi_int, vb_bool, hil, cmp_lss, decide_eq_true_eq] at hc
      have hbN : b < B.length := by omega
      obtain ⟨p, hp1⟩ : ∃ p, L[b]? = some p := ⟨_, List.getElem?_eq_getElem (by rw [hLl]; exact hbN)⟩
      obtain ⟨q, hq1⟩ : ∃ q, M[b]? = some q := ⟨_, List.getElem?_eq_getElem (by rw [hMl]; exact hbN)⟩
      obtain ⟨c6', f6, hF6, hcf6, hcr6⟩ := Ki.read (inP_at hp1)
      have hlv6 := setF_good.live hF6
      have hF8 := setF_good.agree (le_agree' l68 hlv6) hF6
      refine ⟨fun _ => ?_, fun _ => ?_, h_load [c6'] ⟨hcf6, trivial⟩ (fun _ => ?_) ?_⟩
      · simp only [needs, X.den, g25, g270, gv_zero, vi_int, vb_bool, hil2, and_true]
        exact ⟨ge0 b, ltN hbN⟩
      · simp only [needs, X.den, g23, g270, gv_zero, vi_int, vb_bool, hil, and_true]
        exact ⟨ge0 b, ltN hbN⟩
      · simp only [PE.den, X.den, g23, g270, gv_zero, vi_int, Int.toNat_natCast]
        exact hcr6.le l68
      simp only [List.append_assoc, List.cons_append, List.nil_append]
      refine h_call0 (Q := fun r h' => r = .bool false ∧ SetsSt g6 h' vI2 (inP B2 M)) ?_ ?_
      · have := K8.join (ht.le (h0le.trans l68)) (H.le_refl _) (inP_at hq1) hF8 (fun fp _ hfr z hz hz' => by
          have e := hfr z hz'
          have := hlv6 z hz
          rw [e] at this; cases this) (hmore hp1 hq1)
        simp only [SV.denL, SV.den, PE.den, X.den, g25, g270, g271, gv_zero, gv_succ, vi_int, Int.toNat_natCast]
        exact this
      rintro _ g9 ⟨rfl, K9⟩
      refine ⟨[.bool false], ⟨⟨_, rfl⟩, trivial⟩, rfl, ?_⟩
      simp only [List.append_assoc, List.cons_append, List.nil_append]
      refine iteF ?_ ?_
      · simp only [X.den, g272]; rfl
      show J [_] _
      simp only [SV.den, X.den, g270, gv_zero, vi_int, int_add_one (k := b) (n := 1000) (by omega) (by omega)]
      refine hJ _ _ ⟨b + 1, rfl, by omega, K9⟩ ?_
      simp only [gv_zero, vi_int]; omega
    · have hle8 : h.le g8 := h0le.trans l68
      obtain ⟨q, hq1⟩ : ∃ q, M[bI c4 B.length]? = some q := ⟨_, List.getElem?_eq_getElem (by rw [hMl]; exact hlt)⟩
      obtain ⟨c9, t9, r9, q9⟩ := K8.has (inP_at hq1) (x := bI c6 N) (by omega)
      have e13 : ∀ E, vlen (gv (G0 ++ (w :: E)) 13) = B.length := fun E => by rw [G13]; exact hvl
      refine ⟨fun _ => need_len (m := B.length) (e13 _) (by omega), fun _ => ?_, h_load [c9] ⟨t9, trivial⟩ (fun _ => ?_) ?_⟩
      · simp only [needs, X.den]
        rw [rx]
        simp only [vb_bool, vi_int, g25, hil2, and_true]
        exact ⟨ge0 _, ltN hlt⟩
      · simp only [PE.den]
        rw [rx, Int.toNat_natCast, g25]; exact r9
      simp only [List.append_assoc, List.cons_append, List.nil_append]
      refine iteT ?_ (h_ite (fun hk0 => ?_) (fun _ => ⟨rfl, hle8, rfl⟩))
      · simp only [X.den, g23, g25, vi_int, vb_bool, hil, hil2, cmp_eql]; simp
      · have hk0' : k = 0 := by
          replace hk0 : (!cmpOp .gtr (vi ((RX1 5 14).den (G0 ++ (w :: (D ++ vI :: vO :: vI2 :: vO2 :: [natV b, c9]))))) 0) = true := hk0
          rw [rx1, cmp_gtr, Bool.not_eq_true', decide_eq_false_iff_not] at hk0
          omega
        refine h_call0 (Q := fun r h' => h' = g8 ∧ r = .bool true) ?_ ?_
        · have := q9 (H.le_refl _)
          rw [hat q hk0'] at this
          simp only [SV.denL, SV.den]
          rw [rxv]
          simp only [g271, gv_zero, gv_succ]
          exact this
        rintro _ _ ⟨rfl, rfl⟩
        refine ⟨[.bool true], ⟨⟨_, rfl⟩, trivial⟩, rfl, rfl, hle8, ?_⟩
        simp only [List.append_assoc, List.cons_append, List.nil_append, SV.den, X.den, g272]; rfl
  -- the row, made anew
  have chain : ∀ {b0 : Nat}, g3 b0 = none → ∀ lA lB lC lD, (∀ q ∈ lA ++ (lB ++ (lC ++ lD)), q = 15 ∨ q = 15 + 2) → holds Tryd.prog (Ret fun r h' => h.le h' ∧ r = .bool true) (chainT lA lB lC lD) (G0 ++ [w, w, v1, w, v2] ++ [.slice (some ⟨b0, 0, none⟩) 0 0]) [] (g3.put b0 (.cells ([] : List Value).toArray 72 (0, 0))) := fun {b0} hb0 lA lB lC lD hl => by
    rw [List.append_assoc]
    refine ins_chainG (n := 15) (i := bI c4 B.length) (k := k) (ys := [y]) hnd KL hkl (fun z hz => by rw [List.mem_singleton] at hz; subst hz; rw [hy]; rfl) (by simp) (msrc := .cells csT 1) (by omega) hb0 lA lB lC lD (by simp [gN]) ?_ ?_ ?_ ?_ ?_ (fun D => by rw [List.append_assoc]; exact pe _) (fun D h' _ => ⟨?_, rfl⟩) hl ?_
    · rw [show 15 = 14 + 1 from rfl, gp]; rfl
    · rw [show 15 + 1 = 14 + 2 from rfl, gp, ← hv1]; rfl
    · rw [show 15 + 2 = 14 + 3 from rfl, gp]; rfl
    · rw [show 15 + 3 = 14 + 4 from rfl, gp, ← hv2]; rfl
    · rw [show 15 + 4 = 14 + 5 from rfl, gp]; rfl
    · rw [List.append_assoc, hy]
      simp only [csT, SV.denL, SV.den]
      rw [rxv]; simp [ysC, storeI, insC, X.den]
    · intro h' fp' D hD o1 o2 o3 o4
      rw [List.append_assoc]
      exact fin h' fp' (w :: v1 :: w :: v2 :: .slice (some ⟨b0, 0, none⟩) 0 0 :: D) o1 o3 (by simp [hD])
  have st : ∀ (D : List Value) (h' : H), g3.le h' → (∀ q, q = 17 ∨ q = 15 → gv (G0 ++ D) q = w) → ∀ q ∈ [17, 15], Reads h' (p13.den (G0 ++ D)) [gv (G0 ++ D) q] := fun D h' hl e q hq => by
    rw [pe, e q (by simpa using hq)]
    exact hrd.le hl
  refine ⟨fun b0 hb0 => ?_, ?_⟩
  · refine h_stills ?_ ⟨chain hb0 _ _ _ _ (by simp), chain hb0 _ _ _ _ (by simp)⟩
    intro q hq
    rw [List.append_assoc]
    refine st _ _ (H.le_put hb0) (fun q hq => ?_) q hq
    rcases hq with rfl | rfl
    · rw [show 17 = 14 + 3 from rfl, gp]; rfl
    · rw [show 15 = 14 + 1 from rfl, gp]; rfl
  · refine h_stills ?_ (fun b0 hb0 => chain hb0 _ _ _ _ (by simp))
    intro q hq
    refine st _ _ (H.le_refl _) (fun q hq => ?_) q hq
    rcases hq with rfl | rfl
    · rw [show 17 = 14 + 3 from rfl, gp]; rfl
    · rw [show 15 = 14 + 1 from rfl, gp]; rfl
theorem s7 {h : H} {vs : Value} {p0 p1 p2 c4 c5 c6 : Int} {l : List Int} (ht : Tab h) (hs : BytesAt h vs l) (h0 : 0 ≤ p0) (h1 : 0 ≤ p1) (h2 : 0 ≤ p2) (b4 : 0 ≤ c4 ∧ c4 ≤ 255) (b5 : 0 ≤ c5 ∧ c5 ≤ 255) (b6 : 0 ≤ c6 ∧ c6 ≤ 255) :
    CallsA Tryd.prog 7 (fun _ => [.agg #[.int .u8 p0, .int .u8 p1, .int .u8 p2, vs], .int .u8 c4, .int .u8 c5, .int .u8 c6]) [] h (Ret fun r h' => h.le h' ∧ r = .bool true) := by
  refine c7 (G := [.int .u8 p0, .int .u8 p1, .int .u8 p2, vs, .int .u8 c4, .int .u8 c5, .int .u8 c6]) ⟨⟨_, rfl⟩, ⟨_, rfl⟩, ⟨_, rfl⟩, hs.fit, ⟨_, rfl⟩, ⟨_, rfl⟩, ⟨_, rfl⟩, trivial⟩ ?_
  obtain ⟨hB, hB1, hB7⟩ := made_B h0 h1 h2 hs.inB
  obtain ⟨hR, hsm⟩ := made_reg h0 h1 h2 hs.inB
  have hV := madeV_range h0 h1
  refine h_call0 (s29 ht) ?_
  rintro _ g1 ⟨hl1, rfl⟩
  refine ⟨[.bool true], ⟨⟨_, rfl⟩, trivial⟩, rfl, h_ite (fun hc => by cases hc) (fun _ => ?_)⟩
  simp only [List.cons_append, List.nil_append]
  have L1 : ∀ (k : Out) (g2 : H) (u : Value), g1.le g2 → BlksAt g2 u (madeB p0 p1 p2 l) →
      (∀ (g3 : H) (v : Value) (fq : List Nat), g2.le g3 → OwnBlks g3 v (madeB p0 p1 p2 l) fq → fq.Nodup → Fresh g2 fq → holds Tryd.prog (Ret fun r h' => h.le h' ∧ r = .bool true) k [.int .u8 p0, .int .u8 p1, .int .u8 p2, vs, .int .u8 c4, .int .u8 c5, .int .u8 c6, .bool true, .int .i64 (madeP p0), .int .i64 (madeV p0 p1), u, .int .i64 (madeP p0), .int .i64 (madeV p0 p1), v] [] g3) →
      holds Tryd.prog (Ret fun r h' => h.le h' ∧ r = .bool true) (.call 12 [(.agg [(.int .u8 (.var 0)), (.int .u8 (.var 1)), (.int .u8 (.var 2)), (.val 3)])] [] [] [] [(true, [.int .i64, .int .i64, .sl])] k)
        [.int .u8 p0, .int .u8 p1, .int .u8 p2, vs, .int .u8 c4, .int .u8 c5, .int .u8 c6, .bool true, .int .i64 (madeP p0), .int .i64 (madeV p0 p1), u] [] g2 := fun k g2 u hl12 hu hk => by
    refine h_call0 (s12 (p0 := p0) (p1 := p1) (p2 := p2) ((hs.le hl1).le hl12) h0 h1 h2) ?_
    rintro _ g3 ⟨hk3, v, fq, rfl, hv, hfq, hnd⟩
    exact ⟨[.int .i64 (madeP p0), .int .i64 (madeV p0 p1), v], ⟨⟨_, rfl⟩, ⟨_, rfl⟩, hv.at.fit, trivial⟩, rfl, hk g3 v fq hk3.le_nil hv hnd hfq⟩
  have L0 : ∀ (k : Out), (∀ (g2 : H) (u : Value), g1.le g2 → BlksAt g2 u (madeB p0 p1 p2 l) → holds Tryd.prog (Ret fun r h' => h.le h' ∧ r = .bool true) k [.int .u8 p0, .int .u8 p1, .int .u8 p2, vs, .int .u8 c4, .int .u8 c5, .int .u8 c6, .bool true, .int .i64 (madeP p0), .int .i64 (madeV p0 p1), u] [] g2) →
      holds Tryd.prog (Ret fun r h' => h.le h' ∧ r = .bool true) (.call 12 [(.agg [(.int .u8 (.var 0)), (.int .u8 (.var 1)), (.int .u8 (.var 2)), (.val 3)])] [] [] [] [(true, [.int .i64, .int .i64, .sl])] k)
        [.int .u8 p0, .int .u8 p1, .int .u8 p2, vs, .int .u8 c4, .int .u8 c5, .int .u8 c6, .bool true] [] g1 := fun k hk => by
    refine h_call0 (s12 (p0 := p0) (p1 := p1) (p2 := p2) (hs.le hl1) h0 h1 h2) ?_
    rintro _ g2 ⟨hk2, u, fp, rfl, hu, -, -⟩
    exact ⟨[.int .i64 (madeP p0), .int .i64 (madeV p0 p1), u], ⟨⟨_, rfl⟩, ⟨_, rfl⟩, hu.at.fit, trivial⟩, rfl, hk g2 u hk2.le_nil hu.at⟩
  have LP : ∀ (g2 : H) (u : Value), g1.le g2 → BlksAt g2 u (madeB p0 p1 p2 l) → ∀ (g3 : H) (v : Value) (fq : List Nat), g2.le g3 → OwnBlks g3 v (madeB p0 p1 p2 l) fq → fq.Nodup → Fresh g2 fq → holds Tryd.prog (Ret fun r h' => h.le h' ∧ r = .bool true) pick7 [.int .u8 p0, .int .u8 p1, .int .u8 p2, vs, .int .u8 c4, .int .u8 c5, .int .u8 c6, .bool true, .int .i64 (madeP p0), .int .i64 (madeV p0 p1), u, .int .i64 (madeP p0), .int .i64 (madeV p0 p1), v] [] g3 := fun g2 u hl12 hu g3 v fq hl23 own nd hfq =>
    rest_holds (N := (madeV p0 p1).toNat) ht b4 b5 b6 (by omega) (by omega) (hl1.trans hl12) hl23 hu own nd hfq hB hB1 (by omega) hR hsm
  have one : ∀ (g2 : H) (u : Value) (a : g1.le g2) (b : BlksAt g2 u (madeB p0 p1 p2 l)), _ := fun g2 u a b => L1 pick7 g2 u a b (LP g2 u a b)
  have two : ∀ (g2 : H) (u : Value) (a : g1.le g2) (b : BlksAt g2 u (madeB p0 p1 p2 l)), _ := fun g2 u a b => L1 (.both pick7 pick7) g2 u a b (fun g3 v fq c d e f => ⟨LP g2 u a b g3 v fq c d e f, LP g2 u a b g3 v fq c d e f⟩)
  exact ⟨L0 _ fun g2 u a b => ⟨two g2 u a b, ⟨one g2 u a b, one g2 u a b⟩, one g2 u a b, one g2 u a b⟩, ⟨L0 _ fun g2 u a b => ⟨one g2 u a b, one g2 u a b⟩, L0 _ fun g2 u a b => one g2 u a b⟩, L0 _ fun g2 u a b => ⟨one g2 u a b, one g2 u a b⟩, L0 _ fun g2 u a b => one g2 u a b⟩
namespace liveTakes
theorem own : ownKnob Tryd.prog.godebug = none := by kernel_rfl
set_option maxRecDepth 100000 in
theorem laidOut : laidOutB Tryd.prog = true := by kernel_rfl
set_option maxRecDepth 100000 in
theorem contract (H : Type) (enc : TypeId × Value → H) (W : World) (base : Nat) (args : Array Value) (ds gs : List (DataW H)) (before : List MemPlace)
    (hval : ∀ (j : Nat) t v, Tryd.f7.params[j]? = some t → args[j]? = some v → Value.okWide Tryd.prog W .any base t v)
    (hW : DataW.Whole enc Tryd.prog Tryd.f7.params.toList Rows.liveTakesSpec.vars false W args.toList ds gs before) (hL : laidMetH Tryd.prog laid1 W) :
    Calls Tryd.prog 7 args W fun e W' => ∃ v, e = .returned v ∧ Rows.liveTakesSpec.post enc Tryd.prog Tryd.f7 false true false false W args v W' := by
  have hW' := hW
  obtain ⟨p, q, hA, hV, rfl, hfz, hnd⟩ := hW
  rw [Tryd.params7] at hA hval
  obtain ⟨v0, vs0, d0, ds0, p0, q0, hargs, rfl, rfl, h0, r0⟩ := trodAll_cons hA
  obtain ⟨v1, vs1, d1, ds1, p1, q1, rfl, rfl, rfl, h1, r1⟩ := trodAll_cons r0
  obtain ⟨v2, vs2, d2, ds2, p2, q2, rfl, rfl, rfl, h2, r2⟩ := trodAll_cons r1
  obtain ⟨v3, vs3, d3, ds3, p3, q3, rfl, rfl, rfl, h3, r3⟩ := trodAll_cons r2
  obtain ⟨rfl, rfl, rfl⟩ := trodAll_nil r3
  obtain rfl : args = #[v0, v1, v2, v3] := by cases args; simp_all
  obtain ⟨cs0, rfl, -⟩ := okWide_struct Tryd.underlying24 (hval 0 24 v0 rfl rfl)
  obtain ⟨p0, p1, p2, vs, l, he0, g0, g1, g2, hs⟩ := rd_spec (Rd.of h0)
  obtain rfl : cs0 = ([Value.int .u8 p0, .int .u8 p1, .int .u8 p2, vs]).toArray := by rw [← he0]; simp [Value.cells]
  obtain ⟨c4, rfl, -, -, wf1⟩ := open_int Tryd.underlying5 (hval 1 5 v1 rfl rfl) h1
  obtain ⟨c5, rfl, -, -, wf2⟩ := open_int Tryd.underlying5 (hval 2 5 v2 rfl rfl) h2
  obtain ⟨c6, rfl, -, -, wf3⟩ := open_int Tryd.underlying5 (hval 3 5 v3 rfl rfl) h3
  refine (law_calls (f := 7) (args := [.agg ([Value.int .u8 p0, .int .u8 p1, .int .u8 p2, vs]).toArray, .int .u8 c4, .int .u8 c5, .int .u8 c6]) (s7 (tab_of hL) hs g0 g1 g2 (u8_bounds wf1) (u8_bounds wf2) (u8_bounds wf3))).mono ?_
  rintro e' W' ⟨rfl, bel⟩
  exact ⟨_, rfl, law_post laidOut hW' rfl (of_decide_eq_true (by kernel_rfl)) rfl Tryd.underlying4 rfl bel⟩
set_option maxRecDepth 100000 in
theorem lifted (os : Os) (started : os.Started) (H : Type) (enc : TypeId × Value → H) :
    ReturnsInHanded {} Tryd.checked os 7 .any (fun w args => (Rows.liveTakesSpec.pre enc Tryd.prog Tryd.f7 [] false w args ∧ laidMetH Tryd.prog laid1 w) ∧ sizedMet enc Tryd.prog Tryd.f7 (OpenSpec.ofChange Rows.liveTakesSpec) false w args)
      (Rows.liveTakesSpec.post enc Tryd.prog Tryd.f7 false true false false) := by
  refine returnsInHanded_of_change_and (C := Tryd.checked) (X := fun w _ => laidMetH Tryd.prog laid1 w) (fun _ _ _ hh h => h.of_heap hh) own started (by kernel_rfl) Tryd.func7
    (ChangeSpec.witness_shaped (enc := enc) (C := Tryd.checked) (os := os) (X := fun w _ => laidMetH Tryd.prog laid1 w) false (World.laidAll Tryd.prog os laid1) #[.agg #[.int .u8 0, .int .u8 0, .int .u8 0, .slice none 0 0], .int .u8 0, .int .u8 0, .int .u8 0] 8 (World.laidAll_os _ _ _)
      (World.shaped_of_ZipB (by kernel_rfl) (by kernel_rfl)) (by kernel_rfl) (by kernel_rfl) (by kernel_rfl)
      (by rw [MakeChecks.laidMetH_plain _ _ _ (by kernel_rfl)]; exact laidMet_laidAll _ (by kernel_rfl) (by kernel_rfl))) ?_
  intro W base args ds gs before hval hW _ _ hL _
  exact contract H enc W base args ds gs before hval hW hL
set_option maxRecDepth 100000 in
theorem proved : Rows.LiveTakesSaid :=
  OpenClaim.holds_of_wide 7 Tryd.f7 rfl rfl rfl rfl rfl rfl rfl ⟨rfl, rfl, rfl, rfl, rfl⟩ rfl rfl rfl rfl rfl (by kernel_rfl) Tryd.func7 (by kernel_rfl)
    (of_decide_eq_true (by kernel_rfl)) (by unfold Func.isWrapper; first | (rw [if_pos (by decide +kernel)]; kernel_rfl) | (rw [if_neg (by decide +kernel)]; exact ⟨rfl, rfl⟩))
    (fun os started H enc _ => lifted os started H enc)
set_option maxRecDepth 100000 in
theorem card : Rows.LiveTakesCardSaid :=
  Claim7.holds_tied_plain_at .later [] [.data] true (true, "8ff38404af680b550b91fe5fd74526250c7ed431e07fb59fa8b09eeffdac340c") false proved (fun _ h => by cases h) (by kernel_rfl) (fun _ h => by cases h) liveTakes_row_tie rfl ⟨rfl, rfl⟩ (by kernel_rfl) rfl
    (fun f fn hf hfn => by
      obtain rfl : f = 7 := Option.some.inj ((show Tryd.prog.funcNamed "outworker/outworkerlaw12.LiveTakes" = some 7 by kernel_rfl).symm.trans hf) |>.symm
      obtain rfl : fn = Tryd.f7 := (Option.some.inj (Tryd.func7.symm.trans hfn)).symm
      exact ⟨by kernel_rfl, fun j t ht => by
        rw [Tryd.params7] at ht
        have hm : t ∈ [24, 5, 5, 5] := by simpa using Array.mem_of_getElem? ht
        have hall : ([24, 5, 5, 5].all fun u => !Tryd.prog.wantsStandIn u) = true := by kernel_rfl
        exact (show Tryd.prog.wantsStandIn t = false by simpa using List.all_eq_true.1 hall t hm)⟩)
    (by kernel_rfl)
end liveTakes
/-- The row, under a short name, for the claim. -/
theorem liveTakesHolds : Rows.LiveTakesCardSaid := liveTakes.card
#print axioms liveTakesHolds
end Go.Proofs.YtbbicdfipheaeaaDoor
