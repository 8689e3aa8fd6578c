/-
  The law LiveGiven answers true. Conditions: none.
-/
import Derived.Test.YtbbicdfipheaeaaDoorR5X
import Derived.Test.YtbbicdfipheaeaaDoorR5R
import Derived.Test.YtbbicdfipheaeaaDoorR5Y
import Derived.Test.YtbbicdfipheaeaaDoorRnRd
import Derived.Test.YtbbicdfipheaeaaDoorR5Lgb
import Derived.Test.YtbbicdfipheaeaaDoorR5Lay
set_option linter.unusedVariables false
set_option linter.unusedSimpArgs false
namespace Go.Proofs.YtbbicdfipheaeaaDoor
open Go Go.ChangeShapes Go.WideShapes Go.ChangeAt Go.RowKit

def p18 : PE := .fld (.idx (.var 18) (RX 8 15) 5) 0
def csG : List SV := [(.int .u8 (.lit 1)), (.int .u8 (.lit 0)), (.int .i64 (RXv 10 17)), (.int .i64 (.lit 0)), (.int .i64 (.lit 0)), (.int .i64 (.var 11)), (.cst (.slice none 0 0))]
def chainG (m : Nat) (lA lB lC lD : List Nat) : Out :=
  stills p18 lA (.app 72 7 64 (.val (m + 1 + 4)) (.sl (.val (m + 1 + 1))) (stills p18 lB (.app 72 7 64 (.val (m + 1 + 5)) (.cells csG 1) (stills p18 lC (.app 72 7 64 (.val (m + 1 + 6)) (.sl (.val (m + 1 + 3))) (stills p18 lD (.store p18 [.val (m + 1 + 7)] (finG (m + 9)))))))))
def innerG (hv m : Nat) : Out :=
  .load (.not (.var hv)) p18 [.sl]
  (.ite (.ite (.var hv) (.tt true) (.cmp .geq (.len m) (.lit 32)))
   (.done (.bool (.tt true)) [])
   (.load (.tt true) p18 [.sl] 
   (.need (.tt true) [(.cmp .geq (RX1 9 19) (.lit 0)), (.cmp .leq (RX1 9 19) (.cap (m + 1)))] 
   (.bnd (.slice (.val (m + 1)) none (some (RX1 9 19)) 7) 
   (.load (.tt true) p18 [.sl] 
   (.need (.tt true) [(.cmp .geq (RX1 9 19) (.lit 0)), (.cmp .leq (RX1 9 19) (.len (m + 3)))] 
   (.bnd (.slice (.val (m + 3)) (some (RX1 9 19)) none 7) 
   (.both 
     (.alloc 72 [] (.lsl 0) (stills p18 [m + 3, m + 1] (.both (chainG m [] [m + 3, m + 1, m + 3, m + 1] [m + 3, m + 1] [m + 3, m + 1]) (chainG m [m + 3, m + 1] [m + 3, m + 1] [m + 3, m + 1] [m + 3, m + 1]))))
     (stills p18 [m + 3, m + 1] (.alloc 72 [] (.lsl 0) (chainG m [m + 3, m + 1] [m + 3, m + 1] [m + 3, m + 1] [m + 3, m + 1])))))))))))
def restG : Out :=
  .need (.tt true) [(.cmp .neq (.len 15) (.lit 0))] 
  (.need (.tt true) [(.cmp .geq (RX 8 15) (.lit 0)), (.cmp .lss (RX 8 15) (.len 18))] 
  (.load (.tt true) p18 [.sl] 
  (.need (.tt true) [(.cmp .neq (.op .add .i64 (.len 19) (.lit 1)) (.lit 0))] 
  (.need (.tt true) [(.cmp .neq (.var 17) (.lit 0))] 
  (.call 31 [(.val 15)] [] [] [] [(false, [.sl]), (false, [.sl])] 
  (.need (.tt true) [(.cmp .geq (RX 8 15) (.lit 0)), (.cmp .lss (RX 8 15) (.len 20))] 
  (.load (.tt true) (.idx (.var 20) (RX 8 15) 1) [.sl] 
  (.call 23 [(.agg [(.val 22)]), (.int .i64 (RXv 10 17))] [] [] [] [(false, [.bool])] 
  (.ite (.cmp .gtr (RX1 9 19) (.lit 0))
   (.need (.tt true) [(.cmp .geq (RX 8 15) (.lit 0)), (.cmp .lss (RX 8 15) (.len 15))] 
   (.load (.tt true) (.idx (.var 15) (RX 8 15) 5) [.sl, .int .u8, .int .i64, .int .i64, .int .i64] 
   (.need (.tt true) [(.cmp .geq (RX 8 15) (.lit 0)), (.cmp .lss (RX 8 15) (.len 21))] 
   (.load (.tt true) (.idx (.var 21) (RX 8 15) 1) [.sl] 
   (.call 33 [(.agg [(.val 24), (.int .u8 (.var 25)), (.int .i64 (.var 26)), (.int .i64 (.var 27)), (.int .i64 (.var 28))]), (.agg [(.val 29)])] [] [] [] [(false, [.sl])] 
   (.need (.tt true) [(.cmp .geq (.op .sub .i64 (RX1 9 19) (.lit 1)) (.lit 0)), (.cmp .lss (.op .sub .i64 (RX1 9 19) (.lit 1)) (.len 30))] 
   (.load (.tt true) (.idx (.var 30) (.op .sub .i64 (RX1 9 19) (.lit 1)) 1) [.sl] 
   (.call 23 [(.agg [(.val 31)]), (.int .i64 (RXv 10 17))] [] [] [] [(false, [.bool])] 
   (innerG 32 33)))))))))
   (innerG 23 24))))))))))
theorem pick_restG : pick10 = restG := by kernel_rfl

theorem reg_const {r : Nat} {n : Int} (hr : r < 4096) : RegI (constI r n) := ⟨fun z hz => by simp [usesM, constI] at hz, fun _ => by show 0 ≤ (r : Int) ∧ (r : Int) < 4096; omega, by simp [constI]⟩
section
variable {h0 h : H} {G0 D0 : List Value} {L : Lv} {m hv P V : Nat} {vs av mv nv u v w : Value} {p0 p1 p2 fuel c8 c9 c10 n11 : Int} {args mem ans : List Int} {B : List Blk} {x : Blk} {Ls : List SP} {fq : List Nat} {has : Bool}
set_option maxRecDepth 8000 in
theorem inner_holds (hG0 : G0 = [.int .u8 p0, .int .u8 p1, .int .u8 p2, vs, av, mv, nv, .int .i64 fuel, .int .u8 c8, .int .u8 c9, .int .u8 c10, .int .i64 n11, .bool true, .int .i64 (P : Int), .int .i64 (V : Int), u, .int .i64 (P : Int), .int .i64 (V : Int), v])
    (hm : m = 20 + D0.length) (hhv : hv < m) (ehv : gv (G0 ++ (w :: D0)) hv = .bool has) (b8 : 0 ≤ c8 ∧ c8 ≤ 255) (b9 : 0 ≤ c9 ∧ c9 ≤ 255) (b10 : 0 ≤ c10 ∧ c10 ≤ 255)
    (hle : h0.le h) (ha : IntsAt h av args) (hmm : IntsAt h mv mem) (hn : IntsAt h nv ans) (hu : BlksAt (H.cut h fq) u B) (own : OwnBlks h v B fq) (hnd : fq.Nodup) (hfq : Fresh h0 fq) (hA : IntsAt (H.cut h fq) av args) (hM : IntsAt (H.cut h fq) mv mem) (hN : IntsAt (H.cut h fq) nv ans)
    (hPl : P ≤ 4) (hO : OkB B) (hR : RegL B) (hck : checkM (P : Int) (V : Int) B = (0, 0, 0)) (hB : 1 ≤ B.length ∧ B.length ≤ 16) (hPV : P ≤ V ∧ V ≤ 32) (hV1 : 1 ≤ V) (hx : B[bI c8 B.length]? = some x) (hxl : x.ins.length ≤ 100) (K : Solved (flV B) Ls)
    (hwx : ∃ f L1 L2 fr, Lens 66 5 BlkF h v B fq (bI c8 B.length) x (w :: endC x.en) f L1 L2 fr)
    (hf : has = fromP B Ls (bI c8 B.length) (bI c9 (x.ins.length + 1)) (bI c10 V)) :
    holds Tryd.prog (Ret fun r h' => h0.le h' ∧ r = .bool true) (innerG hv m) (G0 ++ (w :: D0)) L h := by
  obtain ⟨f, L1, L2, fr, KL⟩ := hwx
  have hvl := own.at.len
  have hul := hu.len
  obtain ⟨w0, ew0, hw⟩ := KL.rep
  obtain rfl : w = w0 := by simp only [List.cons.injEq] at ew0; exact ew0.1
  have hwl := hw.len (by omega)
  have hwf : Fits .sl w := by obtain ⟨_, _, _, _, h4, _⟩ := hw; exact h4.row0.fit
  have hwc : x.ins.length ≤ vcap w := by
    rw [← hwl]
    obtain ⟨a, n, c, rfl, _, hn⟩ := hwf
    exact hn
  have hlt := bI_lt b8.1 (show 0 < B.length by omega)
  have hrd : Reads h ((vaddr v).add (bI c8 B.length * 5 + 0)) [w] := KL.reads fun j z hj => by obtain ⟨rfl, rfl⟩ := get_one hj; rfl
  have rx : ∀ D, vi ((RX 8 15).den (G0 ++ D)) = ((bI c8 B.length : Nat) : Int) := fun D => rx_val (by rw [hG0]; rfl) (by rw [hG0]; exact hul) b8 (by omega)
  have pe : ∀ D, p18.den (G0 ++ D) = (vaddr v).add (bI c8 B.length * 5 + 0) := fun D => by
    simp only [p18, PE.den, rx, Int.toNat_natCast, add_add]
    rw [hG0]; rfl
  obtain ⟨k, hk⟩ : ∃ k, k = bI c9 (x.ins.length + 1) := ⟨_, rfl⟩
  have hkl : k ≤ x.ins.length := by
    have := bI_lt (m := x.ins.length + 1) b9.1 (by omega)
    omega
  have rx1 : ∀ D, vi ((RX1 9 19).den (G0 ++ (w :: D))) = (k : Int) := fun D => by rw [hk]; exact rx1_val (by rw [hG0]; rfl) (by rw [hG0]; exact hwl) b9 (by omega)
  have rxv : ∀ D, vi ((RXv 10 17).den (G0 ++ D)) = ((bI c10 V : Nat) : Int) := fun D => rxv_val (by rw [hG0]; rfl) (by rw [hG0]; rfl) b10 (by omega)
  have hr := bI_lt b10.1 (show 0 < V by omega)
  rw [← hk] at hf
  have gN : (G0 ++ (w :: D0)).length = m := by rw [hG0]; simp; omega
  have gp : ∀ D j, gv (G0 ++ (w :: (D0 ++ D))) (m + j) = gv D j := fun D j => by
    have := gv_eq (D := D) gN j
    rw [List.append_assoc] at this; exact this
  have lo : ∀ {j : Nat}, j < m → ∀ D, gv (G0 ++ (w :: (D0 ++ D))) j = gv (G0 ++ (w :: D0)) j := fun hj D => by
    have := gv_of_lt (G := G0 ++ (w :: D0)) (D := D) (by rw [gN]; exact hj)
    rw [List.append_assoc] at this; exact this
  refine h_load [w] ⟨hwf, trivial⟩ (fun _ => by rw [pe]; exact hrd) ?_
  simp only [List.append_assoc, List.cons_append]
  refine h_ite (fun _ => ⟨rfl, hle, rfl⟩) (fun hc => ?_)
  have hc' : has = false ∧ x.ins.length < 32 := by
    have e1 : gv (G0 ++ (w :: (D0 ++ [w]))) hv = .bool has := by rw [lo hhv, ehv]
    have e0 : gv (G0 ++ (w :: (D0 ++ [w]))) m = w := gp [w] 0
    simp only [X.den, e1, e0, vb_bool, hwl, vi_int] at hc
    cases has with
    | true => cases hc
    | false =>
      refine ⟨rfl, ?_⟩
      simp only [Bool.false_eq_true, if_false, vb_bool, cmp_geq, decide_eq_false_iff_not] at hc
      omega
  obtain ⟨rfl, hx32⟩ := hc'
  refine h_load [w] ⟨hwf, trivial⟩ (fun _ => by rw [pe]; exact hrd) ⟨fun _ => ?_, ?_⟩
  · simp only [List.append_assoc, List.cons_append, List.nil_append]
    exact need_cap (m := x.ins.length) (by rw [hG0]; rfl) (by rw [hG0]; exact hwl) b9 (by omega) (by rw [gp]; exact hwc)
  intro v1 hv1
  replace hv1 : v1 = sliceV w 0 k 7 := by
    rw [hv1]
    simp only [List.append_assoc, List.cons_append, List.nil_append]
    show sliceV (gv (G0 ++ (w :: (D0 ++ [w, w]))) (m + 1)) 0 (vi ((RX1 9 19).den (G0 ++ (w :: (D0 ++ [w, w]))))).toNat 7 = _
    rw [rx1, gp, Int.toNat_natCast]; rfl
  simp only [List.append_assoc, List.cons_append, List.nil_append]
  refine h_load [w] ⟨hwf, trivial⟩ (fun _ => by rw [pe]; exact hrd) ⟨fun _ => ?_, ?_⟩
  · simp only [List.append_assoc, List.cons_append, List.nil_append]
    exact need_hi (m := x.ins.length) (by rw [hG0]; rfl) (by rw [hG0]; exact hwl) b9 (by omega) (by rw [gp]; exact hwl)
  intro v2 hv2
  replace hv2 : v2 = sliceV w k x.ins.length 7 := by
    rw [hv2]
    simp only [List.append_assoc, List.cons_append, List.nil_append]
    show sliceV (gv (G0 ++ (w :: (D0 ++ [w, w, v1, w]))) (m + 3)) (vi ((RX1 9 19).den (G0 ++ (w :: (D0 ++ [w, w, v1, w]))))).toNat (vlen (gv (G0 ++ (w :: (D0 ++ [w, w, v1, w]))) (m + 3))) 7 = _
    rw [rx1, gp, Int.toNat_natCast]
    show sliceV w _ (vlen w) 7 = _
    rw [hwl]
  simp only [List.append_assoc, List.cons_append, List.nil_append]
  have chain : ∀ {b0 : Nat}, h b0 = none → ∀ lA lB lC lD, (∀ q ∈ lA ++ (lB ++ (lC ++ lD)), q = m + 1 ∨ q = m + 1 + 2) → holds Tryd.prog (Ret fun r h' => h0.le h' ∧ r = .bool true) (chainG m lA lB lC lD) (G0 ++ (w :: (D0 ++ [w, w, v1, w, v2, .slice (some ⟨b0, 0, none⟩) 0 0]))) L (h.put b0 (.cells ([] : List Value).toArray 72 (0, 0))) := fun {b0} hb0 lA lB lC lD hl => by
    refine ins_chainG (n := m + 1) (i := bI c8 B.length) (k := k) (ys := [constI (bI c10 V) n11]) hnd KL hkl (fun z hz => by rw [List.mem_singleton] at hz; subst hz; rfl) (by simp) (msrc := .cells csG 1) (by omega) hb0 lA lB lC lD (by simp [hG0]; omega) ?_ ?_ ?_ ?_ ?_ (fun D => by rw [List.append_assoc]; exact pe _) (fun D h' _ => ⟨?_, rfl⟩) hl ?_
    · rw [gp]; rfl
    · rw [show m + 1 + 1 = m + 2 from rfl, gp, ← hv1]; rfl
    · rw [show m + 1 + 2 = m + 3 from rfl, gp]; rfl
    · rw [show m + 1 + 3 = m + 4 from rfl, gp, ← hv2]; rfl
    · rw [show m + 1 + 4 = m + 5 from rfl, gp]; rfl
    · rw [List.append_assoc]
      simp only [csG, SV.denL, SV.den]
      rw [rxv]
      have e11 : vi ((X.var 11).den (G0 ++ (w :: (D0 ++ [w, w, v1, w, v2, .slice (some ⟨b0, 0, none⟩) 0 0]) ++ D))) = n11 := by rw [hG0]; rfl
      rw [e11]
      simp [ysC, constI, insC, X.den]
    · intro h' fp' D hD o1 o2 o3 o4
      simp only [List.append_assoc, List.cons_append, List.nil_append]
      have cl := o3.le (H.cut_le h fq) (H.cut_fresh h fq)
      have hl : (G0 ++ (w :: (D0 ++ (w :: w :: v1 :: w :: v2 :: .slice (some ⟨b0, 0, none⟩) 0 0 :: D)))).length = m + 9 := by simp [hG0, hD]; omega
      refine finG_holds (fuel := fuel) (i := bI c8 B.length) (k := k) (r := bI c10 V) (n := n11) hl (by omega) ?_ (o3.le hle hfq) (hA.le cl) (hM.le cl) (hN.le cl) (SlAt.le blkC_mono cl hu) o1.at hPl hO hR hck hB hPV hx hkl (by omega) hr K hf.symm
      rw [hG0]
      exact ⟨rfl, rfl, rfl, rfl, rfl, rfl, rfl, rfl, rfl, rfl⟩
  have st : ∀ (D : List Value) (h' : H), h.le h' → (∀ q, q = m + 3 ∨ q = m + 1 → gv (G0 ++ (w :: (D0 ++ D))) q = w) → ∀ q ∈ [m + 3, m + 1], Reads h' (p18.den (G0 ++ (w :: (D0 ++ D)))) [gv (G0 ++ (w :: (D0 ++ D))) q] := fun D h' hl e q hq => by
    rw [pe, e q (by simpa using hq)]
    exact hrd.le hl
  refine ⟨fun b0 hb0 => ?_, ?_⟩
  · simp only [List.append_assoc, List.cons_append, List.nil_append]
    refine h_stills ?_ ⟨chain hb0 _ _ _ _ (by simp), chain hb0 _ _ _ _ (by simp)⟩
    intro q hq
    refine st _ _ (H.le_put hb0) (fun q hq => ?_) q hq
    rcases hq with rfl | rfl
    · rw [gp]; rfl
    · rw [gp]; rfl
  · refine h_stills ?_ (fun b0 hb0 => ?_)
    · intro q hq
      refine st _ _ (H.le_refl _) (fun q hq => ?_) q hq
      rcases hq with rfl | rfl
      · rw [gp]; rfl
      · rw [gp]; rfl
    · simp only [List.append_assoc, List.cons_append, List.nil_append]
      exact chain hb0 _ _ _ _ (by simp)
end
set_option maxRecDepth 8000 in
theorem restG_holds {h g2 g3 : H} {vs av mv nv u v : Value} {p0 p1 p2 fuel c8 c9 c10 n11 : Int} {args mem ans : List Int} {P V : Nat} {B : List Blk} {fq : List Nat} (ht : Tab h) (b8 : 0 ≤ c8 ∧ c8 ≤ 255) (b9 : 0 ≤ c9 ∧ c9 ≤ 255) (b10 : 0 ≤ c10 ∧ c10 ≤ 255) (ha : IntsAt h av args) (hm : IntsAt h mv mem) (hn : IntsAt h nv ans)
    (l2 : h.le g2) (l3 : g2.le g3) (hu : BlksAt g2 u B) (own : OwnBlks g3 v B fq) (hnd : fq.Nodup) (hfq : Fresh g2 fq)
    (hPl : P ≤ 4) (hO : OkB B) (hR : RegL B) (hck : checkM (P : Int) (V : Int) B = (0, 0, 0)) (hB : 1 ≤ B.length ∧ B.length ≤ 16) (hPV : P ≤ V ∧ V ≤ 32) (hV1 : 1 ≤ V) (hsm : ∀ x ∈ B, x.ins.length ≤ 100) :
    holds Tryd.prog (Ret fun r h' => h.le h' ∧ r = .bool true) pick10 [.int .u8 p0, .int .u8 p1, .int .u8 p2, vs, av, mv, nv, .int .i64 fuel, .int .u8 c8, .int .u8 c9, .int .u8 c10, .int .i64 n11, .bool true, .int .i64 (P : Int), .int .i64 (V : Int), u, .int .i64 (P : Int), .int .i64 (V : Int), v] [] g3 := by
  rw [pick_restG]
  have hvl := own.at.len
  have hul := hu.len
  have hlt := bI_lt b8.1 (show 0 < B.length by omega)
  have hx := List.getElem?_eq_getElem hlt
  have hxm := List.getElem_mem hlt
  generalize B[bI c8 B.length] = x at hx hxm
  have hxl := hsm x hxm
  obtain ⟨c, f, L1, L2, fr, KL⟩ := SlF.lens own hx
  obtain ⟨w, rfl, hw⟩ := KL.rep
  have hwl := hw.len (by omega)
  have hwf : Fits .sl w := by obtain ⟨_, _, _, _, h4, _⟩ := hw; exact h4.row0.fit
  have hrd : Reads g3 ((vaddr v).add (bI c8 B.length * 5 + 0)) [w] := KL.reads fun j z hj => by obtain ⟨rfl, rfl⟩ := get_one hj; rfl
  obtain ⟨G0, hG0⟩ : ∃ G0 : List Value, G0 = [.int .u8 p0, .int .u8 p1, .int .u8 p2, vs, av, mv, nv, .int .i64 fuel, .int .u8 c8, .int .u8 c9, .int .u8 c10, .int .i64 n11, .bool true, .int .i64 (P : Int), .int .i64 (V : Int), u, .int .i64 (P : Int), .int .i64 (V : Int), v] := ⟨_, rfl⟩
  have rx : ∀ D, vi ((RX 8 15).den (G0 ++ D)) = ((bI c8 B.length : Nat) : Int) := fun D => rx_val (by rw [hG0]; rfl) (by rw [hG0]; exact hul) b8 (by omega)
  have pe : ∀ D, p18.den (G0 ++ D) = (vaddr v).add (bI c8 B.length * 5 + 0) := fun D => by
    simp only [p18, PE.den, rx, Int.toNat_natCast, add_add]
    rw [hG0]; rfl
  obtain ⟨k, hk⟩ : ∃ k, k = bI c9 (x.ins.length + 1) := ⟨_, rfl⟩
  have hkl : k ≤ x.ins.length := by
    have := bI_lt (m := x.ins.length + 1) b9.1 (by omega)
    omega
  have rx1 : ∀ D, vi ((RX1 9 19).den (G0 ++ (w :: D))) = (k : Int) := fun D => by rw [hk]; exact rx1_val (by rw [hG0]; rfl) (by rw [hG0]; exact hwl) b9 (by omega)
  have rxv : ∀ D, vi ((RXv 10 17).den (G0 ++ D)) = ((bI c10 V : Nat) : Int) := fun D => rxv_val (by rw [hG0]; rfl) (by rw [hG0]; rfl) b10 (by omega)
  have hr := bI_lt b10.1 (show 0 < V by omega)
  have gN : G0.length = 19 := by rw [hG0]; rfl
  have gp : ∀ D j, gv (G0 ++ D) (19 + j) = gv D j := fun D j => gv_eq gN j
  have nrx : ∀ {D : List Value} {q : Nat} {vx : Value}, gv (G0 ++ D) q = vx → vlen vx = B.length → needs (G0 ++ D) [(.cmp .geq (RX 8 15) (.lit 0)), (.cmp .lss (RX 8 15) (.len q))] := fun {D q vx} e1 e2 => by
    have e : vb ((X.cmp .geq (RX 8 15) (.lit 0)).den (G0 ++ D)) = cmpOp .geq (vi ((RX 8 15).den (G0 ++ D))) 0 := rfl
    have e' : vb ((X.cmp .lss (RX 8 15) (.len q)).den (G0 ++ D)) = cmpOp .lss (vi ((RX 8 15).den (G0 ++ D))) ((vlen (gv (G0 ++ D) q) : Nat) : Int) := rfl
    refine ⟨by rw [e, rx]; exact ge0 _, ?_, trivial⟩
    rw [e', rx, e1, e2]; exact ltN hlt
  have g15 : ∀ D, gv (G0 ++ D) 15 = u := fun D => by rw [hG0]; rfl
  have g18 : ∀ D, gv (G0 ++ D) 18 = v := fun D => by rw [hG0]; rfl
  have le3 := l2.trans l3
  -- the rest, from wherever it is begun
  have inner : ∀ {g : H} {L : List SP} {D0 : List Value} {m hv : Nat} {has : Bool}, g3.le g → Solved (flV B) L → m = 20 + D0.length → hv < m → gv (G0 ++ (w :: D0)) hv = .bool has → has = fromP B L (bI c8 B.length) k (bI c10 V) → holds Tryd.prog (Ret fun r h' => h.le h' ∧ r = .bool true) (innerG hv m) (G0 ++ (w :: D0)) [] g := fun {g L D0 m hv has} hl K e1 e2 e3 e4 => by
    have ag := le_agree' hl (own.live blkF_good)
    have cl : g2.le (H.cut g fq) := H.le_cut (l3.trans hl) hfq
    exact inner_holds hG0 e1 e2 e3 b8 b9 b10 (le3.trans hl) (ha.le (le3.trans hl)) (hm.le (le3.trans hl)) (hn.le (le3.trans hl)) (SlAt.le blkC_mono cl hu) (own.agree blkF_good ag) hnd (fun z hz => H.le_none l2 (hfq z hz)) (ha.le (l2.trans cl)) (hm.le (l2.trans cl)) (hn.le (l2.trans cl)) hPl hO hR hck hB hPV hV1 hx hxl K ⟨f, L1, L2, fr, KL.agree blkF_good ag⟩ (by rw [← hk]; exact e4)
  rw [← hG0]
  rw [show G0 = G0 ++ [] by simp]
  refine ⟨fun _ => need_len (m := B.length) (by rw [g15]; exact hul) (by omega), fun _ => nrx (g18 _) hvl, h_load [w] ⟨hwf, trivial⟩ (fun _ => by rw [pe]; exact hrd) ⟨fun _ => ?_, fun _ => ?_, ?_⟩⟩
  · rw [List.append_assoc]
    exact need_len1 (m := x.ins.length) (by rw [show 19 = 19 + 0 from rfl, gp]; exact hwl) (by omega)
  · rw [List.append_assoc]
    exact need_var (z := (V : Int)) (by rw [hG0]; rfl) (by omega)
  simp only [List.append_assoc, List.nil_append]
  refine h_call0 (Q := fun r h' => g3.le h' ∧ ∃ vi vo L, r = .tuple #[vi, vo] ∧ Solved (flV B) L ∧ SetsSt g3 h' vo L ∧ SetsSt g3 h' vi (inP B L)) ?_ ?_
  · have := s31 (ht.le le3) (SlAt.le blkC_mono l3 hu) hO hR (by omega)
    simp only [SV.denL, SV.den, g15]
    exact this
  rintro _ g4 ⟨l4, vI, vO, L, rfl, K, Ko, Ki⟩
  refine ⟨[vI, vO], ⟨Ki.fit, Ko.fit, trivial⟩, rfl, ?_⟩
  simp only [List.append_assoc, List.cons_append, List.nil_append]
  have hLl : L.length = B.length := K.len
  have hil : vlen vI = B.length := by rw [Ki.len, inP_len, hLl]
  have hol : vlen vO = B.length := by rw [Ko.len, hLl]
  obtain ⟨q, hq⟩ : ∃ q, L[bI c8 B.length]? = some q := ⟨_, List.getElem?_eq_getElem (by rw [hLl]; exact hlt)⟩
  obtain ⟨c22, t22, r22, q22⟩ := Ki.has (inP_at hq) (x := bI c10 V) (by omega)
  have g20 : ∀ D, gv (G0 ++ (w :: vI :: D)) 20 = vI := fun D => gp _ 1
  have g21 : ∀ D, gv (G0 ++ (w :: vI :: vO :: D)) 21 = vO := fun D => gp _ 2
  have g22 : ∀ D, gv (G0 ++ (w :: vI :: vO :: c22 :: D)) 22 = c22 := fun D => gp _ 3
  refine ⟨fun _ => nrx (g20 _) hil, h_load [c22] ⟨t22, trivial⟩ (fun _ => ?_) ?_⟩
  · simp only [PE.den]
    rw [rx, Int.toNat_natCast, g20]; exact r22
  simp only [List.append_assoc, List.cons_append, List.nil_append]
  refine h_call0 (Q := fun r h' => h' = g4 ∧ r = .bool (blkP B (bI c8 B.length) q (bI c10 V))) ?_ ?_
  · have := q22 (H.le_refl _)
    simp only [SV.denL, SV.den]
    rw [rxv, g22]
    exact this
  rintro _ gx ⟨ex, rfl⟩
  have ex' := ex.symm
  subst ex'
  refine ⟨[.bool (blkP B (bI c8 B.length) q (bI c10 V))], ⟨⟨_, rfl⟩, trivial⟩, rfl, ?_⟩
  simp only [List.append_assoc, List.cons_append, List.nil_append]
  refine h_ite (fun hc => ?_) (fun hc => ?_)
  · have hk0 : 0 < k := by
      have e : vb ((X.cmp .gtr (RX1 9 19) (.lit 0)).den (G0 ++ (w :: [vI, vO, c22, .bool (blkP B (bI c8 B.length) q (bI c10 V))]))) = cmpOp .gtr (vi ((RX1 9 19).den (G0 ++ (w :: [vI, vO, c22, .bool (blkP B (bI c8 B.length) q (bI c10 V))])))) 0 := rfl
      rw [e, rx1, cmp_gtr, decide_eq_true_eq] at hc
      omega
    have hu4 : BlksAt g4 u B := SlAt.le blkC_mono (l3.trans l4) hu
    obtain ⟨cs, ⟨w2, rfl, hw2⟩, hrd2⟩ := hu4.get _ x hx
    obtain ⟨c29, f29, hF29, t29, r29⟩ := Ko.read hq
    refine ⟨fun _ => nrx (g15 _) hul, h_load (w2 :: endC x.en) ⟨hw2.fit, ⟨_, rfl⟩, ⟨_, rfl⟩, ⟨_, rfl⟩, ⟨_, rfl⟩, trivial⟩ (fun _ => ?_) ?_⟩
    · simp only [PE.den]
      rw [rx, Int.toNat_natCast, g15]; exact hrd2
    simp only [List.append_assoc, List.cons_append, List.nil_append, endC]
    refine ⟨fun _ => nrx (g21 _) hol, h_load [c29] ⟨t29, trivial⟩ (fun _ => ?_) ?_⟩
    · simp only [PE.den]
      rw [rx, Int.toNat_natCast, g21]; exact r29
    simp only [List.append_assoc, List.cons_append, List.nil_append]
    refine h_call0 (Q := fun r h' => SetsSt g4 h' r (behL x.ins (topP x q) 0)) ?_ ?_
    · have := s33 hw2 hF29 (hR x hxm)
      rw [hG0]
      exact this
    rintro vB g5 Kb
    have l5 := Kb.le
    refine ⟨[vB], ⟨Kb.fit, trivial⟩, rfl, ?_⟩
    simp only [List.append_assoc, List.cons_append, List.nil_append]
    have hbl : vlen vB = x.ins.length := by rw [Kb.len, behL_len]
    obtain ⟨c31, t31, r31, q31⟩ := Kb.has (behL_at (p := topP x q) (show k - 1 < x.ins.length by omega)) (x := bI c10 V) (by omega)
    have e1k : k - 1 + 1 = k := by omega
    rw [e1k] at q31
    have rs : ∀ D, vi ((X.op .sub .i64 (RX1 9 19) (.lit 1)).den (G0 ++ (w :: D))) = ((k - 1 : Nat) : Int) := fun D => by
      show intOp .sub .i64 (vi ((RX1 9 19).den (G0 ++ (w :: D)))) 1 = _
      rw [rx1, sub_one (by omega)]; omega
    refine ⟨fun _ => ?_, h_load [c31] ⟨t31, trivial⟩ (fun _ => ?_) ?_⟩
    · refine ⟨?_, ?_, trivial⟩
      · show cmpOp .geq (vi ((X.op .sub .i64 (RX1 9 19) (.lit 1)).den (G0 ++ (w :: _)))) 0 = true
        rw [rs]; exact ge0 _
      · show cmpOp .lss (vi ((X.op .sub .i64 (RX1 9 19) (.lit 1)).den (G0 ++ (w :: _)))) ((vlen (gv (G0 ++ (w :: _)) (19 + 11)) : Nat) : Int) = true
        rw [rs, gp]
        show cmpOp .lss _ ((vlen vB : Nat) : Int) = true
        rw [hbl]; exact ltN (by omega)
    · show Reads g5 ((vaddr (gv (G0 ++ (w :: _)) (19 + 11))).add ((vi ((X.op .sub .i64 (RX1 9 19) (.lit 1)).den (G0 ++ (w :: _)))).toNat * 1)) _
      rw [rs, gp, Int.toNat_natCast]; exact r31
    simp only [List.append_assoc, List.cons_append, List.nil_append]
    refine h_call0 (Q := fun r h' => h' = g5 ∧ r = .bool ((x.ins.drop k).foldr backP (topP x q) (bI c10 V))) ?_ ?_
    · have := q31 (H.le_refl _)
      simp only [SV.denL, SV.den]
      rw [rxv, show (31 : Nat) = 19 + 12 from rfl, gp]
      exact this
    rintro _ gy ⟨ey, rfl⟩
    have ey' := ey.symm
    subst ey'
    refine ⟨[.bool ((x.ins.drop k).foldr backP (topP x q) (bI c10 V))], ⟨⟨_, rfl⟩, trivial⟩, rfl, ?_⟩
    simp only [List.append_assoc, List.cons_append, List.nil_append]
    exact inner (l4.trans l5) K rfl (by simp) (gp _ 13) (by rw [fromP_at hx hq])
  · have hk0 : k = 0 := by
      have e : vb ((X.cmp .gtr (RX1 9 19) (.lit 0)).den (G0 ++ (w :: [vI, vO, c22, .bool (blkP B (bI c8 B.length) q (bI c10 V))]))) = cmpOp .gtr (vi ((RX1 9 19).den (G0 ++ (w :: [vI, vO, c22, .bool (blkP B (bI c8 B.length) q (bI c10 V))])))) 0 := rfl
      rw [e, rx1, cmp_gtr, decide_eq_false_iff_not] at hc
      omega
    exact inner l4 K rfl (by simp) (gp _ 4) (by rw [fromP_at hx hq, hk0, List.drop_zero, blkP_at hx]; rfl)
theorem s10 {h : H} {vs av mv nv : Value} {p0 p1 p2 fuel c8 c9 z10 n11 : Int} {l args mem ans : List Int} (ht : Tab h) (hs : BytesAt h vs l) (h0 : 0 ≤ p0) (h1 : 0 ≤ p1) (h2 : 0 ≤ p2) (ha : IntsAt h av args) (hm : IntsAt h mv mem) (hn : IntsAt h nv ans) (b8 : 0 ≤ c8 ∧ c8 ≤ 255) (b9 : 0 ≤ c9 ∧ c9 ≤ 255) (b10 : 0 ≤ z10 ∧ z10 ≤ 255) :
    CallsA Tryd.prog 10 (fun _ => [.agg #[.int .u8 p0, .int .u8 p1, .int .u8 p2, vs], .agg #[av, mv, nv, .int .i64 fuel], .int .u8 c8, .int .u8 c9, .int .u8 z10, .int .i64 n11]) [] h (Ret fun r h' => h.le h' ∧ r = .bool true) := by
  refine c10 (G := [.int .u8 p0, .int .u8 p1, .int .u8 p2, vs, av, mv, nv, .int .i64 fuel, .int .u8 c8, .int .u8 c9, .int .u8 z10, .int .i64 n11]) ⟨⟨_, rfl⟩, ⟨_, rfl⟩, ⟨_, rfl⟩, hs.fit, ha.fit, hm.fit, hn.fit, ⟨_, rfl⟩, ⟨_, rfl⟩, ⟨_, rfl⟩, ⟨_, rfl⟩, ⟨_, rfl⟩, trivial⟩ ?_
  obtain ⟨hB, hB1, hB7⟩ := made_B h0 h1 h2 hs.inB
  obtain ⟨hR, hsm⟩ := made_reg h0 h1 h2 hs.inB
  have hVr := madeV_range h0 h1
  obtain ⟨P, V, hP, hV, hPl, hVl, hPV, hck, hok, -, -⟩ := made_fun h0 h1 h2 hs.inB
  refine h_call0 (s29 ht) ?_
  rintro _ g1 ⟨hl1, rfl⟩
  refine ⟨[.bool true], ⟨⟨_, rfl⟩, trivial⟩, rfl, h_ite (fun hc => by cases hc) (fun _ => ?_)⟩
  simp only [List.cons_append, List.nil_append]
  have L1 : ∀ (k : Out) (g2 : H) (u : Value), g1.le g2 → BlksAt g2 u (madeB p0 p1 p2 l) →
      (∀ (g3 : H) (v : Value) (fq : List Nat), g2.le g3 → OwnBlks g3 v (madeB p0 p1 p2 l) fq → fq.Nodup → Fresh g2 fq → holds Tryd.prog (Ret fun r h' => h.le h' ∧ r = .bool true) k [.int .u8 p0, .int .u8 p1, .int .u8 p2, vs, av, mv, nv, .int .i64 fuel, .int .u8 c8, .int .u8 c9, .int .u8 z10, .int .i64 n11, .bool true, .int .i64 (madeP p0), .int .i64 (madeV p0 p1), u, .int .i64 (madeP p0), .int .i64 (madeV p0 p1), v] [] g3) →
      holds Tryd.prog (Ret fun r h' => h.le h' ∧ r = .bool true) (.call 12 [(.agg [(.int .u8 (.var 0)), (.int .u8 (.var 1)), (.int .u8 (.var 2)), (.val 3)])] [] [] [] [(true, [.int .i64, .int .i64, .sl])] k)
        [.int .u8 p0, .int .u8 p1, .int .u8 p2, vs, av, mv, nv, .int .i64 fuel, .int .u8 c8, .int .u8 c9, .int .u8 z10, .int .i64 n11, .bool true, .int .i64 (madeP p0), .int .i64 (madeV p0 p1), u] [] g2 := fun k g2 u hl12 hu hk => by
    refine h_call0 (s12 (p0 := p0) (p1 := p1) (p2 := p2) ((hs.le hl1).le hl12) h0 h1 h2) ?_
    rintro _ g3 ⟨hk3, v, fq, rfl, hv, hfq, hnd⟩
    exact ⟨[.int .i64 (madeP p0), .int .i64 (madeV p0 p1), v], ⟨⟨_, rfl⟩, ⟨_, rfl⟩, hv.at.fit, trivial⟩, rfl, hk g3 v fq hk3.le_nil hv hnd hfq⟩
  have L0 : ∀ (k : Out), (∀ (g2 : H) (u : Value), g1.le g2 → BlksAt g2 u (madeB p0 p1 p2 l) → holds Tryd.prog (Ret fun r h' => h.le h' ∧ r = .bool true) k [.int .u8 p0, .int .u8 p1, .int .u8 p2, vs, av, mv, nv, .int .i64 fuel, .int .u8 c8, .int .u8 c9, .int .u8 z10, .int .i64 n11, .bool true, .int .i64 (madeP p0), .int .i64 (madeV p0 p1), u] [] g2) →
      holds Tryd.prog (Ret fun r h' => h.le h' ∧ r = .bool true) (.call 12 [(.agg [(.int .u8 (.var 0)), (.int .u8 (.var 1)), (.int .u8 (.var 2)), (.val 3)])] [] [] [] [(true, [.int .i64, .int .i64, .sl])] k)
        [.int .u8 p0, .int .u8 p1, .int .u8 p2, vs, av, mv, nv, .int .i64 fuel, .int .u8 c8, .int .u8 c9, .int .u8 z10, .int .i64 n11, .bool true] [] g1 := fun k hk => by
    refine h_call0 (s12 (p0 := p0) (p1 := p1) (p2 := p2) (hs.le hl1) h0 h1 h2) ?_
    rintro _ g2 ⟨hk2, u, fp, rfl, hu, -, -⟩
    exact ⟨[.int .i64 (madeP p0), .int .i64 (madeV p0 p1), u], ⟨⟨_, rfl⟩, ⟨_, rfl⟩, hu.at.fit, trivial⟩, rfl, hk g2 u hk2.le_nil hu.at⟩
  have LP : ∀ (g2 : H) (u : Value), g1.le g2 → BlksAt g2 u (madeB p0 p1 p2 l) → ∀ (g3 : H) (v : Value) (fq : List Nat), g2.le g3 → OwnBlks g3 v (madeB p0 p1 p2 l) fq → fq.Nodup → Fresh g2 fq → holds Tryd.prog (Ret fun r h' => h.le h' ∧ r = .bool true) pick10 [.int .u8 p0, .int .u8 p1, .int .u8 p2, vs, av, mv, nv, .int .i64 fuel, .int .u8 c8, .int .u8 c9, .int .u8 z10, .int .i64 n11, .bool true, .int .i64 (madeP p0), .int .i64 (madeV p0 p1), u, .int .i64 (madeP p0), .int .i64 (madeV p0 p1), v] [] g3 := fun g2 u hl12 hu g3 v fq hl23 own nd hfq =>
    by
      rw [hP, hV]
      exact restG_holds ht b8 b9 b10 ha hm hn (hl1.trans hl12) hl23 hu own nd hfq hPl hB hR hck ⟨hB1, by omega⟩ ⟨hPV, by omega⟩ (by omega) hsm
  have one : ∀ (g2 : H) (u : Value) (a : g1.le g2) (b : BlksAt g2 u (madeB p0 p1 p2 l)), _ := fun g2 u a b => L1 pick10 g2 u a b (LP g2 u a b)
  have two : ∀ (g2 : H) (u : Value) (a : g1.le g2) (b : BlksAt g2 u (madeB p0 p1 p2 l)), _ := fun g2 u a b => L1 (.both pick10 pick10) g2 u a b (fun g3 v fq c d e f => ⟨LP g2 u a b g3 v fq c d e f, LP g2 u a b g3 v fq c d e f⟩)
  exact ⟨L0 _ fun g2 u a b => ⟨two g2 u a b, ⟨one g2 u a b, one g2 u a b⟩, one g2 u a b, one g2 u a b⟩, ⟨L0 _ fun g2 u a b => ⟨one g2 u a b, one g2 u a b⟩, L0 _ fun g2 u a b => one g2 u a b⟩, L0 _ fun g2 u a b => ⟨one g2 u a b, one g2 u a b⟩, L0 _ fun g2 u a b => one g2 u a b⟩
namespace liveGiven
theorem own : ownKnob Tryd.prog.godebug = none := by kernel_rfl
set_option maxRecDepth 100000 in
theorem laidOut : laidOutB Tryd.prog = true := by kernel_rfl
set_option maxRecDepth 100000 in
theorem contract (H : Type) (enc : TypeId × Value → H) (W : World) (base : Nat) (args : Array Value) (ds gs : List (DataW H)) (before : List MemPlace)
    (hval : ∀ (j : Nat) t v, Tryd.f10.params[j]? = some t → args[j]? = some v → Value.okWide Tryd.prog W .any base t v)
    (hW : DataW.Whole enc Tryd.prog Tryd.f10.params.toList Rows.liveGivenSpec.vars false W args.toList ds gs before) (hL : laidMetH Tryd.prog laid1 W) :
    Calls Tryd.prog 10 args W fun e W' => ∃ v, e = .returned v ∧ Rows.liveGivenSpec.post enc Tryd.prog Tryd.f10 false true false false W args v W' := by
  have hW' := hW
  obtain ⟨p, q, hA, hV, rfl, hfz, hnd⟩ := hW
  rw [Tryd.params10] at hA hval
  obtain ⟨v0, vs0, d0, ds0, p0, q0, hargs, rfl, rfl, h0, r0⟩ := trodAll_cons hA
  obtain ⟨v1, vs1, d1, ds1, p1, q1, rfl, rfl, rfl, h1, r1⟩ := trodAll_cons r0
  obtain ⟨v2, vs2, d2, ds2, p2, q2, rfl, rfl, rfl, h2, r2⟩ := trodAll_cons r1
  obtain ⟨v3, vs3, d3, ds3, p3, q3, rfl, rfl, rfl, h3, r3⟩ := trodAll_cons r2
  obtain ⟨v4, vs4, d4, ds4, p4, q4, rfl, rfl, rfl, h4, r4⟩ := trodAll_cons r3
  obtain ⟨v5, vs5, d5, ds5, p5, q5, rfl, rfl, rfl, h5, r5⟩ := trodAll_cons r4
  obtain ⟨rfl, rfl, rfl⟩ := trodAll_nil r5
  obtain rfl : args = #[v0, v1, v2, v3, v4, v5] := by cases args; simp_all
  obtain ⟨cs0, rfl, -⟩ := okWide_struct Tryd.underlying24 (hval 0 24 v0 rfl rfl)
  obtain ⟨p0, p1, p2, vs, l, he0, g0, g1, g2, hs⟩ := rd_spec (Rd.of h0)
  obtain rfl : cs0 = ([Value.int .u8 p0, .int .u8 p1, .int .u8 p2, vs]).toArray := by rw [← he0]; simp [Value.cells]
  obtain ⟨cs1, rfl, -⟩ := okWide_struct Tryd.underlying79 (hval 1 79 v1 rfl rfl)
  obtain ⟨av, mv, nv, fuel, args, mem, ans, he1, ha, hm, hn⟩ := rd_input (Rd.of h1)
  obtain rfl : cs1 = ([av, mv, nv, Value.int .i64 fuel]).toArray := by rw [← he1]; simp [Value.cells]
  obtain ⟨y8, rfl, -, -, wf2⟩ := open_int Tryd.underlying5 (hval 2 5 v2 rfl rfl) h2
  obtain ⟨y9, rfl, -, -, wf3⟩ := open_int Tryd.underlying5 (hval 3 5 v3 rfl rfl) h3
  obtain ⟨z10, rfl, -, -, wf4⟩ := open_int Tryd.underlying5 (hval 4 5 v4 rfl rfl) h4
  obtain ⟨n11, rfl, -, -, wf5⟩ := open_int Tryd.underlying2 (hval 5 2 v5 rfl rfl) h5
  refine (law_calls (f := 10) (args := [.agg ([Value.int .u8 p0, .int .u8 p1, .int .u8 p2, vs]).toArray, .agg ([av, mv, nv, Value.int .i64 fuel]).toArray, .int .u8 y8, .int .u8 y9, .int .u8 z10, .int .i64 n11]) (s10 (tab_of hL) hs g0 g1 g2 ha hm hn (u8_bounds wf2) (u8_bounds wf3) (u8_bounds wf4))).mono ?_
  rintro e' W' ⟨rfl, bel⟩
  exact ⟨_, rfl, law_post laidOut hW' rfl (of_decide_eq_true (by kernel_rfl)) rfl Tryd.underlying4 rfl bel⟩
set_option maxRecDepth 100000 in
theorem lifted (os : Os) (started : os.Started) (H : Type) (enc : TypeId × Value → H) :
    ReturnsInHanded {} Tryd.checked os 10 .any (fun w args => (Rows.liveGivenSpec.pre enc Tryd.prog Tryd.f10 [] false w args ∧ laidMetH Tryd.prog laid1 w) ∧ sizedMet enc Tryd.prog Tryd.f10 (OpenSpec.ofChange Rows.liveGivenSpec) false w args)
      (Rows.liveGivenSpec.post enc Tryd.prog Tryd.f10 false true false false) := by
  refine returnsInHanded_of_change_and (C := Tryd.checked) (X := fun w _ => laidMetH Tryd.prog laid1 w) (fun _ _ _ hh h => h.of_heap hh) own started (by kernel_rfl) Tryd.func10
    (ChangeSpec.witness_shaped (enc := enc) (C := Tryd.checked) (os := os) (X := fun w _ => laidMetH Tryd.prog laid1 w) false (World.laidAll Tryd.prog os laid1) #[.agg #[.int .u8 0, .int .u8 0, .int .u8 0, .slice none 0 0], .agg #[.slice none 0 0, .slice none 0 0, .slice none 0 0, .int .i64 0], .int .u8 0, .int .u8 0, .int .u8 0, .int .i64 0] 8 (World.laidAll_os _ _ _)
      (World.shaped_of_ZipB (by kernel_rfl) (by kernel_rfl)) (by kernel_rfl) (by kernel_rfl) (by kernel_rfl)
      (by rw [MakeChecks.laidMetH_plain _ _ _ (by kernel_rfl)]; exact laidMet_laidAll _ (by kernel_rfl) (by kernel_rfl))) ?_
  intro W base args ds gs before hval hW _ _ hL _
  exact contract H enc W base args ds gs before hval hW hL
set_option maxRecDepth 100000 in
theorem proved : Rows.LiveGivenSaid :=
  OpenClaim.holds_of_wide 10 Tryd.f10 rfl rfl rfl rfl rfl rfl rfl ⟨rfl, rfl, rfl, rfl, rfl⟩ rfl rfl rfl rfl rfl (by kernel_rfl) Tryd.func10 (by kernel_rfl)
    (of_decide_eq_true (by kernel_rfl)) (by unfold Func.isWrapper; first | (rw [if_pos (by decide +kernel)]; kernel_rfl) | (rw [if_neg (by decide +kernel)]; exact ⟨rfl, rfl⟩))
    (fun os started H enc _ => lifted os started H enc)
set_option maxRecDepth 100000 in
theorem card : Rows.LiveGivenCardSaid :=
  Claim7.holds_tied_plain_at .later [] [.data] true (true, "8ff38404af680b550b91fe5fd74526250c7ed431e07fb59fa8b09eeffdac340c") false proved (fun _ h => by cases h) (by kernel_rfl) (fun _ h => by cases h) liveGiven_row_tie rfl ⟨rfl, rfl⟩ (by kernel_rfl) rfl
    (fun f fn hf hfn => by
      obtain rfl : f = 10 := Option.some.inj ((show Tryd.prog.funcNamed "outworker/outworkerlaw12.LiveGiven" = some 10 by kernel_rfl).symm.trans hf) |>.symm
      obtain rfl : fn = Tryd.f10 := (Option.some.inj (Tryd.func10.symm.trans hfn)).symm
      exact ⟨by kernel_rfl, fun j t ht => by
        rw [Tryd.params10] at ht
        have hm : t ∈ [24, 79, 5, 5, 5, 2] := by simpa using Array.mem_of_getElem? ht
        have hall : ([24, 79, 5, 5, 5, 2].all fun u => !Tryd.prog.wantsStandIn u) = true := by kernel_rfl
        exact (show Tryd.prog.wantsStandIn t = false by simpa using List.all_eq_true.1 hall t hm)⟩)
    (by kernel_rfl)
end liveGiven
/-- The row, under a short name, for the claim. -/
theorem liveGivenHolds : Rows.LiveGivenCardSaid := liveGiven.card
#print axioms liveGivenHolds
end Go.Proofs.YtbbicdfipheaeaaDoor
