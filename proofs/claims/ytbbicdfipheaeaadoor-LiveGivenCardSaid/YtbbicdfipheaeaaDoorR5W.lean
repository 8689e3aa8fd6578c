/-
  A function's blocks, with spills and fills put in: what Wide computes. Conditions: the blocks are one's own, their numbers small.
-/
import Derived.Test.YtbbicdfipheaeaaDoorR5N
import Derived.Test.YtbbicdfipheaeaaDoorInsL
import Derived.Test.YtbbicdfipheaeaaDoorR5Tw
set_option linter.unusedVariables false
set_option linter.unusedSimpArgs false
namespace Go.Proofs.YtbbicdfipheaeaaDoor
open Go

def inP_ : PE := .fld (.idx (.var 2) (RX 5 2) 5) 0
def finW : Out := .again 0 [(.int .i64 (.op .add .i64 (.var 4) (.lit 3)))]
def chainW (m : Nat) (cs : List SV) (lA lB lC lD : List Nat) : Out :=
  stills inP_ lA (.app 72 7 64 (.val (m + 1 + 4)) (.sl (.val (m + 1 + 1))) (stills inP_ lB (.app 72 7 64 (.val (m + 1 + 5)) (.cells cs 1) (stills inP_ lC (.app 72 7 64 (.val (m + 1 + 6)) (.sl (.val (m + 1 + 3))) (stills inP_ lD (.store inP_ [.val (m + 1 + 7)] finW)))))))
def wideT (m ka : Nat) (cs : List SV) : Out :=
  .load (.tt true) inP_ [.sl] 
  (.need (.tt true) [(.cmp .neq (.op .add .i64 (.len m) (.lit 1)) (.lit 0))] 
  (.load (.tt true) inP_ [.sl] 
  (.need (.tt true) [(.cmp .geq (KX ka m) (.lit 0)), (.cmp .leq (KX ka m) (.cap (m + 1)))] 
  (.bnd (.slice (.val (m + 1)) none (some (KX ka m)) 7) 
  (.load (.tt true) inP_ [.sl] 
  (.need (.tt true) [(.cmp .geq (KX ka m) (.lit 0)), (.cmp .leq (KX ka m) (.len (m + 3)))] 
  (.bnd (.slice (.val (m + 3)) (some (KX ka m)) none 7) 
  (.both 
    (.alloc 72 [] (.lsl 0) (stills inP_ [m + 3, m + 1] (.both (chainW m cs [] [m + 3, m + 1, m + 3, m + 1] [m + 3, m + 1] [m + 3, m + 1]) (chainW m cs [m + 3, m + 1] [m + 3, m + 1] [m + 3, m + 1] [m + 3, m + 1]))))
    (stills inP_ [m + 3, m + 1] (.alloc 72 [] (.lsl 0) (chainW m cs [m + 3, m + 1] [m + 3, m + 1] [m + 3, m + 1] [m + 3, m + 1])))))))))))
theorem wideT_holds {R : Value → List (List Value) → H → Prop} {G : List Value} {L : Lv} {h : H} {u : Value} {B : List Blk} {fp : List Nat} {m ka : Nat} {b5 bk : Int} {cs : List SV} {y : Ins} (own : OwnBlks h u B fp) (hnd : fp.Nodup) (hB1 : 1 ≤ B.length) (hsm : ∀ x ∈ B, x.ins.length ≤ 900)
    (hG : G.length = m) (e2 : gv G 2 = u) (e5 : gv G 5 = .int .u8 b5) (ek : gv G ka = .int .u8 bk) (h5 : 5 < m) (hka : ka < m) (hb5 : 0 ≤ b5 ∧ b5 ≤ 255) (hbk : 0 ≤ bk ∧ bk ≤ 255) (hy : y.args = []) (hcs : ∀ D, SV.denL (G ++ D) dE cs = insC y (.slice none 0 0))
    (K : ∀ h' fp' D x k, B[bI b5 B.length]? = some x → k ≤ x.ins.length → OwnBlks h' u (B.set (bI b5 B.length) ⟨x.ins.take k ++ [y] ++ x.ins.drop k, x.en⟩) fp' → fp'.Nodup → KeptH h h' fp → (∀ b ∈ fp', b ∈ fp ∨ h b = none) → holds Tryd.prog R finW (G ++ D) L h') :
    holds Tryd.prog R (wideT m ka cs) G L h := by
  have hul := own.at.len
  have hlt := bI_lt hb5.1 (show 0 < B.length by omega)
  have hx := List.getElem?_eq_getElem hlt
  have hxm := List.getElem_mem hlt
  generalize B[bI b5 B.length] = x at hx hxm
  have hxl := hsm x hxm
  obtain ⟨c, f, L1, L2, fr, KL⟩ := SlF.lens own hx
  obtain ⟨w, rfl, hw⟩ := KL.rep
  have hwl := hw.len (by omega)
  have hwf : Fits .sl w := by obtain ⟨_, _, _, _, h4, _⟩ := hw; exact h4.row0.fit
  have hwc : x.ins.length ≤ vcap w := by
    rw [← hwl]
    obtain ⟨a, n, c, rfl, _, hn⟩ := hwf
    exact hn
  have hrd : Reads h ((vaddr u).add (bI b5 B.length * 5 + 0)) [w] := KL.reads fun j z hj => by obtain ⟨rfl, rfl⟩ := get_one hj; rfl
  have pe : ∀ D, inP_.den (G ++ D) = (vaddr u).add (bI b5 B.length * 5 + 0) := fun D => by
    have e5' : gv (G ++ D) 5 = .int .u8 b5 := by rw [gv_of_lt (by omega), e5]
    have e2' : gv (G ++ D) 2 = u := by rw [gv_of_lt (by omega), e2]
    have := rx_val (G := G ++ D) (a := 5) (l := 2) (m := B.length) e5' (by rw [e2']; exact hul) hb5 (by omega)
    simp only [inP_, PE.den, this, Int.toNat_natCast, e2', add_add]
  have pe0 : inP_.den G = (vaddr u).add (bI b5 B.length * 5 + 0) := by have := pe []; rwa [List.append_nil] at this
  have gm : ∀ D, gv (G ++ D) m = gv D 0 := fun D => gv_eq0 hG
  have gp : ∀ D j, gv (G ++ D) (m + j) = gv D j := fun D j => gv_eq hG j
  have gk : ∀ D, gv (G ++ D) ka = .int .u8 bk := fun D => by rw [gv_of_lt (by omega), ek]
  have kx : ∀ D, gv D 0 = w → vi ((KX ka m).den (G ++ D)) = ((kI bk x.ins.length : Nat) : Int) := fun D e => kx_val (gk D) (by rw [gm, e, hwl]) hbk (by omega)
  have hkl := kI_le (n := x.ins.length) hbk
  refine h_load [w] ⟨hwf, trivial⟩ (fun _ => by rw [pe0]; exact hrd) ⟨fun _ => need_len1 (m := x.ins.length) (by rw [gm]; exact hwl) (by omega), h_load [w] ⟨hwf, trivial⟩ (fun _ => by rw [pe]; exact hrd) ⟨fun _ => ?_, ?_⟩⟩
  · rw [List.append_assoc]
    have e : vb ((X.cmp .geq (KX ka m) (.lit 0)).den (G ++ ([w] ++ [w]))) = cmpOp .geq (vi ((KX ka m).den (G ++ ([w] ++ [w])))) 0 := rfl
    have e' : vb ((X.cmp .leq (KX ka m) (.cap (m + 1))).den (G ++ ([w] ++ [w]))) = cmpOp .leq (vi ((KX ka m).den (G ++ ([w] ++ [w])))) (vcap (gv (G ++ ([w] ++ [w])) (m + 1)) : Nat) := rfl
    refine ⟨by rw [e, kx _ rfl]; exact ge0 _, ?_, trivial⟩
    rw [e', kx _ rfl, gp, cmp_leq, decide_eq_true_eq]
    show ((kI bk x.ins.length : Nat) : Int) ≤ (vcap w : Nat)
    omega
  intro v1 hv1
  replace hv1 : v1 = sliceV w 0 (kI bk x.ins.length) 7 := by
    rw [hv1, List.append_assoc]
    show sliceV (gv (G ++ ([w] ++ [w])) (m + 1)) 0 (vi ((KX ka m).den (G ++ ([w] ++ [w])))).toNat 7 = _
    rw [kx _ rfl, gp, Int.toNat_natCast]; rfl
  simp only [List.append_assoc, List.cons_append, List.nil_append]
  refine h_load [w] ⟨hwf, trivial⟩ (fun _ => by rw [pe]; exact hrd) ⟨fun _ => ?_, ?_⟩
  · simp only [List.append_assoc, List.cons_append, List.nil_append]
    have e : vb ((X.cmp .geq (KX ka m) (.lit 0)).den (G ++ [w, w, v1, w])) = cmpOp .geq (vi ((KX ka m).den (G ++ [w, w, v1, w]))) 0 := rfl
    have e' : vb ((X.cmp .leq (KX ka m) (.len (m + 3))).den (G ++ [w, w, v1, w])) = cmpOp .leq (vi ((KX ka m).den (G ++ [w, w, v1, w]))) (vlen (gv (G ++ [w, w, v1, w]) (m + 3)) : Nat) := rfl
    refine ⟨by rw [e, kx _ rfl]; exact ge0 _, ?_, trivial⟩
    rw [e', kx _ rfl, gp, cmp_leq, decide_eq_true_eq]
    show ((kI bk x.ins.length : Nat) : Int) ≤ (vlen w : Nat)
    rw [hwl]; omega
  intro v2 hv2
  replace hv2 : v2 = sliceV w (kI bk x.ins.length) x.ins.length 7 := by
    rw [hv2]
    simp only [List.append_assoc, List.cons_append, List.nil_append]
    show sliceV (gv (G ++ [w, w, v1, w]) (m + 3)) (vi ((KX ka m).den (G ++ [w, w, v1, w]))).toNat (vlen (gv (G ++ [w, w, v1, w]) (m + 3))) 7 = _
    rw [kx _ rfl, gp, Int.toNat_natCast]
    show sliceV w _ (vlen w) 7 = _
    rw [hwl]
  simp only [List.append_assoc, List.cons_append, List.nil_append]
  have chain : ∀ {b0 : Nat}, h b0 = none → ∀ lA lB lC lD, (∀ q ∈ lA ++ (lB ++ (lC ++ lD)), q = m + 1 ∨ q = m + 1 + 2) → holds Tryd.prog R (chainW m cs lA lB lC lD) (G ++ [w, w, v1, w, v2] ++ [.slice (some ⟨b0, 0, none⟩) 0 0]) L (h.put b0 (.cells ([] : List Value).toArray 72 (0, 0))) := fun {b0} hb0 lA lB lC lD hl => by
    rw [List.append_assoc]
    refine ins_chainG (n := m + 1) (i := bI b5 B.length) (k := kI bk x.ins.length) (ys := [y]) hnd KL hkl (fun z hz => by rw [List.mem_singleton] at hz; subst hz; exact hy) (by simp) (msrc := .cells cs 1) (by omega) hb0 lA lB lC lD (by simp [hG]) ?_ ?_ ?_ ?_ ?_ (fun D => by rw [List.append_assoc]; exact pe _) (fun D h' _ => ⟨?_, rfl⟩) hl ?_
    · rw [gp]; rfl
    · rw [show m + 1 + 1 = m + 2 from rfl, gp, ← hv1]; rfl
    · rw [show m + 1 + 2 = m + 3 from rfl, gp]; rfl
    · rw [show m + 1 + 3 = m + 4 from rfl, gp, ← hv2]; rfl
    · rw [show m + 1 + 4 = m + 5 from rfl, gp]; rfl
    · rw [List.append_assoc, hcs]; simp [ysC]
    · intro h' fp' D _ o1 o2 o3 o4
      rw [List.append_assoc]
      exact K h' fp' _ x _ hx hkl o1 o2 o3 o4
  have st : ∀ (D : List Value) (h' : H), h.le h' → (∀ q, q = m + 3 ∨ q = m + 1 → gv (G ++ D) q = w) → ∀ q ∈ [m + 3, m + 1], Reads h' (inP_.den (G ++ D)) [gv (G ++ D) q] := fun D h' hl e q hq => by
    rw [pe, e q (by simpa using hq)]
    exact hrd.le hl
  refine ⟨fun b0 hb0 => ?_, ?_⟩
  · refine h_stills ?_ ⟨chain hb0 _ _ _ _ (by simp), chain hb0 _ _ _ _ (by simp)⟩
    intro q hq
    rw [List.append_assoc]
    refine st _ _ (H.le_put hb0) (fun q hq => ?_) q hq
    rcases hq with rfl | rfl
    · rw [gp]; rfl
    · rw [gp]; rfl
  · refine h_stills ?_ (fun b0 hb0 => chain hb0 _ _ _ _ (by simp))
    intro q hq
    refine st _ _ (H.le_refl _) (fun q hq => ?_) q hq
    rcases hq with rfl | rfl
    · rw [gp]; rfl
    · rw [gp]; rfl

/-! ### All of it -/
/-- Blocks that have instructions more, with small numbers. -/
structure WideOk (B B' : List Blk) : Prop where
  len : B'.length = B.length
  en : ∀ {i : Nat} {x' : Blk}, B'[i]? = some x' → ∃ x : Blk, B[i]? = some x ∧ x'.en = x.en
  reg : RegL B'
theorem WideOk.refl {B : List Blk} (h : RegL B) : WideOk B B := ⟨rfl, fun {i x'} h => ⟨x', h, rfl⟩, h⟩
theorem WideOk.okB {B B' : List Blk} (h : WideOk B B') (hO : OkB B) : OkB B' := fun b hb n hn => by
  obtain ⟨i, hi⟩ := List.getElem?_of_mem hb
  obtain ⟨x, h1, h2⟩ := h.en hi
  rw [h2] at hn
  have := hO x (List.mem_of_getElem? h1) n hn
  rw [h.len]; exact this
theorem WideOk.next {B B' : List Blk} (h : WideOk B B') (b : Nat) : nextN B' b = nextN B b := by
  unfold nextN
  cases e : B'[b]? with
  | none =>
    have : B[b]? = none := by
      rw [List.getElem?_eq_none_iff] at e ⊢
      rw [← h.len]; exact e
    rw [this]
  | some x' =>
    obtain ⟨x, h1, h2⟩ := h.en e
    rw [h1]
    simp only [h2]
theorem reg_spill {d a : Int} (ha : 0 ≤ a ∧ a < 4096) : RegI (spillI 7 d a) := ⟨fun u hu => by simp [usesM, spillI] at hu; subst hu; exact ha, fun h => by simp [givesM, spillI] at h, by simp [spillI]⟩
theorem reg_fill {d a : Int} (hd : 0 ≤ d ∧ d < 4096) : RegI (spillI 8 d a) := ⟨fun u hu => by simp [usesM, spillI] at hu, fun h => hd, by simp [spillI]⟩
theorem WideOk.put {B B1 : List Blk} (h : WideOk B B1) {i k : Nat} {x : Blk} {y : Ins} (hx : B1[i]? = some x) (hy : RegI y) (hl : x.ins.length ≤ 900) : WideOk B (B1.set i ⟨x.ins.take k ++ [y] ++ x.ins.drop k, x.en⟩) := by
  have hlt := (List.getElem?_eq_some_iff.1 hx).1
  refine ⟨by rw [List.length_set]; exact h.len, fun {j x'} hj => ?_, fun b hb => ?_⟩
  · rw [List.getElem?_set] at hj
    by_cases e : i = j
    · subst e
      rw [if_pos rfl, if_pos hlt] at hj
      cases hj
      obtain ⟨z, h1, h2⟩ := h.en hx
      exact ⟨z, h1, h2⟩
    · rw [if_neg e] at hj
      exact h.en hj
  · rcases List.mem_or_eq_of_mem_set hb with q | q
    · exact h.reg b q
    · subst q
      have rx := h.reg x (List.mem_of_getElem? hx)
      refine ⟨fun z hz => ?_, rx.last, ?_⟩
      · simp only [List.mem_append, List.mem_singleton] at hz
        rcases hz with (q | q) | q
        · exact rx.ins z (List.mem_of_mem_take q)
        · subst q; exact hy
        · exact rx.ins z (List.mem_of_mem_drop q)
      · have e1 : (x.ins.take k ++ [y] ++ x.ins.drop k).length = x.ins.length + 1 := by simp; omega
        show (x.ins.take k ++ [y] ++ x.ins.drop k).length ≤ 100000
        omega
theorem add_small {i c : Nat} (h : i ≤ 1000) (hc : c ≤ 10) : intOp .add .i64 (i : Int) (c : Int) = ((i + c : Nat) : Int) := by
  simp only [intOp]
  rw [wrap_i64 (by omega) (by omega)]; omega
theorem rem_conv {a : Int} {m : Nat} (h0 : 0 ≤ a) (h1 : a ≤ 255) (hm : 1 ≤ m) : ∃ d : Nat, intOp .rem .i64 (IntKind.i64.wrap a) (m : Int) = (d : Int) ∧ d < m := by
  have := tmod_range (a := a) (n := m) h0 (by omega)
  refine ⟨(a.tmod m).toNat, ?_, by omega⟩
  simp only [intOp]
  rw [wrap_i64 (n := a) (by omega) (by omega)]
  omega
set_option maxRecDepth 4000 in
theorem s30 {h : H} {u vm : Value} {P : Int} {V : Nat} {B : List Blk} {fp : List Nat} {A : List Int} (own : OwnBlks h u B fp) (hnd : fp.Nodup) (hB1 : 1 ≤ B.length) (hsm : ∀ x ∈ B, x.ins.length ≤ 100) (hR : RegL B) (hV : 1 ≤ V ∧ V ≤ 64)
    (hA : BytesAt (H.cut h fp) vm A) :
    CallsA Tryd.prog 30 (fun _ => [.agg #[.int .i64 P, .int .i64 (V : Int), u], vm]) [] h (Ret fun r h' => r = u ∧ ∃ B' fp', OwnBlks h' u B' fp' ∧ fp'.Nodup ∧ KeptH h h' fp ∧ (∀ b ∈ fp', b ∈ fp ∨ h b = none) ∧ WideOk B B') := by
  refine c30 (G := [.int .i64 P, .int .i64 (V : Int), u, vm]) ⟨⟨_, rfl⟩, ⟨_, rfl⟩, own.at.fit, hA.fit, trivial⟩ ?_
  have hal := hA.len
  refine h_loop (fun xs h' => ∃ (i : Nat) (B1 : List Blk) (f1 : List Nat), xs = [natV i] ∧ i ≤ 32 ∧ OwnBlks h' u B1 f1 ∧ f1.Nodup ∧ KeptH h h' fp ∧ (∀ b ∈ f1, b ∈ fp ∨ h b = none) ∧ WideOk B B1 ∧ ∀ x ∈ B1, x.ins.length ≤ 100 + i)
    (fun xs h' => 40 - (vi (gv xs 0)).toNat) ⟨0, B, fp, rfl, by omega, own, hnd, KeptH.refl _ _, fun b hb => .inl hb, WideOk.refl hR, hsm⟩ ?_
  rintro xs h' J - ⟨i, B1, f1, rfl, hi, o1, n1, k1, q1, W1, hs1⟩ hJ
  simp only [List.cons_append, List.nil_append]
  refine h_ite (fun hc => ?_) (fun _ => ⟨rfl, rfl, B1, f1, o1, n1, k1, q1, W1⟩)
  have a2 := add_small (i := i) (c := 2) (by omega) (by omega)
  have a1 := add_small (i := i) (c := 1) (by omega) (by omega)
  have a3 := add_small (i := i) (c := 3) (by omega) (by omega)
  have hc' : i + 2 < A.length ∧ i < 30 := by
    simp only [X.den, gv_zero, gv_succ, vi_int, vb_ite, vb_bool, hal, cmp_lss, decide_eq_true_eq] at hc
    rw [show ((2 : Int)) = ((2 : Nat) : Int) from rfl, a2] at hc
    split at hc
    · rename_i h1
      simp only [decide_eq_true_eq] at hc
      omega
    · cases hc
  clear hc
  obtain ⟨hi2, hi30⟩ := hc'
  have hA' : BytesAt h' vm A := hA.le (k1.le (H.cut_le h fp) (H.cut_fresh h fp))
  obtain ⟨x0, hx0⟩ : ∃ x, A[i]? = some x := ⟨_, List.getElem?_eq_getElem (by omega)⟩
  obtain ⟨x1, hx1⟩ : ∃ x, A[i + 1]? = some x := ⟨_, List.getElem?_eq_getElem (by omega)⟩
  obtain ⟨x2, hx2⟩ : ∃ x, A[i + 2]? = some x := ⟨_, List.getElem?_eq_getElem (by omega)⟩
  obtain ⟨r0, b0⟩ := hA'.read hx0
  obtain ⟨r1, b1⟩ := hA'.read hx1
  obtain ⟨r2, b2⟩ := hA'.read hx2
  have hBl := W1.len
  have hul := o1.at.len
  have nd0 : ∀ D : List Value, needs (.int .i64 P :: .int .i64 (V : Int) :: u :: vm :: natV i :: D) [(.cmp .geq (.var 4) (.lit 0)), (.cmp .lss (.var 4) (.len 3))] := fun D => by
    simp only [needs, X.den, gv_zero, gv_succ, vi_int, vb_bool, hal, and_true]
    exact ⟨ge0 i, ltN (by omega)⟩
  have nd1 : ∀ D : List Value, needs (.int .i64 P :: .int .i64 (V : Int) :: u :: vm :: natV i :: D) [(.cmp .geq (.op .add .i64 (.var 4) (.lit 1)) (.lit 0)), (.cmp .lss (.op .add .i64 (.var 4) (.lit 1)) (.len 3))] := fun D => by
    simp only [needs, X.den, gv_zero, gv_succ, vi_int, vb_bool, hal, and_true]
    rw [show ((1 : Int)) = ((1 : Nat) : Int) from rfl, a1]
    exact ⟨ge0 _, ltN (by omega)⟩
  have nd2 : ∀ D : List Value, needs (.int .i64 P :: .int .i64 (V : Int) :: u :: vm :: natV i :: D) [(.cmp .geq (.op .add .i64 (.var 4) (.lit 2)) (.lit 0)), (.cmp .lss (.op .add .i64 (.var 4) (.lit 2)) (.len 3))] := fun D => by
    simp only [needs, X.den, gv_zero, gv_succ, vi_int, vb_bool, hal, and_true]
    rw [show ((2 : Int)) = ((2 : Nat) : Int) from rfl, a2]
    exact ⟨ge0 _, ltN (by omega)⟩
  have nV : ∀ D : List Value, needs (.int .i64 P :: .int .i64 (V : Int) :: u :: vm :: natV i :: D) [(.cmp .neq (.var 1) (.lit 0))] := fun D => by
    simp only [needs, X.den, gv_zero, gv_succ, vi_int, vb_bool, cmp_neq, decide_eq_true_eq, and_true]; omega
  have p1 : ∀ D : List Value, PE.den (.int .i64 P :: .int .i64 (V : Int) :: u :: vm :: natV i :: D) (.idx (.var 3) (.op .add .i64 (.var 4) (.lit 1)) 1) = (vaddr vm).add ((i + 1) * 1) := fun D => by
    simp only [PE.den, X.den, gv_zero, gv_succ, vi_int]
    rw [show ((1 : Int)) = ((1 : Nat) : Int) from rfl, a1, Int.toNat_natCast]
  have p2 : ∀ D : List Value, PE.den (.int .i64 P :: .int .i64 (V : Int) :: u :: vm :: natV i :: D) (.idx (.var 3) (.op .add .i64 (.var 4) (.lit 2)) 1) = (vaddr vm).add ((i + 2) * 1) := fun D => by
    simp only [PE.den, X.den, gv_zero, gv_succ, vi_int]
    rw [show ((2 : Int)) = ((2 : Nat) : Int) from rfl, a2, Int.toNat_natCast]
  refine ⟨fun _ => nd0 _, h_load [.int .u8 x0] ⟨⟨_, rfl⟩, trivial⟩ (fun _ => r0) ⟨fun _ => ?_, fun _ => ?_, fun _ => nd1 _, h_load [.int .u8 x1] ⟨⟨_, rfl⟩, trivial⟩ (fun _ => ?_) ⟨fun _ => nd2 _, h_load [.int .u8 x2] ⟨⟨_, rfl⟩, trivial⟩ (fun _ => ?_) ⟨fun _ => nV _, fun _ => ?_, fun _ => ?_, fun _ => nd0 _, h_load [.int .u8 x0] ⟨⟨_, rfl⟩, trivial⟩ (fun _ => r0) ?_⟩⟩⟩⟩
  · exact need_len (m := B1.length) (l := 2) hul (by omega)
  · exact need_rx (a := 5) (l := 2) (m := B1.length) rfl hul b0 (by omega)
  · simp only [List.cons_append, List.nil_append]; rw [p1]; exact r1
  · simp only [List.cons_append, List.nil_append]; rw [p2]; exact r2
  · simp only [List.cons_append, List.nil_append]; rw [p2]; exact r2
  · simp only [List.cons_append, List.nil_append]; rw [p1]; exact r1
  simp only [List.cons_append, List.nil_append]
  -- one more put in
  have fin : ∀ {R : Value → List (List Value) → H → Prop} (y : Ins), RegI y → ∀ h2 fp2 E x k, gv E 4 = natV i → B1[bI x0 B1.length]? = some x → k ≤ x.ins.length → OwnBlks h2 u (B1.set (bI x0 B1.length) ⟨x.ins.take k ++ [y] ++ x.ins.drop k, x.en⟩) fp2 → fp2.Nodup → KeptH h' h2 f1 → (∀ b ∈ fp2, b ∈ f1 ∨ h' b = none) →
      holds Tryd.prog R finW E (List.take 0 [] ++ [J]) h2 := fun {R} y hy h2 fp2 E x k hE hx hk o2 n2 k2 q2 => by
    obtain ⟨t1, t2⟩ := kept_chain k1 q1 k2 q2
    show J [.int .i64 (intOp .add .i64 (vi (gv E 4)) 3)] h2
    rw [hE, vi_int, show ((3 : Int)) = ((3 : Nat) : Int) from rfl, a3]
    have hxm := List.mem_of_getElem? hx
    have hxl := hs1 x hxm
    refine hJ _ _ ⟨i + 3, _, fp2, rfl, by omega, o2, n2, t1, t2, W1.put hx hy (by omega), fun z hz => ?_⟩ ?_
    · rcases List.mem_or_eq_of_mem_set hz with q | q
      · have := hs1 z q; omega
      · subst q
        have : (x.ins.take k ++ [y] ++ x.ins.drop k).length = x.ins.length + 1 := by simp; omega
        show (x.ins.take k ++ [y] ++ x.ins.drop k).length ≤ _
        omega
    · simp only [gv_zero, vi_int]; omega
  have hsm1 : ∀ x ∈ B1, x.ins.length ≤ 900 := fun x hx => by have := hs1 x hx; omega
  refine h_ite (fun _ => ?_) (fun _ => ?_)
  · obtain ⟨d, hd, hd2⟩ := rem_conv (a := x1) (m := V) b1.1 b1.2 hV.1
    obtain ⟨e, he, he2⟩ := rem_conv (a := x2) (m := 64) b2.1 b2.2 (by omega)
    refine ⟨fun _ => nd1 _, h_load [.int .u8 x1] ⟨⟨_, rfl⟩, trivial⟩ (fun _ => ?_) ⟨fun _ => nV _, fun _ => nd2 _, h_load [.int .u8 x2] ⟨⟨_, rfl⟩, trivial⟩ (fun _ => ?_) ⟨fun _ => nd0 _, h_load [.int .u8 x0] ⟨⟨_, rfl⟩, trivial⟩ (fun _ => r0) ?_⟩⟩⟩
    · rw [p1]; exact r1
    · simp only [List.cons_append, List.nil_append]; rw [p2]; exact r2
    simp only [List.cons_append, List.nil_append]
    refine wideT_holds (m := 12) (ka := 11) (y := spillI 8 d e) o1 n1 (by omega) hsm1 rfl rfl rfl rfl (by omega) (by omega) b0 b0 rfl (fun D => ?_) (fun h2 fp2 D x k a b c d e f => fin _ (reg_fill (by omega)) h2 fp2 _ x k rfl a b c d e f)
    simp only [List.cons_append, List.nil_append, SV.denL, SV.den, X.den, gv_zero, gv_succ, vi_int]
    rw [hd, show ((64 : Int)) = ((64 : Nat) : Int) from rfl, he]; rfl
  · obtain ⟨d, hd, hd2⟩ := rem_conv (a := x1) (m := 64) b1.1 b1.2 (by omega)
    obtain ⟨e, he, he2⟩ := rem_conv (a := x2) (m := V) b2.1 b2.2 hV.1
    refine ⟨fun _ => nd0 _, h_load [.int .u8 x0] ⟨⟨_, rfl⟩, trivial⟩ (fun _ => r0) ?_⟩
    simp only [List.cons_append, List.nil_append]
    refine wideT_holds (m := 10) (ka := 9) (y := spillI 7 d e) o1 n1 (by omega) hsm1 rfl rfl rfl rfl (by omega) (by omega) b0 b0 rfl (fun D => ?_) (fun h2 fp2 D x k a b c d e f => fin _ (reg_spill (by omega)) h2 fp2 _ x k rfl a b c d e f)
    simp only [List.cons_append, List.nil_append, SV.denL, SV.den, X.den, gv_zero, gv_succ, vi_int]
    rw [he, show ((64 : Int)) = ((64 : Nat) : Int) from rfl, hd]; rfl
end Go.Proofs.YtbbicdfipheaeaaDoor
