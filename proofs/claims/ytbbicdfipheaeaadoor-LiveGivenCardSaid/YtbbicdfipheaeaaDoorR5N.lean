/-
  What live.Of computes, and the chapter's example. Conditions: the blocks' numbers are small.
-/
import Derived.Test.YtbbicdfipheaeaaDoorR5M
import Derived.Test.YtbbicdfipheaeaaDoorR5J
set_option linter.unusedVariables false
set_option linter.unusedSimpArgs false
namespace Go.Proofs.YtbbicdfipheaeaaDoor
open Go

/-! ### Plain -/
abbrev LeP (p q : SP) : Prop := ∀ y, p y = true → q y = true
theorem back_mono {x : Ins} {p q : SP} (h : LeP p q) : LeP (backP x p) (backP x q) := fun y hy => by
  unfold backP orP lessP at hy ⊢
  simp only [Bool.or_eq_true, Bool.and_eq_true] at hy ⊢
  exact hy.imp (fun z => ⟨h y z.1, z.2⟩) id
theorem top_mono {b : Blk} {p q : SP} (h : LeP p q) : LeP (topP b p) (topP b q) := fun y hy => by
  unfold topP orP at hy ⊢
  simp only [Bool.or_eq_true] at hy ⊢
  exact hy.imp (h y) id
theorem passB_mono {b : Blk} {p q : SP} (h : LeP p q) : LeP (passB b p) (passB b q) := by
  unfold passB
  induction b.ins with
  | nil => exact top_mono h
  | cons x l ih => exact back_mono ih
theorem blkP_mono {B : List Blk} {b : Nat} {p q : SP} (h : LeP p q) : LeP (blkP B b p) (blkP B b q) := by
  unfold blkP
  split
  · exact passB_mono h
  · exact h
theorem wayV {B : List Blk} {l : List SP} (h : Way (flV B) l) : ∀ {b : Nat} {x : SP} {y : Nat}, l[b]? = some x → x y = true → ∃ a z, a ∈ nextN B b ∧ l[a]? = some z ∧ blkP B a z y = true := by
  induction h with
  | first =>
    intro b x y hx hn
    rw [List.getElem?_map, Option.map_eq_some_iff] at hx
    obtain ⟨c, h1, rfl⟩ := hx
    cases hn
  | @step l b a x y z hw hb ha hx hy hz ok ih =>
    intro c w n hc hn
    have hlt := (List.getElem?_eq_some_iff.1 hx).1
    have up : ∀ {d u}, l[d]? = some u → ∃ u', (l.set b ((flV B).join x ((flV B).pass a z)))[d]? = some u' ∧ LeP u u' := fun {d u} hd => by
      by_cases e : b = d
      · subst e
        rw [hx] at hd; cases hd
        exact ⟨_, List.getElem?_set_self hlt, fun q hq => by show (x q || _) = true; rw [hq]; rfl⟩
      · exact ⟨u, by rw [List.getElem?_set_ne e]; exact hd, fun q hq => hq⟩
    have lift : ∀ {m}, (∃ a z, a ∈ nextN B m ∧ l[a]? = some z ∧ blkP B a z n = true) → ∃ a' z', a' ∈ nextN B m ∧ (l.set b ((flV B).join x ((flV B).pass a z)))[a']? = some z' ∧ blkP B a' z' n = true := fun {m} ⟨a', z', h1, h2, h3⟩ => by
      obtain ⟨u', q1, q2⟩ := up h2
      exact ⟨a', u', h1, q1, blkP_mono q2 n h3⟩
    rw [List.getElem?_set] at hc
    split at hc
    · rename_i e
      subst e
      cases hc
      replace hn : (x n || blkP B a z n) = true := hn
      rw [Bool.or_eq_true] at hn
      rcases hn with hn | hn
      · exact lift (ih hx hn)
      · exact lift ⟨a, y, ha, hy, blkP_mono hz n hn⟩
    · exact lift (ih hc hn)
/-- What is needed behind a block is what is needed ahead of those that follow. -/
theorem eqV {B : List Blk} (hO : OkB B) {l : List SP} (K : Solved (flV B) l) {b : Nat} {x : SP} (hx : l[b]? = some x) (y : Nat) : x y = true ↔ ∃ a z, a ∈ nextN B b ∧ l[a]? = some z ∧ blkP B a z y = true := by
  have hb : b < (flV B).N := by rw [← K.len]; exact (List.getElem?_eq_some_iff.1 hx).1
  exact ⟨fun h => wayV K.way hx h, fun ⟨a, z, h1, h2, h3⟩ => K.closed hb h1 hx h2 y h3⟩
/-- What is needed ahead of each block. -/
def inP (B : List Blk) (L : List SP) : List SP := (List.range L.length).map fun b => blkP B b (L.getD b fun _ => false)
theorem inP_len (B : List Blk) (L : List SP) : (inP B L).length = L.length := by simp [inP]
theorem inP_at {B : List Blk} {L : List SP} {b : Nat} {x : SP} (h : L[b]? = some x) : (inP B L)[b]? = some (blkP B b x) := by
  have hlt := (List.getElem?_eq_some_iff.1 h).1
  unfold inP
  rw [List.getElem?_map, List.getElem?_range hlt]
  simp [List.getD_eq_getElem?_getD, h]

/-! ### The function -/
theorem zero_setc : (zeroCells Tryd.prog 39).getD [] = [.slice none 0 0] := by kernel_rfl
set_option maxRecDepth 4000 in
theorem s31 {h : H} {u : Value} {B : List Blk} (ht : Tab h) (hv : BlksAt h u B) (hO : OkB B) (hB : RegL B) (h2 : B.length ≤ 1000) :
    CallsA Tryd.prog 31 (fun _ => [u]) [] h (Ret fun r h' => h.le h' ∧ ∃ vi vo L, r = .tuple #[vi, vo] ∧ Solved (flV B) L ∧ SetsSt h h' vo L ∧ SetsSt h h' vi (inP B L)) := by
  refine c31 (G := [u]) ⟨hv.fit, trivial⟩ fun c hc => ?_
  have hul := hv.len
  have r1 := var_new (h := h) (b := c) (e := 26) (x := u)
  have l1 : h.le (h.put c (.cells [u].toArray 26 (0, 0))) := H.le_put hc
  show holds _ _ _ [u, .pointer (some ⟨c, 0, none⟩)] _ (h.put c (.cells [u].toArray 26 (0, 0)))
  generalize h.put c (.cells [u].toArray 26 (0, 0)) = g1 at r1 l1 ⊢
  have hr := var_read r1
  have hv1 := SlAt.le blkC_mono l1 hv
  refine h_load [u] ⟨hv.fit, trivial⟩ (fun _ => hr) ?_
  simp only [List.cons_append, List.nil_append]
  have hsolve : CallsA Tryd.prog 15 (fun _ => [.agg #[.int .i64 ((vlen u : Nat) : Int), .func (.func 57) #[] #[.pointer (some ⟨c, 0, none⟩)], .func (.func 58) #[] #[], .func (.func 17) #[] #[], .func (.func 59) #[] #[.pointer (some ⟨c, 0, none⟩)]]]) [] g1
      (Ret fun r h' => g1.le h' ∧ ∃ l fp, Solved (flV B) l ∧ SlF 39 1 SetF h' r l fp ∧ Fresh g1 fp ∧ fp.Nodup) := by
    rw [hul]
    exact s15 (F := flV B) (flV_good hO hB) (flV_C (ht.le l1) hr hv1 hO hB h2) h2 (z0 := fun _ => false) (fun _ => zero_set)
  refine h_call0 hsolve ?_
  rintro vg g2 ⟨l2, L, fg, hsol, hgot, hfg, hng⟩
  have hgl : vlen vg = L.length := SlF.len (by omega) hgot
  have hLl : L.length = B.length := hsol.len
  have hgfit : Fits .sl vg := by obtain ⟨L, fr, _, _, h4, _⟩ := hgot; exact h4.row0.fit
  refine ⟨[vg], ⟨hgfit, trivial⟩, rfl, ?_⟩
  simp only [List.cons_append, List.nil_append]
  have Ko : SetsSt h g2 vg L := ⟨fg, hgot, hng, l1.trans l2, fun b hb => H.le_none l1 (hfg b hb)⟩
  refine h_loop (fun xs h' => ∃ (i : Nat) (vi : Value), xs = [vi, natV i] ∧ i ≤ B.length ∧ SetsSt g2 h' vi ((inP B L).take i))
    (fun xs h' => B.length - (vi (gv xs 1)).toNat) ⟨0, .slice none 0 0, rfl, Nat.zero_le _, ⟨[], SlF.nil, List.nodup_nil, H.le_refl _, fun b hb => by cases hb⟩⟩ ?_
  rintro xs g3 J - ⟨i, vi, rfl, hi, K3⟩ hJ
  simp only [List.cons_append, List.nil_append]
  have l3 := K3.le
  refine h_ite (fun hc => ?_) (fun hc => ?_)
  · replace hc : cmpOp .lss (i : Int) ((vlen vg : Nat) : Int) = true := hc
    rw [hgl, hLl, cmp_lss, decide_eq_true_eq] at hc
    have hiN : i < B.length := by omega
    obtain ⟨x, hx⟩ : ∃ x, L[i]? = some x := ⟨_, List.getElem?_eq_getElem (by rw [hLl]; exact hiN)⟩
    have hbx := List.getElem?_eq_getElem hiN
    have hbm := List.getElem_mem hiN
    generalize B[i] = bk at hbx hbm
    obtain ⟨c1, f1, hF1, hrd1, -⟩ := hgot.get1 hx
    have hF3 := setF_good.agree (le_agree' l3 (setF_good.live hF1)) hF1
    have hr3 := (hr.le l2).le l3
    have hv3 := SlAt.le blkC_mono (l2.trans l3) hv1
    obtain ⟨cs, ⟨w, rfl, hw⟩, hrd⟩ := hv3.get i bk hbx
    have nd : ∀ {D : List Value} {q q' b : Nat} {vx : Value}, gv D q = natV b → gv D q' = vx → vlen vx = B.length → b < B.length → needs D [(.cmp .geq (.var q) (.lit 0)), (.cmp .lss (.var q) (.len q'))] := fun {D q q' b vx} e1 e2 e3 e4 => by
      simp only [needs, X.den, e1, e2, e3, vb_bool, vi_int, and_true]
      exact ⟨ge0 b, ltN e4⟩
    refine ⟨fun _ => nd (vx := vg) rfl rfl (by rw [hgl, hLl]) hiN, h_load [c1] ⟨hF1.fit1, trivial⟩ (fun _ => hrd1.le l3) (h_load [u] ⟨hv.fit, trivial⟩ (fun _ => hr3) ⟨fun _ => nd (vx := u) rfl rfl hul hiN, h_load (w :: endC bk.en) ⟨hw.fit, ⟨_, rfl⟩, ⟨_, rfl⟩, ⟨_, rfl⟩, ⟨_, rfl⟩, trivial⟩ (fun _ => hrd) ?_⟩)⟩
    refine h_call0 (s60 hw hF3 (hB bk hbm)) ?_
    rintro _ g4 ⟨l4, c4, f4, rfl, hF4, hf4, hn4⟩
    refine ⟨[c4], ⟨hF4.fit1, trivial⟩, rfl, fun _ => hr3.le l4, fun _ => hr3.le l4, ?_⟩
    obtain ⟨fi, ki, ni, lei, fri⟩ := K3
    have ki4 := ki.agree setF_good (le_agree' l4 (ki.live setF_good))
    have hdj : ∀ z ∈ fi, z ∉ f4 := fun z hz hz' => by
      have := ki.live setF_good z hz
      rw [hf4 z hz'] at this; cases this
    refine ⟨[c4], 1, ⟨rfl, rfl⟩, ?_⟩
    show AppSpec g4 39 1 24 _ vi [c4] 1 _
    refine app_slF setF_good (by omega) ki4 rfl hF4 (nodup_app ni hn4 hdj) (by rw [zero_setc]; rfl) (by rw [List.length_take]; omega) fun v5 g5 f5 m1 m2 m3 m4 => ?_
    refine ⟨fun _ => (hr.le l2).le (m3.le (lei.trans l4) fri), ?_⟩
    show J [v5, .int .i64 (intOp .add .i64 (i : Int) 1)] g5
    rw [int_add_one (n := 1000) (by omega) (by omega)]
    refine hJ _ _ ⟨i + 1, v5, rfl, by omega, f5, ?_, m2, m3.le (lei.trans l4) fri, fun z hz => ?_⟩ ?_
    · rw [List.take_add_one, inP_at hx, blkP_at hbx]; exact m1
    · rcases m4 z hz with q | q | q
      · exact fri z q
      · exact H.le_none l3 (hf4 z q)
      · exact H.le_none (lei.trans l4) q
    · simp only [gv_zero, gv_succ, vi_int]; omega
  · replace hc : cmpOp .lss (i : Int) ((vlen vg : Nat) : Int) = false := hc
    rw [hgl, hLl, cmp_lss, decide_eq_false_iff_not] at hc
    have hie : i = B.length := by omega
    subst hie
    rw [List.take_of_length_le (by rw [inP_len, hLl]; exact Nat.le_refl _)] at K3
    exact ⟨rfl, Ko.le.trans l3, vi, vg, L, rfl, hsol, Ko.grow l3, K3.weak Ko.le⟩
theorem SetsSt.len {g h : H} {v : Value} {L : List SP} (K : SetsSt g h v L) : vlen v = L.length := by obtain ⟨fp, k, _⟩ := K; exact SlF.len (by omega) k
theorem SetsSt.fit {g h : H} {v : Value} {L : List SP} (K : SetsSt g h v L) : Fits .sl v := by obtain ⟨fp, ⟨L, fr, _, _, h4, _⟩, _⟩ := K; exact h4.row0.fit
/-- Asked whether a number is in a set of a row. -/
theorem SetsSt.has {g h : H} {v : Value} {L : List SP} (K : SetsSt g h v L) {i x : Nat} {p : SP} (hi : L[i]? = some p) (hx : x < 4096) : ∃ c, Fits .sl c ∧ Reads h ((vaddr v).add (i * 1)) [c] ∧ ∀ {h'}, h.le h' →
    CallsA Tryd.prog 23 (fun _ => [.agg #[c], natV x]) [] h' (Ret fun r h2 => h2 = h' ∧ r = .bool (p x)) := by
  obtain ⟨c, f, ⟨c', ws, e, hs, hp⟩, h2, h3⟩ := K.read hi
  obtain rfl : c = c' := by simpa using e
  refine ⟨c, h2, h3, fun {h'} hl => ?_⟩
  have hs' : SetIs h' c ws f := hs.agree (le_agree' hl hs.live)
  have := s23 (x := x) (rowF_words hs'.1) hs'.2.1 hx
  rw [hp] at this
  exact this
theorem SetsSt.count {g h : H} {v : Value} {L : List SP} (K : SetsSt g h v L) {i : Nat} {p : SP} (hi : L[i]? = some p) : ∃ c, Fits .sl c ∧ Reads h ((vaddr v).add (i * 1)) [c] ∧ ∀ {h'}, h.le h' →
    CallsA Tryd.prog 53 (fun _ => [.agg #[c]]) [] h' (Ret fun r h2 => h2 = h' ∧ r = natV (cntP p)) := by
  obtain ⟨c, f, ⟨c', ws, e, hs, hp⟩, h2, h3⟩ := K.read hi
  obtain rfl : c = c' := by simpa using e
  refine ⟨c, h2, h3, fun {h'} hl => ?_⟩
  have hs' : SetIs h' c ws f := hs.agree (le_agree' hl hs.live)
  have := s53 (rowF_words hs'.1) hs'.2.1 hs'.2.2
  rw [allW_cnt hs'.2.2, hp] at this
  exact this
end Go.Proofs.YtbbicdfipheaeaaDoor
