/-
  Colour: a register for each vreg, or none. Conditions: as each contract says.
-/
import Derived.Test.YtbgfabppmobpgaaDoorR6Z
import Derived.Test.YtbgfabppmobpgaaDoorR6L
set_option linter.unusedVariables false
set_option linter.unusedSimpArgs false
namespace Go.Proofs.YtbgfabppmobpgaaDoor
open Go

/-! ### Where it ends -/
theorem run_stop {k : Nat} {firm : List Bool} {w : CW} (h : w.step k firm = none) : ∀ n, CW.run k firm n w = w
  | 0 => rfl
  | n + 1 => by rw [CW.run, h]
theorem run_add {k : Nat} {firm : List Bool} : ∀ (n m : Nat) (w : CW), CW.run k firm (n + m) w = CW.run k firm m (CW.run k firm n w)
  | 0, m, w => by rw [Nat.zero_add]; rfl
  | n + 1, m, w => by
    rw [show n + 1 + m = (n + m) + 1 by omega]
    cases h : w.step k firm with
    | none => rw [run_stop h, run_stop h (n + 1), run_stop h]
    | some w' =>
      rw [CW.run, h]
      simp only
      rw [run_add n m w']
      conv => rhs; rw [CW.run, h]
def Ends (k : Nat) (firm : List Bool) (w w' : CW) : Prop := w'.step k firm = none ∧ ∃ n, CW.run k firm n w = w'
theorem Ends.one {k : Nat} {firm : List Bool} {w a b : CW} (h1 : Ends k firm w a) (h2 : Ends k firm w b) : a = b := by
  obtain ⟨e1, n, q1⟩ := h1
  obtain ⟨e2, m, q2⟩ := h2
  have a1 := run_add (k := k) (firm := firm) n m w
  have a2 := run_add (k := k) (firm := firm) m n w
  rw [q1, run_stop e1] at a1
  rw [q2, run_stop e2, Nat.add_comm m n] at a2
  rw [← a1, ← a2]
def cwB (g : Gr) : CW := cw0 (nearM g.n.toNat (edN g.e)) (edN g.m) g.n.toNat
structure CEnd (g : Gr) (k : Nat) (firm : List Bool) (w : CW) : Prop where
  stps : Stps k (cwB g) w
  left : ∀ v, w.left v = false
  ends : Ends k firm (cwB g) w
theorem edN_len (E : EdgeL) : (edN E).length = E.length := by unfold edN; simp
theorem edI_edN {E : EdgeL} (h : ∀ e ∈ E, 0 ≤ e.1 ∧ 0 ≤ e.2) : edI (edN E) = E := by
  unfold edI edN
  rw [List.map_map]
  conv => rhs; rw [← List.map_id E]
  refine List.map_congr_left fun e he => ?_
  have := h e he
  show (((e.1.toNat : Nat) : Int), ((e.2.toNat : Nat) : Int)) = e
  rw [Int.toNat_of_nonneg this.1, Int.toNat_of_nonneg this.2]
theorem beg0 {g : Gr} (hg : g.ok = true) : Beg0 g.n.toNat (edN g.e) (edN g.m) (nearM g.n.toNat (edN g.e)) := by
  obtain ⟨g1, g2, g3, g4, -⟩ := Gr.ok_parts hg
  have key : ∀ {E : EdgeL}, rightE g.n E = true → ∀ e ∈ edN E, e.1 < e.2 ∧ e.2 < g.n.toNat := fun {E} hE e he => by
    unfold edN at he
    obtain ⟨x, hx, rfl⟩ := List.mem_map.1 he
    have := ok_range hE hx
    simp only; omega
  exact ⟨by omega, key g3, key g4, nearM_len _ _, fun x y => nearM_nr (fun e he => by have := key g3 e he; omega) x y⟩
theorem s31 {h : H} {v : Value} {E : EdgeL} (hv : EdgesAt h v E) (hl : E.length ≤ 1000000) :
    CallsA Tryd.prog 31 (fun _ => [v]) [] h (Ret fun r h' => h.le h' ∧ ∃ fp, RowF h' 41 2 r (edV E) fp ∧ Fresh h fp) := by
  refine c31 (G := [v]) ⟨hv.fit, trivial⟩ ?_
  refine h_ite (fun hc => ?_) (fun hc => ?_)
  · replace hc : vnil v = true := hc
    have hw0 : E = [] := by
      have hvl := hv.len
      obtain ⟨a, n, c, rfl, h2, h3⟩ := hv.fit
      cases a with
      | none => have := (h2 rfl).1; simp only [vlen_sl] at hvl; exact List.eq_nil_of_length_eq_zero (by omega)
      | some a => cases hc
    subst hw0
    exact ⟨rfl, H.le_refl _, [], .inl ⟨rfl, rfl, rfl⟩, fun b hb => by cases hb⟩
  · intro b hb
    have r0 := row_empty (h := h) (b := b) (e := 41) (sz := 2)
    have l0 : h.le (h.put b (.cells ([] : List Value).toArray 41 (0, 0))) := H.le_put hb
    have hv' := EdgesAt.le l0 hv
    show holds _ _ _ [v, .slice (some ⟨b, 0, none⟩) 0 0] [] (h.put b (.cells ([] : List Value).toArray 41 (0, 0)))
    generalize h.put b (.cells ([] : List Value).toArray 41 (0, 0)) = g1 at r0 l0 hv'
    have hfb : Fresh h [b] := fun x hx => by rw [List.mem_singleton] at hx; rw [hx]; exact hb
    refine app_edges (E := []) (fp := [b]) r0 rfl hv' (by simpa using hl) fun v2 h2 f2 m1 m3 m4 => ?_
    exact ⟨rfl, m3.le l0 hfb, f2, m1, fresh_of l0 hfb m4⟩
def ColR (h : H) (g : Gr) (firm : List Bool) (k : Int) (r : Value) (h' : H) : Prop :=
  if (!g.ok || decide ((firm.length : Int) ≠ g.n)) = true then r = .tuple #[.slice none 0 0, .int .i64 30] else
  if k < 1 ∨ 8 < k then r = .tuple #[.slice none 0 0, .int .i64 40] else
  ∃ v f w, r = .tuple #[v, .int .i64 0] ∧ RowF h' 3 1 v ((w.out k.toNat).map (.int .i64)) f ∧ Fresh h f ∧ CEnd g k.toNat firm w
section
variable {h : H} {ve vm fv : Value} {g : Gr} {firm : List Bool} {k : Int}
theorem s20 (ht : Tab h) (K : GrAt h ve vm g) (hf : BoolsAt h fv firm) :
    CallsA Tryd.prog 20 (fun _ => [grV g ve vm, .int .i64 k, fv]) [] h (Ret fun r h' => h.le h' ∧ ColR h g firm k r h') := by
  refine c20 (G := [.int .i64 g.n, ve, vm, .int .i64 k, fv]) ⟨⟨_, rfl⟩, K.e.fit, K.m.fit, ⟨_, rfl⟩, hf.fit, trivial⟩ ?_
  have hfl := hf.len
  refine h_call0 (s25 K) ?_
  rintro _ h1 ⟨l1, rfl⟩
  refine ⟨[.bool g.ok], ⟨⟨_, rfl⟩, trivial⟩, rfl, ?_⟩
  simp only [List.cons_append, List.nil_append]
  obtain ⟨ok, eok⟩ : ∃ ok, ok = g.ok := ⟨_, rfl⟩
  rw [← eok]
  have hcv : ∀ r, vb ((X.ite (.not (.var 5)) (.tt true) (.cmp .neq (.len 4) (.var 0))).den [.int .i64 g.n, ve, vm, .int .i64 k, fv, .bool ok]) = r → (!ok || decide ((firm.length : Int) ≠ g.n)) = r := fun r hc => by
    rw [← hc]
    show _ = vb (if (!ok) = true then Value.bool true else .bool (cmpOp .neq ((vlen fv : Nat) : Int) g.n))
    rw [hfl, cmp_neq]
    cases ok <;> rfl
  refine h_ite (fun hc => ?_) (fun hc => ?_)
  · refine ⟨rfl, l1, ?_⟩
    unfold ColR
    rw [← eok, if_pos (hcv _ hc)]; rfl
  replace hc := hcv _ hc
  have hc0 : (!g.ok || decide ((firm.length : Int) ≠ g.n)) = false := by rw [← eok]; exact hc
  clear hcv
  rw [Bool.or_eq_false_iff, Bool.not_eq_false', decide_eq_false_iff_not, Classical.not_not] at hc
  obtain ⟨hok, hfn⟩ := hc
  rw [eok] at hok
  refine h_ite (fun hd => ?_) (fun hd => ?_)
  · replace hd : vb (if cmpOp .lss k 1 = true then Value.bool true else .bool (cmpOp .gtr k 8)) = true := hd
    rw [vb_ite, cmp_lss, cmp_gtr] at hd
    refine ⟨rfl, l1, ?_⟩
    unfold ColR
    rw [hc0, if_neg (by simp), if_pos]
    · rfl
    · by_cases h1 : k < 1
      · exact .inl h1
      · rw [if_neg (by simpa using h1)] at hd
        exact .inr (by simpa using hd)
  replace hd : vb (if cmpOp .lss k 1 = true then Value.bool true else .bool (cmpOp .gtr k 8)) = false := hd
  have hk : 1 ≤ k ∧ k ≤ 8 := by
    rw [vb_ite, cmp_lss, cmp_gtr] at hd
    by_cases h1 : k < 1
    · rw [if_pos (by simpa using h1)] at hd; cases hd
    · rw [if_neg (by simpa using h1)] at hd
      have : ¬ 8 < k := by simpa using hd
      omega
  clear hd
  obtain ⟨g1, g2, g3, g4, -⟩ := Gr.ok_parts hok
  have B := beg0 hok
  obtain ⟨N, hN⟩ : ∃ N, N = g.n.toNat := ⟨_, rfl⟩
  have hgn : g.n = (N : Int) := by omega
  obtain ⟨κ, hκ⟩ : ∃ κ : Nat, k = (κ : Int) := ⟨k.toNat, by omega⟩
  subst hκ
  have hflN : firm.length = N := by omega
  have K1 := K.le l1
  refine h_call0 (s26 K1 hok) ?_
  rintro vn h2 ⟨l2, fp2, kn, hf2, hnd2⟩
  have hnA : NearAt h2 vn (nearM g.n.toNat (edN g.e)) := kn.at (by decide) setF_at
  have hnfit := hnA.fit
  refine ⟨[vn], ⟨hnfit, trivial⟩, rfl, ?_⟩
  simp only [List.cons_append, List.nil_append]
  refine h_call0 (s31 (K1.le l2).m K.ml) ?_
  rintro vc h3 ⟨l3, fp3, km, hf3⟩
  refine ⟨[vc], ⟨km.row0.fit, trivial⟩, rfl, ?_⟩
  simp only [List.cons_append, List.nil_append]
  have hmm : edV g.m = edC (edN g.m) := by
    rw [← edV_edI, edI_edN]
    intro e he
    have := ok_range g4 he
    omega
  rw [hmm] at km
  have kn3 := kn.agree setF_good (le_agree' l3 (kn.live setF_good))
  have l13 := l1.trans (l2.trans l3)
  intro bw hbw
  have ob : (h3.put bw (.cells ([.int .i64 (κ : Int), fv, vn, vc, .slice none 0 0, .slice none 0 0, .slice none 0 0] : List Value).toArray 69 (0, 0))) bw = some (.cells ([.int .i64 (κ : Int), fv, vn, vc, .slice none 0 0, .slice none 0 0, .slice none 0 0] : List Value).toArray 69 (0, 0)) := H.put_same
  have l4 := H.le_put (o := .cells ([.int .i64 (κ : Int), fv, vn, vc, .slice none 0 0, .slice none 0 0, .slice none 0 0] : List Value).toArray 69 (0, 0)) hbw
  show holds _ _ _ [.int .i64 g.n, ve, vm, .int .i64 (κ : Int), fv, .bool ok, vn, vc, pW bw] [] (h3.put bw (.cells ([.int .i64 (κ : Int), fv, vn, vc, .slice none 0 0, .slice none 0 0, .slice none 0 0] : List Value).toArray 69 (0, 0)))
  generalize h3.put bw (.cells ([.int .i64 (κ : Int), fv, vn, vc, .slice none 0 0, .slice none 0 0, .slice none 0 0] : List Value).toArray 69 (0, 0)) = h4 at ob l4
  have kn4 := kn3.agree setF_good (le_agree' l4 (kn3.live setF_good))
  have km4 := km.agree (le_agree' l4 km.live)
  obtain ⟨w0, hw0⟩ : ∃ w0 : Nat → CW, w0 = fun v => ⟨nearM N (edN g.e), edN g.m, List.range v, fun y => decide (y < v), []⟩ := ⟨_, rfl⟩
  have K0 : WOx h h4 bw κ fv firm (w0 0) := by
    rw [hw0]
    have e0 : (fun y => decide (y < 0)) = (fun _ => false : SP) := by funext y; simp
    refine ⟨⟨vn, vc, .slice none 0 0, .slice none 0 0, .slice none 0 0⟩, upd (upd (upd (fun _ => []) 3 fp3) 2 fp2) 1 [bw], ⟨⟨l13.trans l4, ?_, ?_, ?_⟩, rfl, ob, hf, by rw [hN]; exact kn4, hnd2, km4, .inl ⟨rfl, rfl, rfl⟩, ?_, .inl ⟨rfl, rfl, rfl⟩⟩⟩
    · intro i b hb
      by_cases e1 : i = 1
      · rw [e1, upd_same, List.mem_singleton] at hb; rw [hb]; exact H.le_none l13 hbw
      · rw [upd_ne e1] at hb
        by_cases e2 : i = 2
        · rw [e2, upd_same] at hb; exact H.le_none l1 (hf2 b hb)
        · rw [upd_ne e2] at hb
          by_cases e3 : i = 3
          · rw [e3, upd_same] at hb; exact H.le_none (l1.trans l2) (hf3 b hb)
          · rw [upd_ne e3] at hb; cases hb
    · intro i b hb
      by_cases e1 : i = 1
      · rw [e1, upd_same, List.mem_singleton] at hb; rw [hb, ob]; rfl
      · rw [upd_ne e1] at hb
        by_cases e2 : i = 2
        · rw [e2, upd_same] at hb; exact kn4.live setF_good b hb
        · rw [upd_ne e2] at hb
          by_cases e3 : i = 3
          · rw [e3, upd_same] at hb; exact km4.live b hb
          · rw [upd_ne e3] at hb; cases hb
    · have d23 : ∀ b ∈ fp2, b ∉ fp3 := fun b q q' => by
        have := kn.live setF_good b q
        rw [hf3 b q'] at this; cases this
      have d12 : bw ∉ fp2 := fun q => by
        have := kn3.live setF_good bw q
        rw [hbw] at this; cases this
      have d13 : bw ∉ fp3 := fun q => by
        have := km.live bw q
        rw [hbw] at this; cases this
      have at_ : ∀ {i b}, b ∈ upd (upd (upd (fun _ => []) 3 fp3) 2 fp2) 1 [bw] i → (i = 1 ∧ b = bw) ∨ (i = 2 ∧ b ∈ fp2) ∨ (i = 3 ∧ b ∈ fp3) := fun {i b} hb => by
        by_cases e1 : i = 1
        · rw [e1, upd_same, List.mem_singleton] at hb; exact .inl ⟨e1, hb⟩
        · rw [upd_ne e1] at hb
          by_cases e2 : i = 2
          · rw [e2, upd_same] at hb; exact .inr (.inl ⟨e2, hb⟩)
          · rw [upd_ne e2] at hb
            by_cases e3 : i = 3
            · rw [e3, upd_same] at hb; exact .inr (.inr ⟨e3, hb⟩)
            · rw [upd_ne e3] at hb; cases hb
      intro i j hij b hb hb'
      rcases at_ hb with ⟨e1, q1⟩ | ⟨e1, q1⟩ | ⟨e1, q1⟩ <;> rcases at_ hb' with ⟨e2, q2⟩ | ⟨e2, q2⟩ | ⟨e2, q2⟩
      · exact hij (e1.trans e2.symm)
      · rw [q1] at q2; exact d12 q2
      · rw [q1] at q2; exact d13 q2
      · rw [q2] at q1; exact d12 q1
      · exact hij (e1.trans e2.symm)
      · exact d23 b q1 q2
      · rw [q2] at q1; exact d13 q1
      · exact d23 b q2 q1
      · exact hij (e1.trans e2.symm)
    · exact ⟨_, [], rfl, ⟨.inl ⟨rfl, rfl, rfl⟩, (fun w hw => by cases hw), by simp⟩, by show _ = (fun y => decide (y < 0)); rw [e0]; funext y; simp [hasW]⟩
  -- the vregs
  refine h_loop (fun xs h' => ∃ v : Nat, xs = [natV v] ∧ v ≤ N ∧ WOx h h' bw κ fv firm (w0 v)) (fun xs h' => N - (vi (gv xs 0)).toNat) ⟨0, rfl, Nat.zero_le _, K0⟩ ?_
  rintro xs h5 J - ⟨v, rfl, hvN, V5, F5, K5⟩ hJ
  simp only [List.cons_append, List.nil_append]
  refine h_ite (fun hc => ?_) (fun hc => ?_)
  · replace hc : cmpOp .lss (v : Int) g.n = true := hc
    rw [hgn, cmp_lss, decide_eq_true_eq] at hc
    have hst : (w0 v).st = List.range v := by rw [hw0]
    have hsl : vlen V5.st = v := by rw [K5.st_len, hst, List.length_range]
    refine h_load [V5.st] ⟨K5.fitS, trivial⟩ (fun _ => K5.rd (j := 4) rfl) ⟨[natV v], 1, ⟨rfl, rfl⟩, ?_⟩
    show AppSpec _ _ _ _ _ V5.st _ _ _
    refine app_rowF K5.st rfl zero_int' (by rw [hsl]; omega) fun v' h6 f6 m1 m2 m3 m4 => ?_
    have m1' : RowF h6 3 1 v' ((List.range (v + 1)).map natV) f6 := by
      rw [hst] at m1
      rw [List.range_succ, List.map_append]; exact m1
    obtain ⟨c1, V7, F7, K7⟩ := K5.pushSt (v' := v') m3 m1' fun b hb => by
      rcases m4 with rfl | ⟨b', rfl, hb'⟩
      · exact .inl hb
      · rw [List.mem_singleton] at hb; subst hb; exact .inr hb'
    simp only [List.cons_append, List.nil_append]
    refine h_store (Addr.add ⟨bw, 0, none⟩ 4) [v'] rfl rfl c1 ?_
    refine h_call0 (K7.putLeft (x := v) (by omega)) ?_
    rintro _ h8 ⟨⟨b8, rfl⟩, K8⟩
    refine ⟨[.bool b8], ⟨⟨_, rfl⟩, trivial⟩, rfl, ?_⟩
    show J [.int .i64 (intOp .add .i64 (v : Int) 1)] _
    rw [int_add_one (n := 1000000) (by omega) (by omega)]
    refine hJ _ _ ⟨v + 1, rfl, by omega, ?_⟩ (by simp only [gv_zero, vi_int]; omega)
    have ew : ({ { w0 v with st := List.range (v + 1) } with left := insP ({ w0 v with st := List.range (v + 1) } : CW).left v } : CW) = w0 (v + 1) := by
      rw [hw0]
      simp only [CW.mk.injEq, true_and, and_true]
      funext y
      unfold insP
      rw [← Bool.decide_or]
      exact decide_eq_decide.2 (by omega)
    rw [ew] at K8
    exact K8
  replace hc : cmpOp .lss (v : Int) g.n = false := hc
  rw [hgn, cmp_lss, decide_eq_false_iff_not] at hc
  obtain rfl : v = N := by omega
  clear hc hJ
  have ewb : w0 v = cwB g := by rw [hw0, hN]; rfl
  rw [ewb] at K5
  clear hw0 K0 ewb
  have C0 : CInv v (cwB g) := by rw [hN]; exact B.inv
  have Z0 : Szs v (cwB g) := by
    refine ⟨?_, by show (edN g.m).length ≤ _; rw [edN_len]; exact K.ml⟩
    show ([] : List Nat).length + cntP (fun y => decide (y < g.n.toNat)) ≤ v
    rw [← hN]
    have := cnt_lt (N := v) (by omega)
    simpa using this
  refine h_loopM (fun n xs h' => ∃ w t, xs = [] ∧ n = w.mu ∧ CW.run κ firm t (cwB g) = w ∧ Stps κ (cwB g) w ∧ CInv v w ∧ Szs v w ∧ WOx h h' bw κ fv firm w) _ ⟨cwB g, 0, rfl, rfl, rfl, .nil, C0, Z0, V5, F5, K5⟩ ?_
  rintro n xs h6 J - ⟨w, t, rfl, rfl, er, S, C, Z, V6, F6, K6⟩ hJ
  simp only [List.append_nil]
  have go : ∀ {w' : CW} {h7 : H}, w.step κ firm = some w' → WOx h h7 bw κ fv firm w' → J [] h7 := fun {w' h7} e K7 => by
    have st := step_stp e
    obtain ⟨C', hm⟩ := st.inv C
    refine hJ w'.mu _ _ ⟨w', t + 1, rfl, rfl, ?_, S.snoc st, C', st.szs C Z, K7⟩ hm
    rw [run_add, er, CW.run, e]; rfl
  refine h_call0 (s33 ht K6 C Z) ?_
  rintro _ h7 (⟨w', e1, rfl, K7⟩ | ⟨e1, rfl, V7, F7, K7⟩)
  · refine ⟨[.bool true], ⟨⟨_, rfl⟩, trivial⟩, rfl, h_ite (fun q => by cases q) (fun _ => go ?_ K7)⟩
    unfold CW.step; rw [e1]; rfl
  refine ⟨[.bool false], ⟨⟨_, rfl⟩, trivial⟩, rfl, h_ite (fun _ => ?_) (fun q => by cases q)⟩
  simp only [List.cons_append, List.nil_append]
  refine h_call0 (s34 ht K7 C Z hflN) ?_
  rintro _ h8 (⟨w', e2, rfl, K8⟩ | ⟨e2, rfl, V8, F8, K8⟩)
  · refine ⟨[.bool true], ⟨⟨_, rfl⟩, trivial⟩, rfl, h_ite (fun q => by cases q) (fun _ => go ?_ K8)⟩
    unfold CW.step; rw [e1, e2]; rfl
  refine ⟨[.bool false], ⟨⟨_, rfl⟩, trivial⟩, rfl, h_ite (fun _ => ?_) (fun q => by cases q)⟩
  simp only [List.cons_append, List.nil_append]
  refine h_call0 (s35 ht K8 C Z) ?_
  rintro _ h9 (⟨w', e3, rfl, K9⟩ | ⟨e3, rfl, V9, F9, K9⟩)
  · refine ⟨[.bool true], ⟨⟨_, rfl⟩, trivial⟩, rfl, h_ite (fun q => by cases q) (fun _ => go ?_ K9)⟩
    unfold CW.step; rw [e1, e2, e3]; rfl
  refine ⟨[.bool false], ⟨⟨_, rfl⟩, trivial⟩, rfl, h_ite (fun _ => ?_) (fun q => by cases q)⟩
  simp only [List.cons_append, List.nil_append]
  refine h_call0 (s36 ht K9 C Z hflN) ?_
  rintro _ h10 (⟨w', e4, rfl, K10⟩ | ⟨e4, rfl, V10, F10, K10⟩)
  · refine ⟨[.bool true], ⟨⟨_, rfl⟩, trivial⟩, rfl, h_ite (fun _ => go ?_ K10) (fun q => by cases q)⟩
    unfold CW.step; rw [e1, e2, e3, e4]; rfl
  refine ⟨[.bool false], ⟨⟨_, rfl⟩, trivial⟩, rfl, h_ite (fun q => by cases q) (fun _ => ?_)⟩
  simp only [List.cons_append, List.nil_append]
  have estep : w.step κ firm = none := by unfold CW.step; rw [e1, e2, e3, e4]; rfl
  refine h_call0 (s37 ht K10 C Z (by omega)) ?_
  rintro vo h11 ⟨l11, f11, k11, hf11⟩
  refine ⟨[vo], ⟨k11.row0.fit, trivial⟩, rfl, rfl, K10.wf.le.trans l11, ?_⟩
  unfold ColR
  rw [hc0, if_neg (by simp), if_neg (by omega), Int.toNat_natCast]
  refine ⟨vo, f11, w, rfl, k11, fun b hb => H.le_none K10.wf.le (hf11 b hb), ⟨S, fun x => ?_, estep, t, er⟩⟩
  cases hx : w.left x with
  | false => rfl
  | true =>
    have hx4 := Nat.lt_of_lt_of_le (C.leftN x hx) C.hN
    rw [step_none estep hx4] at hx; cases hx
end
end Go.Proofs.YtbgfabppmobpgaaDoor
