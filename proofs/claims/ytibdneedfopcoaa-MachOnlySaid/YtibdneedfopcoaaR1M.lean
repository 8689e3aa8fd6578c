/-
  What the maker of functions computes: its numbers, its instructions. Conditions: as each contract says.
-/
import Derived.Test.YtibdneedfopcoaaOwn
import Derived.Test.YtibdneedfopcoaaR1B
import Derived.Test.YtibdneedfopcoaaR1Tk
set_option linter.unusedVariables false
set_option linter.unusedSimpArgs false
namespace Go.Proofs.Ytibdneedfopcoaa
open Go

def nextM (n : Int) : List Int → Int × List Int
  | [] => (0, [])
  | x :: l => (x.tmod n, l)
def InB (l : List Int) : Prop := ∀ x ∈ l, 0 ≤ x ∧ x ≤ 255
theorem BytesAt.inB {h : H} {v : Value} {l : List Int} (H : BytesAt h v l) : InB l := fun x hx => by
  obtain ⟨i, hi⟩ := List.getElem?_of_mem hx
  exact (H.read hi).2
theorem nextM_range {n : Int} {l : List Int} (hn : 0 < n) (hl : InB l) : 0 ≤ (nextM n l).1 ∧ (nextM n l).1 < n := by
  cases l with
  | nil => exact ⟨Int.le_refl _, hn⟩
  | cons x l =>
    have := (hl x (List.mem_cons_self ..)).1
    exact ⟨Int.tmod_nonneg n this, Int.tmod_lt_of_pos x hn⟩
theorem nextM_inB {n : Int} {l : List Int} (hl : InB l) : InB (nextM n l).2 := by
  cases l with
  | nil => exact hl
  | cons x l => exact fun y hy => hl y (List.mem_cons_of_mem _ hy)
/-- Wherever the one reads as the one row, the other reads as the other. -/
def NextV (v : Value) (l : List Int) (v' : Value) (l' : List Int) : Prop := ∀ g : H, BytesAt g v l → BytesAt g v' l'
theorem NextV.trans {v v' v'' : Value} {l l' l'' : List Int} (a : NextV v l v' l') (b : NextV v' l' v'' l'') : NextV v l v'' l'' := fun g h => b g (a g h)
theorem s37k {h : H} {v : Value} {l : List Int} {n : Int} (hv : BytesAt h v l) (hn : 0 < n) :
    CallsA Try.prog 37 (fun e => [(e 0).ptr 0, .int .i64 n]) [[v]] h (RetC fun r c h' => h' = h ∧ (∃ v', c = [v'] ∧ NextV v l v' (nextM n l).2) ∧ r = .int .i64 (nextM n l).1) := by
  refine c37k (G := [v, .int .i64 n]) ⟨hv.fit, ⟨_, rfl⟩, trivial⟩ ?_
  have hl := hv.len
  refine h_ite (fun hc => ⟨_, rfl, rfl, ⟨v, rfl, ?_⟩, ?_⟩) (fun hc => ?_)
  · simp only [holds, X.den, PE.den, SV.den, SV.denL, NK.val, NK.sv, NK.pub, gv_zero, gv_succ, vi_int, vb_bool, vlen_sl, vaddr_ptr, vb_ite, vi_ite, cmp_eql, cmp_neq, cmp_lss, cmp_leq, cmp_gtr, cmp_geq, List.map_nil, List.map_cons, List.cons_append, List.nil_append, List.flatten_nil, needs, Ret, true_and, and_true, decide_eq_true_eq, forall_const, intOp] at hc
    have : l = [] := List.eq_nil_of_length_eq_zero (by omega)
    subst this; exact fun g hg => hg
  · simp only [holds, X.den, PE.den, SV.den, SV.denL, NK.val, NK.sv, NK.pub, gv_zero, gv_succ, vi_int, vb_bool, vlen_sl, vaddr_ptr, vb_ite, vi_ite, cmp_eql, cmp_neq, cmp_lss, cmp_leq, cmp_gtr, cmp_geq, List.map_nil, List.map_cons, List.cons_append, List.nil_append, List.flatten_nil, needs, Ret, true_and, and_true, decide_eq_true_eq, forall_const, intOp] at hc ⊢
    have : l = [] := List.eq_nil_of_length_eq_zero (by omega)
    subst this; rfl
  · simp only [holds, X.den, PE.den, SV.den, SV.denL, NK.val, NK.sv, NK.pub, gv_zero, gv_succ, vi_int, vb_bool, vlen_sl, vaddr_ptr, vb_ite, vi_ite, cmp_eql, cmp_neq, cmp_lss, cmp_leq, cmp_gtr, cmp_geq, List.map_nil, List.map_cons, List.cons_append, List.nil_append, List.flatten_nil, needs, Ret, true_and, and_true, decide_eq_true_eq, forall_const, intOp, decide_eq_false_iff_not] at hc
    cases l with
    | nil => simp at hl; omega
    | cons x l =>
      obtain ⟨hr, hx0, hx1⟩ := hv.read (i := 0) (x := x) rfl
      have hlen : 1 ≤ vlen v := by rw [hl]; simp
      refine ⟨fun _ => ⟨rfl, ?_, trivial⟩, h_load [.int .u8 x] ⟨⟨_, rfl⟩, trivial⟩ (fun _ => hr) ⟨fun _ => ⟨?_, trivial⟩, fun _ => ⟨rfl, ?_, trivial⟩, ?_⟩⟩
      · simp only [holds, X.den, PE.den, SV.den, SV.denL, NK.val, NK.sv, NK.pub, gv_zero, gv_succ, vi_int, vb_bool, vlen_sl, vaddr_ptr, vb_ite, vi_ite, cmp_eql, cmp_neq, cmp_lss, cmp_leq, cmp_gtr, cmp_geq, List.map_nil, List.map_cons, List.cons_append, List.nil_append, List.flatten_nil, needs, Ret, true_and, and_true, decide_eq_true_eq, forall_const, intOp]; omega
      · simp only [holds, X.den, PE.den, SV.den, SV.denL, NK.val, NK.sv, NK.pub, gv_zero, gv_succ, vi_int, vb_bool, vlen_sl, vaddr_ptr, vb_ite, vi_ite, cmp_eql, cmp_neq, cmp_lss, cmp_leq, cmp_gtr, cmp_geq, List.map_nil, List.map_cons, List.cons_append, List.nil_append, List.flatten_nil, needs, Ret, true_and, and_true, decide_eq_true_eq, forall_const, intOp]; omega
      · simp only [holds, X.den, PE.den, SV.den, SV.denL, NK.val, NK.sv, NK.pub, gv_zero, gv_succ, vi_int, vb_bool, vlen_sl, vaddr_ptr, vb_ite, vi_ite, cmp_eql, cmp_neq, cmp_lss, cmp_leq, cmp_gtr, cmp_geq, List.map_nil, List.map_cons, List.cons_append, List.nil_append, List.flatten_nil, needs, Ret, true_and, and_true, decide_eq_true_eq, forall_const, intOp]; omega
      · rintro _ rfl
        refine ⟨_, rfl, rfl, ⟨sliceV v 1 (vlen v) 1, rfl, ?_⟩, ?_⟩
        · intro g hg
          have := hg.slice (lo := 1) (hi := (x :: l).length) (by simp) (Nat.le_refl _)
          rw [hl]
          show BytesAt g _ l
          simpa [List.take_of_length_le] using this
        · simp only [holds, X.den, PE.den, SV.den, SV.denL, NK.val, NK.sv, NK.pub, gv_zero, gv_succ, vi_int, vb_bool, vlen_sl, vaddr_ptr, vb_ite, vi_ite, cmp_eql, cmp_neq, cmp_lss, cmp_leq, cmp_gtr, cmp_geq, List.map_nil, List.map_cons, List.cons_append, List.nil_append, List.flatten_nil, needs, Ret, true_and, and_true, decide_eq_true_eq, forall_const, intOp, nextM]
          rw [wrap_i64 (by omega) (by omega)]
/-- So many numbers, one behind the other. -/
def argsM (v : Int) (l : List Int) : Nat → List Int × List Int
  | 0 => ([], l)
  | k + 1 => ((argsM v l k).1 ++ [(nextM v (argsM v l k).2).1], (nextM v (argsM v l k).2).2)
def insM (v : Int) (l0 : List Int) : Ins × List Int :=
  let a := nextM 9 l0
  let k := 1 + a.1
  if k = 1 then let b := nextM v a.2; let c := nextM 256 b.2; (⟨1, 0, b.1, 0, 0, c.1 - 3, []⟩, c.2)
  else if k = 4 then let b := nextM v a.2; let c := nextM v b.2; (⟨4, 0, b.1, c.1, 0, 0, []⟩, c.2)
  else if k = 5 then let b := nextM v a.2; let c := nextM v b.2; (⟨5, 0, 0, b.1, c.1, 0, []⟩, c.2)
  else if k = 6 then let b := nextM v a.2; let c := nextM 5 b.2; let d := nextM 4 c.2; let r := argsM v d.2 d.1.toNat; (⟨6, 0, b.1, 0, 0, c.1, r.1⟩, r.2)
  else if k = 2 ∨ k = 7 then let b := nextM v a.2; let c := nextM v b.2; (⟨2, 0, b.1, c.1, 0, 0, []⟩, c.2)
  else let b := nextM 7 a.2; let c := nextM v b.2; let d := nextM v c.2; let e := nextM v d.2; (⟨3, 1 + b.1, c.1, d.1, e.1, 0, []⟩, e.2)
def InsF : RepF Ins := fun h cs x fp => ∃ u, cs = insC x u ∧ RowF h 3 1 u (x.args.map (.int .i64)) fp
theorem wrap_u8 {n : Int} (h1 : 0 ≤ n) (h2 : n < 256) : IntKind.u8.wrap n = n := by
  simp [IntKind.wrap, IntKind.bits, IntKind.signed]; omega
/-- One number more. -/
theorem next_step {P : Program} {R : Value → List (List Value) → H → Prop} {G : List Value} {L : Lv} {h : H} {k : Out} {ks : List Nat} {key : Nat} {u : Nat} {nx : X} {v : Value} {l : List Int} {n : Int} (hP : P = Try.prog) (hkey : kIdx ks key = 0)
    (hu : gv G u = v) (hx : vi (nx.den G) = n) (hv : BytesAt h v l) (hn : 0 < n)
    (hk : ∀ v', NextV v l v' (nextM n l).2 → holds P R k (G ++ [v', .int .i64 (nextM n l).1]) L h) :
    holds P R (.call 37 [.loc key 0, .int .i64 nx] ks [[.val u]] [[.sl]] [(false, [.int .i64])] k) G L h := by
  subst hP
  have hc := s37k (h := h) hv hn
  refine h_call1 (Q := fun r c h' => h' = h ∧ (∃ v', c = [v'] ∧ NextV v l v' (nextM n l).2) ∧ r = .int .i64 (nextM n l).1) ?_ ?_
  · simp only [SV.denL, SV.den, hkey, hx, hu]
    exact hc
  · rintro r c h' ⟨rfl, ⟨v', rfl, hv'⟩, rfl⟩
    exact ⟨⟨(hv' _ hv).fit, trivial⟩, [.int .i64 (nextM n l).1], ⟨⟨_, rfl⟩, trivial⟩, rfl, hk v' hv'⟩
theorem argsM_inB {v : Int} {l : List Int} (hl : InB l) : ∀ k, InB (argsM v l k).2
  | 0 => hl
  | k + 1 => nextM_inB (argsM_inB hl k)
theorem argsM_len {v : Int} {l : List Int} : ∀ k, (argsM v l k).1.length = k
  | 0 => rfl
  | k + 1 => by simp [argsM, argsM_len k]
theorem KeptH.le_nil {h h' : H} (k : KeptH h h' []) : h.le h' := k.le (H.le_refl _) (fun b hb => by cases hb)
theorem s38k {h : H} {v : Value} {l : List Int} {n : Int} (hv : BytesAt h v l) (hn : 0 < n) :
    CallsA Try.prog 38 (fun e => [(e 0).ptr 0, .int .i64 n]) [[v]] h (RetC fun r c h' => KeptH h h' [] ∧ (∃ v', c = [v'] ∧ NextV v l v' (insM n l).2) ∧
      ∃ u fp, r = .agg (insC (insM n l).1 u).toArray ∧ InsF h' (insC (insM n l).1 u) (insM n l).1 fp ∧ Fresh h fp ∧ fp.Nodup) := by
  refine c38k (G := [v, .int .i64 n]) ⟨hv.fit, ⟨_, rfl⟩, trivial⟩ ?_
  have hb := hv.inB
  refine next_step (n := 9) rfl rfl rfl rfl hv (by omega) fun v1 hn1 => ?_
  have hv1 := hn1 _ hv
  have hk := nextM_range (n := 9) (l := l) (by omega) hb
  have hfin : ∀ {x : Ins} {l' : List Int} {v' r : Value}, insM n l = (x, l') → x.args = [] → NextV v l v' l' → r = Value.agg (insC x (.slice none 0 0)).toArray →
      RetC (fun r c h' => KeptH h h' [] ∧ (∃ v', c = [v'] ∧ NextV v l v' (insM n l).2) ∧
      ∃ u fp, r = .agg (insC (insM n l).1 u).toArray ∧ InsF h' (insC (insM n l).1 u) (insM n l).1 fp ∧ Fresh h fp ∧ fp.Nodup) r [[v']] h := by
    intro x l' v' r e ha hv' hr
    refine ⟨[v'], rfl, KeptH.refl _ _, ⟨v', rfl, by rw [e]; exact hv'⟩, .slice none 0 0, [], by rw [e]; exact hr, ⟨_, rfl, .inl ⟨rfl, ?_, rfl⟩⟩, (fun b hb => by cases hb), List.nodup_nil⟩
    rw [e]; simp [ha]
  obtain ⟨a1, ha1⟩ : ∃ a1, a1 = (nextM 9 l).1 := ⟨_, rfl⟩
  rw [← ha1] at hk ⊢
  have hkw : IntKind.u8.wrap (intOp .add .i64 1 a1) = 1 + a1 := by
    simp only [intOp]
    rw [wrap_i64 (by omega) (by omega), wrap_u8 (by omega) (by omega)]
  refine h_ite (fun hc => ?_) (fun hc => h_ite (fun hc2 => ?_) (fun hc2 => h_ite (fun hc3 => ?_) (fun hc3 => h_ite (fun hc4 => ?_) (fun hc4 => h_ite (fun hc5 => ?_) (fun hc5 => ?_)))))
  · replace hc : cmpOp .eql (IntKind.u8.wrap (intOp .add .i64 1 a1)) 1 = true := hc
    rw [hkw, cmp_eql, decide_eq_true_eq] at hc
    refine next_step (n := n) rfl rfl rfl rfl hv1 hn fun v2 hn2 => ?_
    have hv2 := hn2 _ hv1
    refine next_step (n := 256) rfl rfl rfl rfl hv2 (by omega) fun v3 hn3 => ?_
    have hr := nextM_range (n := 256) (by omega) hv2.inB
    obtain ⟨q, hq⟩ : ∃ q, q = (nextM 256 (nextM n (nextM 9 l).2).2).1 := ⟨_, rfl⟩
    rw [← hq] at hr ⊢
    refine hfin (x := ⟨1, 0, (nextM n (nextM 9 l).2).1, 0, 0, q - 3, []⟩) ?_ rfl ((hn1.trans hn2).trans hn3) ?_
    · unfold insM; simp only [← ha1]; rw [if_pos hc, ← hq]
    · show Value.agg #[.int .u8 (IntKind.u8.wrap (intOp .add .i64 1 a1)), .int .u8 0, .int .i64 _, .int .i64 0, .int .i64 0, .int .i64 (IntKind.i64.wrap (q - 3)), .slice none 0 0] = _
      rw [hkw, hc, wrap_i64 (by omega) (by omega)]; rfl
  · replace hc : cmpOp .eql (IntKind.u8.wrap (intOp .add .i64 1 a1)) 1 = false := hc
    replace hc2 : cmpOp .eql (IntKind.u8.wrap (intOp .add .i64 1 a1)) 4 = true := hc2
    rw [hkw, cmp_eql] at hc hc2
    simp only [decide_eq_true_eq, decide_eq_false_iff_not] at hc hc2
    refine next_step (n := n) rfl rfl rfl rfl hv1 hn fun v2 hn2 => ?_
    have hv2 := hn2 _ hv1
    refine next_step (n := n) rfl rfl rfl rfl hv2 hn fun v3 hn3 => ?_
    refine hfin (x := ⟨4, 0, (nextM n (nextM 9 l).2).1, (nextM n (nextM n (nextM 9 l).2).2).1, 0, 0, []⟩) ?_ rfl ((hn1.trans hn2).trans hn3) ?_
    · unfold insM; simp only [← ha1]; rw [if_neg hc, if_pos hc2]
    · show Value.agg #[.int .u8 (IntKind.u8.wrap (intOp .add .i64 1 a1)), .int .u8 0, .int .i64 _, .int .i64 _, .int .i64 0, .int .i64 0, .slice none 0 0] = _
      rw [hkw, hc2]; rfl
  · replace hc : cmpOp .eql (IntKind.u8.wrap (intOp .add .i64 1 a1)) 1 = false := hc
    replace hc2 : cmpOp .eql (IntKind.u8.wrap (intOp .add .i64 1 a1)) 4 = false := hc2
    replace hc3 : cmpOp .eql (IntKind.u8.wrap (intOp .add .i64 1 a1)) 5 = true := hc3
    rw [hkw, cmp_eql] at hc hc2 hc3
    simp only [decide_eq_true_eq, decide_eq_false_iff_not] at hc hc2 hc3
    refine next_step (n := n) rfl rfl rfl rfl hv1 hn fun v2 hn2 => ?_
    have hv2 := hn2 _ hv1
    refine next_step (n := n) rfl rfl rfl rfl hv2 hn fun v3 hn3 => ?_
    refine hfin (x := ⟨5, 0, 0, (nextM n (nextM 9 l).2).1, (nextM n (nextM n (nextM 9 l).2).2).1, 0, []⟩) ?_ rfl ((hn1.trans hn2).trans hn3) ?_
    · unfold insM; simp only [← ha1]; rw [if_neg hc, if_neg hc2, if_pos hc3]
    · show Value.agg #[.int .u8 (IntKind.u8.wrap (intOp .add .i64 1 a1)), .int .u8 0, .int .i64 0, .int .i64 _, .int .i64 _, .int .i64 0, .slice none 0 0] = _
      rw [hkw, hc3]; rfl
  · replace hc : cmpOp .eql (IntKind.u8.wrap (intOp .add .i64 1 a1)) 1 = false := hc
    replace hc2 : cmpOp .eql (IntKind.u8.wrap (intOp .add .i64 1 a1)) 4 = false := hc2
    replace hc3 : cmpOp .eql (IntKind.u8.wrap (intOp .add .i64 1 a1)) 5 = false := hc3
    replace hc4 : cmpOp .eql (IntKind.u8.wrap (intOp .add .i64 1 a1)) 6 = true := hc4
    rw [hkw, cmp_eql] at hc hc2 hc3 hc4
    simp only [decide_eq_true_eq, decide_eq_false_iff_not] at hc hc2 hc3 hc4
    refine next_step (n := n) rfl rfl rfl rfl hv1 hn fun v2 hn2 => ?_
    have hv2 := hn2 _ hv1
    refine next_step (n := 5) rfl rfl rfl rfl hv2 (by omega) fun v3 hn3 => ?_
    have hv3 := hn3 _ hv2
    refine next_step (n := 4) rfl rfl rfl rfl hv3 (by omega) fun v4 hn4 => ?_
    have hr := nextM_range (n := 4) (by omega) hv3.inB
    have hnv := ((hn1.trans hn2).trans hn3).trans hn4
    obtain ⟨m, hm⟩ : ∃ m, m = (nextM 4 (nextM 5 (nextM n (nextM 9 l).2).2).2).1 := ⟨_, rfl⟩
    obtain ⟨l4, hl4⟩ : ∃ l4, l4 = (nextM 4 (nextM 5 (nextM n (nextM 9 l).2).2).2).2 := ⟨_, rfl⟩
    rw [← hm] at hr ⊢
    rw [← hl4] at hnv
    have hI : insM n l = (⟨6, 0, (nextM n (nextM 9 l).2).1, 0, 0, (nextM 5 (nextM n (nextM 9 l).2).2).1, (argsM n l4 m.toNat).1⟩, (argsM n l4 m.toNat).2) := by
      unfold insM; simp only [← ha1]; rw [if_neg hc, if_neg hc2, if_neg hc3, if_pos hc4, ← hm, ← hl4]
    refine h_loop (fun xs h' => ∃ (i : Nat) (u v' : Value) (fp : List Nat), xs = [.int .i64 (i : Int), u, v'] ∧ (i : Int) ≤ m ∧ KeptH h h' [] ∧ NextV v l v' (argsM n l4 i).2 ∧ RowF h' 3 1 u ((argsM n l4 i).1.map (.int .i64)) fp ∧ Fresh h fp ∧ fp.Nodup)
      (fun xs h' => (m - vi (gv xs 0)).toNat) ⟨0, .slice none 0 0, v4, [], rfl, hr.1, KeptH.refl _ _, hnv, .inl ⟨rfl, rfl, rfl⟩, (fun b hb => by cases hb), List.nodup_nil⟩ ?_
    rintro xs h' J hfit ⟨i, u, v', fp, rfl, hi, hkept, hv', hu, hfr, hnd⟩ hJ
    refine h_ite (fun hc => ?_) (fun hc => ?_)
    · replace hc : cmpOp .lss (i : Int) m = true := hc
      rw [cmp_lss, decide_eq_true_eq] at hc
      have hvv := hv' _ (hv.le hkept.le_nil)
      refine next_step (n := n) (v := v') (l := (argsM n l4 i).2) rfl rfl rfl rfl hvv hn fun v5 hn5 => ?_
      have hlen := hu.row0.len
      rw [List.length_map, argsM_len] at hlen
      refine ⟨[.int .i64 (nextM n (argsM n l4 i).2).1], 1, ⟨rfl, rfl⟩, app_rowF hu rfl (by rw [zero3]; rfl) ?_ ?_⟩
      · show (vlen u + 1) * 8 ≤ _
        omega
      · intro u' h'' fp' k1 k2 k3 k4
        have hk2 : KeptH h h'' [] := fun b hb hx => by
          have e := hkept b hb hx
          rw [k3 b (fun hf => by rw [hfr b hf] at hx; cases hx) (by rw [e]; exact hx), e]
        show J [.int .i64 (intOp .add .i64 (i : Int) 1), u', v5] h''
        rw [int_add_one (n := m.toNat) (by omega) (by omega)]
        refine hJ _ _ ⟨i + 1, u', v5, fp', rfl, by omega, hk2, hv'.trans hn5, ?_, ?_, ?_⟩ ?_
        · simp only [argsM, List.map_append, List.map_cons, List.map_nil]; exact k1
        · rcases k4 with rfl | ⟨b, rfl, hb⟩
          · exact hfr
          · intro x hx
            rw [List.mem_singleton] at hx; subst hx
            exact H.le_none hkept.le_nil hb
        · rcases k4 with rfl | ⟨b, rfl, hb⟩
          · exact hnd
          · simp
        · simp only [gv_zero, vi_int]; omega
    · replace hc : cmpOp .lss (i : Int) m = false := hc
      rw [cmp_lss, decide_eq_false_iff_not] at hc
      have him : i = m.toNat := by omega
      subst him
      refine ⟨[v'], rfl, hkept, ⟨v', rfl, by rw [hI]; exact hv'⟩, u, fp, ?_, ⟨u, rfl, by rw [hI]; exact hu⟩, hfr, hnd⟩
      rw [hI]
      show Value.agg #[.int .u8 (IntKind.u8.wrap (intOp .add .i64 1 a1)), .int .u8 0, .int .i64 _, .int .i64 0, .int .i64 0, .int .i64 _, u] = _
      rw [hkw, hc4]; rfl
  · replace hc : cmpOp .eql (IntKind.u8.wrap (intOp .add .i64 1 a1)) 1 = false := hc
    replace hc2 : cmpOp .eql (IntKind.u8.wrap (intOp .add .i64 1 a1)) 4 = false := hc2
    replace hc3 : cmpOp .eql (IntKind.u8.wrap (intOp .add .i64 1 a1)) 5 = false := hc3
    replace hc4 : cmpOp .eql (IntKind.u8.wrap (intOp .add .i64 1 a1)) 6 = false := hc4
    replace hc5 : vb (if cmpOp .eql (IntKind.u8.wrap (intOp .add .i64 1 a1)) 2 = true then Value.bool (cmpOp .eql (IntKind.u8.wrap (intOp .add .i64 1 a1)) 2) else Value.bool (cmpOp .eql (IntKind.u8.wrap (intOp .add .i64 1 a1)) 7)) = true := hc5
    simp only [hkw, cmp_eql, vb_ite, vb_bool, decide_eq_true_eq, decide_eq_false_iff_not] at hc hc2 hc3 hc4 hc5
    have hc6 : 1 + a1 = 2 ∨ 1 + a1 = 7 := by grind
    refine next_step (n := n) rfl rfl rfl rfl hv1 hn fun v2 hn2 => ?_
    have hv2 := hn2 _ hv1
    refine next_step (n := n) rfl rfl rfl rfl hv2 hn fun v3 hn3 => ?_
    refine hfin (x := ⟨2, 0, (nextM n (nextM 9 l).2).1, (nextM n (nextM n (nextM 9 l).2).2).1, 0, 0, []⟩) ?_ rfl ((hn1.trans hn2).trans hn3) rfl
    unfold insM; simp only [← ha1]; rw [if_neg hc, if_neg hc2, if_neg hc3, if_neg hc4, if_pos hc6]
  · replace hc : cmpOp .eql (IntKind.u8.wrap (intOp .add .i64 1 a1)) 1 = false := hc
    replace hc2 : cmpOp .eql (IntKind.u8.wrap (intOp .add .i64 1 a1)) 4 = false := hc2
    replace hc3 : cmpOp .eql (IntKind.u8.wrap (intOp .add .i64 1 a1)) 5 = false := hc3
    replace hc4 : cmpOp .eql (IntKind.u8.wrap (intOp .add .i64 1 a1)) 6 = false := hc4
    replace hc5 : vb (if cmpOp .eql (IntKind.u8.wrap (intOp .add .i64 1 a1)) 2 = true then Value.bool (cmpOp .eql (IntKind.u8.wrap (intOp .add .i64 1 a1)) 2) else Value.bool (cmpOp .eql (IntKind.u8.wrap (intOp .add .i64 1 a1)) 7)) = false := hc5
    simp only [hkw, cmp_eql, vb_ite, vb_bool, decide_eq_true_eq, decide_eq_false_iff_not] at hc hc2 hc3 hc4 hc5
    have hc6 : ¬ (1 + a1 = 2 ∨ 1 + a1 = 7) := by grind
    refine next_step (n := 7) rfl rfl rfl rfl hv1 (by omega) fun v2 hn2 => ?_
    have hv2 := hn2 _ hv1
    have hr := nextM_range (n := 7) (by omega) hv1.inB
    refine next_step (n := n) rfl rfl rfl rfl hv2 hn fun v3 hn3 => ?_
    have hv3 := hn3 _ hv2
    refine next_step (n := n) rfl rfl rfl rfl hv3 hn fun v4 hn4 => ?_
    have hv4 := hn4 _ hv3
    refine next_step (n := n) rfl rfl rfl rfl hv4 hn fun v5 hn5 => ?_
    obtain ⟨q, hq⟩ : ∃ q, q = (nextM 7 (nextM 9 l).2).1 := ⟨_, rfl⟩
    rw [← hq] at hr ⊢
    have hqw : IntKind.u8.wrap (intOp .add .i64 1 q) = 1 + q := by
      simp only [intOp]
      rw [wrap_i64 (by omega) (by omega), wrap_u8 (by omega) (by omega)]
    refine hfin (x := ⟨3, 1 + q, (nextM n (nextM 7 (nextM 9 l).2).2).1, (nextM n (nextM n (nextM 7 (nextM 9 l).2).2).2).1, (nextM n (nextM n (nextM n (nextM 7 (nextM 9 l).2).2).2).2).1, 0, []⟩) ?_ rfl ((((hn1.trans hn2).trans hn3).trans hn4).trans hn5) ?_
    · unfold insM; simp only [← ha1]; rw [if_neg hc, if_neg hc2, if_neg hc3, if_neg hc4, if_neg hc6, ← hq]
    · show Value.agg #[.int .u8 3, .int .u8 (IntKind.u8.wrap (intOp .add .i64 1 q)), .int .i64 _, .int .i64 _, .int .i64 _, .int .i64 0, .slice none 0 0] = _
      rw [hqw]; rfl
end Go.Proofs.Ytibdneedfopcoaa
