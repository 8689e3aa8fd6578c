/-
  What the maker of functions computes: its numbers, its instructions. Conditions: as each contract says.
-/
import Derived.Test.YthnoplfjcdkacaaVa
import Derived.Test.YthnoplfjcdkacaaMa
import Derived.Test.YthnoplfjcdkacaaTt
set_option linter.unusedVariables false
set_option linter.unusedSimpArgs false
namespace Go.Proofs.Ythnoplfjcdkacaa
open Go

def nextM (n : Int) : List Int → Int × List Int
  | [] => (0, [])
  | x :: l => (x.tmod n, l)
def InB (l : List Int) : Prop := ∀ x ∈ l, 0 ≤ x ∧ x ≤ 255
theorem BytesAt.inB {h : H} {v : Value} {l : List Int} (H : BytesAt h v l) : InB l := fun x hx => by
  obtain ⟨i, hi⟩ := List.getElem?_of_mem hx
  exact (H.read hi).2
theorem nextM_range {n : Int} {l : List Int} (hn : 0 < n) (hl : InB l) : 0 ≤ (nextM n l).1 ∧ (nextM n l).1 < n := by
  cases l with
  | nil => exact ⟨Int.le_refl _, hn⟩
  | cons x l =>
    have := (hl x (List.mem_cons_self ..)).1
    exact ⟨Int.tmod_nonneg n this, Int.tmod_lt_of_pos x hn⟩
theorem nextM_inB {n : Int} {l : List Int} (hl : InB l) : InB (nextM n l).2 := by
  cases l with
  | nil => exact hl
  | cons x l => exact fun y hy => hl y (List.mem_cons_of_mem _ hy)
/-- Wherever the one reads as the one row, the other reads as the other. -/
def NextV (v : Value) (l : List Int) (v' : Value) (l' : List Int) : Prop := ∀ g : H, BytesAt g v l → BytesAt g v' l'
theorem NextV.trans {v v' v'' : Value} {l l' l'' : List Int} (a : NextV v l v' l') (b : NextV v' l' v'' l'') : NextV v l v'' l'' := fun g h => b g (a g h)
theorem s33k {h : H} {v : Value} {l : List Int} {n : Int} (hv : BytesAt h v l) (hn : 0 < n) :
    CallsA Try.prog 33 (fun e => [(e 0).ptr 0, .int .i64 n]) [[v]] h (RetC fun r c h' => h' = h ∧ (∃ v', c = [v'] ∧ NextV v l v' (nextM n l).2) ∧ r = .int .i64 (nextM n l).1) := by
  refine c33k (G := [v, .int .i64 n]) ⟨hv.fit, ⟨_, rfl⟩, trivial⟩ ?_
  have hl := hv.len
  refine h_ite (fun hc => ⟨_, rfl, rfl, ⟨v, rfl, ?_⟩, ?_⟩) (fun hc => ?_)
  · simp only [holds, X.den, PE.den, SV.den, SV.denL, NK.val, NK.sv, NK.pub, gv_zero, gv_succ, vi_int, vb_bool, vlen_sl, vaddr_ptr, vb_ite, vi_ite, cmp_eql, cmp_neq, cmp_lss, cmp_leq, cmp_gtr, cmp_geq, List.map_nil, List.map_cons, List.cons_append, List.nil_append, List.flatten_nil, needs, Ret, true_and, and_true, decide_eq_true_eq, forall_const, intOp] at hc
    have : l = [] := List.eq_nil_of_length_eq_zero (by omega)
    subst this; exact fun g hg => hg
  · simp only [holds, X.den, PE.den, SV.den, SV.denL, NK.val, NK.sv, NK.pub, gv_zero, gv_succ, vi_int, vb_bool, vlen_sl, vaddr_ptr, vb_ite, vi_ite, cmp_eql, cmp_neq, cmp_lss, cmp_leq, cmp_gtr, cmp_geq, List.map_nil, List.map_cons, List.cons_append, List.nil_append, List.flatten_nil, needs, Ret, true_and, and_true, decide_eq_true_eq, forall_const, intOp] at hc ⊢
    have : l = [] := List.eq_nil_of_length_eq_zero (by omega)
    subst this; rfl
  · simp only [holds, X.den, PE.den, SV.den, SV.denL, NK.val, NK.sv, NK.pub, gv_zero, gv_succ, vi_int, vb_bool, vlen_sl, vaddr_ptr, vb_ite, vi_ite, cmp_eql, cmp_neq, cmp_lss, cmp_leq, cmp_gtr, cmp_geq, List.map_nil, List.map_cons, List.cons_append, List.nil_append, List.flatten_nil, needs, Ret, true_and, and_true, decide_eq_true_eq, forall_const, intOp, decide_eq_false_iff_not] at hc
    cases l with
    | nil => simp at hl; omega
    | cons x l =>
      obtain ⟨hr, hx0, hx1⟩ := hv.read (i := 0) (x := x) rfl
      have hlen : 1 ≤ vlen v := by rw [hl]; simp
      refine ⟨fun _ => ⟨rfl, ?_, trivial⟩, h_load [.int .u8 x] ⟨⟨_, rfl⟩, trivial⟩ (fun _ => hr) ⟨fun _ => ⟨?_, trivial⟩, fun _ => ⟨rfl, ?_, trivial⟩, ?_⟩⟩
      · simp only [holds, X.den, PE.den, SV.den, SV.denL, NK.val, NK.sv, NK.pub, gv_zero, gv_succ, vi_int, vb_bool, vlen_sl, vaddr_ptr, vb_ite, vi_ite, cmp_eql, cmp_neq, cmp_lss, cmp_leq, cmp_gtr, cmp_geq, List.map_nil, List.map_cons, List.cons_append, List.nil_append, List.flatten_nil, needs, Ret, true_and, and_true, decide_eq_true_eq, forall_const, intOp]; omega
      · simp only [holds, X.den, PE.den, SV.den, SV.denL, NK.val, NK.sv, NK.pub, gv_zero, gv_succ, vi_int, vb_bool, vlen_sl, vaddr_ptr, vb_ite, vi_ite, cmp_eql, cmp_neq, cmp_lss, cmp_leq, cmp_gtr, cmp_geq, List.map_nil, List.map_cons, List.cons_append, List.nil_append, List.flatten_nil, needs, Ret, true_and, and_true, decide_eq_true_eq, forall_const, intOp]; omega
      · simp only [holds, X.den, PE.den, SV.den, SV.denL, NK.val, NK.sv, NK.pub, gv_zero, gv_succ, vi_int, vb_bool, vlen_sl, vaddr_ptr, vb_ite, vi_ite, cmp_eql, cmp_neq, cmp_lss, cmp_leq, cmp_gtr, cmp_geq, List.map_nil, List.map_cons, List.cons_append, List.nil_append, List.flatten_nil, needs, Ret, true_and, and_true, decide_eq_true_eq, forall_const, intOp]; omega
      · rintro _ rfl
        refine ⟨_, rfl, rfl, ⟨sliceV v 1 (vlen v) 1, rfl, ?_⟩, ?_⟩
        · intro g hg
          have := hg.slice (lo := 1) (hi := (x :: l).length) (by simp) (Nat.le_refl _)
          rw [hl]
          show BytesAt g _ l
          simpa [List.take_of_length_le] using this
        · simp only [holds, X.den, PE.den, SV.den, SV.denL, NK.val, NK.sv, NK.pub, gv_zero, gv_succ, vi_int, vb_bool, vlen_sl, vaddr_ptr, vb_ite, vi_ite, cmp_eql, cmp_neq, cmp_lss, cmp_leq, cmp_gtr, cmp_geq, List.map_nil, List.map_cons, List.cons_append, List.nil_append, List.flatten_nil, needs, Ret, true_and, and_true, decide_eq_true_eq, forall_const, intOp, nextM]
          rw [wrap_i64 (by omega) (by omega)]
/-- So many numbers, one behind the other. -/
def argsM (v : Int) (l : List Int) : Nat → List Int × List Int
  | 0 => ([], l)
  | k + 1 => ((argsM v l k).1 ++ [(nextM v (argsM v l k).2).1], (nextM v (argsM v l k).2).2)
def insM (v : Int) (l0 : List Int) : Ins × List Int :=
  let a := nextM 9 l0
  let k := 1 + a.1
  if k = 1 then let b := nextM v a.2; let c := nextM 256 b.2; (⟨1, 0, b.1, 0, 0, c.1 - 3, []⟩, c.2)
  else if k = 4 then let b := nextM v a.2; let c := nextM v b.2; (⟨4, 0, b.1, c.1, 0, 0, []⟩, c.2)
  else if k = 5 then let b := nextM v a.2; let c := nextM v b.2; (⟨5, 0, 0, b.1, c.1, 0, []⟩, c.2)
  else if k = 6 then let b := nextM v a.2; let c := nextM 5 b.2; let d := nextM 4 c.2; let r := argsM v d.2 d.1.toNat; (⟨6, 0, b.1, 0, 0, c.1, r.1⟩, r.2)
  else if k = 2 ∨ k = 7 then let b := nextM v a.2; let c := nextM v b.2; (⟨2, 0, b.1, c.1, 0, 0, []⟩, c.2)
  else let b := nextM 7 a.2; let c := nextM v b.2; let d := nextM v c.2; let e := nextM v d.2; (⟨3, 1 + b.1, c.1, d.1, e.1, 0, []⟩, e.2)
def InsF : RepF Ins := fun h cs x fp => ∃ u, cs = insC x u ∧ RowF h 3 1 u (x.args.map (.int .i64)) fp
theorem wrap_u8 {n : Int} (h1 : 0 ≤ n) (h2 : n < 256) : IntKind.u8.wrap n = n := by
  simp [IntKind.wrap, IntKind.bits, IntKind.signed]; omega
/-- One number more. -/
theorem next_step {P : Program} {R : Value → List (List Value) → H → Prop} {G : List Value} {L : Lv} {h : H} {k : Out} {ks : List Nat} {key : Nat} {u : Nat} {nx : X} {v : Value} {l : List Int} {n : Int} (hP : P = Try.prog) (hkey : kIdx ks key = 0)
    (hu : gv G u = v) (hx : vi (nx.den G) = n) (hv : BytesAt h v l) (hn : 0 < n)
    (hk : ∀ v', NextV v l v' (nextM n l).2 → holds P R k (G ++ [v', .int .i64 (nextM n l).1]) L h) :
    holds P R (.call 33 [.loc key 0, .int .i64 nx] ks [[.val u]] [[.sl]] [(false, [.int .i64])] k) G L h := by
  subst hP
  have hc := s33k (h := h) hv hn
  refine h_call1 (Q := fun r c h' => h' = h ∧ (∃ v', c = [v'] ∧ NextV v l v' (nextM n l).2) ∧ r = .int .i64 (nextM n l).1) ?_ ?_
  · simp only [SV.denL, SV.den, hkey, hx, hu]
    exact hc
  · rintro r c h' ⟨rfl, ⟨v', rfl, hv'⟩, rfl⟩
    exact ⟨⟨(hv' _ hv).fit, trivial⟩, [.int .i64 (nextM n l).1], ⟨⟨_, rfl⟩, trivial⟩, rfl, hk v' hv'⟩
theorem argsM_inB {v : Int} {l : List Int} (hl : InB l) : ∀ k, InB (argsM v l k).2
  | 0 => hl
  | k + 1 => nextM_inB (argsM_inB hl k)
theorem argsM_len {v : Int} {l : List Int} : ∀ k, (argsM v l k).1.length = k
  | 0 => rfl
  | k + 1 => by simp [argsM, argsM_len k]
theorem KeptH.le_nil {h h' : H} (k : KeptH h h' []) : h.le h' := k.le (H.le_refl _) (fun b hb => by cases hb)
theorem s34k {h : H} {v : Value} {l : List Int} {n : Int} (hv : BytesAt h v l) (hn : 0 < n) :
    CallsA Try.prog 34 (fun e => [(e 0).ptr 0, .int .i64 n]) [[v]] h (RetC fun r c h' => KeptH h h' [] ∧ (∃ v', c = [v'] ∧ NextV v l v' (insM n l).2) ∧
      ∃ u fp, r = .agg (insC (insM n l).1 u).toArray ∧ InsF h' (insC (insM n l).1 u) (insM n l).1 fp ∧ Fresh h fp ∧ fp.Nodup) := by
  refine c34k (G := [v, .int .i64 n]) ⟨hv.fit, ⟨_, rfl⟩, trivial⟩ ?_
  have hb := hv.inB
  refine next_step (n := 9) rfl rfl rfl rfl hv (by omega) fun v1 hn1 => ?_
  have hv1 := hn1 _ hv
  have hk := nextM_range (n := 9) (l := l) (by omega) hb
  have hfin : ∀ {x : Ins} {l' : List Int} {v' r : Value}, insM n l = (x, l') → x.args = [] → NextV v l v' l' → r = Value.agg (insC x (.slice none 0 0)).toArray →
      RetC (fun r c h' => KeptH h h' [] ∧ (∃ v', c = [v'] ∧ NextV v l v' (insM n l).2) ∧
      ∃ u fp, r = .agg (insC (insM n l).1 u).toArray ∧ InsF h' (insC (insM n l).1 u) (insM n l).1 fp ∧ Fresh h fp ∧ fp.Nodup) r [[v']] h := by
    intro x l' v' r e ha hv' hr
    refine ⟨[v'], rfl, KeptH.refl _ _, ⟨v', rfl, by rw [e]; exact hv'⟩, .slice none 0 0, [], by rw [e]; exact hr, ⟨_, rfl, .inl ⟨rfl, ?_, rfl⟩⟩, (fun b hb => by cases hb), List.nodup_nil⟩
    rw [e]; simp [ha]
  obtain ⟨a1, ha1⟩ : ∃ a1, a1 = (nextM 9 l).1 := ⟨_, rfl⟩
  rw [← ha1] at hk ⊢
  have hkw : IntKind.u8.wrap (intOp .add .i64 1 a1) = 1 + a1 := by
    simp only [intOp]
    rw [wrap_i64 (by omega) (by omega), wrap_u8 (by omega) (by omega)]
  refine h_ite (fun hc => ?_) (fun hc => h_ite (fun hc2 => ?_) (fun hc2 => h_ite (fun hc3 => ?_) (fun hc3 => h_ite (fun hc4 => ?_) (fun hc4 => h_ite (fun hc5 => ?_) (fun hc5 => ?_)))))
  · replace hc : cmpOp .eql (IntKind.u8.wrap (intOp .add .i64 1 a1)) 1 = true := hc
    rw [hkw, cmp_eql, decide_eq_true_eq] at hc
    refine next_step (n := n) rfl rfl rfl rfl hv1 hn fun v2 hn2 => ?_
    have hv2 := hn2 _ hv1
    refine next_step (n := 256) rfl rfl rfl rfl hv2 (by omega) fun v3 hn3 => ?_
    have hr := nextM_range (n := 256) (by omega) hv2.inB
    obtain ⟨q, hq⟩ : ∃ q, q = (nextM 256 (nextM n (nextM 9 l).2).2).1 := ⟨_, rfl⟩
    rw [← hq] at hr ⊢
    refine hfin (x := ⟨1, 0, (nextM n (nextM 9 l).2).1, 0, 0, q - 3, []⟩) ?_ rfl ((hn1.trans hn2).trans hn3) ?_
    · unfold insM; simp only [← ha1]; rw [if_pos hc, ← hq]
    · show Value.agg #[.int .u8 (IntKind.u8.wrap (intOp .add .i64 1 a1)), .int .u8 0, .int .i64 _, .int .i64 0, .int .i64 0, .int .i64 (IntKind.i64.wrap (q - 3)), .slice none 0 0] = _
      rw [hkw, hc, wrap_i64 (by omega) (by omega)]; rfl
  · replace hc : cmpOp .eql (IntKind.u8.wrap (intOp .add .i64 1 a1)) 1 = false := hc
    replace hc2 : cmpOp .eql (IntKind.u8.wrap (intOp .add .i64 1 a1)) 4 = true := hc2
    rw [hkw, cmp_eql] at hc hc2
    simp only [decide_eq_true_eq, decide_eq_false_iff_not] at hc hc2
    refine next_step (n := n) rfl rfl rfl rfl hv1 hn fun v2 hn2 => ?_
    have hv2 := hn2 _ hv1
    refine next_step (n := n) rfl rfl rfl rfl hv2 hn fun v3 hn3 => ?_
    refine hfin (x := ⟨4, 0, (nextM n (nextM 9 l).2).1, (nextM n (nextM n (nextM 9 l).2).2).1, 0, 0, []⟩) ?_ rfl ((hn1.trans hn2).trans hn3) ?_
    · unfold insM; simp only [← ha1]; rw [if_neg hc, if_pos hc2]
    · show Value.agg #[.int .u8 (IntKind.u8.wrap (intOp .add .i64 1 a1)), .int .u8 0, .int .i64 _, .int .i64 _, .int .i64 0, .int .i64 0, .slice none 0 0] = _
      rw [hkw, hc2]; rfl
  · replace hc : cmpOp .eql (IntKind.u8.wrap (intOp .add .i64 1 a1)) 1 = false := hc
    replace hc2 : cmpOp .eql (IntKind.u8.wrap (intOp .add .i64 1 a1)) 4 = false := hc2
    replace hc3 : cmpOp .eql (IntKind.u8.wrap (intOp .add .i64 1 a1)) 5 = true := hc3
    rw [hkw, cmp_eql] at hc hc2 hc3
    simp only [decide_eq_true_eq, decide_eq_false_iff_not] at hc hc2 hc3
    refine next_step (n := n) rfl rfl rfl rfl hv1 hn fun v2 hn2 => ?_
    have hv2 := hn2 _ hv1
    refine next_step (n := n) rfl rfl rfl rfl hv2 hn fun v3 hn3 => ?_
    refine hfin (x := ⟨5, 0, 0, (nextM n (nextM 9 l).2).1, (nextM n (nextM n (nextM 9 l).2).2).1, 0, []⟩) ?_ rfl ((hn1.trans hn2).trans hn3) ?_
    · unfold insM; simp only [← ha1]; rw [if_neg hc, if_neg hc2, if_pos hc3]
    · show Value.agg #[.int .u8 (IntKind.u8.wrap (intOp .add .i64 1 a1)), .int .u8 0, .int .i64 0, .int .i64 _, .int .i64 _, .int .i64 0, .slice none 0 0] = _
      rw [hkw, hc3]; rfl
  · replace hc : cmpOp .eql (IntKind.u8.wrap (intOp .add .i64 1 a1)) 1 = false := hc
    replace hc2 : cmpOp .eql (IntKind.u8.wrap (intOp .add .i64 1 a1)) 4 = false := hc2
    replace hc3 : cmpOp .eql (IntKind.u8.wrap (intOp .add .i64 1 a1)) 5 = false := hc3
    replace hc4 : cmpOp .eql (IntKind.u8.wrap (intOp .add .i64 1 a1)) 6 = true := hc4
    rw [hkw, cmp_eql] at hc hc2 hc3 hc4
    simp only [decide_eq_true_eq, decide_eq_false_iff_not] at hc hc2 hc3 hc4
    refine next_step (n := n) rfl rfl rfl rfl hv1 hn fun v2 hn2 => ?_
    have hv2 := hn2 _ hv1
    refine next_step (n := 5) rfl rfl rfl rfl hv2 (by omega) fun v3 hn3 => ?_
    have hv3 := hn3 _ hv2
    refine next_step (n := 4) rfl rfl rfl rfl hv3 (by omega) fun v4 hn4 => ?_
    have hr := nextM_range (n := 4) (by omega) hv3.inB
    have hnv := ((hn1.trans hn2).trans hn3).trans hn4
    obtain ⟨m, hm⟩ : ∃ m, m = (nextM 4 (nextM 5 (nextM n (nextM 9 l).2).2).2).1 := ⟨_, rfl⟩
    obtain ⟨l4, hl4⟩ : ∃ l4, l4 = (nextM 4 (nextM 5 (nextM n (nextM 9 l).2).2).2).2 := ⟨_, rfl⟩
    rw [← hm] at hr ⊢
    rw [← hl4] at hnv
    have hI : insM n l = (⟨6, 0, (nextM n (nextM 9 l).2).1, 0, 0, (nextM 5 (nextM n (nextM 9 l).2).2).1, (argsM n l4 m.toNat).1⟩, (argsM n l4 m.toNat).2) := by
      unfold insM; simp only [← ha1]; rw [if_neg hc, if_neg hc2, if_neg hc3, if_pos hc4, ← hm, ← hl4]
    refine h_loop (fun xs h' => ∃ (i : Nat) (u v' : Value) (fp : List Nat), xs = [.int .i64 (i : Int), u, v'] ∧ (i : Int) ≤ m ∧ KeptH h h' [] ∧ NextV v l v' (argsM n l4 i).2 ∧ RowF h' 3 1 u ((argsM n l4 i).1.map (.int .i64)) fp ∧ Fresh h fp ∧ fp.Nodup)
      (fun xs h' => (m - vi (gv xs 0)).toNat) ⟨0, .slice none 0 0, v4, [], rfl, hr.1, KeptH.refl _ _, hnv, .inl ⟨rfl, rfl, rfl⟩, (fun b hb => by cases hb), List.nodup_nil⟩ ?_
    rintro xs h' J hfit ⟨i, u, v', fp, rfl, hi, hkept, hv', hu, hfr, hnd⟩ hJ
    refine h_ite (fun hc => ?_) (fun hc => ?_)
    · replace hc : cmpOp .lss (i : Int) m = true := hc
      rw [cmp_lss, decide_eq_true_eq] at hc
      have hvv := hv' _ (hv.le hkept.le_nil)
      refine next_step (n := n) (v := v') (l := (argsM n l4 i).2) rfl rfl rfl rfl hvv hn fun v5 hn5 => ?_
      have hlen := hu.row0.len
      rw [List.length_map, argsM_len] at hlen
      refine ⟨[.int .i64 (nextM n (argsM n l4 i).2).1], 1, ⟨rfl, rfl⟩, app_rowF hu rfl (by rw [zero3]; rfl) ?_ ?_⟩
      · show (vlen u + 1) * 8 ≤ _
        omega
      · intro u' h'' fp' k1 k2 k3 k4
        have hk2 : KeptH h h'' [] := fun b hb hx => by
          have e := hkept b hb hx
          rw [k3 b (fun hf => by rw [hfr b hf] at hx; cases hx) (by rw [e]; exact hx), e]
        show J [.int .i64 (intOp .add .i64 (i : Int) 1), u', v5] h''
        rw [int_add_one (n := m.toNat) (by omega) (by omega)]
        refine hJ _ _ ⟨i + 1, u', v5, fp', rfl, by omega, hk2, hv'.trans hn5, ?_, ?_, ?_⟩ ?_
        · simp only [argsM, List.map_append, List.map_cons, List.map_nil]; exact k1
        · rcases k4 with rfl | ⟨b, rfl, hb⟩
          · exact hfr
          · intro x hx
            rw [List.mem_singleton] at hx; subst hx
            exact H.le_none hkept.le_nil hb
        · rcases k4 with rfl | ⟨b, rfl, hb⟩
          · exact hnd
          · simp
        · simp only [gv_zero, vi_int]; omega
    · replace hc : cmpOp .lss (i : Int) m = false := hc
      rw [cmp_lss, decide_eq_false_iff_not] at hc
      have him : i = m.toNat := by omega
      subst him
      refine ⟨[v'], rfl, hkept, ⟨v', rfl, by rw [hI]; exact hv'⟩, u, fp, ?_, ⟨u, rfl, by rw [hI]; exact hu⟩, hfr, hnd⟩
      rw [hI]
      show Value.agg #[.int .u8 (IntKind.u8.wrap (intOp .add .i64 1 a1)), .int .u8 0, .int .i64 _, .int .i64 0, .int .i64 0, .int .i64 _, u] = _
      rw [hkw, hc4]; rfl
  · replace hc : cmpOp .eql (IntKind.u8.wrap (intOp .add .i64 1 a1)) 1 = false := hc
    replace hc2 : cmpOp .eql (IntKind.u8.wrap (intOp .add .i64 1 a1)) 4 = false := hc2
    replace hc3 : cmpOp .eql (IntKind.u8.wrap (intOp .add .i64 1 a1)) 5 = false := hc3
    replace hc4 : cmpOp .eql (IntKind.u8.wrap (intOp .add .i64 1 a1)) 6 = false := hc4
    replace hc5 : vb (if cmpOp .eql (IntKind.u8.wrap (intOp .add .i64 1 a1)) 2 = true then Value.bool (cmpOp .eql (IntKind.u8.wrap (intOp .add .i64 1 a1)) 2) else Value.bool (cmpOp .eql (IntKind.u8.wrap (intOp .add .i64 1 a1)) 7)) = true := hc5
    simp only [hkw, cmp_eql, vb_ite, vb_bool, decide_eq_true_eq, decide_eq_false_iff_not] at hc hc2 hc3 hc4 hc5
    have hc6 : 1 + a1 = 2 ∨ 1 + a1 = 7 := by grind
    refine next_step (n := n) rfl rfl rfl rfl hv1 hn fun v2 hn2 => ?_
    have hv2 := hn2 _ hv1
    refine next_step (n := n) rfl rfl rfl rfl hv2 hn fun v3 hn3 => ?_
    refine hfin (x := ⟨2, 0, (nextM n (nextM 9 l).2).1, (nextM n (nextM n (nextM 9 l).2).2).1, 0, 0, []⟩) ?_ rfl ((hn1.trans hn2).trans hn3) rfl
    unfold insM; simp only [← ha1]; rw [if_neg hc, if_neg hc2, if_neg hc3, if_neg hc4, if_pos hc6]
  · replace hc : cmpOp .eql (IntKind.u8.wrap (intOp .add .i64 1 a1)) 1 = false := hc
    replace hc2 : cmpOp .eql (IntKind.u8.wrap (intOp .add .i64 1 a1)) 4 = false := hc2
    replace hc3 : cmpOp .eql (IntKind.u8.wrap (intOp .add .i64 1 a1)) 5 = false := hc3
    replace hc4 : cmpOp .eql (IntKind.u8.wrap (intOp .add .i64 1 a1)) 6 = false := hc4
    replace hc5 : vb (if cmpOp .eql (IntKind.u8.wrap (intOp .add .i64 1 a1)) 2 = true then Value.bool (cmpOp .eql (IntKind.u8.wrap (intOp .add .i64 1 a1)) 2) else Value.bool (cmpOp .eql (IntKind.u8.wrap (intOp .add .i64 1 a1)) 7)) = false := hc5
    simp only [hkw, cmp_eql, vb_ite, vb_bool, decide_eq_true_eq, decide_eq_false_iff_not] at hc hc2 hc3 hc4 hc5
    have hc6 : ¬ (1 + a1 = 2 ∨ 1 + a1 = 7) := by grind
    refine next_step (n := 7) rfl rfl rfl rfl hv1 (by omega) fun v2 hn2 => ?_
    have hv2 := hn2 _ hv1
    have hr := nextM_range (n := 7) (by omega) hv1.inB
    refine next_step (n := n) rfl rfl rfl rfl hv2 hn fun v3 hn3 => ?_
    have hv3 := hn3 _ hv2
    refine next_step (n := n) rfl rfl rfl rfl hv3 hn fun v4 hn4 => ?_
    have hv4 := hn4 _ hv3
    refine next_step (n := n) rfl rfl rfl rfl hv4 hn fun v5 hn5 => ?_
    obtain ⟨q, hq⟩ : ∃ q, q = (nextM 7 (nextM 9 l).2).1 := ⟨_, rfl⟩
    rw [← hq] at hr ⊢
    have hqw : IntKind.u8.wrap (intOp .add .i64 1 q) = 1 + q := by
      simp only [intOp]
      rw [wrap_i64 (by omega) (by omega), wrap_u8 (by omega) (by omega)]
    refine hfin (x := ⟨3, 1 + q, (nextM n (nextM 7 (nextM 9 l).2).2).1, (nextM n (nextM n (nextM 7 (nextM 9 l).2).2).2).1, (nextM n (nextM n (nextM n (nextM 7 (nextM 9 l).2).2).2).2).1, 0, []⟩) ?_ rfl ((((hn1.trans hn2).trans hn3).trans hn4).trans hn5) ?_
    · unfold insM; simp only [← ha1]; rw [if_neg hc, if_neg hc2, if_neg hc3, if_neg hc4, if_neg hc6, ← hq]
    · show Value.agg #[.int .u8 3, .int .u8 (IntKind.u8.wrap (intOp .add .i64 1 q)), .int .i64 _, .int .i64 _, .int .i64 _, .int .i64 0, .slice none 0 0] = _
      rw [hqw]; rfl
end Go.Proofs.Ythnoplfjcdkacaa

/-
  What Made makes: a function of small numbers, in rows of its own. Conditions: as the contract says.
-/
set_option linter.unusedVariables false
set_option linter.unusedSimpArgs false
namespace Go.Proofs.Ythnoplfjcdkacaa
open Go

def BlkF : RepF Blk := fun h cs b fp => ∃ u, cs = u :: endC b.en ∧ SlF 87 7 InsF h u b.ins fp
theorem insF_good : GoodF InsF :=
  ⟨fun ha ⟨u, h1, h2⟩ => ⟨u, h1, h2.agree ha⟩, fun ⟨u, h1, h2⟩ => h2.live⟩
theorem blkF_good : GoodF BlkF :=
  ⟨fun ha ⟨u, h1, h2⟩ => ⟨u, h1, h2.agree insF_good ha⟩, fun ⟨u, h1, h2⟩ => h2.live insF_good⟩
abbrev OwnBlks (h : H) (v : Value) (bs : List Blk) (fp : List Nat) : Prop := SlF 83 5 BlkF h v bs fp
theorem rowF_ints {h : H} {e : TypeId} {u : Value} {l : List Int} {fp : List Nat} (k : RowF h e 1 u (l.map (.int .i64)) fp) : IntsAt h u l := by
  refine ⟨k.row0.fit, by have := k.row0.len; simp at this; exact this.symm, fun i x hi => ⟨_, rfl, k.row0.reads fun j u hj => ?_⟩⟩
  cases j with
  | zero => simp at hj; subst hj; simp [hi]
  | succ j => simp at hj
theorem insF_at {h : H} {cs : List Value} {x : Ins} {fp : List Nat} (k : InsF h cs x fp) : InsC h cs x := by
  obtain ⟨u, h1, h2⟩ := k; exact ⟨u, h1, rowF_ints h2⟩
theorem blkF_at {h : H} {cs : List Value} {x : Blk} {fp : List Nat} (k : BlkF h cs x fp) : BlkC h cs x := by
  obtain ⟨u, h1, h2⟩ := k; exact ⟨u, h1, h2.at (by omega) insF_at⟩
theorem OwnBlks.at {h : H} {v : Value} {bs : List Blk} {fp : List Nat} (k : OwnBlks h v bs fp) : BlksAt h v bs := SlF.at (by omega) blkF_at k

def insLoopM (v : Int) (l : List Int) : Nat → List Ins × List Int
  | 0 => ([], l)
  | k + 1 => ((insLoopM v l k).1 ++ [(insM v (insLoopM v l k).2).1], (insM v (insLoopM v l k).2).2)
def endMk (v n : Int) (l : List Int) : Fin4 × List Int :=
  let a := nextM 4 l
  if a.1 = 1 then let b := nextM n a.2; (⟨1, 0, b.1, 0⟩, b.2)
  else if a.1 = 2 ∨ a.1 = 3 then let b := nextM v a.2; let c := nextM n b.2; let d := nextM n c.2; (⟨2, b.1, c.1, d.1⟩, d.2)
  else let b := nextM v a.2; (⟨3, b.1, 0, 0⟩, b.2)
def blkM (v n : Int) (l : List Int) : Blk × List Int :=
  let a := nextM 9 l
  let r := insLoopM v a.2 a.1.toNat
  let e := endMk v n r.2
  (⟨r.1, e.1⟩, e.2)
def blksM (v n : Int) (l : List Int) : Nat → List Blk × List Int
  | 0 => ([], l)
  | k + 1 => ((blksM v n l k).1 ++ [(blkM v n (blksM v n l k).2).1], (blkM v n (blksM v n l k).2).2)
def madeP (p0 : Int) : Int := p0.tmod 5
def madeV (p0 p1 : Int) : Int := max 1 (madeP p0) + p1.tmod 28
def madeN (p2 : Int) : Int := 1 + p2.tmod 7
def madeB (p0 p1 p2 : Int) (l : List Int) : List Blk := (blksM (madeV p0 p1) (madeN p2) l (madeN p2).toNat).1
theorem insLoopM_len {v : Int} {l : List Int} : ∀ k, (insLoopM v l k).1.length = k
  | 0 => rfl
  | k + 1 => by simp [insLoopM, insLoopM_len k]
theorem blksM_len {v n : Int} {l : List Int} : ∀ k, (blksM v n l k).1.length = k
  | 0 => rfl
  | k + 1 => by simp [blksM, blksM_len k]
def VX : X := .op .add .i64 (.ite (.cmp .gtr (.lit 1) (.conv .i64 (.op .rem .u8 (.var 0) (.lit 5)))) (.lit 1) (.conv .i64 (.op .rem .u8 (.var 0) (.lit 5)))) (.conv .i64 (.op .rem .u8 (.var 1) (.lit 28)))
def NX : X := .op .add .i64 (.lit 1) (.conv .i64 (.op .rem .u8 (.var 2) (.lit 7)))
theorem tmod_range {a : Int} {n : Int} (h0 : 0 ≤ a) (hn : 0 < n) : 0 ≤ a.tmod n ∧ a.tmod n < n := ⟨Int.tmod_nonneg n h0, Int.tmod_lt_of_pos a hn⟩
theorem px_val {G : List Value} {p0 : Int} (e0 : gv G 0 = .int .u8 p0) (h0 : 0 ≤ p0) : vi ((X.conv .i64 (.op .rem .u8 (.var 0) (.lit 5))).den G) = madeP p0 := by
  have := tmod_range (n := 5) h0 (by omega)
  simp only [X.den, e0, vi_int, intOp, madeP]
  rw [wrap_i64 (by omega) (by omega)]
theorem vx_val {G : List Value} {p0 p1 : Int} (e0 : gv G 0 = .int .u8 p0) (e1 : gv G 1 = .int .u8 p1) (h0 : 0 ≤ p0) (h1 : 0 ≤ p1) : vi (VX.den G) = madeV p0 p1 := by
  have a0 := tmod_range (n := 5) h0 (by omega)
  have a1 := tmod_range (n := 28) h1 (by omega)
  simp only [VX, X.den, e0, e1, vi_int, intOp, vb_bool, vi_ite, cmp_gtr, decide_eq_true_eq, madeV, madeP]
  rw [wrap_i64 (n := p0.tmod 5) (by omega) (by omega), wrap_i64 (n := p1.tmod 28) (by omega) (by omega)]
  split <;> rw [wrap_i64 (by omega) (by omega)] <;> omega
theorem nx_val {G : List Value} {p2 : Int} (e2 : gv G 2 = .int .u8 p2) (h2 : 0 ≤ p2) : vi (NX.den G) = madeN p2 := by
  have a1 := tmod_range (n := 7) h2 (by omega)
  simp only [NX, X.den, e2, vi_int, intOp, madeN]
  rw [wrap_i64 (n := p2.tmod 7) (by omega) (by omega), wrap_i64 (by omega) (by omega)]
theorem madeN_range {p2 : Int} (h2 : 0 ≤ p2) : 1 ≤ madeN p2 ∧ madeN p2 ≤ 7 := by
  have := tmod_range (n := 7) h2 (by omega); unfold madeN; omega
theorem madeP_range {p0 : Int} (h0 : 0 ≤ p0) : 0 ≤ madeP p0 ∧ madeP p0 ≤ 4 := by
  have := tmod_range (n := 5) h0 (by omega); unfold madeP; omega
theorem madeV_range {p0 p1 : Int} (h0 : 0 ≤ p0) (h1 : 0 ≤ p1) : 1 ≤ madeV p0 p1 ∧ madeV p0 p1 ≤ 31 ∧ madeP p0 ≤ madeV p0 p1 := by
  have a0 := madeP_range h0
  have a1 := tmod_range (n := 28) h1 (by omega)
  unfold madeV; omega
/-- One instruction more. -/
theorem ins_step {P : Program} {R : Value → List (List Value) → H → Prop} {G : List Value} {L : Lv} {h : H} {k : Out} {ks : List Nat} {key : Nat} {u : Nat} {nx : X} {v : Value} {l : List Int} {n : Int} (hP : P = Try.prog) (hkey : kIdx ks key = 0)
    (hu : gv G u = v) (hx : vi (nx.den G) = n) (hv : BytesAt h v l) (hn : 0 < n)
    (hk : ∀ v' a fp h', NextV v l v' (insM n l).2 → KeptH h h' [] → InsF h' (insC (insM n l).1 a) (insM n l).1 fp → Fresh h fp → fp.Nodup → holds P R k (G ++ (v' :: insC (insM n l).1 a)) L h') :
    holds P R (.call 34 [.loc key 0, .int .i64 nx] ks [[.val u]] [[.sl]] [(true, [.int .u8, .int .u8, .int .i64, .int .i64, .int .i64, .int .i64, .sl])] k) G L h := by
  subst hP
  have hc := s34k (h := h) hv hn
  refine h_call1 (Q := fun r c h' => KeptH h h' [] ∧ (∃ v', c = [v'] ∧ NextV v l v' (insM n l).2) ∧
      ∃ u fp, r = .agg (insC (insM n l).1 u).toArray ∧ InsF h' (insC (insM n l).1 u) (insM n l).1 fp ∧ Fresh h fp ∧ fp.Nodup) ?_ ?_
  · simp only [SV.denL, SV.den, hkey, hx, hu]
    exact hc
  · rintro r c h' ⟨hkept, ⟨v', rfl, hv'⟩, a, fp, rfl, hI, hf, hnd⟩
    refine ⟨⟨(hv' _ hv).fit, trivial⟩, insC (insM n l).1 a, insFit _ _ ?_, rfl, hk v' a fp h' hv' hkept hI hf hnd⟩
    obtain ⟨u', e1, e2⟩ := hI
    have : a = u' := by simp only [insC, List.cons.injEq] at e1; exact e1.2.2.2.2.2.2.1
    rw [this]; exact e2.row0.fit
theorem fresh_append {h : H} {f g : List Nat} (a : Fresh h f) (b : Fresh h g) : Fresh h (f ++ g) := fun x hx => (List.mem_append.1 hx).elim (a x) (b x)
theorem nodup_app {f g : List Nat} (a : f.Nodup) (b : g.Nodup) (c : ∀ x ∈ f, x ∉ g) : (f ++ g).Nodup := List.nodup_append.2 ⟨a, b, fun x hx y hy e => c x hx (e ▸ hy)⟩
theorem fresh_apart {h : H} {f g : List Nat} (a : Live h f) (b : Fresh h g) : ∀ x ∈ f, x ∉ g := fun x hx hg => by have := a x hx; rw [b x hg] at this; cases this
theorem KeptH.trans_nil {h h' h'' : H} {f : List Nat} (a : KeptH h h' []) (b : KeptH h' h'' f) (hf : Fresh h f) : KeptH h h'' [] := fun x _ hx => by
  have e := a x (by simp) hx
  rw [b x (fun hb => by rw [hf x hb] at hx; cases hx) (by rw [e]; exact hx), e]
theorem zero46 : ((zeroCells Try.prog 87).getD []).length = 7 := by kernel_rfl
theorem zero41 : ((zeroCells Try.prog 83).getD []).length = 5 := by kernel_rfl
theorem s12 {h : H} {v : Value} {l : List Int} {p0 p1 p2 : Int} (hv : BytesAt h v l) (h0 : 0 ≤ p0) (h1 : 0 ≤ p1) (h2 : 0 ≤ p2) :
    CallsA Try.prog 12 (fun _ => [.agg #[.int .u8 p0, .int .u8 p1, .int .u8 p2, v]]) [] h (Ret fun r h' => KeptH h h' [] ∧
      ∃ u fp, r = .agg #[.int .i64 (madeP p0), .int .i64 (madeV p0 p1), u] ∧ OwnBlks h' u (madeB p0 p1 p2 l) fp ∧ Fresh h fp ∧ fp.Nodup) := by
  refine c12 (G := [.int .u8 p0, .int .u8 p1, .int .u8 p2, v]) ⟨⟨_, rfl⟩, ⟨_, rfl⟩, ⟨_, rfl⟩, hv.fit, trivial⟩ ?_
  have hV := madeV_range h0 h1
  have hN := madeN_range h2
  obtain ⟨V, hVd⟩ : ∃ V, V = madeV p0 p1 := ⟨_, rfl⟩
  obtain ⟨N, hNd⟩ : ∃ N, N = madeN p2 := ⟨_, rfl⟩
  rw [← hVd] at hV
  rw [← hNd] at hN
  have hB : madeB p0 p1 p2 l = (blksM V N l N.toNat).1 := by unfold madeB; rw [← hVd, ← hNd]
  refine h_loop (fun xs h' => ∃ (i : Nat) (v' u : Value) (fp : List Nat), xs = [.int .i64 (i : Int), v', u] ∧ (i : Int) ≤ N ∧ KeptH h h' [] ∧ NextV v l v' (blksM V N l i).2 ∧ OwnBlks h' u (blksM V N l i).1 fp ∧ Fresh h fp ∧ fp.Nodup)
      (fun xs h' => (N - vi (gv xs 0)).toNat) ⟨0, v, .slice none 0 0, [], rfl, by omega, KeptH.refl _ _, fun g hg => hg, SlF.nil, (fun b hb => by cases hb), List.nodup_nil⟩ ?_
  rintro xs h' J hfit ⟨i, v', u, fp, rfl, hi, hkept, hv', hu, hfr, hnd⟩ hJ
  have hnx : vi (NX.den ([.int .u8 p0, .int .u8 p1, .int .u8 p2, v] ++ [.int .i64 (i : Int), v', u])) = N := by rw [hNd]; exact nx_val (p2 := p2) rfl h2
  refine h_ite (fun hc => ?_) (fun hc => ?_)
  · replace hc : cmpOp .lss (i : Int) (vi (NX.den ([.int .u8 p0, .int .u8 p1, .int .u8 p2, v] ++ [.int .i64 (i : Int), v', u]))) = true := hc
    rw [hnx, cmp_lss, decide_eq_true_eq] at hc
    have hvv := hv' _ (hv.le hkept.le_nil)
    refine next_step (n := 9) (v := v') (l := (blksM V N l i).2) rfl rfl rfl rfl hvv (by omega) fun v1 hn1 => ?_
    have hr := nextM_range (n := 9) (by omega) hvv.inB
    obtain ⟨li, hli⟩ : ∃ li, li = (blksM V N l i).2 := ⟨_, rfl⟩
    rw [← hli] at hv' hvv hn1 hr ⊢
    obtain ⟨m, hm⟩ : ∃ m, m = (nextM 9 li).1 := ⟨_, rfl⟩
    obtain ⟨l1, hl1⟩ : ∃ l1, l1 = (nextM 9 li).2 := ⟨_, rfl⟩
    rw [← hm] at hr ⊢
    rw [← hl1] at hn1
    have hn1' := hv'.trans hn1
    have hul := hu.len (by omega)
    rw [blksM_len] at hul
    -- the instructions
    refine h_loop (fun xs h'' => ∃ (j : Nat) (w v2 : Value) (f : List Nat), xs = [.int .i64 (j : Int), w, v2] ∧ (j : Int) ≤ m ∧ KeptH h h'' [] ∧ NextV v l v2 (insLoopM V l1 j).2 ∧ OwnBlks h'' u (blksM V N l i).1 fp ∧
        SlF 87 7 InsF h'' w (insLoopM V l1 j).1 f ∧ Fresh h f ∧ (fp ++ f).Nodup)
      (fun xs h' => (m - vi (gv xs 0)).toNat) ⟨0, .slice none 0 0, v1, [], rfl, by omega, hkept, hn1', hu, SlF.nil, (fun b hb => by cases hb), by simpa using hnd⟩ ?_
    rintro xs h3 J3 hfit3 ⟨j, w, v2, f, rfl, hj, hkept3, hv2, hu3, hw, hfr3, hnd3⟩ hJ3
    refine h_ite (fun hc3 => ?_) (fun hc3 => ?_)
    · replace hc3 : cmpOp .lss (j : Int) m = true := hc3
      rw [cmp_lss, decide_eq_true_eq] at hc3
      have hb2 := hv2 _ (hv.le hkept3.le_nil)
      refine ins_step (n := V) (v := v2) (l := (insLoopM V l1 j).2) rfl rfl rfl ?_ hb2 (by omega) fun v4 a g h4 hn4 hk4 hI hg hgn => ?_
      · rw [hVd]; exact vx_val (p0 := p0) (p1 := p1) rfl rfl h0 h1
      have hwl := hw.len (by omega)
      rw [insLoopM_len] at hwl
      have hlw := hw.live insF_good
      have hlu := hu3.live blkF_good
      have hu4 := hu3.agree blkF_good (hk4.agree hlu (fun b _ => by simp))
      have hw4 := hw.agree insF_good (hk4.agree hlw (fun b _ => by simp))
      obtain ⟨n1, n2, n3⟩ := List.nodup_append.1 hnd3
      have hap : ∀ x ∈ f, x ∉ g := fresh_apart hlw hg
      have hap2 : ∀ x ∈ fp, x ∉ g := fresh_apart hlu hg
      refine ⟨insC (insM V (insLoopM V l1 j).2).1 a, 1, ⟨rfl, rfl⟩, app_slF insF_good (by omega) hw4 rfl hI (nodup_app n2 hgn hap) zero46 ?_ ?_⟩
      · rw [insLoopM_len]; omega
      · intro w' h5 f' k1 k2 k3 k4
        have hk5 : KeptH h h5 [] := KeptH.trans_nil (KeptH.trans_nil hkept3 hk4 (fun b hb => by cases hb)) k3 hfr3
        show J3 [.int .i64 (intOp .add .i64 (j : Int) 1), w', v4] h5
        rw [int_add_one (n := m.toNat) (by omega) (by omega)]
        have hlu4 := hu4.live blkF_good
        have hfpf : ∀ b ∈ fp, b ∉ f := fun b hb hf => n3 b hb b hf rfl
        have hg0 : Fresh h g := fun b hb => H.le_none hkept3.le_nil (hg b hb)
        refine hJ3 _ _ ⟨j + 1, w', v4, f', rfl, by omega, hk5, hv2.trans hn4, hu4.agree blkF_good (k3.agree hlu4 hfpf), k1, fun b hb => ?_, nodup_app n1 k2 fun b hb hf' => ?_⟩ ?_
        · rcases k4 b hb with q | q | q
          · exact hfr3 b q
          · exact hg0 b q
          · exact H.le_none (hkept3.le_nil.trans hk4.le_nil) q
        · rcases k4 b hf' with q | q | q
          · exact hfpf b hb q
          · exact hap2 b hb q
          · have := hlu4 b hb; rw [q] at this; cases this
        · simp only [gv_zero, vi_int]; omega
    · replace hc3 : cmpOp .lss (j : Int) m = false := hc3
      rw [cmp_lss, decide_eq_false_iff_not] at hc3
      have hjm : j = m.toNat := by omega
      subst hjm
      have hb2 := hv2 _ (hv.le hkept3.le_nil)
      obtain ⟨l2, hl2⟩ : ∃ l2, l2 = (insLoopM V l1 m.toNat).2 := ⟨_, rfl⟩
      obtain ⟨is, his⟩ : ∃ is, is = (insLoopM V l1 m.toNat).1 := ⟨_, rfl⟩
      rw [← hl2] at hv2 hb2
      rw [← his] at hw
      have hlu := hu3.live blkF_good
      have hend : ∀ (e : Fin4) (l' : List Int) (v'' : Value), endMk V N l2 = (e, l') → NextV v l v'' l' →
          AppSpec h3 83 5 56 ((zeroCells Try.prog 83).getD []) u (w :: endC e) 1 fun vv h'' => J [.int .i64 (intOp .add .i64 (i : Int) 1), v'', vv] h'' := by
        intro e l' v'' he hnv
        have hblk : blkM V N li = (⟨is, e⟩, l') := by
          unfold blkM; simp only [← hm, ← hl1, ← hl2, ← his, he]
        refine app_slF blkF_good (x := ⟨is, e⟩) (by omega) hu3 rfl ⟨w, rfl, hw⟩ hnd3 zero41 ?_ ?_
        · rw [blksM_len]; omega
        · intro u' h5 fp' k1 k2 k3 k4
          have hk5 : KeptH h h5 [] := KeptH.trans_nil hkept3 k3 hfr
          rw [int_add_one (n := N.toNat) (by omega) (by omega)]
          refine hJ _ _ ⟨i + 1, v'', u', fp', rfl, by omega, hk5, ?_, ?_, fun b hb => ?_, k2⟩ ?_
          · simp only [blksM, ← hli, hblk]; exact hnv
          · simp only [blksM, ← hli, hblk]; exact k1
          · rcases k4 b hb with q | q | q
            · exact hfr b q
            · exact hfr3 b q
            · exact H.le_none hkept3.le_nil q
          · simp only [gv_zero, vi_int]; omega
      refine next_step (n := 4) (v := v2) (l := l2) rfl rfl rfl rfl hb2 (by omega) fun v3 hn3 => ?_
      have hb3 := hn3 _ hb2
      have hr3 := nextM_range (n := 4) (by omega) hb2.inB
      obtain ⟨q, hq⟩ : ∃ q, q = (nextM 4 l2).1 := ⟨_, rfl⟩
      rw [← hq] at hr3 ⊢
      refine h_ite (fun hc4 => ?_) (fun hc4 => h_ite (fun hc5 => ?_) (fun hc5 => ?_))
      · replace hc4 : cmpOp .eql q 1 = true := hc4
        rw [cmp_eql, decide_eq_true_eq] at hc4
        refine next_step (n := N) rfl rfl rfl ?_ hb3 (by omega) fun v4 hn4 => ?_
        · rw [hNd]; exact nx_val (p2 := p2) rfl h2
        · refine ⟨w :: endC ⟨1, 0, (nextM N (nextM 4 l2).2).1, 0⟩, 1, ⟨rfl, rfl⟩, hend _ _ _ ?_ ((hv2.trans hn3).trans hn4)⟩
          unfold endMk; simp only [← hq]; rw [if_pos hc4]
      · replace hc4 : cmpOp .eql q 1 = false := hc4
        replace hc5 : vb (if cmpOp .eql q 2 = true then Value.bool (cmpOp .eql q 2) else Value.bool (cmpOp .eql q 3)) = true := hc5
        simp only [cmp_eql, vb_ite, vb_bool, decide_eq_true_eq, decide_eq_false_iff_not] at hc4 hc5
        have hc6 : q = 2 ∨ q = 3 := by grind
        refine next_step (n := V) rfl rfl rfl ?_ hb3 (by omega) fun v4 hn4 => ?_
        · rw [hVd]; exact vx_val (p0 := p0) (p1 := p1) rfl rfl h0 h1
        have hb4 := hn4 _ hb3
        refine next_step (n := N) rfl rfl rfl ?_ hb4 (by omega) fun v5 hn5 => ?_
        · rw [hNd]; exact nx_val (p2 := p2) rfl h2
        have hb5 := hn5 _ hb4
        refine next_step (n := N) rfl rfl rfl ?_ hb5 (by omega) fun v6 hn6 => ?_
        · rw [hNd]; exact nx_val (p2 := p2) rfl h2
        refine ⟨w :: endC ⟨2, (nextM V (nextM 4 l2).2).1, (nextM N (nextM V (nextM 4 l2).2).2).1, (nextM N (nextM N (nextM V (nextM 4 l2).2).2).2).1⟩, 1, ⟨rfl, rfl⟩, hend _ _ _ ?_ ((((hv2.trans hn3).trans hn4).trans hn5).trans hn6)⟩
        unfold endMk; simp only [← hq]; rw [if_neg hc4, if_pos hc6]
      · replace hc4 : cmpOp .eql q 1 = false := hc4
        replace hc5 : vb (if cmpOp .eql q 2 = true then Value.bool (cmpOp .eql q 2) else Value.bool (cmpOp .eql q 3)) = false := hc5
        simp only [cmp_eql, vb_ite, vb_bool, decide_eq_true_eq, decide_eq_false_iff_not] at hc4 hc5
        have hc6 : ¬ (q = 2 ∨ q = 3) := by grind
        refine next_step (n := V) rfl rfl rfl ?_ hb3 (by omega) fun v4 hn4 => ?_
        · rw [hVd]; exact vx_val (p0 := p0) (p1 := p1) rfl rfl h0 h1
        refine ⟨w :: endC ⟨3, (nextM V (nextM 4 l2).2).1, 0, 0⟩, 1, ⟨rfl, rfl⟩, hend _ _ _ ?_ ((hv2.trans hn3).trans hn4)⟩
        unfold endMk; simp only [← hq]; rw [if_neg hc4, if_neg hc6]
  · replace hc : cmpOp .lss (i : Int) (vi (NX.den ([.int .u8 p0, .int .u8 p1, .int .u8 p2, v] ++ [.int .i64 (i : Int), v', u]))) = false := hc
    rw [hnx, cmp_lss, decide_eq_false_iff_not] at hc
    have hin : i = N.toNat := by omega
    subst hin
    refine ⟨rfl, hkept, u, fp, ?_, by rw [hB]; exact hu, hfr, hnd⟩
    have e1 := px_val (G := [.int .u8 p0, .int .u8 p1, .int .u8 p2, v] ++ [.int .i64 ((N.toNat : Nat) : Int), v', u]) (p0 := p0) rfl h0
    have e2 := vx_val (G := [.int .u8 p0, .int .u8 p1, .int .u8 p2, v] ++ [.int .i64 ((N.toNat : Nat) : Int), v', u]) (p0 := p0) (p1 := p1) rfl rfl h0 h1
    rw [← e1, ← e2]; rfl
end Go.Proofs.Ythnoplfjcdkacaa

/-
  What Made makes is right: the check finds nothing. Conditions: the numbers come from bytes.
-/
set_option linter.unusedVariables false
set_option linter.unusedSimpArgs false
namespace Go.Proofs.Ythnoplfjcdkacaa
open Go

theorem insF_ok {f : Ins → Int} : ∀ {l : List Ins} {k : Nat}, (∀ x ∈ l, f x = 0) → insF f k l = none
  | [], _, _ => rfl
  | x :: l, k, h => by
    unfold insF
    rw [if_neg (by rw [h x (List.mem_cons_self ..)]; omega)]
    exact insF_ok fun y hy => h y (List.mem_cons_of_mem _ hy)
theorem blkF_ok {f : Ins → Int} {g : Fin4 → Int} {most : Nat} : ∀ {l : List Blk} {k : Nat}, (∀ b ∈ l, b.ins.length ≤ most ∧ (∀ x ∈ b.ins, f x = 0) ∧ g b.en = 0) → blkF f g most k l = (0, 0, 0)
  | [], _, _ => rfl
  | x :: l, k, h => by
    obtain ⟨h1, h2, h3⟩ := h x (List.mem_cons_self ..)
    unfold blkF
    rw [if_neg (by omega), insF_ok h2]
    simp only
    rw [if_neg (by omega)]
    exact blkF_ok fun y hy => h y (List.mem_cons_of_mem _ hy)
theorem argsM_all {v : Int} {l : List Int} (hv : 0 < v) (hl : InB l) : ∀ k, ∀ x ∈ (argsM v l k).1, 0 ≤ x ∧ x < v
  | 0, x, h => by cases h
  | k + 1, x, h => by
    simp only [argsM] at h
    rcases List.mem_append.1 h with h | h
    · exact argsM_all hv hl k x h
    · rw [List.mem_singleton] at h
      rw [h]; exact nextM_range hv (argsM_inB hl k)
theorem inR_of {n v : Int} (h : 0 ≤ v ∧ v < n) : inR n v = true := by unfold inR; simpa using h
/-- An instruction that is made is right, over so many vregs or more. -/
theorem insM_ok {v w : Int} {l : List Int} (hv : 0 < v) (hw : v ≤ w) (hl : InB l) : ofM (insM v l).1 w = 0 := by
  have a := nextM_range (n := 9) (by omega) hl
  have la := nextM_inB (n := 9) hl
  have key : ∀ x : Ins, (1 ≤ x.kind ∧ x.kind ≤ 6) → (x.kind = 3 → 1 ≤ x.op ∧ x.op ≤ 7) → plainM x → x.args.length ≤ 3 → (∀ y ∈ namedM x, 0 ≤ y ∧ y < v) → ofM x w = 0 := by
    intro x h1 h2 h3 h4 h5
    unfold ofM
    rw [if_neg (by grind), if_neg (by omega), if_pos]
    rw [List.all_eq_true]
    intro y hy
    have := h5 y hy
    exact inR_of ⟨this.1, by omega⟩
  unfold insM
  obtain ⟨b, hb⟩ : ∃ b, b = nextM 9 l := ⟨_, rfl⟩
  rw [← hb] at a la ⊢
  simp only
  have r := fun {n : Int} {l : List Int} => @nextM_range n l
  split
  · have r1 := nextM_range hv la
    refine key _ (by simp) (by simp) (by simp [plainM]) (by simp) ?_
    intro y hy
    simp [namedM, usesM, givesM] at hy
    subst hy; exact r1
  · split
    · have r1 := nextM_range hv la
      have r2 := nextM_range hv (nextM_inB (n := v) la)
      refine key _ (by simp) (by simp) (by simp [plainM]) (by simp) ?_
      intro y hy
      simp [namedM, usesM, givesM] at hy
      rcases hy with rfl | rfl <;> assumption
    · split
      · have r1 := nextM_range hv la
        have r2 := nextM_range hv (nextM_inB (n := v) la)
        refine key _ (by simp) (by simp) (by simp [plainM]) (by simp) ?_
        intro y hy
        simp [namedM, usesM, givesM] at hy
        rcases hy with rfl | rfl <;> assumption
      · split
        · have r1 := nextM_range hv la
          have l1 := nextM_inB (n := v) la
          have l2 := nextM_inB (n := 5) l1
          have r3 := nextM_range (n := 4) (by omega) l2
          have l3 := nextM_inB (n := 4) l2
          refine key _ (by simp) (by simp) (by simp [plainM]) (by simp only [argsM_len]; omega) ?_
          intro y hy
          simp [namedM, usesM, givesM] at hy
          rcases hy with hy | rfl
          · exact argsM_all hv l3 _ y hy
          · exact r1
        · split
          · have r1 := nextM_range hv la
            have r2 := nextM_range hv (nextM_inB (n := v) la)
            refine key _ (by simp) (by simp) (by simp [plainM]) (by simp) ?_
            intro y hy
            simp [namedM, usesM, givesM] at hy
            rcases hy with rfl | rfl <;> assumption
          · have r1 := nextM_range (n := 7) (by omega) la
            have l1 := nextM_inB (n := 7) la
            have r2 := nextM_range hv l1
            have l2 := nextM_inB (n := v) l1
            have r3 := nextM_range hv l2
            have l3 := nextM_inB (n := v) l2
            have r4 := nextM_range hv l3
            refine key _ (by simp) (by intro _; simp only; omega) (by simp [plainM]) (by simp) ?_
            intro y hy
            simp [namedM, usesM, givesM] at hy
            rcases hy with rfl | rfl | rfl <;> assumption
theorem insM_inB {v : Int} {l : List Int} (hl : InB l) : InB (insM v l).2 := by
  have la := nextM_inB (n := 9) hl
  unfold insM
  simp only
  split
  · exact nextM_inB (nextM_inB la)
  · split
    · exact nextM_inB (nextM_inB la)
    · split
      · exact nextM_inB (nextM_inB la)
      · split
        · exact argsM_inB (nextM_inB (nextM_inB (nextM_inB la))) _
        · split
          · exact nextM_inB (nextM_inB la)
          · exact nextM_inB (nextM_inB (nextM_inB (nextM_inB la)))
theorem insLoopM_inB {v : Int} {l : List Int} (hl : InB l) : ∀ k, InB (insLoopM v l k).2
  | 0 => hl
  | k + 1 => insM_inB (insLoopM_inB hl k)
theorem insLoopM_ok {v w : Int} {l : List Int} (hv : 0 < v) (hw : v ≤ w) (hl : InB l) : ∀ k, ∀ x ∈ (insLoopM v l k).1, ofM x w = 0
  | 0, x, h => by cases h
  | k + 1, x, h => by
    simp only [insLoopM] at h
    rcases List.mem_append.1 h with h | h
    · exact insLoopM_ok hv hw hl k x h
    · rw [List.mem_singleton] at h
      rw [h]; exact insM_ok hv hw (insLoopM_inB hl k)
theorem endMk_inB {v n : Int} {l : List Int} (hl : InB l) : InB (endMk v n l).2 := by
  unfold endMk
  simp only
  split
  · exact nextM_inB (nextM_inB hl)
  · split
    · exact nextM_inB (nextM_inB (nextM_inB (nextM_inB hl)))
    · exact nextM_inB (nextM_inB hl)
theorem endMk_ok {v w n m : Int} {l : List Int} (hv : 0 < v) (hw : v ≤ w) (hn : 0 < n) (hm : n ≤ m) (hl : InB l) : endM (endMk v n l).1 w m 21 = 0 := by
  have la := nextM_inB (n := 4) hl
  unfold endMk
  simp only
  split
  · have r1 := nextM_range hn la
    simp only [endM]; grind
  · split
    · have r1 := nextM_range hv la
      have l1 := nextM_inB (n := v) la
      have r2 := nextM_range hn l1
      have r3 := nextM_range hn (nextM_inB (n := n) l1)
      simp only [endM]; grind
    · have r1 := nextM_range hv la
      simp only [endM]; grind
theorem blkM_inB {v n : Int} {l : List Int} (hl : InB l) : InB (blkM v n l).2 := endMk_inB (insLoopM_inB (nextM_inB hl) _)
theorem blksM_inB {v n : Int} {l : List Int} (hl : InB l) : ∀ k, InB (blksM v n l k).2
  | 0 => hl
  | k + 1 => blkM_inB (blksM_inB hl k)
theorem blkM_ok {v w n m : Int} {l : List Int} (hv : 0 < v) (hw : v ≤ w) (hn : 0 < n) (hm : n ≤ m) (hl : InB l) :
    (blkM v n l).1.ins.length ≤ 8 ∧ (∀ x ∈ (blkM v n l).1.ins, ofM x w = 0) ∧ endM (blkM v n l).1.en w m 21 = 0 := by
  have r := nextM_range (n := 9) (by omega) hl
  refine ⟨?_, insLoopM_ok hv hw (nextM_inB hl) _, endMk_ok hv hw hn hm (insLoopM_inB (nextM_inB hl) _)⟩
  simp only [blkM, insLoopM_len]; omega
theorem blksM_ok {v w n m : Int} {l : List Int} (hv : 0 < v) (hw : v ≤ w) (hn : 0 < n) (hm : n ≤ m) (hl : InB l) : ∀ k, ∀ b ∈ (blksM v n l k).1,
    b.ins.length ≤ 8 ∧ (∀ x ∈ b.ins, ofM x w = 0) ∧ endM b.en w m 21 = 0
  | 0, x, h => by cases h
  | k + 1, x, h => by
    simp only [blksM] at h
    rcases List.mem_append.1 h with h | h
    · exact blksM_ok hv hw hn hm hl k x h
    · rw [List.mem_singleton] at h
      rw [h]; exact blkM_ok hv hw hn hm (blksM_inB hl k)
/-- What is made passes the check, with vregs more, and with blocks of its own more. -/
theorem made_ok {p0 p1 p2 w : Int} {l : List Int} {bs : List Blk} (h0 : 0 ≤ p0) (h1 : 0 ≤ p1) (h2 : 0 ≤ p2) (hl : InB l) (hw : madeV p0 p1 ≤ w) (hw2 : w ≤ 32) (hb : ∀ b ∈ bs, b ∈ madeB p0 p1 p2 l) (hn : (madeN p2) ≤ bs.length) (hn2 : bs.length ≤ 16) :
    checkM (madeP p0) w bs = (0, 0, 0) := by
  have a := madeP_range h0
  have b := madeV_range h0 h1
  have c := madeN_range h2
  unfold checkM
  rw [if_neg (by omega)]
  refine blkF_ok fun x hx => ?_
  have := blksM_ok (w := w) (m := bs.length) (by omega) hw (by omega) hn hl _ x (hb x hx)
  exact ⟨by omega, this.2⟩
theorem madeB_len {p0 p1 p2 : Int} {l : List Int} (h2 : 0 ≤ p2) : ((madeB p0 p1 p2 l).length : Int) = madeN p2 := by
  have c := madeN_range h2
  unfold madeB; rw [blksM_len]; omega
end Go.Proofs.Ythnoplfjcdkacaa

/-
  Turn: something of blocks is turned in place. Conditions: as the contract says.
-/
set_option linter.unusedVariables false
set_option linter.unusedSimpArgs false
namespace Go.Proofs.Ythnoplfjcdkacaa
open Go

def Small (bs : List Blk) : Prop := bs.length ≤ 1000 ∧ ∀ b ∈ bs, b.ins.length ≤ 1000 ∧ ∀ x ∈ b.ins, x.args.length ≤ 1000
def IX : X := .op .rem .i64 (.conv .i64 (.var 1)) (.len 0)
def AX : X := .op .rem .i64 (.conv .i64 (.var 2)) (.op .add .i64 (.len 5) (.lit 1))
theorem ix_val {b : Int} {m : Nat} (hb : 0 ≤ b ∧ b ≤ 255) (hm : 0 < m) : ∃ i : Nat, i < m ∧ ∀ G : List Value, vlen (gv G 0) = m → gv G 1 = .int .u8 b → vi (IX.den G) = (i : Int) := by
  have := tmod_range (a := b) (n := m) hb.1 (by omega)
  refine ⟨(b.tmod m).toNat, by omega, fun G h1 h2 => ?_⟩
  simp only [IX, X.den, h1, h2, vi_int, intOp]
  rw [wrap_i64 (by omega) (by omega)]; omega
theorem ax_val {b : Int} {m : Nat} (hb : 0 ≤ b ∧ b ≤ 255) (hm : m ≤ 1000) : ∃ i : Nat, i < m + 1 ∧ ∀ G : List Value, vlen (gv G 5) = m → gv G 2 = .int .u8 b → vi (AX.den G) = (i : Int) := by
  have := tmod_range (a := b) (n := ((m : Int) + 1)) hb.1 (by omega)
  refine ⟨(b.tmod ((m : Int) + 1)).toNat, by omega, fun G h1 h2 => ?_⟩
  simp only [AX, X.den, h1, h2, vi_int, intOp]
  rw [wrap_i64 (n := b) (by omega) (by omega), wrap_i64 (by omega) (by omega)]; omega
theorem pe0 {G : List Value} {v : Value} {i o : Nat} (e0 : gv G 0 = v) (hx : vi (IX.den G) = (i : Int)) : PE.den G (.fld (.idx (.var 0) IX 5) o) = (vaddr v).add (i * 5 + o) := by
  simp only [PE.den, e0, hx, Int.toNat_natCast, add_add]
theorem pe1 {G : List Value} {v : Value} {i o : Nat} (e0 : gv G 0 = v) (hx : vi (IX.den G) = (i : Int)) : PE.den G (.fld (.fld (.idx (.var 0) IX 5) 1) o) = (vaddr v).add (i * 5 + (1 + o)) := by
  simp only [PE.den, e0, hx, Int.toNat_natCast, add_add, Nat.add_assoc]
theorem pe7 {G : List Value} {v : Value} {i o : Nat} (e0 : gv G 7 = v) (hx : vi (AX.den G) = (i : Int)) : PE.den G (.fld (.idx (.var 7) AX 7) o) = (vaddr v).add (i * 7 + o) := by
  simp only [PE.den, e0, hx, Int.toNat_natCast, add_add]
/-- As many blocks, each of as many instructions. -/
def Sized (bs bs' : List Blk) : Prop := bs'.map (fun b => b.ins.length) = bs.map (fun b => b.ins.length)
theorem Sized.set {bs : List Blk} {i : Nat} {x x' : Blk} (hx : bs[i]? = some x) (he : x'.ins.length = x.ins.length) : Sized bs (bs.set i x') := by
  unfold Sized
  refine List.ext_getElem? fun k => ?_
  rw [List.getElem?_map, List.getElem?_map, List.getElem?_set]
  by_cases h : i = k
  · subst h
    obtain ⟨hlt, rfl⟩ := List.getElem?_eq_some_iff.1 hx
    simp [hlt, he]
  · simp [h]
theorem Sized.mem {bs bs' : List Blk} (h : Sized bs bs') {b : Blk} (hb : b ∈ bs') : ∃ c ∈ bs, b.ins.length = c.ins.length := by
  have : b.ins.length ∈ bs'.map (fun b => b.ins.length) := List.mem_map_of_mem hb
  rw [h] at this
  obtain ⟨c, hc, e⟩ := List.mem_map.1 this
  exact ⟨c, hc, e.symm⟩
theorem Sized.length {bs bs' : List Blk} (h : Sized bs bs') : bs'.length = bs.length := by
  have := congrArg List.length h; simpa using this
theorem Lens.get_ {α : Type} {e : TypeId} {sz : Nat} {R : RepF α} {h : H} {v : Value} {l : List α} {fp : List Nat} {i : Nat} {x : α} {c : List Value} {f : List Nat} {L1 L2 : List (El α)} {fr : List Nat} (K : Lens e sz R h v l fp i x c f L1 L2 fr) : l[i]? = some x := by
  rw [K.list, List.getElem?_append_right (by rw [List.length_map, K.at_]; omega), List.length_map, K.at_, Nat.sub_self]; rfl
/-- Numbers of 64 bits, in all instructions. -/
def N64 (n : Int) : Prop := -9223372036854775808 ≤ n ∧ n < 9223372036854775808
def NB (bs : List Blk) : Prop := ∀ b ∈ bs, ∀ x ∈ b.ins, N64 x.n
theorem NB.set {bs : List Blk} {i : Nat} {x x' : Blk} (hx : bs[i]? = some x) (hy : (∀ y ∈ x.ins, N64 y.n) → ∀ y ∈ x'.ins, N64 y.n) (h : NB bs) : NB (bs.set i x') := fun b hb => by
  rcases List.mem_or_eq_of_mem_set hb with q | rfl
  · exact h b q
  · exact hy (h x (List.mem_of_getElem? hx))
theorem NB.ins {bs : List Blk} {i a : Nat} {x : Blk} {y y' : Ins} {n : Int} (hx : bs[i]? = some x) (hy : x.ins[a]? = some y) (he : y'.n = y.n ∨ y'.n = n) (hn : N64 n) (h : NB bs) : NB (bs.set i ⟨x.ins.set a y', x.en⟩) :=
  NB.set hx (fun g z hz => by
    rcases List.mem_or_eq_of_mem_set hz with q | rfl
    · exact g z q
    · rcases he with e | e <;> rw [e]
      · exact g y (List.mem_of_getElem? hy)
      · exact hn) h
/-- What Turn leaves. -/
def TurnC (h : H) (v : Value) (fp : List Nat) (bs : List Blk) (n : Int) : Value → List (List Value) → H → Prop := Ret fun r h' => r = .tuple #[] ∧ ∃ bs' fp', OwnBlks h' v bs' fp' ∧ fp'.Nodup ∧ KeptH h h' fp ∧ (∀ b ∈ fp', b ∈ fp ∨ h b = none) ∧ Sized bs bs' ∧ (N64 n → NB bs → NB bs')
def TurnB (h : H) (v : Value) (fp : List Nat) (bs : List Blk) : Value → List (List Value) → H → Prop := Ret fun r h' => r = .tuple #[] ∧ ∃ bs' fp', OwnBlks h' v bs' fp' ∧ fp'.Nodup ∧ KeptH h h' fp ∧ (∀ b ∈ fp', b ∈ fp ∨ h b = none) ∧ Sized bs bs'
def TurnR (h : H) (v : Value) (fp : List Nat) : Value → List (List Value) → H → Prop := Ret fun r h' => r = .tuple #[] ∧ ∃ bs' fp', OwnBlks h' v bs' fp' ∧ fp'.Nodup ∧ KeptH h h' fp ∧ ∀ b ∈ fp', b ∈ fp ∨ h b = none
section
variable {h : H} {v : Value} {bs : List Blk} {fp : List Nat} {i : Nat} {x : Blk} {c : List Value} {f : List Nat} {L1 L2 : List (El Blk)} {fr : List Nat} {n : Int}
/-- The end's field is set. -/
theorem turn_end (hnd : fp.Nodup) (K : Lens 83 5 BlkF h v bs fp i x c f L1 L2 fr) {o : Nat} {w0 w : Value} {A C : List Value} {en : Fin4} (h1 : endC x.en = A ++ [w0] ++ C) (ho : A.length = o) (h2 : A ++ [w] ++ C = endC en) :
    Writable h ((vaddr v).add (i * 5 + (1 + o))) [w].length ∧ TurnC h v fp bs n (.tuple #[]) [] (h.sets ((vaddr v).add (i * 5 + (1 + o))) [w]) := by
  obtain ⟨u, hu, hs⟩ := K.rep
  have hk := K.store blkF_good hnd (o := 1 + o) (N := [w]) (A := u :: A) (B := [w0]) (C := C) (by rw [hu, h1]; simp) (by simp [ho]; omega) rfl (by simp)
  obtain ⟨k1, k2, k3⟩ := hk
  refine ⟨k1, rfl, rfl, bs.set i ⟨x.ins, en⟩, fp, k3 _ fun ⟨u', e1, e2⟩ => ?_, hnd, fun b hb _ => k2 b fun hr => hb (by rw [K.foot]; simp [hr]), (fun b hb => .inl hb), Sized.set K.get_ rfl, fun _ g => NB.set K.get_ (fun q => q) g⟩
  have : u = u' := by rw [hu] at e1; simp only [List.cons.injEq] at e1; exact e1.1
  exact ⟨u, by rw [← h2]; simp, by rw [this]; exact e2⟩
/-- An instruction's field is set. -/
theorem turn_ins (hnd : fp.Nodup) (K : Lens 83 5 BlkF h v bs fp i x c f L1 L2 fr) {u : Value} (hu : c = u :: endC x.en) (hfn : f.Nodup) {a : Nat} {y : Ins} {c2 : List Value} {f2 : List Nat} {M1 M2 : List (El Ins)} {fr2 : List Nat}
    (K2 : Lens 87 7 InsF h u x.ins f a y c2 f2 M1 M2 fr2) {o : Nat} {w0 w : Value} {A C : List Value} {y' : Ins} {q : Value} (hq : c2 = insC y q) (h1 : insC y q = A ++ [w0] ++ C) (ho : A.length = o) (h2 : A ++ [w] ++ C = insC y' q) (hargs : y'.args = y.args) (hnn : y'.n = y.n ∨ y'.n = n) :
    Writable h ((vaddr u).add (a * 7 + o)) [w].length ∧ TurnC h v fp bs n (.tuple #[]) [] (h.sets ((vaddr u).add (a * 7 + o)) [w]) := by
  obtain ⟨k1, k2, k3⟩ := K2.store insF_good hfn (o := o) (N := [w]) (A := A) (B := [w0]) (C := C) (by rw [hq, h1]) ho rfl (by simp)
  have hs := k3 y' fun ⟨q', e1, e2⟩ => by
    have : q = q' := by rw [hq] at e1; simp only [insC, List.cons.injEq] at e1; exact e1.2.2.2.2.2.2.1
    exact ⟨q, h2, by rw [hargs, this]; exact e2⟩
  have hk : KeptH h (h.sets ((vaddr u).add (a * 7 + o)) [w]) f := fun b hb _ => k2 b fun hr => hb (by rw [K2.foot]; simp [hr])
  obtain ⟨m1, m2, _⟩ := K.inner blkF_good hnd hk (x' := ⟨x.ins.set a y', x.en⟩) (f' := f) ⟨u, by rw [hu], hs⟩ (fun b hb => .inl hb) hfn
  refine ⟨k1, rfl, rfl, _, _, m1, m2, hk.mono fun b hb => by rw [K.foot]; simp [hb], fun b hb => .inl ?_, Sized.set K.get_ (by simp), fun g1 g2 => NB.ins K.get_ K2.get_ hnn g1 g2⟩
  rw [K.foot]; exact hb
end
theorem s13kb {h : H} {v : Value} {bs : List Blk} {fp : List Nat} (k : OwnBlks h v bs fp) (hnd : fp.Nodup) (hs : Small bs) {b kk fd n : Int} (hb : 0 ≤ b ∧ b ≤ 255) (hk : 0 ≤ kk ∧ kk ≤ 255) :
    CallsA Try.prog 13 (fun _ => [v, .int .u8 b, .int .u8 kk, .int .u8 fd, .int .i64 n]) [] h (TurnC h v fp bs n) := by
  refine c13 (G := [v, .int .u8 b, .int .u8 kk, .int .u8 fd, .int .i64 n]) ⟨k.at.fit, ⟨_, rfl⟩, ⟨_, rfl⟩, ⟨_, rfl⟩, ⟨_, rfl⟩, trivial⟩ ?_
  have hul := k.len (by omega)
  refine h_ite (fun hc => ⟨rfl, rfl, bs, fp, k, hnd, KeptH.refl _ _, (fun b hb => .inl hb), rfl, fun _ g => g⟩) (fun hc => ?_)
  replace hc : cmpOp .eql ((vlen v : Nat) : Int) 0 = false := hc
  rw [hul, cmp_eql, decide_eq_false_iff_not] at hc
  obtain ⟨i, hi, hix0⟩ := ix_val (m := bs.length) hb (by omega)
  have hix : ∀ tl : List Value, vi (IX.den (v :: .int .u8 b :: tl)) = (i : Int) := fun tl => hix0 _ hul rfl
  have hx : bs[i]? = some bs[i] := List.getElem?_eq_getElem hi
  have hmem : bs[i] ∈ bs := List.getElem_mem _
  generalize bs[i] = x at hx hmem
  obtain ⟨hx1, hx2⟩ := hs.2 x hmem
  obtain ⟨c, f, L1, L2, fr, K⟩ := k.lens hx
  obtain ⟨w, rfl, hw⟩ := K.rep
  have hwl := hw.len (by omega)
  have hfn : f.Nodup := by
    have := hnd; rw [K.foot] at this
    exact (List.nodup_append.1 (List.nodup_append.1 (List.nodup_append.1 this).2.1).2.1).1
  have hwr : Reads h ((vaddr v).add (i * 5 + 0)) [w] := K.reads fun j u hj => by obtain ⟨rfl, rfl⟩ := get_one hj; rfl
  have hwfit := (SlF.at (sz := 7) (Rep := InsC) (Nat.zero_lt_succ 6) insF_at hw).fit
  obtain ⟨a, ha, hax0⟩ := ax_val (m := x.ins.length) hk hx1
  have hax : ∀ (z1 z2 : Value) (tl : List Value), vi (AX.den (v :: .int .u8 b :: .int .u8 kk :: z1 :: z2 :: w :: tl)) = (a : Int) := fun z1 z2 tl => hax0 _ hwl rfl
  have rd0 : ∀ tl : List Value, Reads h (PE.den (v :: .int .u8 b :: tl) (.fld (.idx (.var 0) IX 5) 0)) [w] := fun tl => by rw [pe0 (v := v) rfl (hix tl)]; exact hwr
  refine ⟨fun _ => ⟨?_, trivial⟩, fun _ => ⟨?_, ?_, trivial⟩, h_load [w] ⟨hwfit, trivial⟩ (fun _ => rd0 _)
    ⟨fun _ => ⟨?_, trivial⟩, h_load [w] ⟨hwfit, trivial⟩ (fun _ => rd0 _) (h_ite (fun hc2 => ?_) (fun hc2 => ?_))⟩⟩
  · show cmpOp .neq ((vlen v : Nat) : Int) 0 = true
    rw [hul, cmp_neq, decide_eq_true_eq]; exact hc
  · show cmpOp .geq (vi (IX.den [v, .int .u8 b, .int .u8 kk, .int .u8 fd, .int .i64 n])) 0 = true
    rw [hix, cmp_geq, decide_eq_true_eq]; omega
  · show cmpOp .lss (vi (IX.den [v, .int .u8 b, .int .u8 kk, .int .u8 fd, .int .i64 n])) ((vlen v : Nat) : Int) = true
    rw [hix, hul, cmp_lss, decide_eq_true_eq]; omega
  · show cmpOp .neq (intOp .add .i64 ((vlen w : Nat) : Int) 1) 0 = true
    rw [hwl, cmp_neq, decide_eq_true_eq]
    simp only [intOp]; rw [wrap_i64 (by omega) (by omega)]; omega
  · refine h_ite (fun _ => ?_) (fun _ => h_ite (fun _ => ?_) (fun _ => h_ite (fun _ => ?_) (fun _ => ?_)))
    · refine h_store ((vaddr v).add (i * 5 + (1 + 0))) [.int .u8 (IntKind.u8.wrap n)] (pe1 rfl (hix _)) rfl ?_ ?_
      · exact (turn_end (n := n) hnd K (o := 0) (w := .int .u8 (IntKind.u8.wrap n)) (A := []) (C := [.int .i64 x.en.a, .int .i64 x.en.to, .int .i64 x.en.el]) (en := ⟨IntKind.u8.wrap n, x.en.a, x.en.to, x.en.el⟩) rfl rfl rfl).1
      · exact (turn_end (n := n) hnd K (o := 0) (w := .int .u8 (IntKind.u8.wrap n)) (A := []) (C := [.int .i64 x.en.a, .int .i64 x.en.to, .int .i64 x.en.el]) (en := ⟨IntKind.u8.wrap n, x.en.a, x.en.to, x.en.el⟩) rfl rfl rfl).2
    · refine h_store ((vaddr v).add (i * 5 + (1 + 1))) [.int .i64 n] (pe1 rfl (hix _)) rfl ?_ ?_
      · exact (turn_end (n := n) hnd K (o := 1) (w := .int .i64 n) (A := [.int .u8 x.en.kind]) (C := [.int .i64 x.en.to, .int .i64 x.en.el]) (en := ⟨x.en.kind, n, x.en.to, x.en.el⟩) rfl rfl rfl).1
      · exact (turn_end (n := n) hnd K (o := 1) (w := .int .i64 n) (A := [.int .u8 x.en.kind]) (C := [.int .i64 x.en.to, .int .i64 x.en.el]) (en := ⟨x.en.kind, n, x.en.to, x.en.el⟩) rfl rfl rfl).2
    · refine h_store ((vaddr v).add (i * 5 + (1 + 2))) [.int .i64 n] (pe1 rfl (hix _)) rfl ?_ ?_
      · exact (turn_end (n := n) hnd K (o := 2) (w := .int .i64 n) (A := [.int .u8 x.en.kind, .int .i64 x.en.a]) (C := [.int .i64 x.en.el]) (en := ⟨x.en.kind, x.en.a, n, x.en.el⟩) rfl rfl rfl).1
      · exact (turn_end (n := n) hnd K (o := 2) (w := .int .i64 n) (A := [.int .u8 x.en.kind, .int .i64 x.en.a]) (C := [.int .i64 x.en.el]) (en := ⟨x.en.kind, x.en.a, n, x.en.el⟩) rfl rfl rfl).2
    · refine h_store ((vaddr v).add (i * 5 + (1 + 3))) [.int .i64 n] (pe1 rfl (hix _)) rfl ?_ ?_
      · exact (turn_end (n := n) hnd K (o := 3) (w := .int .i64 n) (A := [.int .u8 x.en.kind, .int .i64 x.en.a, .int .i64 x.en.to]) (C := []) (en := ⟨x.en.kind, x.en.a, x.en.to, n⟩) rfl rfl rfl).1
      · exact (turn_end (n := n) hnd K (o := 3) (w := .int .i64 n) (A := [.int .u8 x.en.kind, .int .i64 x.en.a, .int .i64 x.en.to]) (C := []) (en := ⟨x.en.kind, x.en.a, x.en.to, n⟩) rfl rfl rfl).2
  · replace hc2 : cmpOp .eql (vi (AX.den [v, .int .u8 b, .int .u8 kk, .int .u8 fd, .int .i64 n, w, w])) ((vlen w : Nat) : Int) = false := hc2
    rw [hax, hwl, cmp_eql, decide_eq_false_iff_not] at hc2
    have ha2 : a < x.ins.length := by omega
    have hy : x.ins[a]? = some x.ins[a] := List.getElem?_eq_getElem ha2
    have hym : x.ins[a] ∈ x.ins := List.getElem_mem _
    generalize x.ins[a] = y at hy hym
    have hy1 := hx2 y hym
    obtain ⟨c2, f2, M1, M2, fr2, K2⟩ := hw.lens hy
    obtain ⟨q, rfl, hq⟩ := K2.rep
    have hql := (rowF_ints hq).len
    refine h_load [w] ⟨hwfit, trivial⟩ (fun _ => rd0 _) ⟨fun _ => ⟨?_, ?_, trivial⟩, ?_⟩
    · show cmpOp .geq (vi (AX.den [v, .int .u8 b, .int .u8 kk, .int .u8 fd, .int .i64 n, w, w, w])) 0 = true
      rw [hax, cmp_geq, decide_eq_true_eq]; omega
    · show cmpOp .lss (vi (AX.den [v, .int .u8 b, .int .u8 kk, .int .u8 fd, .int .i64 n, w, w, w])) ((vlen w : Nat) : Int) = true
      rw [hax, hwl, cmp_lss, decide_eq_true_eq]; omega
    have hqr : Reads h ((vaddr w).add (a * 7 + 6)) [q] := K2.reads fun j u hj => by obtain ⟨rfl, rfl⟩ := get_one hj; rfl
    have hqfit := (rowF_ints hq).fit
    have rd7 : ∀ (z1 z2 z3 : Value) (tl : List Value), Reads h (PE.den (v :: .int .u8 b :: .int .u8 kk :: z1 :: z2 :: w :: z3 :: w :: tl) (.fld (.idx (.var 7) AX 7) 6)) [q] := fun z1 z2 z3 tl => by rw [pe7 (v := w) rfl (hax _ _ _)]; exact hqr
    refine h_ite (fun _ => ?_) (fun _ => h_ite (fun _ => ?_) (fun _ => h_ite (fun _ => ?_) (fun _ => h_ite (fun _ => ?_) (fun _ => h_ite (fun _ => ?_) (fun _ => h_ite (fun _ => ?_) (fun _ => h_ite (fun _ => ?_) (fun _ => ?_)))))))
    · refine h_store ((vaddr w).add (a * 7 + 0)) [.int .u8 (IntKind.u8.wrap n)] (pe7 rfl (hax _ _ _)) rfl ?_ ?_
      · exact (turn_ins (n := n) hnd K rfl hfn K2 (o := 0) (w := .int .u8 (IntKind.u8.wrap n)) (A := []) (C := [.int .u8 y.op, .int .i64 y.d, .int .i64 y.a, .int .i64 y.b, .int .i64 y.n, q]) (y' := ⟨IntKind.u8.wrap n, y.op, y.d, y.a, y.b, y.n, y.args⟩) rfl rfl rfl rfl rfl (by simp)).1
      · exact (turn_ins (n := n) hnd K rfl hfn K2 (o := 0) (w := .int .u8 (IntKind.u8.wrap n)) (A := []) (C := [.int .u8 y.op, .int .i64 y.d, .int .i64 y.a, .int .i64 y.b, .int .i64 y.n, q]) (y' := ⟨IntKind.u8.wrap n, y.op, y.d, y.a, y.b, y.n, y.args⟩) rfl rfl rfl rfl rfl (by simp)).2
    · refine h_store ((vaddr w).add (a * 7 + 1)) [.int .u8 (IntKind.u8.wrap n)] (pe7 rfl (hax _ _ _)) rfl ?_ ?_
      · exact (turn_ins (n := n) hnd K rfl hfn K2 (o := 1) (w := .int .u8 (IntKind.u8.wrap n)) (A := [.int .u8 y.kind]) (C := [.int .i64 y.d, .int .i64 y.a, .int .i64 y.b, .int .i64 y.n, q]) (y' := ⟨y.kind, IntKind.u8.wrap n, y.d, y.a, y.b, y.n, y.args⟩) rfl rfl rfl rfl rfl (by simp)).1
      · exact (turn_ins (n := n) hnd K rfl hfn K2 (o := 1) (w := .int .u8 (IntKind.u8.wrap n)) (A := [.int .u8 y.kind]) (C := [.int .i64 y.d, .int .i64 y.a, .int .i64 y.b, .int .i64 y.n, q]) (y' := ⟨y.kind, IntKind.u8.wrap n, y.d, y.a, y.b, y.n, y.args⟩) rfl rfl rfl rfl rfl (by simp)).2
    · refine h_store ((vaddr w).add (a * 7 + 2)) [.int .i64 n] (pe7 rfl (hax _ _ _)) rfl ?_ ?_
      · exact (turn_ins (n := n) hnd K rfl hfn K2 (o := 2) (w := .int .i64 n) (A := [.int .u8 y.kind, .int .u8 y.op]) (C := [.int .i64 y.a, .int .i64 y.b, .int .i64 y.n, q]) (y' := ⟨y.kind, y.op, n, y.a, y.b, y.n, y.args⟩) rfl rfl rfl rfl rfl (by simp)).1
      · exact (turn_ins (n := n) hnd K rfl hfn K2 (o := 2) (w := .int .i64 n) (A := [.int .u8 y.kind, .int .u8 y.op]) (C := [.int .i64 y.a, .int .i64 y.b, .int .i64 y.n, q]) (y' := ⟨y.kind, y.op, n, y.a, y.b, y.n, y.args⟩) rfl rfl rfl rfl rfl (by simp)).2
    · refine h_store ((vaddr w).add (a * 7 + 3)) [.int .i64 n] (pe7 rfl (hax _ _ _)) rfl ?_ ?_
      · exact (turn_ins (n := n) hnd K rfl hfn K2 (o := 3) (w := .int .i64 n) (A := [.int .u8 y.kind, .int .u8 y.op, .int .i64 y.d]) (C := [.int .i64 y.b, .int .i64 y.n, q]) (y' := ⟨y.kind, y.op, y.d, n, y.b, y.n, y.args⟩) rfl rfl rfl rfl rfl (by simp)).1
      · exact (turn_ins (n := n) hnd K rfl hfn K2 (o := 3) (w := .int .i64 n) (A := [.int .u8 y.kind, .int .u8 y.op, .int .i64 y.d]) (C := [.int .i64 y.b, .int .i64 y.n, q]) (y' := ⟨y.kind, y.op, y.d, n, y.b, y.n, y.args⟩) rfl rfl rfl rfl rfl (by simp)).2
    · refine h_store ((vaddr w).add (a * 7 + 4)) [.int .i64 n] (pe7 rfl (hax _ _ _)) rfl ?_ ?_
      · exact (turn_ins (n := n) hnd K rfl hfn K2 (o := 4) (w := .int .i64 n) (A := [.int .u8 y.kind, .int .u8 y.op, .int .i64 y.d, .int .i64 y.a]) (C := [.int .i64 y.n, q]) (y' := ⟨y.kind, y.op, y.d, y.a, n, y.n, y.args⟩) rfl rfl rfl rfl rfl (by simp)).1
      · exact (turn_ins (n := n) hnd K rfl hfn K2 (o := 4) (w := .int .i64 n) (A := [.int .u8 y.kind, .int .u8 y.op, .int .i64 y.d, .int .i64 y.a]) (C := [.int .i64 y.n, q]) (y' := ⟨y.kind, y.op, y.d, y.a, n, y.n, y.args⟩) rfl rfl rfl rfl rfl (by simp)).2
    · refine h_store ((vaddr w).add (a * 7 + 5)) [.int .i64 n] (pe7 rfl (hax _ _ _)) rfl ?_ ?_
      · exact (turn_ins (n := n) hnd K rfl hfn K2 (o := 5) (w := .int .i64 n) (A := [.int .u8 y.kind, .int .u8 y.op, .int .i64 y.d, .int .i64 y.a, .int .i64 y.b]) (C := [q]) (y' := ⟨y.kind, y.op, y.d, y.a, y.b, n, y.args⟩) rfl rfl rfl rfl rfl (by simp)).1
      · exact (turn_ins (n := n) hnd K rfl hfn K2 (o := 5) (w := .int .i64 n) (A := [.int .u8 y.kind, .int .u8 y.op, .int .i64 y.d, .int .i64 y.a, .int .i64 y.b]) (C := [q]) (y' := ⟨y.kind, y.op, y.d, y.a, y.b, n, y.args⟩) rfl rfl rfl rfl rfl (by simp)).2
    · refine h_load [q] ⟨hqfit, trivial⟩ (fun _ => rd7 _ _ _ _) ⟨[.int .i64 n], 1, ⟨rfl, rfl⟩, app_rowF hq rfl (by rw [zero3]; rfl) ?_ ?_⟩
      · show (vlen q + 1) * 8 ≤ _
        rw [hql]; omega
      · intro q' h1 fq k1 k2 k3 k4
        have hfq : ∀ b ∈ fq, b ∈ f2 ∨ h b = none := by
          rcases k4 with rfl | ⟨b', rfl, hb'⟩
          · exact fun b hb => .inl hb
          · exact fun b hb => by rw [List.mem_singleton] at hb; subst hb; exact .inr hb'
        have hf2n : f2.Nodup := by
          have := hfn; rw [K2.foot] at this
          exact (List.nodup_append.1 (List.nodup_append.1 (List.nodup_append.1 this).2.1).2.1).1
        have hfqn : fq.Nodup := by
          rcases k4 with rfl | ⟨b', rfl, hb'⟩
          · exact hf2n
          · simp
        obtain ⟨m1, m2, m3⟩ := K2.upd insF_good hfn k3 (o := 6) (N := [q']) (A := [.int .u8 y.kind, .int .u8 y.op, .int .i64 y.d, .int .i64 y.a, .int .i64 y.b, .int .i64 y.n]) (B := [q]) (C := []) rfl rfl rfl (by simp)
        refine h_store ((vaddr w).add (a * 7 + 6)) [q'] (pe7 rfl (hax _ _ _)) rfl m1 ?_
        have hag : Agree h1 (h1.sets ((vaddr w).add (a * 7 + 6)) [q']) fq := fun b hb => m2 b fun hr => by
          rcases hfq b hb with e | e
          · exact K2.apart hfn b e hr
          · have := K2.row.live b hr; rw [e] at this; cases this
        have hs2 := m3 ⟨y.kind, y.op, y.d, y.a, y.b, y.n, y.args ++ [n]⟩ fq ⟨q', rfl, by rw [List.map_append]; exact k1.agree hag⟩
        have hnd2 := K2.nodup insF_good hfn hfq hfqn
        have hk2 : KeptH h (h1.sets ((vaddr w).add (a * 7 + 6)) [q']) f := fun b hb hl => by
          rw [m2 b fun hr => hb (by rw [K2.foot]; simp [hr])]
          exact k3 b (fun hr => hb (by rw [K2.foot]; simp [hr])) hl
        have hff : ∀ b ∈ fr2 ++ (fpE M1 ++ (fq ++ fpE M2)), b ∈ f ∨ h b = none := fun b hb => by
          rw [K2.foot]
          simp only [List.mem_append] at hb ⊢
          rcases hb with hb | hb | hb | hb
          · exact .inl (.inl hb)
          · exact .inl (.inr (.inl hb))
          · rcases hfq b hb with e | e
            · exact .inl (.inr (.inr (.inl e)))
            · exact .inr e
          · exact .inl (.inr (.inr (.inr hb)))
        obtain ⟨j1, j2, _⟩ := K.inner blkF_good hnd hk2 (x' := ⟨x.ins.set a ⟨y.kind, y.op, y.d, y.a, y.b, y.n, y.args ++ [n]⟩, x.en⟩) ⟨w, rfl, hs2⟩ hff hnd2
        refine ⟨rfl, rfl, _, _, j1, j2, hk2.mono fun b hb => by rw [K.foot]; simp [hb], fun b hb => ?_, Sized.set K.get_ (by simp), fun g1 g2 => NB.ins K.get_ K2.get_ (.inl rfl) g1 g2⟩
        rw [K.foot]
        simp only [List.mem_append] at hb ⊢
        rcases hb with hb | hb | hb | hb
        · exact .inl (.inl hb)
        · exact .inl (.inr (.inl hb))
        · rcases hff b (by simpa using hb) with e | e
          · exact .inl (.inr (.inr (.inl e)))
          · exact .inr e
        · exact .inl (.inr (.inr (.inr hb)))
    · refine h_load [q] ⟨hqfit, trivial⟩ (fun _ => rd7 _ _ _ _) (h_ite (fun hc3 => ?_) (fun _ => ⟨rfl, rfl, bs, fp, k, hnd, KeptH.refl _ _, (fun b hb => .inl hb), rfl, fun _ g => g⟩))
      replace hc3 : cmpOp .gtr ((vlen q : Nat) : Int) 0 = true := hc3
      have hc3' := hc3
      rw [hql, cmp_gtr, decide_eq_true_eq] at hc3
      obtain ⟨a0, rest, hargs⟩ : ∃ a0 rest, y.args = a0 :: rest := by
        cases e : y.args with
        | nil => rw [e] at hc3; simp at hc3
        | cons a0 rest => exact ⟨a0, rest, rfl⟩
      refine h_load [q] ⟨hqfit, trivial⟩ (fun _ => rd7 _ _ _ _) ⟨fun _ => ⟨rfl, ?_, trivial⟩, ?_⟩
      · show cmpOp .lss 0 ((vlen q : Nat) : Int) = true
        rw [hql, cmp_lss, decide_eq_true_eq]; exact hc3
      have hq' : RowF h 3 1 q ([] ++ [Value.int .i64 a0] ++ rest.map (.int .i64)) f2 := by have := hq; rw [hargs] at this; exact this
      obtain ⟨m1, m2⟩ := set_rowF (N := [Value.int .i64 n]) hq' rfl (by simp)
      have hwr2 : Writable h ((vaddr q).add 0) 1 := by
        refine hq'.row0.writable ?_
        have e1 := hq'.row0.len
        obtain ⟨aa, nn, cc, rfl, _, e3⟩ := hqfit
        simp only [List.length_append, List.length_cons, List.length_nil, vlen_sl, vcap_sl] at e1 ⊢
        omega
      refine h_store ((vaddr q).add 0) [.int .i64 n] rfl rfl hwr2 ?_
      have hk1 : KeptH h (h.sets ((vaddr q).add 0) [.int .i64 n]) f2 := fun b hb _ => m2 b hb
      have hf2n : f2.Nodup := by
        have := hfn; rw [K2.foot] at this
        exact (List.nodup_append.1 (List.nodup_append.1 (List.nodup_append.1 this).2.1).2.1).1
      obtain ⟨i1, i2, _⟩ := K2.inner insF_good hfn hk1 (x' := ⟨y.kind, y.op, y.d, y.a, y.b, y.n, n :: rest⟩) (f' := f2) ⟨q, rfl, m1⟩ (fun b hb => .inl hb) hf2n
      have hk2 : KeptH h (h.sets ((vaddr q).add 0) [.int .i64 n]) f := hk1.mono fun b hb => by rw [K2.foot]; simp [hb]
      obtain ⟨j1, j2, _⟩ := K.inner blkF_good hnd hk2 (x' := ⟨x.ins.set a ⟨y.kind, y.op, y.d, y.a, y.b, y.n, n :: rest⟩, x.en⟩) ⟨w, rfl, i1⟩ (fun b hb => .inl (by rw [K2.foot]; exact hb)) i2
      refine ⟨rfl, rfl, _, _, j1, j2, hk2.mono fun b hb => by rw [K.foot]; simp [hb], fun b hb => .inl ?_, Sized.set K.get_ (by simp), fun g1 g2 => NB.ins K.get_ K2.get_ (.inl rfl) g1 g2⟩
      rw [K.foot, K2.foot]; exact hb
theorem s13b {h : H} {v : Value} {bs : List Blk} {fp : List Nat} (k : OwnBlks h v bs fp) (hnd : fp.Nodup) (hs : Small bs) {b kk fd n : Int} (hb : 0 ≤ b ∧ b ≤ 255) (hk : 0 ≤ kk ∧ kk ≤ 255) :
    CallsA Try.prog 13 (fun _ => [v, .int .u8 b, .int .u8 kk, .int .u8 fd, .int .i64 n]) [] h (TurnB h v fp bs) :=
  (s13kb k hnd hs hb hk).mono fun r cs h' ⟨e, hr, bs', fp', k1, k2, k3, k4, k5, _⟩ => ⟨e, hr, bs', fp', k1, k2, k3, k4, k5⟩
theorem s13 {h : H} {v : Value} {bs : List Blk} {fp : List Nat} (k : OwnBlks h v bs fp) (hnd : fp.Nodup) (hs : Small bs) {b kk fd n : Int} (hb : 0 ≤ b ∧ b ≤ 255) (hk : 0 ≤ kk ∧ kk ≤ 255) :
    CallsA Try.prog 13 (fun _ => [v, .int .u8 b, .int .u8 kk, .int .u8 fd, .int .i64 n]) [] h (TurnR h v fp) :=
  (s13b k hnd hs hb hk).mono fun r cs h' ⟨e, hr, bs', fp', k1, k2, k3, k4, _⟩ => ⟨e, hr, bs', fp', k1, k2, k3, k4⟩
end Go.Proofs.Ythnoplfjcdkacaa

/-
  Long: what it tells of blocks. Conditions: as the contract says.
-/
set_option linter.unusedVariables false
set_option linter.unusedSimpArgs false
namespace Go.Proofs.Ythnoplfjcdkacaa
open Go

def NotLong (bs : List Blk) : Prop := ∀ b ∈ bs, b.ins.length ≤ 2000 ∧ ∀ x ∈ b.ins, x.args.length ≤ 5000
def LX (k : Nat) : X := .ite (.cmp .lss (.lit 10000) (.len k)) (.lit 10000) (.len k)
theorem lx_val {G : List Value} {k m : Nat} (e : vlen (gv G k) = m) : vi ((LX k).den G) = if (10000 : Int) < m then 10000 else (m : Int) := by
  simp only [LX, X.den, e, vi_ite, vi_int, vb_bool, cmp_lss, decide_eq_true_eq]
theorem gtr_val {G : List Value} {a : X} {n k : Int} (h : vi (a.den G) = n) : vb ((X.cmp .gtr a (.lit k)).den G) = decide (k < n) := by
  simp only [X.den, h, vb_bool, vi_int, cmp_gtr]
theorem again_of {P : Program} {R : Value → List (List Value) → H → Prop} {G : List Value} {L : Lv} {h : H} {lvl : Nat} {l : List SV} {xs : List Value} {J : List Value → H → Prop} (e : SV.denL G dE l = xs) (hL : L[lvl]? = some J) (hj : J xs h) :
    holds P R (.again lvl l) G L h := by
  show Lv.at L lvl _ h
  unfold Lv.at
  rw [hL, e]; exact hj
theorem s11 {h : H} {v : Value} {bs : List Blk} (hv : BlksAt h v bs) :
    CallsA Try.prog 11 (fun _ => [v]) [] h (Ret fun r h' => h' = h ∧ ∃ b : Bool, r = .bool b ∧ (b = false → NotLong bs)) := by
  refine c11 (G := [v]) ⟨hv.fit, trivial⟩ ?_
  have hl := hv.len
  refine h_loop (fun xs h' => ∃ n i : Nat, xs = [.int .i64 (n : Int), .int .i64 (i : Int)] ∧ h' = h ∧ n ≤ 5000 ∧ i ≤ 101 ∧ i ≤ bs.length ∧ NotLong (bs.take i))
    (fun xs h' => bs.length - (vi (gv xs 1)).toNat) ⟨0, 0, rfl, rfl, by omega, by omega, Nat.zero_le _, fun b hb => by simp at hb⟩ ?_
  rintro xs h' J - ⟨n, i, rfl, rfl, hn, hi, hil, hd⟩ hJ
  refine h_ite (fun hc => ?_) (fun hc => ?_)
  · replace hc : cmpOp .lss (i : Int) ((vlen v : Nat) : Int) = true := hc
    have hc' := hc
    rw [hl, cmp_lss, decide_eq_true_eq] at hc
    have hlt : i < bs.length := by omega
    have hx : bs[i]? = some bs[i] := List.getElem?_eq_getElem hlt
    have hst : bs.take (i + 1) = bs.take i ++ [bs[i]] := by rw [List.take_add_one, hx]; rfl
    generalize bs[i] = x at hx hst
    obtain ⟨cs, ⟨u, rfl, hu⟩, hr⟩ := hv.get i x hx
    have hul := hu.len
    refine ⟨fun _ => ⟨?_, hc', trivial⟩, h_load (u :: endC x.en) ⟨hu.fit, endFit x.en⟩ (fun _ => hr) ?_⟩
    · show cmpOp .geq (i : Int) 0 = true
      rw [cmp_geq, decide_eq_true_eq]; omega
    refine h_loop (fun xs h'' => ∃ m j : Nat, xs = [.int .i64 (m : Int), .int .i64 (j : Int)] ∧ h'' = h' ∧ m ≤ 5000 ∧ j ≤ m ∧ j ≤ x.ins.length ∧ ∀ y ∈ x.ins.take j, y.args.length ≤ 5000)
      (fun xs h' => x.ins.length - (vi (gv xs 1)).toNat) ⟨n, 0, rfl, rfl, hn, Nat.zero_le _, Nat.zero_le _, fun b hb => by simp at hb⟩ ?_
    rintro xs h'' J2 - ⟨m, j, rfl, rfl, hm, hj, hjl, hd2⟩ hJ2
    refine h_ite (fun hc2 => ?_) (fun hc2 => ?_)
    · replace hc2 : cmpOp .lss (j : Int) ((vlen u : Nat) : Int) = true := hc2
      have hc2' := hc2
      rw [hul, cmp_lss, decide_eq_true_eq] at hc2
      have hlt2 : j < x.ins.length := by omega
      have hy : x.ins[j]? = some x.ins[j] := List.getElem?_eq_getElem hlt2
      have hst2 : x.ins.take (j + 1) = x.ins.take j ++ [x.ins[j]] := by rw [List.take_add_one, hy]; rfl
      generalize x.ins[j] = y at hy hst2
      obtain ⟨cs2, ⟨w, rfl, hw⟩, hr2⟩ := hu.get j y hy
      have hwl := hw.len
      refine ⟨fun _ => ⟨?_, hc2', trivial⟩, h_load (insC y w) (insFit y w hw.fit) (fun _ => hr2) ?_⟩
      · show cmpOp .geq (j : Int) 0 = true
        rw [cmp_geq, decide_eq_true_eq]; omega
      -- the sum so far
      obtain ⟨a, ha⟩ : ∃ a : Nat, (a : Int) = if (10000 : Int) < y.args.length then 10000 else (y.args.length : Int) := ⟨if 10000 < y.args.length then 10000 else y.args.length, by split <;> split <;> omega⟩
      have hab : a ≤ 10000 := by split at ha <;> omega
      have hsum : ∀ G : List Value, vlen (gv G 16) = y.args.length → gv G 8 = .int .i64 (m : Int) → vi ((X.op .add .i64 (.var 8) (.op .add .i64 (.lit 1) (LX 16))).den G) = ((m + (1 + a) : Nat) : Int) := by
        intro G e1 e2
        have e3 := lx_val e1
        rw [← ha] at e3
        simp only [X.den, e2, e3, vi_int, intOp]
        rw [wrap_i64 (n := 1 + (a : Int)) (by omega) (by omega), wrap_i64 (by omega) (by omega)]; omega
      have hsum' := hsum (v :: .int .i64 (n : Int) :: .int .i64 (i : Int) :: u :: .int .u8 x.en.kind :: .int .i64 x.en.a :: .int .i64 x.en.to :: .int .i64 x.en.el :: .int .i64 (m : Int) :: .int .i64 (j : Int) :: insC y w) hwl rfl
      refine h_ite (fun hc3 => ⟨rfl, rfl, true, rfl, fun e => by cases e⟩) (fun hc3 => ?_)
      have hc4 := (gtr_val (k := 5000) hsum').symm.trans hc3
      rw [decide_eq_false_iff_not] at hc4
      have hag : SV.denL (v :: .int .i64 (n : Int) :: .int .i64 (i : Int) :: u :: .int .u8 x.en.kind :: .int .i64 x.en.a :: .int .i64 x.en.to :: .int .i64 x.en.el :: .int .i64 (m : Int) :: .int .i64 (j : Int) :: insC y w) dE
          [.int .i64 (.op .add .i64 (.var 8) (.op .add .i64 (.lit 1) (LX 16))), .int .i64 (.op .add .i64 (.var 9) (.lit 1))] = [.int .i64 ((m + (1 + a) : Nat) : Int), .int .i64 ((j + 1 : Nat) : Int)] := by
        simp only [SV.denL, SV.den, hsum']
        rw [← int_add_one (n := j + 1) (by omega) (by omega)]; rfl
      refine again_of (xs := [.int .i64 ((m + (1 + a) : Nat) : Int), .int .i64 ((j + 1 : Nat) : Int)]) (J := J2) hag rfl ?_
      refine hJ2 _ _ ⟨m + (1 + a), j + 1, rfl, rfl, by omega, by omega, by omega, fun z hz => ?_⟩ ?_
      · rw [hst2] at hz
        rcases List.mem_append.1 hz with q | q
        · exact hd2 z q
        · rw [List.mem_singleton] at q; subst q
          split at ha <;> omega
      · simp only [gv_zero, gv_succ, vi_int]; omega
    · replace hc2 : cmpOp .lss (j : Int) ((vlen u : Nat) : Int) = false := hc2
      rw [hul, cmp_lss, decide_eq_false_iff_not] at hc2
      have hjx : j = x.ins.length := by omega
      rw [hjx, List.take_of_length_le (Nat.le_refl _)] at hd2
      refine h_ite (fun hc3 => ⟨rfl, rfl, true, rfl, fun e => by cases e⟩) (fun hc3 => ?_)
      replace hc3 : vb (if cmpOp .gtr (i : Int) 100 = true then Value.bool true else Value.bool (cmpOp .gtr ((vlen u : Nat) : Int) 2000)) = false := hc3
      rw [hul] at hc3
      simp only [vb_ite, vb_bool, cmp_gtr, decide_eq_true_eq] at hc3
      have hc4 : (i : Int) ≤ 100 ∧ (x.ins.length : Int) ≤ 2000 := by grind
      show J [.int .i64 (m : Int), .int .i64 (intOp .add .i64 (i : Int) 1)] h''
      rw [int_add_one (n := 101) (by omega) (by omega)]
      refine hJ _ _ ⟨m, i + 1, rfl, rfl, hm, by omega, by omega, fun b hb => ?_⟩ ?_
      · rw [hst] at hb
        rcases List.mem_append.1 hb with q | q
        · exact hd b q
        · rw [List.mem_singleton] at q; subst q
          exact ⟨by omega, hd2⟩
      · simp only [gv_zero, gv_succ, vi_int]; omega
  · replace hc : cmpOp .lss (i : Int) ((vlen v : Nat) : Int) = false := hc
    rw [hl, cmp_lss, decide_eq_false_iff_not] at hc
    have : i = bs.length := by omega
    rw [this, List.take_of_length_le (Nat.le_refl _)] at hd
    exact ⟨rfl, rfl, false, rfl, fun _ => hd⟩
end Go.Proofs.Ythnoplfjcdkacaa

/-
  Blocks that read alike are the same. Conditions: as the contract says.
-/
set_option linter.unusedVariables false
set_option linter.unusedSimpArgs false
namespace Go.Proofs.Ythnoplfjcdkacaa
open Go

theorem Reads.sub {h : H} {a : Addr} {c xs : List Value} {o : Nat} (hr : Reads h a c) (hx : ∀ j u, xs[j]? = some u → c[o + j]? = some u) : Reads h (a.add o) xs := fun j u hj => by
  rw [add_add]; exact hr _ _ (hx j u hj)
theorem end_cond {G : List Value} {e : Fin4} (a3 : gv G 3 = .int .u8 e.kind) (a4 : gv G 4 = .int .i64 e.a) (a5 : gv G 5 = .int .i64 e.to) (a6 : gv G 6 = .int .i64 e.el) (a7 : gv G 7 = .int .u8 e.kind) (a8 : gv G 8 = .int .i64 e.a) (a9 : gv G 9 = .int .i64 e.to) (a10 : gv G 10 = .int .i64 e.el)
    {m : Nat} (a11 : vlen (gv G 11) = m) (a12 : vlen (gv G 12) = m) :
    vb ((X.ite (.not (.and (.cmp .eql (.var 3) (.var 7)) (.and (.cmp .eql (.var 4) (.var 8)) (.and (.cmp .eql (.var 5) (.var 9)) (.cmp .eql (.var 6) (.var 10)))))) (.tt true) (.cmp .neq (.len 11) (.len 12))).den G) = false := by
  simp [X.den, a3, a4, a5, a6, a7, a8, a9, a10, a11, a12, vb_ite, cmp_eql, cmp_neq]
theorem ins_cond {G : List Value} {y : Ins} {q1 q2 : Value} (a16 : gv G 16 = .int .u8 y.kind) (a17 : gv G 17 = .int .u8 y.op) (a18 : gv G 18 = .int .i64 y.d) (a19 : gv G 19 = .int .i64 y.a) (a20 : gv G 20 = .int .i64 y.b) (a21 : gv G 21 = .int .i64 y.n)
    (a24 : gv G 24 = .int .u8 y.kind) (a25 : gv G 25 = .int .u8 y.op) (a26 : gv G 26 = .int .i64 y.d) (a27 : gv G 27 = .int .i64 y.a) (a28 : gv G 28 = .int .i64 y.b) (a29 : gv G 29 = .int .i64 y.n) :
    vb ((X.not (.ite (.ite (.ite (.ite (.ite (.cmp .neq (.var 16) (.var 24)) (.tt true) (.cmp .neq (.var 17) (.var 25))) (.tt true) (.cmp .neq (.var 18) (.var 26))) (.tt true) (.cmp .neq (.var 19) (.var 27))) (.tt true) (.cmp .neq (.var 20) (.var 28))) (.tt true) (.cmp .neq (.var 21) (.var 29)))).den G) = true := by
  simp [X.den, a16, a17, a18, a19, a20, a21, a24, a25, a26, a27, a28, a29, vb_ite, cmp_neq]
theorem s41 {h : H} {u v : Value} {bs : List Blk} (hu : BlksAt h u bs) (hv : BlksAt h v bs) (h1 : bs.length ≤ 1000) (h2 : ∀ b ∈ bs, b.ins.length ≤ 100000 ∧ ∀ x ∈ b.ins, x.args.length ≤ 100000) :
    CallsA Try.prog 41 (fun _ => [u, v]) [] h (Ret fun r h' => h' = h ∧ r = .bool true) := by
  refine c41 (G := [u, v]) ⟨hu.fit, hv.fit, trivial⟩ ?_
  have hul := hu.len
  have hvl := hv.len
  refine h_ite (fun hc => ?_) (fun _ => ?_)
  · exfalso
    replace hc : cmpOp .neq ((vlen u : Nat) : Int) ((vlen v : Nat) : Int) = true := hc
    rw [hul, hvl, cmp_neq, decide_eq_true_eq] at hc
    exact hc rfl
  refine h_range (n := bs.length) (fun i h' => h' = h) hul (by omega) rfl (by omega) rfl ?_ ?_
  · rintro i h' J hi rfl hJ
    have hx : bs[i]? = some bs[i] := List.getElem?_eq_getElem hi
    have hxm : bs[i] ∈ bs := List.getElem_mem _
    generalize bs[i] = x at hx hxm
    obtain ⟨k1, k2⟩ := h2 x hxm
    obtain ⟨_, ⟨w1, rfl, hw1⟩, hr1⟩ := hu.get i x hx
    obtain ⟨_, ⟨w2, rfl, hw2⟩, hr2⟩ := hv.get i x hx
    have hl1 := hw1.len
    have hl2 := hw2.len
    have e1 : Reads h' (((vaddr u).add (i * 5)).add 1) (endC x.en) := hr1.sub fun j z hz => by rw [Nat.add_comm]; simpa using hz
    have e2 : Reads h' (((vaddr v).add (i * 5)).add 1) (endC x.en) := hr2.sub fun j z hz => by rw [Nat.add_comm]; simpa using hz
    have f1 : Reads h' (((vaddr u).add (i * 5)).add 0) [w1] := hr1.sub fun j z hz => by obtain ⟨rfl, rfl⟩ := get_one hz; rfl
    have f2 : Reads h' (((vaddr v).add (i * 5)).add 0) [w2] := hr2.sub fun j z hz => by obtain ⟨rfl, rfl⟩ := get_one hz; rfl
    have n0 : cmpOp .geq (i : Int) 0 = true := by rw [cmp_geq, decide_eq_true_eq]; omega
    have n1 : cmpOp .lss (i : Int) ((vlen u : Nat) : Int) = true := by rw [hul, cmp_lss, decide_eq_true_eq]; omega
    have n2 : cmpOp .lss (i : Int) ((vlen v : Nat) : Int) = true := by rw [hvl, cmp_lss, decide_eq_true_eq]; omega
    refine h_load (endC x.en) (endFit x.en) (fun _ => e1) ⟨fun _ => ⟨n0, n2, trivial⟩, h_load (endC x.en) (endFit x.en) (fun _ => e2) ⟨fun _ => ⟨n0, n1, trivial⟩, h_load [w1] ⟨hw1.fit, trivial⟩ (fun _ => f1) ⟨fun _ => ⟨n0, n2, trivial⟩, h_load [w2] ⟨hw2.fit, trivial⟩ (fun _ => f2) ?_⟩⟩⟩
    simp only [List.cons_append, List.nil_append, endC]
    refine h_ite (fun hc => absurd (hc.symm.trans (end_cond (e := x.en) (m := x.ins.length) rfl rfl rfl rfl rfl rfl rfl rfl hl1 hl2)) (by simp)) (fun _ => ?_)
    refine h_loop (fun xs g => ∃ j : Nat, xs = [.int .i64 (j : Int)] ∧ j ≤ x.ins.length ∧ g = h') (fun xs g => x.ins.length - (vi (gv xs 0)).toNat) ⟨0, rfl, Nat.zero_le _, rfl⟩ ?_
    rintro xs g J2 - ⟨j, rfl, hj, rfl⟩ hJ2
    refine ⟨fun _ => ⟨n0, n1, trivial⟩, h_load [w1] ⟨hw1.fit, trivial⟩ (fun _ => f1) (h_ite (fun hc => ?_) (fun hc => ?_))⟩
    · replace hc : cmpOp .lss (j : Int) ((vlen w1 : Nat) : Int) = true := hc
      have hc' := hc
      rw [hl1, cmp_lss, decide_eq_true_eq] at hc
      have hlt : j < x.ins.length := by omega
      have hy : x.ins[j]? = some x.ins[j] := List.getElem?_eq_getElem hlt
      have hym : x.ins[j] ∈ x.ins := List.getElem_mem _
      generalize x.ins[j] = y at hy hym
      have m0 : cmpOp .geq (j : Int) 0 = true := by rw [cmp_geq, decide_eq_true_eq]; omega
      have m2 : cmpOp .lss (j : Int) ((vlen w2 : Nat) : Int) = true := by rw [hl2, cmp_lss, decide_eq_true_eq]; omega
      obtain ⟨_, ⟨q1, rfl, hq1⟩, g1⟩ := hw1.get j y hy
      obtain ⟨_, ⟨q2, rfl, hq2⟩, g2⟩ := hw2.get j y hy
      refine ⟨fun _ => ⟨n0, n1, trivial⟩, h_load [w1] ⟨hw1.fit, trivial⟩ (fun _ => f1) ⟨fun _ => ⟨m0, hc', trivial⟩, h_load (insC y q1) (insFit y q1 hq1.fit) (fun _ => g1) ⟨fun _ => ⟨n0, n2, trivial⟩, h_load [w2] ⟨hw2.fit, trivial⟩ (fun _ => f2)
        ⟨fun _ => ⟨m0, m2, trivial⟩, h_load (insC y q2) (insFit y q2 hq2.fit) (fun _ => g2) ?_⟩⟩⟩⟩
      simp only [List.cons_append, List.nil_append, insC]
      refine ⟨?_, ?_⟩
      all_goals refine ⟨fun _ => g2, fun _ => f2, fun _ => g1, fun _ => f1, fun _ => g2, fun _ => f2, fun _ => g1, fun _ => f1, fun _ => g2, fun _ => f2, ?_⟩
      all_goals refine h_ite (fun _ => h_call0 (s62 hq1 hq2 (k2 y hym)) ?_) (fun hc3 => absurd (hc3.symm.trans (ins_cond (y := y) (q1 := q1) (q2 := q2) rfl rfl rfl rfl rfl rfl rfl rfl rfl rfl rfl rfl)) (by simp))
      all_goals rintro _ _ ⟨rfl, rfl⟩
      all_goals refine ⟨[.bool true], ⟨⟨_, rfl⟩, trivial⟩, by simp [rval, rvals, gv], h_ite (fun hc => by cases hc) (fun _ => ?_)⟩
      all_goals show J2 [.int .i64 (intOp .add .i64 (j : Int) 1)] _
      all_goals rw [int_add_one (n := x.ins.length) hlt (by omega)]
      all_goals exact hJ2 _ _ ⟨j + 1, rfl, by omega, rfl⟩ (by simp only [gv_zero, vi_int]; omega)
    · exact hJ _ rfl
  · rintro h' J rfl
    exact ⟨rfl, rfl, rfl⟩
theorem s17 {h : H} {p n : Int} {u v : Value} {bs : List Blk} (hu : BlksAt h u bs) (hv : BlksAt h v bs) (h1 : bs.length ≤ 1000) (h2 : ∀ b ∈ bs, b.ins.length ≤ 100000 ∧ ∀ x ∈ b.ins, x.args.length ≤ 100000) :
    CallsA Try.prog 17 (fun _ => [.agg #[.int .i64 p, .int .i64 n, u], .agg #[.int .i64 p, .int .i64 n, v]]) [] h (Ret fun r h' => h' = h ∧ r = .bool true) := by
  refine c17 (G := [.int .i64 p, .int .i64 n, u, .int .i64 p, .int .i64 n, v]) ⟨⟨_, rfl⟩, ⟨_, rfl⟩, hu.fit, ⟨_, rfl⟩, ⟨_, rfl⟩, hv.fit, trivial⟩ ?_
  refine h_ite (fun _ => h_call0 (s41 hu hv h1 h2) ?_) (fun hc => ?_)
  · rintro _ _ ⟨rfl, rfl⟩
    exact ⟨[.bool true], ⟨⟨_, rfl⟩, trivial⟩, rfl, rfl, rfl, rfl⟩
  · exfalso
    simp [X.den, gv_zero, gv_succ, vb_ite, cmp_eql] at hc
end Go.Proofs.Ythnoplfjcdkacaa
