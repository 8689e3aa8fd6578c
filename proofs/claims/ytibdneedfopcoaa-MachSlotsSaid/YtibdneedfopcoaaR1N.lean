/-
  What Made makes: a function of small numbers, in rows of its own. Conditions: as the contract says.
-/
import Derived.Test.YtibdneedfopcoaaR1M
set_option linter.unusedVariables false
set_option linter.unusedSimpArgs false
namespace Go.Proofs.Ytibdneedfopcoaa
open Go

def BlkF : RepF Blk := fun h cs b fp => ∃ u, cs = u :: endC b.en ∧ SlF 46 7 InsF h u b.ins fp
theorem insF_good : GoodF InsF :=
  ⟨fun ha ⟨u, h1, h2⟩ => ⟨u, h1, h2.agree ha⟩, fun ⟨u, h1, h2⟩ => h2.live⟩
theorem blkF_good : GoodF BlkF :=
  ⟨fun ha ⟨u, h1, h2⟩ => ⟨u, h1, h2.agree insF_good ha⟩, fun ⟨u, h1, h2⟩ => h2.live insF_good⟩
abbrev OwnBlks (h : H) (v : Value) (bs : List Blk) (fp : List Nat) : Prop := SlF 41 5 BlkF h v bs fp
theorem rowF_ints {h : H} {e : TypeId} {u : Value} {l : List Int} {fp : List Nat} (k : RowF h e 1 u (l.map (.int .i64)) fp) : IntsAt h u l := by
  refine ⟨k.row0.fit, by have := k.row0.len; simp at this; exact this.symm, fun i x hi => ⟨_, rfl, k.row0.reads fun j u hj => ?_⟩⟩
  cases j with
  | zero => simp at hj; subst hj; simp [hi]
  | succ j => simp at hj
theorem insF_at {h : H} {cs : List Value} {x : Ins} {fp : List Nat} (k : InsF h cs x fp) : InsC h cs x := by
  obtain ⟨u, h1, h2⟩ := k; exact ⟨u, h1, rowF_ints h2⟩
theorem blkF_at {h : H} {cs : List Value} {x : Blk} {fp : List Nat} (k : BlkF h cs x fp) : BlkC h cs x := by
  obtain ⟨u, h1, h2⟩ := k; exact ⟨u, h1, h2.at (by omega) insF_at⟩
theorem OwnBlks.at {h : H} {v : Value} {bs : List Blk} {fp : List Nat} (k : OwnBlks h v bs fp) : BlksAt h v bs := SlF.at (by omega) blkF_at k

def insLoopM (v : Int) (l : List Int) : Nat → List Ins × List Int
  | 0 => ([], l)
  | k + 1 => ((insLoopM v l k).1 ++ [(insM v (insLoopM v l k).2).1], (insM v (insLoopM v l k).2).2)
def endMk (v n : Int) (l : List Int) : Fin4 × List Int :=
  let a := nextM 4 l
  if a.1 = 1 then let b := nextM n a.2; (⟨1, 0, b.1, 0⟩, b.2)
  else if a.1 = 2 ∨ a.1 = 3 then let b := nextM v a.2; let c := nextM n b.2; let d := nextM n c.2; (⟨2, b.1, c.1, d.1⟩, d.2)
  else let b := nextM v a.2; (⟨3, b.1, 0, 0⟩, b.2)
def blkM (v n : Int) (l : List Int) : Blk × List Int :=
  let a := nextM 9 l
  let r := insLoopM v a.2 a.1.toNat
  let e := endMk v n r.2
  (⟨r.1, e.1⟩, e.2)
def blksM (v n : Int) (l : List Int) : Nat → List Blk × List Int
  | 0 => ([], l)
  | k + 1 => ((blksM v n l k).1 ++ [(blkM v n (blksM v n l k).2).1], (blkM v n (blksM v n l k).2).2)
def madeP (p0 : Int) : Int := p0.tmod 5
def madeV (p0 p1 : Int) : Int := max 1 (madeP p0) + p1.tmod 28
def madeN (p2 : Int) : Int := 1 + p2.tmod 7
def madeB (p0 p1 p2 : Int) (l : List Int) : List Blk := (blksM (madeV p0 p1) (madeN p2) l (madeN p2).toNat).1
theorem insLoopM_len {v : Int} {l : List Int} : ∀ k, (insLoopM v l k).1.length = k
  | 0 => rfl
  | k + 1 => by simp [insLoopM, insLoopM_len k]
theorem blksM_len {v n : Int} {l : List Int} : ∀ k, (blksM v n l k).1.length = k
  | 0 => rfl
  | k + 1 => by simp [blksM, blksM_len k]
def VX : X := .op .add .i64 (.ite (.cmp .gtr (.lit 1) (.conv .i64 (.op .rem .u8 (.var 0) (.lit 5)))) (.lit 1) (.conv .i64 (.op .rem .u8 (.var 0) (.lit 5)))) (.conv .i64 (.op .rem .u8 (.var 1) (.lit 28)))
def NX : X := .op .add .i64 (.lit 1) (.conv .i64 (.op .rem .u8 (.var 2) (.lit 7)))
theorem tmod_range {a : Int} {n : Int} (h0 : 0 ≤ a) (hn : 0 < n) : 0 ≤ a.tmod n ∧ a.tmod n < n := ⟨Int.tmod_nonneg n h0, Int.tmod_lt_of_pos a hn⟩
theorem px_val {G : List Value} {p0 : Int} (e0 : gv G 0 = .int .u8 p0) (h0 : 0 ≤ p0) : vi ((X.conv .i64 (.op .rem .u8 (.var 0) (.lit 5))).den G) = madeP p0 := by
  have := tmod_range (n := 5) h0 (by omega)
  simp only [X.den, e0, vi_int, intOp, madeP]
  rw [wrap_i64 (by omega) (by omega)]
theorem vx_val {G : List Value} {p0 p1 : Int} (e0 : gv G 0 = .int .u8 p0) (e1 : gv G 1 = .int .u8 p1) (h0 : 0 ≤ p0) (h1 : 0 ≤ p1) : vi (VX.den G) = madeV p0 p1 := by
  have a0 := tmod_range (n := 5) h0 (by omega)
  have a1 := tmod_range (n := 28) h1 (by omega)
  simp only [VX, X.den, e0, e1, vi_int, intOp, vb_bool, vi_ite, cmp_gtr, decide_eq_true_eq, madeV, madeP]
  rw [wrap_i64 (n := p0.tmod 5) (by omega) (by omega), wrap_i64 (n := p1.tmod 28) (by omega) (by omega)]
  split <;> rw [wrap_i64 (by omega) (by omega)] <;> omega
theorem nx_val {G : List Value} {p2 : Int} (e2 : gv G 2 = .int .u8 p2) (h2 : 0 ≤ p2) : vi (NX.den G) = madeN p2 := by
  have a1 := tmod_range (n := 7) h2 (by omega)
  simp only [NX, X.den, e2, vi_int, intOp, madeN]
  rw [wrap_i64 (n := p2.tmod 7) (by omega) (by omega), wrap_i64 (by omega) (by omega)]
theorem madeN_range {p2 : Int} (h2 : 0 ≤ p2) : 1 ≤ madeN p2 ∧ madeN p2 ≤ 7 := by
  have := tmod_range (n := 7) h2 (by omega); unfold madeN; omega
theorem madeP_range {p0 : Int} (h0 : 0 ≤ p0) : 0 ≤ madeP p0 ∧ madeP p0 ≤ 4 := by
  have := tmod_range (n := 5) h0 (by omega); unfold madeP; omega
theorem madeV_range {p0 p1 : Int} (h0 : 0 ≤ p0) (h1 : 0 ≤ p1) : 1 ≤ madeV p0 p1 ∧ madeV p0 p1 ≤ 31 ∧ madeP p0 ≤ madeV p0 p1 := by
  have a0 := madeP_range h0
  have a1 := tmod_range (n := 28) h1 (by omega)
  unfold madeV; omega
/-- One instruction more. -/
theorem ins_step {P : Program} {R : Value → List (List Value) → H → Prop} {G : List Value} {L : Lv} {h : H} {k : Out} {ks : List Nat} {key : Nat} {u : Nat} {nx : X} {v : Value} {l : List Int} {n : Int} (hP : P = Try.prog) (hkey : kIdx ks key = 0)
    (hu : gv G u = v) (hx : vi (nx.den G) = n) (hv : BytesAt h v l) (hn : 0 < n)
    (hk : ∀ v' a fp h', NextV v l v' (insM n l).2 → KeptH h h' [] → InsF h' (insC (insM n l).1 a) (insM n l).1 fp → Fresh h fp → fp.Nodup → holds P R k (G ++ (v' :: insC (insM n l).1 a)) L h') :
    holds P R (.call 38 [.loc key 0, .int .i64 nx] ks [[.val u]] [[.sl]] [(true, [.int .u8, .int .u8, .int .i64, .int .i64, .int .i64, .int .i64, .sl])] k) G L h := by
  subst hP
  have hc := s38k (h := h) hv hn
  refine h_call1 (Q := fun r c h' => KeptH h h' [] ∧ (∃ v', c = [v'] ∧ NextV v l v' (insM n l).2) ∧
      ∃ u fp, r = .agg (insC (insM n l).1 u).toArray ∧ InsF h' (insC (insM n l).1 u) (insM n l).1 fp ∧ Fresh h fp ∧ fp.Nodup) ?_ ?_
  · simp only [SV.denL, SV.den, hkey, hx, hu]
    exact hc
  · rintro r c h' ⟨hkept, ⟨v', rfl, hv'⟩, a, fp, rfl, hI, hf, hnd⟩
    refine ⟨⟨(hv' _ hv).fit, trivial⟩, insC (insM n l).1 a, insFit _ _ ?_, rfl, hk v' a fp h' hv' hkept hI hf hnd⟩
    obtain ⟨u', e1, e2⟩ := hI
    have : a = u' := by simp only [insC, List.cons.injEq] at e1; exact e1.2.2.2.2.2.2.1
    rw [this]; exact e2.row0.fit
theorem fresh_append {h : H} {f g : List Nat} (a : Fresh h f) (b : Fresh h g) : Fresh h (f ++ g) := fun x hx => (List.mem_append.1 hx).elim (a x) (b x)
theorem nodup_app {f g : List Nat} (a : f.Nodup) (b : g.Nodup) (c : ∀ x ∈ f, x ∉ g) : (f ++ g).Nodup := List.nodup_append.2 ⟨a, b, fun x hx y hy e => c x hx (e ▸ hy)⟩
theorem fresh_apart {h : H} {f g : List Nat} (a : Live h f) (b : Fresh h g) : ∀ x ∈ f, x ∉ g := fun x hx hg => by have := a x hx; rw [b x hg] at this; cases this
theorem KeptH.trans_nil {h h' h'' : H} {f : List Nat} (a : KeptH h h' []) (b : KeptH h' h'' f) (hf : Fresh h f) : KeptH h h'' [] := fun x _ hx => by
  have e := a x (by simp) hx
  rw [b x (fun hb => by rw [hf x hb] at hx; cases hx) (by rw [e]; exact hx), e]
theorem zero46 : ((zeroCells Try.prog 46).getD []).length = 7 := by kernel_rfl
theorem zero41 : ((zeroCells Try.prog 41).getD []).length = 5 := by kernel_rfl
theorem s15 {h : H} {v : Value} {l : List Int} {p0 p1 p2 : Int} (hv : BytesAt h v l) (h0 : 0 ≤ p0) (h1 : 0 ≤ p1) (h2 : 0 ≤ p2) :
    CallsA Try.prog 15 (fun _ => [.agg #[.int .u8 p0, .int .u8 p1, .int .u8 p2, v]]) [] h (Ret fun r h' => KeptH h h' [] ∧
      ∃ u fp, r = .agg #[.int .i64 (madeP p0), .int .i64 (madeV p0 p1), u] ∧ OwnBlks h' u (madeB p0 p1 p2 l) fp ∧ Fresh h fp ∧ fp.Nodup) := by
  refine c15 (G := [.int .u8 p0, .int .u8 p1, .int .u8 p2, v]) ⟨⟨_, rfl⟩, ⟨_, rfl⟩, ⟨_, rfl⟩, hv.fit, trivial⟩ ?_
  have hV := madeV_range h0 h1
  have hN := madeN_range h2
  obtain ⟨V, hVd⟩ : ∃ V, V = madeV p0 p1 := ⟨_, rfl⟩
  obtain ⟨N, hNd⟩ : ∃ N, N = madeN p2 := ⟨_, rfl⟩
  rw [← hVd] at hV
  rw [← hNd] at hN
  have hB : madeB p0 p1 p2 l = (blksM V N l N.toNat).1 := by unfold madeB; rw [← hVd, ← hNd]
  refine h_loop (fun xs h' => ∃ (i : Nat) (v' u : Value) (fp : List Nat), xs = [.int .i64 (i : Int), v', u] ∧ (i : Int) ≤ N ∧ KeptH h h' [] ∧ NextV v l v' (blksM V N l i).2 ∧ OwnBlks h' u (blksM V N l i).1 fp ∧ Fresh h fp ∧ fp.Nodup)
      (fun xs h' => (N - vi (gv xs 0)).toNat) ⟨0, v, .slice none 0 0, [], rfl, by omega, KeptH.refl _ _, fun g hg => hg, SlF.nil, (fun b hb => by cases hb), List.nodup_nil⟩ ?_
  rintro xs h' J hfit ⟨i, v', u, fp, rfl, hi, hkept, hv', hu, hfr, hnd⟩ hJ
  have hnx : vi (NX.den ([.int .u8 p0, .int .u8 p1, .int .u8 p2, v] ++ [.int .i64 (i : Int), v', u])) = N := by rw [hNd]; exact nx_val (p2 := p2) rfl h2
  refine h_ite (fun hc => ?_) (fun hc => ?_)
  · replace hc : cmpOp .lss (i : Int) (vi (NX.den ([.int .u8 p0, .int .u8 p1, .int .u8 p2, v] ++ [.int .i64 (i : Int), v', u]))) = true := hc
    rw [hnx, cmp_lss, decide_eq_true_eq] at hc
    have hvv := hv' _ (hv.le hkept.le_nil)
    refine next_step (n := 9) (v := v') (l := (blksM V N l i).2) rfl rfl rfl rfl hvv (by omega) fun v1 hn1 => ?_
    have hr := nextM_range (n := 9) (by omega) hvv.inB
    obtain ⟨li, hli⟩ : ∃ li, li = (blksM V N l i).2 := ⟨_, rfl⟩
    rw [← hli] at hv' hvv hn1 hr ⊢
    obtain ⟨m, hm⟩ : ∃ m, m = (nextM 9 li).1 := ⟨_, rfl⟩
    obtain ⟨l1, hl1⟩ : ∃ l1, l1 = (nextM 9 li).2 := ⟨_, rfl⟩
    rw [← hm] at hr ⊢
    rw [← hl1] at hn1
    have hn1' := hv'.trans hn1
    have hul := hu.len (by omega)
    rw [blksM_len] at hul
    -- the instructions
    refine h_loop (fun xs h'' => ∃ (j : Nat) (w v2 : Value) (f : List Nat), xs = [.int .i64 (j : Int), w, v2] ∧ (j : Int) ≤ m ∧ KeptH h h'' [] ∧ NextV v l v2 (insLoopM V l1 j).2 ∧ OwnBlks h'' u (blksM V N l i).1 fp ∧
        SlF 46 7 InsF h'' w (insLoopM V l1 j).1 f ∧ Fresh h f ∧ (fp ++ f).Nodup)
      (fun xs h' => (m - vi (gv xs 0)).toNat) ⟨0, .slice none 0 0, v1, [], rfl, by omega, hkept, hn1', hu, SlF.nil, (fun b hb => by cases hb), by simpa using hnd⟩ ?_
    rintro xs h3 J3 hfit3 ⟨j, w, v2, f, rfl, hj, hkept3, hv2, hu3, hw, hfr3, hnd3⟩ hJ3
    refine h_ite (fun hc3 => ?_) (fun hc3 => ?_)
    · replace hc3 : cmpOp .lss (j : Int) m = true := hc3
      rw [cmp_lss, decide_eq_true_eq] at hc3
      have hb2 := hv2 _ (hv.le hkept3.le_nil)
      refine ins_step (n := V) (v := v2) (l := (insLoopM V l1 j).2) rfl rfl rfl ?_ hb2 (by omega) fun v4 a g h4 hn4 hk4 hI hg hgn => ?_
      · rw [hVd]; exact vx_val (p0 := p0) (p1 := p1) rfl rfl h0 h1
      have hwl := hw.len (by omega)
      rw [insLoopM_len] at hwl
      have hlw := hw.live insF_good
      have hlu := hu3.live blkF_good
      have hu4 := hu3.agree blkF_good (hk4.agree hlu (fun b _ => by simp))
      have hw4 := hw.agree insF_good (hk4.agree hlw (fun b _ => by simp))
      obtain ⟨n1, n2, n3⟩ := List.nodup_append.1 hnd3
      have hap : ∀ x ∈ f, x ∉ g := fresh_apart hlw hg
      have hap2 : ∀ x ∈ fp, x ∉ g := fresh_apart hlu hg
      refine ⟨insC (insM V (insLoopM V l1 j).2).1 a, 1, ⟨rfl, rfl⟩, app_slF insF_good (by omega) hw4 rfl hI (nodup_app n2 hgn hap) zero46 ?_ ?_⟩
      · rw [insLoopM_len]; omega
      · intro w' h5 f' k1 k2 k3 k4
        have hk5 : KeptH h h5 [] := KeptH.trans_nil (KeptH.trans_nil hkept3 hk4 (fun b hb => by cases hb)) k3 hfr3
        show J3 [.int .i64 (intOp .add .i64 (j : Int) 1), w', v4] h5
        rw [int_add_one (n := m.toNat) (by omega) (by omega)]
        have hlu4 := hu4.live blkF_good
        have hfpf : ∀ b ∈ fp, b ∉ f := fun b hb hf => n3 b hb b hf rfl
        have hg0 : Fresh h g := fun b hb => H.le_none hkept3.le_nil (hg b hb)
        refine hJ3 _ _ ⟨j + 1, w', v4, f', rfl, by omega, hk5, hv2.trans hn4, hu4.agree blkF_good (k3.agree hlu4 hfpf), k1, fun b hb => ?_, nodup_app n1 k2 fun b hb hf' => ?_⟩ ?_
        · rcases k4 b hb with q | q | q
          · exact hfr3 b q
          · exact hg0 b q
          · exact H.le_none (hkept3.le_nil.trans hk4.le_nil) q
        · rcases k4 b hf' with q | q | q
          · exact hfpf b hb q
          · exact hap2 b hb q
          · have := hlu4 b hb; rw [q] at this; cases this
        · simp only [gv_zero, vi_int]; omega
    · replace hc3 : cmpOp .lss (j : Int) m = false := hc3
      rw [cmp_lss, decide_eq_false_iff_not] at hc3
      have hjm : j = m.toNat := by omega
      subst hjm
      have hb2 := hv2 _ (hv.le hkept3.le_nil)
      obtain ⟨l2, hl2⟩ : ∃ l2, l2 = (insLoopM V l1 m.toNat).2 := ⟨_, rfl⟩
      obtain ⟨is, his⟩ : ∃ is, is = (insLoopM V l1 m.toNat).1 := ⟨_, rfl⟩
      rw [← hl2] at hv2 hb2
      rw [← his] at hw
      have hlu := hu3.live blkF_good
      have hend : ∀ (e : Fin4) (l' : List Int) (v'' : Value), endMk V N l2 = (e, l') → NextV v l v'' l' →
          AppSpec h3 41 5 56 ((zeroCells Try.prog 41).getD []) u (w :: endC e) 1 fun vv h'' => J [.int .i64 (intOp .add .i64 (i : Int) 1), v'', vv] h'' := by
        intro e l' v'' he hnv
        have hblk : blkM V N li = (⟨is, e⟩, l') := by
          unfold blkM; simp only [← hm, ← hl1, ← hl2, ← his, he]
        refine app_slF blkF_good (x := ⟨is, e⟩) (by omega) hu3 rfl ⟨w, rfl, hw⟩ hnd3 zero41 ?_ ?_
        · rw [blksM_len]; omega
        · intro u' h5 fp' k1 k2 k3 k4
          have hk5 : KeptH h h5 [] := KeptH.trans_nil hkept3 k3 hfr
          rw [int_add_one (n := N.toNat) (by omega) (by omega)]
          refine hJ _ _ ⟨i + 1, v'', u', fp', rfl, by omega, hk5, ?_, ?_, fun b hb => ?_, k2⟩ ?_
          · simp only [blksM, ← hli, hblk]; exact hnv
          · simp only [blksM, ← hli, hblk]; exact k1
          · rcases k4 b hb with q | q | q
            · exact hfr b q
            · exact hfr3 b q
            · exact H.le_none hkept3.le_nil q
          · simp only [gv_zero, vi_int]; omega
      refine next_step (n := 4) (v := v2) (l := l2) rfl rfl rfl rfl hb2 (by omega) fun v3 hn3 => ?_
      have hb3 := hn3 _ hb2
      have hr3 := nextM_range (n := 4) (by omega) hb2.inB
      obtain ⟨q, hq⟩ : ∃ q, q = (nextM 4 l2).1 := ⟨_, rfl⟩
      rw [← hq] at hr3 ⊢
      refine h_ite (fun hc4 => ?_) (fun hc4 => h_ite (fun hc5 => ?_) (fun hc5 => ?_))
      · replace hc4 : cmpOp .eql q 1 = true := hc4
        rw [cmp_eql, decide_eq_true_eq] at hc4
        refine next_step (n := N) rfl rfl rfl ?_ hb3 (by omega) fun v4 hn4 => ?_
        · rw [hNd]; exact nx_val (p2 := p2) rfl h2
        · refine ⟨w :: endC ⟨1, 0, (nextM N (nextM 4 l2).2).1, 0⟩, 1, ⟨rfl, rfl⟩, hend _ _ _ ?_ ((hv2.trans hn3).trans hn4)⟩
          unfold endMk; simp only [← hq]; rw [if_pos hc4]
      · replace hc4 : cmpOp .eql q 1 = false := hc4
        replace hc5 : vb (if cmpOp .eql q 2 = true then Value.bool (cmpOp .eql q 2) else Value.bool (cmpOp .eql q 3)) = true := hc5
        simp only [cmp_eql, vb_ite, vb_bool, decide_eq_true_eq, decide_eq_false_iff_not] at hc4 hc5
        have hc6 : q = 2 ∨ q = 3 := by grind
        refine next_step (n := V) rfl rfl rfl ?_ hb3 (by omega) fun v4 hn4 => ?_
        · rw [hVd]; exact vx_val (p0 := p0) (p1 := p1) rfl rfl h0 h1
        have hb4 := hn4 _ hb3
        refine next_step (n := N) rfl rfl rfl ?_ hb4 (by omega) fun v5 hn5 => ?_
        · rw [hNd]; exact nx_val (p2 := p2) rfl h2
        have hb5 := hn5 _ hb4
        refine next_step (n := N) rfl rfl rfl ?_ hb5 (by omega) fun v6 hn6 => ?_
        · rw [hNd]; exact nx_val (p2 := p2) rfl h2
        refine ⟨w :: endC ⟨2, (nextM V (nextM 4 l2).2).1, (nextM N (nextM V (nextM 4 l2).2).2).1, (nextM N (nextM N (nextM V (nextM 4 l2).2).2).2).1⟩, 1, ⟨rfl, rfl⟩, hend _ _ _ ?_ ((((hv2.trans hn3).trans hn4).trans hn5).trans hn6)⟩
        unfold endMk; simp only [← hq]; rw [if_neg hc4, if_pos hc6]
      · replace hc4 : cmpOp .eql q 1 = false := hc4
        replace hc5 : vb (if cmpOp .eql q 2 = true then Value.bool (cmpOp .eql q 2) else Value.bool (cmpOp .eql q 3)) = false := hc5
        simp only [cmp_eql, vb_ite, vb_bool, decide_eq_true_eq, decide_eq_false_iff_not] at hc4 hc5
        have hc6 : ¬ (q = 2 ∨ q = 3) := by grind
        refine next_step (n := V) rfl rfl rfl ?_ hb3 (by omega) fun v4 hn4 => ?_
        · rw [hVd]; exact vx_val (p0 := p0) (p1 := p1) rfl rfl h0 h1
        refine ⟨w :: endC ⟨3, (nextM V (nextM 4 l2).2).1, 0, 0⟩, 1, ⟨rfl, rfl⟩, hend _ _ _ ?_ ((hv2.trans hn3).trans hn4)⟩
        unfold endMk; simp only [← hq]; rw [if_neg hc4, if_neg hc6]
  · replace hc : cmpOp .lss (i : Int) (vi (NX.den ([.int .u8 p0, .int .u8 p1, .int .u8 p2, v] ++ [.int .i64 (i : Int), v', u]))) = false := hc
    rw [hnx, cmp_lss, decide_eq_false_iff_not] at hc
    have hin : i = N.toNat := by omega
    subst hin
    refine ⟨rfl, hkept, u, fp, ?_, by rw [hB]; exact hu, hfr, hnd⟩
    have e1 := px_val (G := [.int .u8 p0, .int .u8 p1, .int .u8 p2, v] ++ [.int .i64 ((N.toNat : Nat) : Int), v', u]) (p0 := p0) rfl h0
    have e2 := vx_val (G := [.int .u8 p0, .int .u8 p1, .int .u8 p2, v] ++ [.int .i64 ((N.toNat : Nat) : Int), v', u]) (p0 := p0) (p1 := p1) rfl rfl h0 h1
    rw [← e1, ← e2]; rfl
end Go.Proofs.Ytibdneedfopcoaa
