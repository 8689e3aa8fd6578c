/-
  Which blocks are come to: what Reach computes. Conditions: as each contract says.
-/
import Derived.Test.YtgcaicdmjbkplaaDoorR4A
set_option linter.unusedVariables false
set_option linter.unusedSimpArgs false
namespace Go.Proofs.YtgcaicdmjbkplaaDoor
open Go

/-- A loop whose measure speaks of what the invariant names. -/
theorem h_loopM {P : Program} {R : Value → List (List Value) → H → Prop} {G : List Value} {L : Lv} {h : H} {lvl : Nat} {ini : List SV} {shs : List Sh} {body : Out} (I : Nat → List Value → H → Prop) (n0 : Nat) (h0 : I n0 (SV.denL G dE ini) h)
    (hs : ∀ n xs h' J, FitsL shs xs → I n xs h' → (∀ m ys h'', I m ys h'' → m < n → J ys h'') → holds P R body (G ++ xs) (List.take lvl L ++ [J]) h') : holds P R (.loop lvl ini shs body) G L h := by
  classical
  have hmin : ∀ xs h', (∃ n, I n xs h') → ∃ n, I n xs h' ∧ ∀ m, I m xs h' → n ≤ m := fun xs h' ⟨n, hn⟩ => by
    induction n using Nat.strongRecOn with
    | _ n ih =>
      by_cases hq : ∃ m, m < n ∧ I m xs h'
      · obtain ⟨m, hm, hI⟩ := hq; exact ih m hm hI
      · exact ⟨n, hn, fun m hm => Nat.le_of_not_lt fun hl => hq ⟨m, hl, hm⟩⟩
  let μ : List Value → H → Nat := fun xs h' => if hq : ∃ n, I n xs h' then Classical.choose (hmin xs h' hq) else 0
  refine h_loop (fun xs h' => ∃ n, I n xs h') μ ⟨n0, h0⟩ ?_
  intro xs h' J hf hI hJ
  have hμ : μ xs h' = Classical.choose (hmin xs h' hI) := dif_pos hI
  obtain ⟨k1, k2⟩ := Classical.choose_spec (hmin xs h' hI)
  refine hs _ xs h' J hf k1 fun m ys h'' hm hlt => hJ ys h'' ⟨m, hm⟩ ?_
  have hq : ∃ n, I n ys h'' := ⟨m, hm⟩
  have hμ2 : μ ys h'' = Classical.choose (hmin ys h'' hq) := dif_pos hq
  have := (Classical.choose_spec (hmin ys h'' hq)).2 m hm
  rw [hμ, hμ2]; omega

def nextN (B : List Blk) (k : Nat) : List Nat := match B[k]? with | some b => (nextL b.en).map Int.toNat | none => []
def OkB (B : List Blk) : Prop := ∀ b ∈ B, ∀ n ∈ nextL b.en, 0 ≤ n ∧ n < (B.length : Int)
theorem nextN_at {B : List Blk} {k : Nat} {b : Blk} (h : B[k]? = some b) : nextN B k = (nextL b.en).map Int.toNat := by unfold nextN; rw [h]
theorem nextN_lt {B : List Blk} (hB : OkB B) {k n : Nat} (h : n ∈ nextN B k) : n < B.length := by
  unfold nextN at h
  split at h
  · rename_i b hb
    obtain ⟨m, hm, rfl⟩ := List.mem_map.1 h
    have := hB b (List.mem_of_getElem? hb) m hm
    omega
  · cases h
inductive Rch (B : List Blk) : Nat → Prop
  | zero : Rch B 0
  | step {k n : Nat} : Rch B k → n ∈ nextN B k → Rch B n
/-- How many numbers below n are not there. -/
def cu (n : Nat) (p : Nat → Bool) : Nat := ((List.range n).filter fun x => !p x).length
theorem cu_le {n : Nat} {p q : Nat → Bool} (h : ∀ x, p x = true → q x = true) : cu n q ≤ cu n p := by
  unfold cu
  have : ((List.range n).filter fun x => !q x) = (((List.range n).filter fun x => !p x).filter fun x => !q x) := by
    rw [List.filter_filter]
    apply List.filter_congr
    intro x _
    cases hp : p x with
    | false => simp
    | true => simp [h x hp]
  rw [this]; exact List.length_filter_le _ _
theorem cu_lt {n x : Nat} {p q : Nat → Bool} (hx : x < n) (hp : p x = false) (hq : q x = true) (h : ∀ y, p y = true → q y = true) : cu n q < cu n p := by
  unfold cu
  have : ((List.range n).filter fun x => !q x) = (((List.range n).filter fun x => !p x).filter fun x => !q x) := by
    rw [List.filter_filter]
    apply List.filter_congr
    intro x _
    cases hp : p x with
    | false => simp
    | true => simp [h x hp]
  rw [this, List.length_filter_lt_length_iff_exists]
  exact ⟨x, List.mem_filter.2 ⟨List.mem_range.2 hx, by simp [hp]⟩, by simp [hq]⟩
theorem blks_get {h : H} {v : Value} {B : List Blk} (hv : BlksAt h v B) {k : Nat} {b : Blk} (hk : B[k]? = some b) : Reads h ((vaddr v).add (k * 5 + 1)) (endC b.en) := by
  obtain ⟨cs, ⟨w, rfl, hw⟩, hr⟩ := hv.get k b hk
  intro i u hi
  have := hr (i + 1) u (by simpa using hi)
  rw [add_add] at this ⊢
  rw [show k * 5 + 1 + i = k * 5 + (i + 1) by omega]; exact this
/-- A set of one number. -/
theorem s45 {h : H} {v : Value} (hv : IntsAt h v [0]) : CallsA Tryd.prog 45 (fun _ => [v]) [] h (Ret fun r h' => h.le h' ∧ ∃ vw ws fp, r = .agg #[vw] ∧ SetIs h' vw ws fp ∧ Fresh h fp ∧ ∀ y, hasW ws y = decide (y = 0)) := by
  refine c45 (G := [v]) ⟨hv.fit, trivial⟩ ?_
  have hl := hv.len
  refine h_loop (fun xs h' => ∃ (i : Nat) (u : Value) (ws : List Int) (fp : List Nat), xs = [.int .i64 (i : Int), u] ∧ i ≤ 1 ∧ SetIs h' u ws fp ∧ Fresh h fp ∧ h.le h' ∧ ∀ y, hasW ws y = (decide (i = 1) && decide (y = 0)))
    (fun xs h' => (1 - vi (gv xs 0)).toNat) ⟨0, .slice none 0 0, [], [], rfl, by omega, ⟨.inl ⟨rfl, rfl, rfl⟩, (fun w hw => by cases hw), by simp⟩, (fun b hb => by cases hb), H.le_refl _, (fun y => by simp [hasW])⟩ ?_
  rintro xs h' J - ⟨i, u, ws, fp, rfl, hi, hs, hf, hle, hw⟩ hJ
  refine h_ite (fun hc => ?_) (fun hc => ?_)
  · simp only [X.den, List.cons_append, List.nil_append, gv_zero, gv_succ, vi_int, vb_bool, hl, cmp_lss, decide_eq_true_eq, List.length_cons, List.length_nil] at hc
    have hi0 : i = 0 := by omega
    subst hi0
    refine ⟨fun _ => ?_, h_load [.int .i64 0] ⟨⟨_, rfl⟩, trivial⟩ (fun _ => ?_) ?_⟩
    · simp only [needs, X.den, List.cons_append, List.nil_append, gv_zero, gv_succ, vi_int, vb_bool, hl, cmp_geq, cmp_lss, decide_eq_true_eq, and_true, List.length_cons, List.length_nil]; omega
    · have := (hv.le hle).read (i := 0) (x := 0) rfl
      exact this
    · refine h_call1 (Q := fun r c h2 => r = .bool (!hasW ws 0) ∧ ∃ v' ws' fp', c = [v'] ∧ SetIs h2 v' ws' fp' ∧ (∀ y, hasW ws' y = (hasW ws y || decide (y = 0))) ∧ KeptH h' h2 fp ∧ ∀ b ∈ fp', b ∈ fp ∨ h' b = none) (s19k (x := 0) hs (by omega)) ?_
      rintro _ c h2 ⟨rfl, v', ws', fp', rfl, hs', hw', hk, hn⟩
      refine ⟨⟨hs'.1.row0.fit, trivial⟩, [.bool (!hasW ws 0)], ⟨⟨_, rfl⟩, trivial⟩, rfl, ?_⟩
      refine hJ _ _ ⟨1, v', ws', fp', rfl, by omega, hs', fun b hb => ?_, hk.le hle hf, fun y => by rw [hw', hw]; simp⟩ ?_
      · rcases hn b hb with q | q
        · exact hf b q
        · exact H.le_none hle q
      · show (1 - vi (.int .i64 (intOp .add .i64 ((0 : Nat) : Int) 1))).toNat < (1 - vi (.int .i64 ((0 : Nat) : Int))).toNat
        decide
  · simp only [X.den, List.cons_append, List.nil_append, gv_zero, gv_succ, vi_int, vb_bool, hl, cmp_lss, decide_eq_false_iff_not, List.length_cons, List.length_nil] at hc
    have hi1 : i = 1 := by omega
    subst hi1
    exact ⟨rfl, hle, u, ws, fp, rfl, hs, hf, fun y => by rw [hw]; simp⟩
theorem ge0 (n : Nat) : cmpOp .geq (n : Int) 0 = true := by rw [cmp_geq, decide_eq_true_eq]; omega
theorem ltN {n m : Nat} (h : n < m) : cmpOp .lss (n : Int) (m : Int) = true := by rw [cmp_lss, decide_eq_true_eq]; omega
/-- Some memory, but for these blocks. -/
def H.cut (g : H) (f : List Nat) : H := fun b => if b ∈ f then none else g b
theorem H.cut_le (g : H) (f : List Nat) : (H.cut g f).le g := fun b o e => by
  unfold H.cut at e; split at e
  · cases e
  · exact e
theorem H.cut_fresh (g : H) (f : List Nat) : Fresh (H.cut g f) f := fun b hb => by unfold H.cut; rw [if_pos hb]
theorem H.le_cut {h g : H} {f : List Nat} (hl : h.le g) (hf : Fresh h f) : h.le (H.cut g f) := fun b o e => by
  unfold H.cut
  rw [if_neg (fun hb => by rw [hf b hb] at e; cases e)]; exact hl b o e
theorem Row.cut {h0 h : H} {e : TypeId} {sz : Nat} {v : Value} {cs : List Value} {f : List Nat} (k : Row h0 h e sz v cs) (hl : Live h0 f) : Row h0 (H.cut h f) e sz v cs := by
  rcases k with ⟨rfl, rfl⟩ | ⟨b, n, c, r, rfl, h1, h2, h3, h4, h5⟩
  · exact .inl ⟨rfl, rfl⟩
  · refine .inr ⟨b, n, c, r, rfl, ?_, h2, h3, h4, h5⟩
    unfold H.cut
    rw [if_neg (fun hb => by have := hl b hb; rw [h5] at this; cases this)]; exact h1
/-- What holds ahead of each round: m is what is left to do. -/
structure RchI (B : List Blk) (h0 h : H) (vs vr vm : Value) (cur : Option Nat) (S : List Nat) (m : Nat) : Prop where
  ex : ∃ ws fs l fq, SetIs h vs ws fs ∧ QRep h vr vm l fq ∧ (∀ b ∈ fs, b ∉ fq) ∧ Fresh h0 fs ∧ Fresh h0 fq ∧ h0.le h ∧ (∀ x, hasW ws x = true → Rch B x ∧ x < B.length) ∧ hasW ws 0 = true ∧
    (∀ q ∈ l, ∃ k : Nat, q = (k : Int) ∧ hasW ws k = true) ∧ (∀ x, hasW ws x = true → (x : Int) ∉ l → cur ≠ some x → ∀ n ∈ nextN B x, hasW ws n = true) ∧ (∀ y ∈ S, hasW ws y = true) ∧ 2 * cu B.length (hasW ws) + l.length = m
theorem agree_of {h h' : H} {f g : List Nat} (k : KeptH h h' f) (hl : Live h g) (hd : ∀ b ∈ g, b ∉ f) : Agree h h' g := k.agree hl hd
theorem SetIs.live {h : H} {v : Value} {ws : List Int} {fp : List Nat} (H : SetIs h v ws fp) : Live h fp := H.1.live
theorem SetIs.fit {h : H} {v : Value} {ws : List Int} {fp : List Nat} (H : SetIs h v ws fp) : Fits .sl v := H.1.row0.fit
theorem cu_le_n (n : Nat) (p : Nat → Bool) : cu n p ≤ n := by
  unfold cu
  have := List.length_filter_le (fun x => !p x) (List.range n)
  rwa [List.length_range] at this
theorem s12 {h : H} {v : Value} {B : List Blk} (hv : BlksAt h v B) (hB : OkB B) (h1 : 1 ≤ B.length) (h2 : B.length ≤ 1000) :
    CallsA Tryd.prog 12 (fun _ => [v]) [] h (Ret fun r h' => h.le h' ∧ ∃ vw ws fp, r = .agg #[vw] ∧ SetIs h' vw ws fp ∧ ∀ x, (hasW ws x = true ↔ Rch B x)) := by
  refine c12 (G := [v]) ⟨hv.fit, trivial⟩ ?_
  have hvl := hv.len
  intro b0 hb0
  have q0 : h.le (h.put b0 (.cells ([Value.int .i64 0]).toArray 3 (0, 0))) := H.le_put hb0
  refine h_call0 (s45 (own_one (x := 0) hb0).ints) ?_
  rintro _ g1 ⟨hl1, vw, ws, fs, rfl, hs, hf, hw⟩
  refine ⟨[vw], ⟨hs.fit, trivial⟩, rfl, ?_⟩
  refine h_call1 (Q := fun r c h2 => r = .bool (decide ((0 : Int) ∉ ([] : List Int))) ∧ ∃ vr' vm' fp', c = [vr', vm'] ∧ QRep h2 vr' vm' (if (0 : Int) ∈ ([] : List Int) then [] else [] ++ [0]) fp' ∧ KeptH g1 h2 [] ∧ ∀ b ∈ fp', b ∈ ([] : List Nat) ∨ g1 b = none) (s46k (x := 0) QRep.nil (by simp)) ?_
  rintro _ c g2 ⟨rfl, vr, vm, fq, rfl, hq, hk2, hn2⟩
  rw [if_neg (by simp)] at hq
  refine ⟨hq.fits, [.bool true], ⟨⟨_, rfl⟩, trivial⟩, rfl, ?_⟩
  simp only [List.cons_append, List.nil_append]
  have hf0 : Fresh h fs := fun b hb => H.le_none q0 (hf b hb)
  have hlive := hs.live
  have fq0 : ∀ b ∈ fq, g1 b = none := fun b hb => by
    rcases hn2 b hb with q | q
    · cases q
    · exact q
  refine h_loopM (fun m xs h' => ∃ vs vr vm, xs = [vs, vr, vm] ∧ m ≤ 3000 ∧ RchI B h h' vs vr vm none [] m) _ ⟨vw, vr, vm, rfl, ?_, ⟨ws, fs, [0], fq, hs.agree (hk2.agree hlive fun b _ => by simp), hq, fun b hb hb' => ?_, hf0, fun b hb => H.le_none (q0.trans hl1) (fq0 b hb), (q0.trans hl1).trans hk2.le_nil, fun x hx => ?_, by rw [hw]; simp, fun q hq' => ?_, fun x hx hx' => ?_, (fun y hy => by cases hy), rfl⟩⟩ ?_
  · have := cu_le_n B.length (hasW ws)
    show 2 * cu B.length (hasW ws) + 1 ≤ 3000
    omega
  · have := hlive b hb; rw [fq0 b hb'] at this; cases this
  · rw [hw] at hx; simp at hx; subst hx; exact ⟨.zero, by omega⟩
  · rw [List.mem_singleton] at hq'; subst hq'; exact ⟨0, rfl, by rw [hw]; simp⟩
  · rw [hw] at hx; simp at hx; subst hx; exact absurd (List.mem_singleton.2 rfl) hx'
  rintro m xs h' J - ⟨vs, vr1, vm1, rfl, hm3, ⟨ws1, fs1, l1, fq1, hs1, hq1, hd1, hf1, hfq1, hle1, hr1, h01, hl1', hcl1, -, hm1⟩⟩ hJ
  simp only [List.cons_append, List.nil_append]
  refine h_call1 (Q := fun r c h2 => r = .int .i64 (l1.length : Int) ∧ c = [vr1, vm1] ∧ h2 = h') (s47k hq1) ?_
  rintro _ c h2' ⟨rfl, rfl, e2⟩
  have e2' := e2.symm
  subst e2'
  refine ⟨hq1.fits, [.int .i64 (l1.length : Int)], ⟨⟨_, rfl⟩, trivial⟩, rfl, ?_⟩
  simp only [List.cons_append, List.nil_append]
  refine h_ite (fun hc => ?_) (fun hc => ?_)
  · replace hc : cmpOp .gtr (l1.length : Int) 0 = true := hc
    rw [cmp_gtr, decide_eq_true_eq] at hc
    obtain ⟨q, t, rfl⟩ : ∃ q t, l1 = q :: t := by
      cases l1 with
      | nil => simp at hc
      | cons q t => exact ⟨q, t, rfl⟩
    obtain ⟨k, rfl, hk⟩ := hl1' q (List.mem_cons_self ..)
    obtain ⟨hrk, hkl⟩ := hr1 k hk
    refine h_call1 (Q := fun r c h2 => r = .tuple #[.int .i64 (k : Int), .bool true] ∧ ∃ vr', c = [vr', vm1] ∧ QRep h2 vr' vm1 t fq1 ∧ KeptH h' h2 fq1) (s48k hq1) ?_
    rintro _ c g3 ⟨rfl, vr2, rfl, hq2, hk3⟩
    refine ⟨hq2.fits, [.int .i64 (k : Int), .bool true], ⟨⟨_, rfl⟩, ⟨_, rfl⟩, trivial⟩, rfl, ?_⟩
    simp only [List.cons_append, List.nil_append]
    have hle3 : h.le g3 := hk3.le hle1 hfq1
    have hv3 := SlAt.le blkC_mono hle3 hv
    have hb : B[k]? = some B[k] := List.getElem?_eq_getElem hkl
    generalize B[k] = b at hb
    have hs3 : SetIs g3 vs ws1 fs1 := hs1.agree (hk3.agree hs1.live hd1)
    refine ⟨fun _ => ⟨ge0 k, ?_, trivial⟩, h_load (endC b.en) (endFit b.en) (fun _ => ?_) ?_⟩
    · show cmpOp .lss (k : Int) ((vlen v : Nat) : Int) = true
      rw [hvl]; exact ltN hkl
    · exact (show Reads g3 (((vaddr v).add (k * 5)).add 1) (endC b.en) from by rw [add_add]; exact blks_get hv3 hb)
    simp only [endC, List.cons_append, List.nil_append]
    refine h_call0 (s49 b.en) ?_
    rintro vn g4 ⟨hl4, hon⟩
    refine ⟨[vn], ⟨hon.ints.fit, trivial⟩, rfl, ?_⟩
    have hN : nextN B k = (nextL b.en).map Int.toNat := nextN_at hb
    have hNr : ∀ n ∈ nextL b.en, 0 ≤ n ∧ n < (B.length : Int) := hB b (List.mem_of_getElem? hb)
    obtain ⟨N, hNd⟩ : ∃ N, N = nextL b.en := ⟨_, rfl⟩
    rw [← hNd] at hon hN hNr
    have hnl := hon.ints.len
    have hNl : N.length ≤ 2 := by rw [hNd]; unfold nextL; split <;> (try split) <;> simp
    have hdk : (k : Int) ∉ t := by
      have := hq1; obtain ⟨fr, fm, _, _, _, km⟩ := this
      exact (List.nodup_cons.1 km.nodup).1
    have hs4 : SetIs g4 vs ws1 fs1 := hs3.agree (hl4.kept.agree hs3.live fun b _ => by simp)
    have hq4 : QRep g4 vr2 vm1 t fq1 := hq2.agree (hl4.kept.agree hq2.live fun b _ => by simp)
    -- the blocks that follow
    have hlf : Live g3 (fs1 ++ fq1) := fun b hb => by
      rcases List.mem_append.1 hb with q | q
      · exact hs3.live b q
      · exact hq2.live b q
    obtain ⟨hb4, hbd⟩ : ∃ hb4, hb4 = H.cut g4 (fs1 ++ fq1) := ⟨_, rfl⟩
    have hlb : h.le hb4 := by
      rw [hbd]; exact H.le_cut (hle3.trans hl4) fun b hb => by
        rcases List.mem_append.1 hb with q | q
        · exact hf1 b q
        · exact hfq1 b q
    have hbl : hb4.le g4 := by rw [hbd]; exact H.cut_le _ _
    have hfb : Fresh hb4 (fs1 ++ fq1) := by rw [hbd]; exact H.cut_fresh _ _
    have hN4 : IntsAt hb4 vn N := by rw [hbd]; exact OwnInts.ints (Row.cut hon hlf)
    simp only [List.cons_append, List.nil_append]
    refine h_loop (fun xs h5 => ∃ (i : Nat) (vs vr vm : Value) (m' : Nat), xs = [.int .i64 (i : Int), vs, vr, vm] ∧ i ≤ N.length ∧ RchI B hb4 h5 vs vr vm (some k) ((nextN B k).take i) m' ∧ m' < m)
      (fun xs h' => (N.length - vi (gv xs 0)).toNat) ⟨0, vs, vr2, vm1, 2 * cu B.length (hasW ws1) + t.length, rfl, by omega, ⟨ws1, fs1, t, fq1, hs4, hq4, hd1, fun b hb => hfb b (by simp [hb]), fun b hb => hfb b (by simp [hb]), hbl, hr1, h01, fun q hq' => hl1' q (List.mem_cons_of_mem _ hq'), fun x hx hxt hxk n hn => ?_, (fun y hy => by simp at hy), rfl⟩, by simp at hm1; omega⟩ ?_
    · refine hcl1 x hx ?_ (by simp) n hn
      rw [List.mem_cons]; rintro (e | e)
      · have : x = k := by omega
        subst this; exact hxk rfl
      · exact hxt e
    rintro xs h5 J5 - ⟨i, vs5, vr5, vm5, m5, rfl, hi, ⟨ws5, fs5, l5, fq5, hs5, hq5, hd5, hf5, hfq5, hle5, hr5, h05, hl5, hcl5, hS5, hm5⟩, hlt5⟩ hJ5
    simp only [List.cons_append, List.nil_append]
    refine h_ite (fun hc5 => ?_) (fun hc5 => ?_)
    · replace hc5 : cmpOp .lss (i : Int) ((vlen vn : Nat) : Int) = true := hc5
      rw [hnl, cmp_lss, decide_eq_true_eq] at hc5
      have hiN : i < N.length := by omega
      have hx : N[i]? = some N[i] := List.getElem?_eq_getElem hiN
      have hxm : N[i] ∈ N := List.getElem_mem _
      generalize N[i] = x at hx hxm
      obtain ⟨hx0, hx1⟩ := hNr x hxm
      obtain ⟨y, rfl⟩ : ∃ y : Nat, x = y := ⟨x.toNat, by omega⟩
      have hyk : y ∈ nextN B k := by rw [hN]; exact List.mem_map.2 ⟨_, hxm, by simp⟩
      have hyt : (nextN B k).take (i + 1) = (nextN B k).take i ++ [y] := by
        have : (nextN B k)[i]? = some y := by rw [hN, List.getElem?_map, hx]; simp
        rw [List.take_add_one, this]; rfl
      refine ⟨fun _ => ⟨ge0 i, ?_, trivial⟩, h_load [.int .i64 (y : Int)] ⟨⟨_, rfl⟩, trivial⟩ (fun _ => ?_) ?_⟩
      · show cmpOp .lss (i : Int) ((vlen vn : Nat) : Int) = true
        rw [hnl]; exact ltN hiN
      · have := (hN4.le hle5).read hx
        exact this
      simp only [List.cons_append, List.nil_append]
      refine h_call1 (Q := fun r c h2 => r = .bool (!hasW ws5 y) ∧ ∃ v' ws' fp', c = [v'] ∧ SetIs h2 v' ws' fp' ∧ (∀ z, hasW ws' z = (hasW ws5 z || decide (z = y))) ∧ KeptH h5 h2 fs5 ∧ ∀ b ∈ fp', b ∈ fs5 ∨ h5 b = none) (s19k (x := y) hs5 (by omega)) ?_
      rintro _ c h6 ⟨rfl, vs6, ws6, fs6, rfl, hs6, hw6, hk6, hn6⟩
      refine ⟨⟨hs6.fit, trivial⟩, [.bool (!hasW ws5 y)], ⟨⟨_, rfl⟩, trivial⟩, rfl, ?_⟩
      simp only [List.cons_append, List.nil_append]
      have hq6 : QRep h6 vr5 vm5 l5 fq5 := hq5.agree (hk6.agree hq5.live fun b hb hb' => hd5 b hb' hb)
      have hd6 : ∀ b ∈ fs6, b ∉ fq5 := fun b hb hb' => by
        rcases hn6 b hb with q | q
        · exact hd5 b q hb'
        · have := hq5.live b hb'; rw [q] at this; cases this
      have hf6 : Fresh hb4 fs6 := fun b hb => by
        rcases hn6 b hb with q | q
        · exact hf5 b q
        · exact H.le_none hle5 q
      have hle6 : hb4.le h6 := hk6.le hle5 hf5
      have up : ∀ z, hasW ws5 z = true → hasW ws6 z = true := fun z hz => by rw [hw6, hz]; rfl
      have hr6 : ∀ z, hasW ws6 z = true → Rch B z ∧ z < B.length := fun z hz => by
        rw [hw6, Bool.or_eq_true, decide_eq_true_eq] at hz
        rcases hz with q | q
        · exact hr5 z q
        · subst q; exact ⟨.step hrk hyk, by omega⟩
      have hS6 : ∀ z ∈ (nextN B k).take (i + 1), hasW ws6 z = true := fun z hz => by
        rw [hyt, List.mem_append] at hz
        rcases hz with q | q
        · exact up z (hS5 z q)
        · rw [List.mem_singleton] at q; subst q; rw [hw6]; simp
      refine h_ite (fun hc6 => ?_) (fun hc6 => ?_)
      · replace hc6 : (!hasW ws5 y) = true := hc6
        rw [Bool.not_eq_true'] at hc6
        have hyl : (y : Int) ∉ l5 := fun hq' => by
          obtain ⟨k', e, hk'⟩ := hl5 _ hq'
          have : k' = y := by omega
          subst this; rw [hc6] at hk'; cases hk'
        have hl5n : l5.length ≤ 1000000 := by
          omega
        refine h_call1 (Q := fun r c h2 => r = .bool (decide ((y : Int) ∉ l5)) ∧ ∃ vr' vm' fp', c = [vr', vm'] ∧ QRep h2 vr' vm' (if (y : Int) ∈ l5 then l5 else l5 ++ [(y : Int)]) fp' ∧ KeptH h6 h2 fq5 ∧ ∀ b ∈ fp', b ∈ fq5 ∨ h6 b = none) (s46k (x := (y : Int)) hq6 hl5n) ?_
        rintro _ c h7 ⟨rfl, vr7, vm7, fq7, rfl, hq7, hk7, hn7⟩
        rw [if_neg hyl] at hq7
        refine ⟨hq7.fits, [.bool (decide ((y : Int) ∉ l5))], ⟨⟨_, rfl⟩, trivial⟩, rfl, ?_⟩
        show J5 [.int .i64 (intOp .add .i64 (i : Int) 1), vs6, vr7, vm7] h7
        rw [int_add_one (n := 1000) (by omega) (by omega)]
        have hcl := cu_lt (n := B.length) (x := y) (p := hasW ws5) (q := hasW ws6) (by omega) hc6 (by rw [hw6]; simp) up
        refine hJ5 _ _ ⟨i + 1, vs6, vr7, vm7, 2 * cu B.length (hasW ws6) + (l5 ++ [(y : Int)]).length, rfl, by omega, ⟨ws6, fs6, l5 ++ [(y : Int)], fq7, hs6.agree (hk7.agree hs6.live hd6), hq7, fun b hb hb' => ?_, hf6, fun b hb => ?_, hk7.le hle6 hfq5, hr6, up 0 h05, fun q hq' => ?_, fun z hz hzl hzk n hn => ?_, hS6, rfl⟩, ?_⟩ ?_
        · rcases hn7 b hb' with q | q
          · exact hd6 b hb q
          · have := hs6.live b hb; rw [q] at this; cases this
        · rcases hn7 b hb with q | q
          · exact hfq5 b q
          · exact H.le_none hle6 q
        · rcases List.mem_append.1 hq' with e | e
          · obtain ⟨k', e1, e2⟩ := hl5 q e; exact ⟨k', e1, up _ e2⟩
          · rw [List.mem_singleton] at e; exact ⟨y, e, by rw [hw6]; simp⟩
        · rw [hw6, Bool.or_eq_true, decide_eq_true_eq] at hz
          rcases hz with q | q
          · exact up n (hcl5 z q (fun e => hzl (by simp [e])) hzk n hn)
          · subst q; exact absurd (by simp) hzl
        · simp only [List.length_append, List.length_cons, List.length_nil]; omega
        · simp only [gv_zero, vi_int]; omega
      · replace hc6 : (!hasW ws5 y) = false := hc6
        rw [Bool.not_eq_false'] at hc6
        show J5 [.int .i64 (intOp .add .i64 (i : Int) 1), vs6, vr5, vm5] h6
        rw [int_add_one (n := 1000) (by omega) (by omega)]
        have same : ∀ z, hasW ws6 z = hasW ws5 z := fun z => by
          rw [hw6]
          by_cases e : z = y
          · subst e; simp [hc6]
          · simp [e]
        have hcu : cu B.length (hasW ws6) = cu B.length (hasW ws5) := by rw [show hasW ws6 = hasW ws5 from funext same]
        refine hJ5 _ _ ⟨i + 1, vs6, vr5, vm5, m5, rfl, by omega, ⟨ws6, fs6, l5, fq5, hs6, hq6, hd6, hf6, hfq5, hle6, hr6, up 0 h05, fun q hq' => ?_, fun z hz hzl hzk n hn => ?_, hS6, by rw [hcu]; exact hm5⟩, hlt5⟩ ?_
        · obtain ⟨k', e1, e2⟩ := hl5 q hq'; exact ⟨k', e1, up _ e2⟩
        · rw [same] at hz; exact up n (hcl5 z hz hzl hzk n hn)
        · simp only [gv_zero, vi_int]; omega
    · replace hc5 : cmpOp .lss (i : Int) ((vlen vn : Nat) : Int) = false := hc5
      rw [hnl, cmp_lss, decide_eq_false_iff_not] at hc5
      have hie : i = N.length := by omega
      subst hie
      have htk : (nextN B k).take N.length = nextN B k := List.take_of_length_le (by rw [hN]; simp)
      rw [htk] at hS5
      show J [vs5, vr5, vm5] h5
      refine hJ m5 _ _ ⟨vs5, vr5, vm5, rfl, by omega, ⟨ws5, fs5, l5, fq5, hs5, hq5, hd5, fun b hb => H.le_none hlb (hf5 b hb), fun b hb => H.le_none hlb (hfq5 b hb), hlb.trans hle5, hr5, h05, hl5, fun z hz hzl _ n hn => ?_, (fun y hy => by cases hy), hm5⟩⟩ hlt5
      by_cases e : z = k
      · subst e; exact hS5 n hn
      · exact hcl5 z hz hzl (fun q => e (by cases q; rfl)) n hn
  · replace hc : cmpOp .gtr (l1.length : Int) 0 = false := hc
    rw [cmp_gtr, decide_eq_false_iff_not] at hc
    have hl0 : l1 = [] := List.eq_nil_of_length_eq_zero (by omega)
    subst hl0
    refine ⟨rfl, hle1, vs, ws1, fs1, rfl, hs1, fun x => ⟨fun hx => (hr1 x hx).1, fun hx => ?_⟩⟩
    induction hx with
    | zero => exact h01
    | step hk hn ih => exact hcl1 _ ih (by simp) (by simp) _ hn
end Go.Proofs.YtgcaicdmjbkplaaDoor
