/-
  The document's answer for which blocks are come to; what an order of going down has; the fixed fact. Conditions: as each lemma says.
-/
import Derived.Test.YtgcaicdmjbkplaaR4E
set_option linter.unusedVariables false
set_option linter.unusedSimpArgs false
namespace Go.Proofs.Ytgcaicdmjbkplaa
open Go

def trB (bs : List Bool) (x : Nat) : Bool := bs.getD x false
def Closed (B : List Blk) (p : Nat → Bool) : Prop := ∀ x, p x = true → ∀ m ∈ nextN B x, p m = true
theorem trB_set {bs : List Bool} {m : Nat} (hm : m < bs.length) (x : Nat) : trB (bs.set m true) x = (trB bs x || decide (x = m)) := by
  unfold trB
  rw [List.getD_eq_getElem?_getD, List.getD_eq_getElem?_getD, List.getElem?_set]
  by_cases e : m = x
  · subst e; rw [if_pos rfl, if_pos hm]; simp
  · have e' : ¬ x = m := fun q => e q.symm
    rw [if_neg e]; simp [e']
theorem trB_at {bs : List Bool} {x : Nat} (hx : x < bs.length) : bs[x]? = some (trB bs x) := by
  unfold trB; rw [List.getD_eq_getElem?_getD, List.getElem?_eq_getElem hx]; rfl
set_option maxRecDepth 4000 in
theorem s12 {h : H} {v : Value} {B : List Blk} (hv : BlksAt h v B) (hB : OkB B) (h1 : 1 ≤ B.length) (h2 : B.length ≤ 1000) :
    CallsA Try.prog 12 (fun _ => [v]) [] h (Ret fun r h' => h.le h' ∧ ∃ (bs : List Bool) (fp : List Nat), RowF h' 4 1 r (bs.map .bool) fp ∧ bs.length = B.length ∧ ∀ x, (trB bs x = true ↔ Rch B x)) := by
  refine c12 (G := [v]) ⟨hv.fit, trivial⟩ ?_
  have hvl := hv.len
  refine ⟨?_, ?_, fun b hb => ?_⟩
  · show (0 : Int) ≤ ((vlen v : Nat) : Int); omega
  · show ((vlen v : Nat) : Int) * 1 ≤ 281474976710656; rw [hvl]; omega
  show holds _ _ _ [v, .slice (some ⟨b, 0, none⟩) (Int.toNat ((vlen v : Nat) : Int)) (Int.toNat ((vlen v : Nat) : Int))] [] (h.put b (.cells (repZ ((zeroCells Try.prog 4).getD []) (Int.toNat ((vlen v : Nat) : Int))).toArray 4 (0, 0)))
  rw [Int.toNat_natCast, hvl]
  have hbo := mk_bools (n := B.length) hb
  have q0 : h.le (h.put b (.cells (repZ ((zeroCells Try.prog 4).getD []) B.length).toArray 4 (0, 0))) := H.le_put hb
  generalize h.put b (.cells (repZ ((zeroCells Try.prog 4).getD []) B.length).toArray 4 (0, 0)) = g0 at hbo q0
  obtain ⟨va, hva⟩ : ∃ va, va = Value.slice (some ⟨b, 0, none⟩) B.length B.length := ⟨_, rfl⟩
  rw [← hva] at hbo ⊢
  have hval : vlen va = B.length := by rw [hva]; rfl
  have hfr : Fresh h [b] := fun x hx => by rw [List.mem_singleton] at hx; subst hx; exact hb
  obtain ⟨w1, w2, w3⟩ := rowF_set (i := 0) (x := .bool true) hbo (by simp; omega)
  have hset0 : ((List.replicate B.length false).map Value.bool).set 0 (.bool true) = ((List.replicate B.length false).set 0 true).map .bool := by rw [List.map_set]
  rw [hset0] at w2
  have t0 : ∀ x, trB ((List.replicate B.length false).set 0 true) x = decide (x = 0) := fun x => by
    rw [trB_set (by simp; omega)]
    have : trB (List.replicate B.length false) x = false := by
      unfold trB; rw [List.getD_eq_getElem?_getD, List.getElem?_replicate]; split <;> rfl
    rw [this]; simp
  refine ⟨fun _ => ⟨rfl, by show cmpOp .lss 0 ((vlen va : Nat) : Int) = true; rw [hval, cmp_lss, decide_eq_true_eq]; omega, trivial⟩, h_store ((vaddr va).add 0) [.bool true] rfl rfl w1 ?_⟩
  -- ahead of each round
  refine h_loop (fun xs h' => ∃ (r : Nat) (bs : List Bool), xs = [.int .i64 (r : Int)] ∧ r ≤ B.length ∧ RowF h' 4 1 va (bs.map .bool) [b] ∧ bs.length = B.length ∧ h.le h' ∧ (∀ x, trB bs x = true → Rch B x ∧ x < B.length) ∧ trB bs 0 = true ∧ (Closed B (trB bs) ∨ r + cu B.length (trB bs) + 1 ≤ B.length))
    (fun xs h' => (B.length - vi (gv xs 0)).toNat) ⟨0, _, rfl, by omega, w2, by simp, w3.le q0 hfr, (fun x hx => ?_), by rw [t0]; rfl, .inr ?_⟩ ?_
  · rw [t0, decide_eq_true_eq] at hx; subst hx; exact ⟨.zero, by omega⟩
  · have := cu_lt (n := B.length) (x := 0) (p := fun _ => false) (q := trB ((List.replicate B.length false).set 0 true)) (by omega) rfl (by rw [t0]; rfl) (fun y hy => by cases hy)
    have := cu_le_n B.length (fun _ => false)
    omega
  rintro xs h' J - ⟨r, bs, rfl, hr, hrow, hbl, hle, hsd, h0, hcl⟩ hJ
  simp only [List.cons_append, List.nil_append]
  refine h_ite (fun hc => ?_) (fun hc => ?_)
  · replace hc : cmpOp .lss (r : Int) ((vlen v : Nat) : Int) = true := hc
    rw [hvl, cmp_lss, decide_eq_true_eq] at hc
    obtain ⟨p0, hp0⟩ : ∃ p0, p0 = trB bs := ⟨_, rfl⟩
    -- a round
    refine h_loop (fun xs h5 => ∃ (k : Nat) (bs5 : List Bool), xs = [.int .i64 (k : Int)] ∧ k ≤ B.length ∧ RowF h5 4 1 va (bs5.map .bool) [b] ∧ bs5.length = B.length ∧ h.le h5 ∧ (∀ x, trB bs5 x = true → Rch B x ∧ x < B.length) ∧ (∀ x, p0 x = true → trB bs5 x = true) ∧
        (Closed B p0 → trB bs5 = p0) ∧ (cu B.length (trB bs5) < cu B.length p0 ∨ (trB bs5 = p0 ∧ ∀ x, x < k → p0 x = true → ∀ m ∈ nextN B x, p0 m = true)))
      (fun xs h' => (B.length - vi (gv xs 0)).toNat) ⟨0, bs, rfl, by omega, hrow, hbl, hle, hsd, (fun x hx => by rw [← hp0]; exact hx), (fun _ => hp0.symm), .inr ⟨hp0.symm, (fun x hx => by omega)⟩⟩ ?_
    rintro xs h5 J5 - ⟨k, bs5, rfl, hk, hrow5, hbl5, hle5, hsd5, hup5, hcl5, hpr5⟩ hJ5
    simp only [List.cons_append, List.nil_append]
    refine h_ite (fun hc5 => ?_) (fun hc5 => ?_)
    · replace hc5 : cmpOp .lss (k : Int) ((vlen v : Nat) : Int) = true := hc5
      rw [hvl, cmp_lss, decide_eq_true_eq] at hc5
      have hkB : k < B.length := by omega
      have hbl' := List.getElem?_eq_getElem hkB
      generalize B[k] = x at hbl'
      refine ⟨fun _ => ⟨ge0 k, by show cmpOp .lss (k : Int) ((vlen v : Nat) : Int) = true; rw [hvl]; exact ltN hkB, trivial⟩, h_load (endC x.en) (endFit x.en) (fun _ => ?_) ?_⟩
      · exact (show Reads h5 (((vaddr v).add (k * 5)).add 1) (endC x.en) from by rw [add_add]; exact blks_get (SlAt.le blkC_mono hle5 hv) hbl')
      simp only [endC, List.cons_append, List.nil_append]
      refine h_call0 (s17 x.en) ?_
      rintro vn g4 ⟨hl4, hon⟩
      refine ⟨[vn], ⟨hon.ints.fit, trivial⟩, rfl, ?_⟩
      simp only [List.cons_append, List.nil_append]
      obtain ⟨N, hNd⟩ : ∃ N, N = nextN B k := ⟨_, rfl⟩
      have hN : N = (nextL x.en).map Int.toNat := by rw [hNd]; exact nextN_at hbl'
      have hNr : ∀ n ∈ nextL x.en, 0 ≤ n ∧ n < (B.length : Int) := hB x (List.mem_of_getElem? hbl')
      have hnl := hon.ints.len
      have hNl : N.length = (nextL x.en).length := by rw [hN, List.length_map]
      have hN2 : N.length ≤ 2 := by rw [hNl]; unfold nextL; split <;> (try split) <;> simp
      have hlf : Live h5 [b] := hrow5.live
      have hrow4 := hrow5.agree (hl4.kept.agree hlf fun y _ => by simp)
      obtain ⟨hb4, hbd⟩ : ∃ hb4, hb4 = H.cut g4 [b] := ⟨_, rfl⟩
      have hlb : h.le hb4 := by rw [hbd]; exact H.le_cut (hle5.trans hl4) hfr
      have hbl4 : hb4.le g4 := by rw [hbd]; exact H.cut_le _ _
      have hfb : Fresh hb4 [b] := by rw [hbd]; exact H.cut_fresh _ _
      have hN4 : IntsAt hb4 vn (nextL x.en) := by rw [hbd]; exact OwnInts.ints (Row.cut hon hlf)
      -- those that follow
      refine h_loop (fun xs h6 => ∃ (i : Nat) (bs6 : List Bool), xs = [.int .i64 (i : Int)] ∧ i ≤ N.length ∧ RowF h6 4 1 va (bs6.map .bool) [b] ∧ bs6.length = B.length ∧ hb4.le h6 ∧ (∀ x, trB bs6 x = true → Rch B x ∧ x < B.length) ∧ (∀ x, p0 x = true → trB bs6 x = true) ∧
          (Closed B p0 → trB bs6 = p0) ∧ (cu B.length (trB bs6) < cu B.length p0 ∨ (trB bs6 = p0 ∧ ∀ x, x < k → p0 x = true → ∀ m ∈ nextN B x, p0 m = true)) ∧ (∀ m ∈ N.take i, trB bs6 m = true))
        (fun xs h' => (N.length - vi (gv xs 0)).toNat) ⟨0, bs5, rfl, by omega, hrow4, hbl5, hbl4, hsd5, hup5, hcl5, hpr5, (fun m hm => by simp at hm)⟩ ?_
      rintro xs h6 J6 - ⟨i, bs6, rfl, hi, hrow6, hbl6, hle6, hsd6, hup6, hcl6, hpr6, hS6⟩ hJ6
      simp only [List.cons_append, List.nil_append]
      have hle6' : h.le h6 := hlb.trans hle6
      have hkb : (bs6.map Value.bool)[k]? = some (.bool (trB bs6 k)) := by rw [List.getElem?_map, trB_at (by omega)]; rfl
      refine ⟨fun _ => ⟨ge0 k, by show cmpOp .lss (k : Int) ((vlen va : Nat) : Int) = true; rw [hval]; exact ltN hkB, trivial⟩, h_load [.bool (trB bs6 k)] ⟨⟨_, rfl⟩, trivial⟩ (fun _ => rowF_read hrow6 hkb) ?_⟩
      simp only [List.cons_append, List.nil_append]
      refine h_ite (fun hc6 => ?_) (fun hc6 => ?_)
      · simp only [X.den, gv_zero, gv_succ, vi_int, vb_ite, vb_bool, hnl, cmp_lss, decide_eq_true_eq] at hc6
        have hiN : i < (nextL x.en).length := by
          by_cases q : (i : Int) < ((nextL x.en).length : Int)
          · omega
          · rw [if_neg q] at hc6; cases hc6
        rw [if_pos (by omega)] at hc6
        have hx : (nextL x.en)[i]? = some (nextL x.en)[i] := List.getElem?_eq_getElem hiN
        have hxm : (nextL x.en)[i] ∈ nextL x.en := List.getElem_mem _
        generalize (nextL x.en)[i] = y at hx hxm
        obtain ⟨hy0, hy1⟩ := hNr y hxm
        obtain ⟨y, rfl⟩ : ∃ z : Nat, y = z := ⟨y.toNat, by omega⟩
        have hyl : y < B.length := by omega
        have hNi : N[i]? = some y := by rw [hN, List.getElem?_map, hx]; simp
        have hyk : y ∈ nextN B k := by rw [← hNd]; exact List.mem_of_getElem? hNi
        have hyt : N.take (i + 1) = N.take i ++ [y] := by rw [List.take_add_one, hNi]; rfl
        obtain ⟨y1, y2, y3⟩ := rowF_set (i := y) (x := .bool true) hrow6 (by rw [List.length_map]; omega)
        have hset : (bs6.map Value.bool).set y (.bool true) = (bs6.set y true).map .bool := by rw [List.map_set]
        rw [hset] at y2
        have ht := trB_set (bs := bs6) (m := y) (by omega)
        refine ⟨fun _ => ⟨ge0 i, by show cmpOp .lss (i : Int) ((vlen vn : Nat) : Int) = true; rw [hnl]; exact ltN hiN, trivial⟩, h_load [.int .i64 (y : Int)] ⟨⟨_, rfl⟩, trivial⟩ (fun _ => (hN4.le hle6).read hx)
          ⟨fun _ => ⟨ge0 y, by show cmpOp .lss (y : Int) ((vlen va : Nat) : Int) = true; rw [hval]; exact ltN hyl, trivial⟩, h_store ((vaddr va).add y) [.bool true] (by show (vaddr va).add (y * 1) = _; rw [Nat.mul_one]) rfl y1 ?_⟩⟩
        show J6 [.int .i64 (intOp .add .i64 (i : Int) 1)] _
        rw [int_add_one (n := 1000) (by omega) (by omega)]
        have up : ∀ z, trB bs6 z = true → trB (bs6.set y true) z = true := fun z hz => by rw [ht, hz]; rfl
        have same : trB bs6 y = true → trB (bs6.set y true) = trB bs6 := fun q => by
          funext z
          rw [ht]
          by_cases e : z = y
          · subst e; simp [q]
          · simp [e]
        refine hJ6 _ _ ⟨i + 1, bs6.set y true, rfl, by omega, y2, by rw [List.length_set]; exact hbl6, y3.le hle6 hfb, fun z hz => ?_, fun z hz => up z (hup6 z hz), fun q => ?_, ?_, fun m hm => ?_⟩ ?_
        · rw [ht, Bool.or_eq_true, decide_eq_true_eq] at hz
          rcases hz with q | q
          · exact hsd6 z q
          · subst q; exact ⟨.step (hsd6 k hc6).1 hyk, hyl⟩
        · have e6 := hcl6 q
          have hpk : p0 k = true := by rw [← e6]; exact hc6
          have : trB bs6 y = true := by rw [e6]; exact q k hpk y hyk
          rw [same this]; exact e6
        · cases hq : trB bs6 y with
          | true => rw [same hq]; exact hpr6
          | false =>
            left
            have h1 := cu_lt (n := B.length) (x := y) (p := trB bs6) (q := trB (bs6.set y true)) hyl hq (by rw [ht]; simp) up
            have h2 : cu B.length (trB bs6) ≤ cu B.length p0 := cu_le hup6
            omega
        · rw [hyt, List.mem_append] at hm
          rcases hm with q | q
          · exact up m (hS6 m q)
          · rw [List.mem_singleton] at q; subst q; rw [ht]; simp
        · simp only [gv_zero, vi_int]; omega
      · simp only [X.den, gv_zero, gv_succ, vi_int, vb_ite, vb_bool, hnl, cmp_lss, decide_eq_true_eq] at hc6
        show J5 [.int .i64 (intOp .add .i64 (k : Int) 1)] h6
        rw [int_add_one (n := 1000) (by omega) (by omega)]
        refine hJ5 _ _ ⟨k + 1, bs6, rfl, by omega, hrow6, hbl6, hle6', hsd6, hup6, hcl6, ?_⟩ ?_
        · rcases hpr6 with q | ⟨q1, q2⟩
          · exact .inl q
          · refine .inr ⟨q1, fun z hz hpz m hm => ?_⟩
            by_cases e : z = k
            · subst e
              have hiN : ¬ (i : Int) < ((nextL x.en).length : Int) := fun q => by
                rw [if_pos q, q1, hpz] at hc6; cases hc6
              have hall : N.take i = N := List.take_of_length_le (by omega)
              rw [← q1]
              exact hS6 m (by rw [hall, hNd]; exact hm)
            · exact q2 z (by omega) hpz m hm
        · simp only [gv_zero, vi_int]; omega
    · replace hc5 : cmpOp .lss (k : Int) ((vlen v : Nat) : Int) = false := hc5
      rw [hvl, cmp_lss, decide_eq_false_iff_not] at hc5
      have hke : k = B.length := by omega
      show J [.int .i64 (intOp .add .i64 (r : Int) 1)] h5
      rw [int_add_one (n := 1000) (by omega) (by omega)]
      refine hJ _ _ ⟨r + 1, bs5, rfl, by omega, hrow5, hbl5, hle5, hsd5, hup5 0 (by rw [hp0]; exact h0), ?_⟩ ?_
      · rw [← hp0] at hcl
        rcases hcl with q | q
        · left; rw [hcl5 q]; exact q
        · rcases hpr5 with q' | ⟨q1, q2⟩
          · right; omega
          · left
            rw [q1]
            intro z hz m hm
            have hzl : z < B.length := (hsd z (by rw [← hp0]; exact hz)).2
            exact q2 z (by omega) hz m hm
      · simp only [gv_zero, vi_int]; omega
  · replace hc : cmpOp .lss (r : Int) ((vlen v : Nat) : Int) = false := hc
    rw [hvl, cmp_lss, decide_eq_false_iff_not] at hc
    have hcl' : Closed B (trB bs) := by
      rcases hcl with q | q
      · exact q
      · omega
    refine ⟨rfl, hle, bs, [b], hrow, hbl, fun x => ⟨fun hx => (hsd x hx).1, fun hx => ?_⟩⟩
    induction hx with
    | zero => exact h0
    | step hk hn ih => exact hcl' _ ih _ hn
/-! ### What an order of going down has -/
/-- T: what came behind; S, S': what had been come to ahead, and behind it; l: where it began. -/
structure DownP (B : List Blk) (S S' T l : List Nat) : Prop where
  nd : T.Nodup
  mem : ∀ x, x ∈ S' ↔ x ∈ S ∨ x ∈ T
  new : ∀ x ∈ T, x ∉ S
  rch : (∀ m ∈ l, Rch B m) → ∀ x ∈ T, Rch B x
  cl : ∀ x ∈ T, ∀ m ∈ nextN B x, m ∈ S'
  all : ∀ m ∈ l, m ∈ S'
  led : ∀ T1 x T2, T = T1 ++ x :: T2 → x ∈ l ∨ ∃ p ∈ T2, x ∈ nextN B p
  lt : (∀ m ∈ l, m < B.length) → ∀ x ∈ T, x < B.length
theorem downP {B : List Blk} (hB : OkB B) : ∀ (n b : Nat) (s : List Nat × List Nat), b < B.length → csM B s.1 ≤ n → ∃ T, (downM B n b s).2 = s.2 ++ T ∧ DownP B s.1 (downM B n b s).1 T [b] ∧ (b ∉ s.1 → ∃ T0, T = T0 ++ [b])
  | 0, b, s, hb, hcs => by
    have hm := csM_zero hb (by omega : csM B s.1 = 0)
    refine ⟨[], by simp [downM], ⟨List.nodup_nil, fun x => by simp [downM], fun x hx => (by cases hx), fun _ x hx => (by cases hx), fun x hx => (by cases hx), fun m hm' => ?_, fun T1 x T2 e => ?_, fun _ x hx => (by cases hx)⟩, fun h => absurd hm h⟩
    · rw [List.mem_singleton] at hm'; subst hm'; exact hm
    · simp at e
  | n + 1, b, s, hb, hcs => by
    by_cases hm : b ∈ s.1
    · rw [downM_mem hm]
      refine ⟨[], by simp, ⟨List.nodup_nil, fun x => by simp, fun x hx => (by cases hx), fun _ x hx => (by cases hx), fun x hx => (by cases hx), fun m hm' => ?_, fun T1 x T2 e => ?_, fun _ x hx => (by cases hx)⟩, fun h => absurd hm h⟩
      · rw [List.mem_singleton] at hm'; subst hm'; exact hm
      · simp at e
    · rw [downM_succ hm]
      have hc1 := csM_cons hb hm
      have key : ∀ (l : List Nat) (s : List Nat × List Nat), (∀ m ∈ l, m < B.length) → csM B s.1 ≤ n → ∃ T, (l.foldl (fun s m => downM B n m s) s).2 = s.2 ++ T ∧ DownP B s.1 (l.foldl (fun s m => downM B n m s) s).1 T l := by
        intro l
        induction l with
        | nil => exact fun s _ _ => ⟨[], by simp, ⟨List.nodup_nil, fun x => by simp, fun x hx => (by cases hx), fun _ x hx => (by cases hx), fun x hx => (by cases hx), fun m hm' => (by cases hm'), fun T1 x T2 e => (by simp at e), fun _ x hx => (by cases hx)⟩⟩
        | cons a l ih =>
          intro s hl hcs'
          obtain ⟨T1, e1, P1, _⟩ := downP hB n a s (hl a (List.mem_cons_self ..)) hcs'
          obtain ⟨T2, e2, P2⟩ := ih (downM B n a s) (fun m hm => hl m (List.mem_cons_of_mem _ hm)) (Nat.le_trans (csM_le fun x hx => downM_sub B n a s x hx) hcs')
          refine ⟨T1 ++ T2, ?_, ?_⟩
          · rw [List.foldl_cons, e2, e1, List.append_assoc]
          · rw [List.foldl_cons]
            refine ⟨List.nodup_append.2 ⟨P1.nd, P2.nd, fun x hx y hy e => ?_⟩, fun x => ?_, fun x hx => ?_, fun hr x hx => ?_, fun x hx m hm' => ?_, fun m hm' => ?_, fun U x V e => ?_, fun hr x hx => ?_⟩
            · subst e; exact P2.new x hy ((P1.mem x).2 (.inr hx))
            · rw [P2.mem, P1.mem, List.mem_append]; constructor
              · rintro ((q | q) | q)
                · exact .inl q
                · exact .inr (.inl q)
                · exact .inr (.inr q)
              · rintro (q | q | q)
                · exact .inl (.inl q)
                · exact .inl (.inr q)
                · exact .inr q
            · rcases List.mem_append.1 hx with q | q
              · exact P1.new x q
              · exact fun hs => P2.new x q ((P1.mem x).2 (.inl hs))
            · rcases List.mem_append.1 hx with q | q
              · exact P1.rch (fun m hm' => by rw [List.mem_singleton] at hm'; subst hm'; exact hr m (List.mem_cons_self ..)) x q
              · exact P2.rch (fun m hm' => hr m (List.mem_cons_of_mem _ hm')) x q
            · rcases List.mem_append.1 hx with q | q
              · exact (P2.mem m).2 (.inl (P1.cl x q m hm'))
              · exact P2.cl x q m hm'
            · rcases List.mem_cons.1 hm' with q | q
              · subst q; exact (P2.mem m).2 (.inl (P1.all m (by simp)))
              · exact P2.all m q
            · rcases List.append_eq_append_iff.1 e with ⟨W, q1, q2⟩ | ⟨W, q1, q2⟩
              · -- x lies in T2
                rcases P2.led W x V q2 with r | r
                · exact .inl (List.mem_cons_of_mem _ r)
                · exact .inr r
              · cases W with
                | nil =>
                  rw [List.nil_append] at q2
                  rcases P2.led [] x V q2.symm with r | r
                  · exact .inl (List.mem_cons_of_mem _ r)
                  · exact .inr r
                | cons w W =>
                  rw [List.cons_append, List.cons.injEq] at q2
                  obtain ⟨rfl, q3⟩ := q2
                  rcases P1.led U x W q1 with r | ⟨p, hp, r⟩
                  · rw [List.mem_singleton] at r; subst r; exact .inl (List.mem_cons_self ..)
                  · exact .inr ⟨p, by rw [q3]; exact List.mem_append_left _ hp, r⟩
            · rcases List.mem_append.1 hx with q | q
              · exact P1.lt (fun m hm' => by rw [List.mem_singleton] at hm'; subst hm'; exact hr m (List.mem_cons_self ..)) x q
              · exact P2.lt (fun m hm' => hr m (List.mem_cons_of_mem _ hm')) x q
      obtain ⟨T, e1, P⟩ := key (nextN B b) (b :: s.1, s.2) (fun m hm => nextN_lt hB hm) (by simp only; omega)
      refine ⟨T ++ [b], by rw [e1, List.append_assoc], ⟨List.nodup_append.2 ⟨P.nd, by simp, fun x hx y hy e => ?_⟩, fun x => ?_, fun x hx => ?_, fun hr x hx => ?_, fun x hx m hm' => ?_, fun m hm' => ?_, fun U x V e => ?_, fun hr x hx => ?_⟩, fun _ => ⟨T, rfl⟩⟩
      · rw [List.mem_singleton] at hy; subst hy; subst e; exact P.new _ hx (List.mem_cons_self ..)
      · rw [P.mem, List.mem_cons, List.mem_append, List.mem_singleton]; constructor
        · rintro ((q | q) | q)
          · exact .inr (.inr q)
          · exact .inl q
          · exact .inr (.inl q)
        · rintro (q | q | q)
          · exact .inl (.inr q)
          · exact .inr q
          · exact .inl (.inl q)
      · rcases List.mem_append.1 hx with q | q
        · exact fun hs => P.new x q (List.mem_cons_of_mem _ hs)
        · rw [List.mem_singleton] at q; subst q; exact hm
      · have hrb := hr b (by simp)
        rcases List.mem_append.1 hx with q | q
        · exact P.rch (fun m hm' => .step hrb hm') x q
        · rw [List.mem_singleton] at q; subst q; exact hrb
      · rcases List.mem_append.1 hx with q | q
        · exact P.cl x q m hm'
        · rw [List.mem_singleton] at q; subst q; exact P.all m hm'
      · rw [List.mem_singleton] at hm'; subst hm'; exact (P.mem _).2 (.inl (List.mem_cons_self ..))
      · rcases List.append_eq_append_iff.1 e with ⟨W, q1, q2⟩ | ⟨W, q1, q2⟩
        · have : W = [] ∧ x = b ∧ V = [] := by
            cases W with
            | nil => simp at q2; exact ⟨rfl, q2.1.symm, q2.2⟩
            | cons w W => simp at q2
          left; rw [this.2.1]; simp
        · cases W with
          | nil =>
            rw [List.nil_append] at q2
            simp at q2
            left; rw [q2.1]; simp
          | cons w W =>
            rw [List.cons_append, List.cons.injEq] at q2
            obtain ⟨rfl, q3⟩ := q2
            rcases P.led U x W q1 with r | ⟨p, hp, r⟩
            · exact .inr ⟨b, by rw [q3]; simp, r⟩
            · exact .inr ⟨p, by rw [q3]; exact List.mem_append_left _ hp, r⟩
      · rcases List.mem_append.1 hx with q | q
        · exact P.lt (fun m hm' => nextN_lt hB hm') x q
        · rw [List.mem_singleton] at q; subst q; exact hr _ (by simp)
theorem nodup_rev {l : List Nat} (h : l.Nodup) : l.reverse.Nodup := List.pairwise_reverse.2 (h.imp fun q => Ne.symm q)
theorem order_laws {B : List Blk} (hB : OkB B) (h1 : 1 ≤ B.length) : ∃ R, orderM B = 0 :: R ∧ (orderM B).Nodup ∧ (∀ x, x ∈ orderM B ↔ Rch B x) ∧ (∀ x ∈ orderM B, x < B.length) ∧ ∀ R1 x R2, orderM B = R1 ++ x :: R2 → R1 = [] ∨ ∃ p ∈ R1, x ∈ nextN B p := by
  have hcs := csM_nil B
  obtain ⟨T, e1, P, hT⟩ := downP hB B.length 0 ([], []) (by omega) (by rw [hcs]; exact Nat.le_refl _)
  obtain ⟨T0, rfl⟩ := hT (by simp)
  rw [List.nil_append] at e1
  have ho : orderM B = 0 :: T0.reverse := by unfold orderM; rw [e1, List.reverse_append]; rfl
  have hm : ∀ x, x ∈ orderM B ↔ x ∈ T0 ++ [0] := fun x => by unfold orderM; rw [e1, List.mem_reverse]
  refine ⟨T0.reverse, ho, by unfold orderM; rw [e1]; exact nodup_rev P.nd, fun x => ?_, fun x hx => ?_, fun R1 x R2 e => ?_⟩
  · rw [hm]
    constructor
    · exact P.rch (fun m hm' => by rw [List.mem_singleton] at hm'; subst hm'; exact .zero) x
    · intro hx
      induction hx with
      | zero => simp
      | step hk hn ih =>
        have := P.cl _ ih _ hn
        rw [P.mem] at this
        rcases this with q | q
        · cases q
        · exact q
  · exact P.lt (fun m hm' => by rw [List.mem_singleton] at hm'; subst hm'; omega) x ((hm x).1 hx)
  · have e2 : T0 ++ [0] = R2.reverse ++ x :: R1.reverse := by
      have : (T0 ++ [0]).reverse = R1 ++ x :: R2 := by rw [← e]; unfold orderM; rw [e1]
      have := congrArg List.reverse this
      rw [List.reverse_reverse] at this
      rw [this]; simp
    rcases P.led _ _ _ e2 with q | ⟨p, hp, r⟩
    · rw [List.mem_singleton] at q
      subst q
      left
      cases R1 with
      | nil => rfl
      | cons a R1 =>
        have hnd : (orderM B).Nodup := by unfold orderM; rw [e1]; exact nodup_rev P.nd
        rw [e] at hnd
        rw [e, List.cons_append] at ho
        have ha : a = 0 := by simp at ho; exact ho.1
        subst ha
        rw [List.cons_append, List.nodup_cons] at hnd
        exact absurd (by simp) hnd.1
    · exact .inr ⟨p, by simpa using hp, r⟩
/-! ### The fixed fact -/
def B4 : List Blk := [⟨[], ⟨2, 0, 2, 1⟩⟩, ⟨[], ⟨1, 0, 3, 0⟩⟩, ⟨[], ⟨1, 0, 3, 0⟩⟩, ⟨[], ⟨3, 0, 0, 0⟩⟩]
def cells4 : List Value := B4.flatMap fun x => .slice none 0 0 :: endC x.en
theorem b4_at {h : H} {b : Nat} : BlksAt (h.put b (.cells cells4.toArray 43 (0, 0))) (.slice (some ⟨b, 0, none⟩) 4 4) B4 := by
  refine SlF.at (R := BlkF) (e := 43) (fp := [b]) (by omega) blkF_at ⟨B4.map fun x => ⟨.slice none 0 0 :: endC x.en, x, []⟩, [b], by simp [B4], by simp [fpE, B4], ?_, fun t ht => ?_⟩
  · have := RowF.new (h := h) (e := 43) (sz := 5) (b := b) (n := 4) (c := 4) (cs := cells4) (r := []) rfl rfl (Nat.le_refl _)
    rw [List.append_nil] at this
    exact this
  · obtain ⟨x, hx, rfl⟩ := List.mem_map.1 ht
    have : x.ins = [] := by simp [B4] at hx; rcases hx with rfl | rfl | rfl | rfl <;> rfl
    refine ⟨rfl, _, rfl, ?_⟩
    rw [this]; exact SlF.nil
theorem b4_ok : OkB B4 := by
  intro x hx n hn
  simp [B4] at hx
  rcases hx with rfl | rfl | rfl | rfl <;> simp [nextL] at hn <;> simp [B4] <;> omega
theorem b4_order : orderM B4 = [0, 1, 2, 3] := by decide
theorem b4_ahead : aheadM B4 3 = [1, 2] := by decide
theorem s6 {h : H} : CallsA Try.prog 6 (fun _ => []) [] h (Ret fun r h' => h.le h' ∧ r = .bool true) := by
  refine c6 (G := []) trivial ?_
  intro b0 hb0
  have q0 : h.le (h.put b0 (.cells cells4.toArray 43 (0, 0))) := H.le_put hb0
  have hB4 : BlksAt (h.put b0 (.cells cells4.toArray 43 (0, 0))) (.slice (some ⟨b0, 0, none⟩) 4 4) B4 := b4_at
  show holds _ _ _ [.slice (some ⟨b0, 0, none⟩) 4 4] [] (h.put b0 (.cells cells4.toArray 43 (0, 0)))
  generalize h.put b0 (.cells cells4.toArray 43 (0, 0)) = g0 at q0 hB4
  refine h_call0 (s14 hB4 b4_ok (by decide) (by decide)) ?_
  rintro vo g1 ⟨hl1, ho⟩
  rw [b4_order] at ho
  refine ⟨[vo], ⟨ho.fit, trivial⟩, rfl, ?_⟩
  intro b1 hb1
  have q1 : g1.le (g1.put b1 (.cells ([0, 1, 2, 3].map (Value.int .i64)).toArray 3 (0, 0))) := H.le_put hb1
  have hi1 : IntsAt (g1.put b1 (.cells ([0, 1, 2, 3].map (Value.int .i64)).toArray 3 (0, 0))) (.slice (some ⟨b1, 0, none⟩) 4 4) [0, 1, 2, 3] := OwnInts.ints (own_new (l := [0, 1, 2, 3]) hb1)
  show holds _ _ _ [.slice (some ⟨b0, 0, none⟩) 4 4, vo, .slice (some ⟨b1, 0, none⟩) 4 4] [] (g1.put b1 (.cells ([0, 1, 2, 3].map (Value.int .i64)).toArray 3 (0, 0)))
  generalize g1.put b1 (.cells ([0, 1, 2, 3].map (Value.int .i64)).toArray 3 (0, 0)) = g2 at q1 hi1
  refine h_call0 (s13 (ho.le q1) hi1 (by simp)) ?_
  rintro _ g3 ⟨e3, rfl⟩
  have e3' := e3.symm
  subst e3'
  refine ⟨[.bool true], ⟨⟨_, rfl⟩, trivial⟩, rfl, ⟨fun _ => ?_, fun hc => by cases hc⟩⟩
  have hB5 := SlAt.le blkC_mono (hl1.trans q1) hB4
  refine h_call0 (s11 hB5 b4_ok (by decide)) ?_
  rintro va g4 ⟨hl4, ha⟩
  refine ⟨[va], ⟨ha.fit, trivial⟩, rfl, ?_⟩
  have hal := ha.len
  obtain ⟨cs, ⟨u, rfl, hu⟩, hr⟩ := ha.get 3 [1, 2] (by rw [← b4_ahead]; rfl)
  refine ⟨fun _ => ⟨rfl, by show cmpOp .lss 3 ((vlen va : Nat) : Int) = true; rw [hal]; rfl, trivial⟩, h_load [u] ⟨hu.fit, trivial⟩ (fun _ => hr) ?_⟩
  intro b5 hb5
  have q5 : g4.le (g4.put b5 (.cells ([1, 2].map (Value.int .i64)).toArray 3 (0, 0))) := H.le_put hb5
  have hi5 : IntsAt (g4.put b5 (.cells ([1, 2].map (Value.int .i64)).toArray 3 (0, 0))) (.slice (some ⟨b5, 0, none⟩) 2 2) [1, 2] := OwnInts.ints (own_new (l := [1, 2]) hb5)
  refine h_call0 (s13 (hu.le q5) hi5 (by simp)) ?_
  rintro _ g6 ⟨e6, rfl⟩
  refine ⟨[.bool true], ⟨⟨_, rfl⟩, trivial⟩, rfl, rfl, ?_, rfl⟩
  rw [e6]
  exact ((q0.trans hl1).trans q1).trans (hl4.trans q5)
end Go.Proofs.Ytgcaicdmjbkplaa
