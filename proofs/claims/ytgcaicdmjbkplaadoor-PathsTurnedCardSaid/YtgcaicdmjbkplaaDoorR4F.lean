/-
  The document's answer for which blocks are come to; what an order of going down has; the fixed fact. Conditions: as each lemma says.
-/
import Derived.Test.YtgcaicdmjbkplaaDoorR4E
set_option linter.unusedVariables false
set_option linter.unusedSimpArgs false
namespace Go.Proofs.YtgcaicdmjbkplaaDoor
open Go

def trB (bs : List Bool) (x : Nat) : Bool := bs.getD x false
def Closed (B : List Blk) (p : Nat → Bool) : Prop := ∀ x, p x = true → ∀ m ∈ nextN B x, p m = true
theorem trB_set {bs : List Bool} {m : Nat} (hm : m < bs.length) (x : Nat) : trB (bs.set m true) x = (trB bs x || decide (x = m)) := by
  unfold trB
  rw [List.getD_eq_getElem?_getD, List.getD_eq_getElem?_getD, List.getElem?_set]
  by_cases e : m = x
  · subst e; rw [if_pos rfl, if_pos hm]; simp
  · have e' : ¬ x = m := fun q => e q.symm
    rw [if_neg e]; simp [e']
theorem trB_at {bs : List Bool} {x : Nat} (hx : x < bs.length) : bs[x]? = some (trB bs x) := by
  unfold trB; rw [List.getD_eq_getElem?_getD, List.getElem?_eq_getElem hx]; rfl
/-- T: what came behind; S, S': what had been come to ahead, and behind it; l: where it began. -/
structure DownP (B : List Blk) (S S' T l : List Nat) : Prop where
  nd : T.Nodup
  mem : ∀ x, x ∈ S' ↔ x ∈ S ∨ x ∈ T
  new : ∀ x ∈ T, x ∉ S
  rch : (∀ m ∈ l, Rch B m) → ∀ x ∈ T, Rch B x
  cl : ∀ x ∈ T, ∀ m ∈ nextN B x, m ∈ S'
  all : ∀ m ∈ l, m ∈ S'
  led : ∀ T1 x T2, T = T1 ++ x :: T2 → x ∈ l ∨ ∃ p ∈ T2, x ∈ nextN B p
  lt : (∀ m ∈ l, m < B.length) → ∀ x ∈ T, x < B.length
theorem downP {B : List Blk} (hB : OkB B) : ∀ (n b : Nat) (s : List Nat × List Nat), b < B.length → csM B s.1 ≤ n → ∃ T, (downM B n b s).2 = s.2 ++ T ∧ DownP B s.1 (downM B n b s).1 T [b] ∧ (b ∉ s.1 → ∃ T0, T = T0 ++ [b])
  | 0, b, s, hb, hcs => by
    have hm := csM_zero hb (by omega : csM B s.1 = 0)
    refine ⟨[], by simp [downM], ⟨List.nodup_nil, fun x => by simp [downM], fun x hx => (by cases hx), fun _ x hx => (by cases hx), fun x hx => (by cases hx), fun m hm' => ?_, fun T1 x T2 e => ?_, fun _ x hx => (by cases hx)⟩, fun h => absurd hm h⟩
    · rw [List.mem_singleton] at hm'; subst hm'; exact hm
    · simp at e
  | n + 1, b, s, hb, hcs => by
    by_cases hm : b ∈ s.1
    · rw [downM_mem hm]
      refine ⟨[], by simp, ⟨List.nodup_nil, fun x => by simp, fun x hx => (by cases hx), fun _ x hx => (by cases hx), fun x hx => (by cases hx), fun m hm' => ?_, fun T1 x T2 e => ?_, fun _ x hx => (by cases hx)⟩, fun h => absurd hm h⟩
      · rw [List.mem_singleton] at hm'; subst hm'; exact hm
      · simp at e
    · rw [downM_succ hm]
      have hc1 := csM_cons hb hm
      have key : ∀ (l : List Nat) (s : List Nat × List Nat), (∀ m ∈ l, m < B.length) → csM B s.1 ≤ n → ∃ T, (l.foldl (fun s m => downM B n m s) s).2 = s.2 ++ T ∧ DownP B s.1 (l.foldl (fun s m => downM B n m s) s).1 T l := by
        intro l
        induction l with
        | nil => exact fun s _ _ => ⟨[], by simp, ⟨List.nodup_nil, fun x => by simp, fun x hx => (by cases hx), fun _ x hx => (by cases hx), fun x hx => (by cases hx), fun m hm' => (by cases hm'), fun T1 x T2 e => (by simp at e), fun _ x hx => (by cases hx)⟩⟩
        | cons a l ih =>
          intro s hl hcs'
          obtain ⟨T1, e1, P1, _⟩ := downP hB n a s (hl a (List.mem_cons_self ..)) hcs'
          obtain ⟨T2, e2, P2⟩ := ih (downM B n a s) (fun m hm => hl m (List.mem_cons_of_mem _ hm)) (Nat.le_trans (csM_le fun x hx => downM_sub B n a s x hx) hcs')
          refine ⟨T1 ++ T2, ?_, ?_⟩
          · rw [List.foldl_cons, e2, e1, List.append_assoc]
          · rw [List.foldl_cons]
            refine ⟨List.nodup_append.2 ⟨P1.nd, P2.nd, fun x hx y hy e => ?_⟩, fun x => ?_, fun x hx => ?_, fun hr x hx => ?_, fun x hx m hm' => ?_, fun m hm' => ?_, fun U x V e => ?_, fun hr x hx => ?_⟩
            · subst e; exact P2.new x hy ((P1.mem x).2 (.inr hx))
            · rw [P2.mem, P1.mem, List.mem_append]; constructor
              · rintro ((q | q) | q)
                · exact .inl q
                · exact .inr (.inl q)
                · exact .inr (.inr q)
              · rintro (q | q | q)
                · exact .inl (.inl q)
                · exact .inl (.inr q)
                · exact .inr q
            · rcases List.mem_append.1 hx with q | q
              · exact P1.new x q
              · exact fun hs => P2.new x q ((P1.mem x).2 (.inl hs))
            · rcases List.mem_append.1 hx with q | q
              · exact P1.rch (fun m hm' => by rw [List.mem_singleton] at hm'; subst hm'; exact hr m (List.mem_cons_self ..)) x q
              · exact P2.rch (fun m hm' => hr m (List.mem_cons_of_mem _ hm')) x q
            · rcases List.mem_append.1 hx with q | q
              · exact (P2.mem m).2 (.inl (P1.cl x q m hm'))
              · exact P2.cl x q m hm'
            · rcases List.mem_cons.1 hm' with q | q
              · subst q; exact (P2.mem m).2 (.inl (P1.all m (by simp)))
              · exact P2.all m q
            · rcases List.append_eq_append_iff.1 e with ⟨W, q1, q2⟩ | ⟨W, q1, q2⟩
              · -- x lies in T2
                rcases P2.led W x V q2 with r | r
                · exact .inl (List.mem_cons_of_mem _ r)
                · exact .inr r
              · cases W with
                | nil =>
                  rw [List.nil_append] at q2
                  rcases P2.led [] x V q2.symm with r | r
                  · exact .inl (List.mem_cons_of_mem _ r)
                  · exact .inr r
                | cons w W =>
                  rw [List.cons_append, List.cons.injEq] at q2
                  obtain ⟨rfl, q3⟩ := q2
                  rcases P1.led U x W q1 with r | ⟨p, hp, r⟩
                  · rw [List.mem_singleton] at r; subst r; exact .inl (List.mem_cons_self ..)
                  · exact .inr ⟨p, by rw [q3]; exact List.mem_append_left _ hp, r⟩
            · rcases List.mem_append.1 hx with q | q
              · exact P1.lt (fun m hm' => by rw [List.mem_singleton] at hm'; subst hm'; exact hr m (List.mem_cons_self ..)) x q
              · exact P2.lt (fun m hm' => hr m (List.mem_cons_of_mem _ hm')) x q
      obtain ⟨T, e1, P⟩ := key (nextN B b) (b :: s.1, s.2) (fun m hm => nextN_lt hB hm) (by simp only; omega)
      refine ⟨T ++ [b], by rw [e1, List.append_assoc], ⟨List.nodup_append.2 ⟨P.nd, by simp, fun x hx y hy e => ?_⟩, fun x => ?_, fun x hx => ?_, fun hr x hx => ?_, fun x hx m hm' => ?_, fun m hm' => ?_, fun U x V e => ?_, fun hr x hx => ?_⟩, fun _ => ⟨T, rfl⟩⟩
      · rw [List.mem_singleton] at hy; subst hy; subst e; exact P.new _ hx (List.mem_cons_self ..)
      · rw [P.mem, List.mem_cons, List.mem_append, List.mem_singleton]; constructor
        · rintro ((q | q) | q)
          · exact .inr (.inr q)
          · exact .inl q
          · exact .inr (.inl q)
        · rintro (q | q | q)
          · exact .inl (.inr q)
          · exact .inr q
          · exact .inl (.inl q)
      · rcases List.mem_append.1 hx with q | q
        · exact fun hs => P.new x q (List.mem_cons_of_mem _ hs)
        · rw [List.mem_singleton] at q; subst q; exact hm
      · have hrb := hr b (by simp)
        rcases List.mem_append.1 hx with q | q
        · exact P.rch (fun m hm' => .step hrb hm') x q
        · rw [List.mem_singleton] at q; subst q; exact hrb
      · rcases List.mem_append.1 hx with q | q
        · exact P.cl x q m hm'
        · rw [List.mem_singleton] at q; subst q; exact P.all m hm'
      · rw [List.mem_singleton] at hm'; subst hm'; exact (P.mem _).2 (.inl (List.mem_cons_self ..))
      · rcases List.append_eq_append_iff.1 e with ⟨W, q1, q2⟩ | ⟨W, q1, q2⟩
        · have : W = [] ∧ x = b ∧ V = [] := by
            cases W with
            | nil => simp at q2; exact ⟨rfl, q2.1.symm, q2.2⟩
            | cons w W => simp at q2
          left; rw [this.2.1]; simp
        · cases W with
          | nil =>
            rw [List.nil_append] at q2
            simp at q2
            left; rw [q2.1]; simp
          | cons w W =>
            rw [List.cons_append, List.cons.injEq] at q2
            obtain ⟨rfl, q3⟩ := q2
            rcases P.led U x W q1 with r | ⟨p, hp, r⟩
            · exact .inr ⟨b, by rw [q3]; simp, r⟩
            · exact .inr ⟨p, by rw [q3]; exact List.mem_append_left _ hp, r⟩
      · rcases List.mem_append.1 hx with q | q
        · exact P.lt (fun m hm' => nextN_lt hB hm') x q
        · rw [List.mem_singleton] at q; subst q; exact hr _ (by simp)
theorem nodup_rev {l : List Nat} (h : l.Nodup) : l.reverse.Nodup := List.pairwise_reverse.2 (h.imp fun q => Ne.symm q)
theorem order_laws {B : List Blk} (hB : OkB B) (h1 : 1 ≤ B.length) : ∃ R, orderM B = 0 :: R ∧ (orderM B).Nodup ∧ (∀ x, x ∈ orderM B ↔ Rch B x) ∧ (∀ x ∈ orderM B, x < B.length) ∧ ∀ R1 x R2, orderM B = R1 ++ x :: R2 → R1 = [] ∨ ∃ p ∈ R1, x ∈ nextN B p := by
  have hcs := csM_nil B
  obtain ⟨T, e1, P, hT⟩ := downP hB B.length 0 ([], []) (by omega) (by rw [hcs]; exact Nat.le_refl _)
  obtain ⟨T0, rfl⟩ := hT (by simp)
  rw [List.nil_append] at e1
  have ho : orderM B = 0 :: T0.reverse := by unfold orderM; rw [e1, List.reverse_append]; rfl
  have hm : ∀ x, x ∈ orderM B ↔ x ∈ T0 ++ [0] := fun x => by unfold orderM; rw [e1, List.mem_reverse]
  refine ⟨T0.reverse, ho, by unfold orderM; rw [e1]; exact nodup_rev P.nd, fun x => ?_, fun x hx => ?_, fun R1 x R2 e => ?_⟩
  · rw [hm]
    constructor
    · exact P.rch (fun m hm' => by rw [List.mem_singleton] at hm'; subst hm'; exact .zero) x
    · intro hx
      induction hx with
      | zero => simp
      | step hk hn ih =>
        have := P.cl _ ih _ hn
        rw [P.mem] at this
        rcases this with q | q
        · cases q
        · exact q
  · exact P.lt (fun m hm' => by rw [List.mem_singleton] at hm'; subst hm'; omega) x ((hm x).1 hx)
  · have e2 : T0 ++ [0] = R2.reverse ++ x :: R1.reverse := by
      have : (T0 ++ [0]).reverse = R1 ++ x :: R2 := by rw [← e]; unfold orderM; rw [e1]
      have := congrArg List.reverse this
      rw [List.reverse_reverse] at this
      rw [this]; simp
    rcases P.led _ _ _ e2 with q | ⟨p, hp, r⟩
    · rw [List.mem_singleton] at q
      subst q
      left
      cases R1 with
      | nil => rfl
      | cons a R1 =>
        have hnd : (orderM B).Nodup := by unfold orderM; rw [e1]; exact nodup_rev P.nd
        rw [e] at hnd
        rw [e, List.cons_append] at ho
        have ha : a = 0 := by simp at ho; exact ho.1
        subst ha
        rw [List.cons_append, List.nodup_cons] at hnd
        exact absurd (by simp) hnd.1
    · exact .inr ⟨p, by simpa using hp, r⟩
/-! ### The fixed fact -/
def B4 : List Blk := [⟨[], ⟨2, 0, 2, 1⟩⟩, ⟨[], ⟨1, 0, 3, 0⟩⟩, ⟨[], ⟨1, 0, 3, 0⟩⟩, ⟨[], ⟨3, 0, 0, 0⟩⟩]
def cells4 : List Value := B4.flatMap fun x => .slice none 0 0 :: endC x.en
theorem b4_at {h : H} {b : Nat} : BlksAt (h.put b (.cells cells4.toArray 36 (0, 0))) (.slice (some ⟨b, 0, none⟩) 4 4) B4 := by
  refine SlF.at (R := BlkF) (e := 36) (fp := [b]) (by omega) blkF_at ⟨B4.map fun x => ⟨.slice none 0 0 :: endC x.en, x, []⟩, [b], by simp [B4], by simp [fpE, B4], ?_, fun t ht => ?_⟩
  · have := RowF.new (h := h) (e := 36) (sz := 5) (b := b) (n := 4) (c := 4) (cs := cells4) (r := []) rfl rfl (Nat.le_refl _)
    rw [List.append_nil] at this
    exact this
  · obtain ⟨x, hx, rfl⟩ := List.mem_map.1 ht
    have : x.ins = [] := by simp [B4] at hx; rcases hx with rfl | rfl | rfl | rfl <;> rfl
    refine ⟨rfl, _, rfl, ?_⟩
    rw [this]; exact SlF.nil
theorem b4_ok : OkB B4 := by
  intro x hx n hn
  simp [B4] at hx
  rcases hx with rfl | rfl | rfl | rfl <;> simp [nextL] at hn <;> simp [B4] <;> omega
theorem b4_order : orderM B4 = [0, 1, 2, 3] := by decide
theorem b4_ahead : aheadM B4 3 = [1, 2] := by decide
theorem s10 {h : H} : CallsA Tryd.prog 10 (fun _ => []) [] h (Ret fun r h' => h.le h' ∧ r = .bool true) := by
  refine c10 (G := []) trivial ?_
  intro b0 hb0
  have q0 : h.le (h.put b0 (.cells cells4.toArray 36 (0, 0))) := H.le_put hb0
  have hB4 : BlksAt (h.put b0 (.cells cells4.toArray 36 (0, 0))) (.slice (some ⟨b0, 0, none⟩) 4 4) B4 := b4_at
  show holds _ _ _ [.slice (some ⟨b0, 0, none⟩) 4 4] [] (h.put b0 (.cells cells4.toArray 36 (0, 0)))
  generalize h.put b0 (.cells cells4.toArray 36 (0, 0)) = g0 at q0 hB4
  refine h_call0 (s41 hB4 b4_ok (by decide) (by decide)) ?_
  rintro vo g1 ⟨hl1, ho⟩
  rw [b4_order] at ho
  refine ⟨[vo], ⟨ho.fit, trivial⟩, rfl, ?_⟩
  intro b1 hb1
  have q1 : g1.le (g1.put b1 (.cells ([0, 1, 2, 3].map (Value.int .i64)).toArray 3 (0, 0))) := H.le_put hb1
  have hi1 : IntsAt (g1.put b1 (.cells ([0, 1, 2, 3].map (Value.int .i64)).toArray 3 (0, 0))) (.slice (some ⟨b1, 0, none⟩) 4 4) [0, 1, 2, 3] := OwnInts.ints (own_new (l := [0, 1, 2, 3]) hb1)
  show holds _ _ _ [.slice (some ⟨b0, 0, none⟩) 4 4, vo, .slice (some ⟨b1, 0, none⟩) 4 4] [] (g1.put b1 (.cells ([0, 1, 2, 3].map (Value.int .i64)).toArray 3 (0, 0)))
  generalize g1.put b1 (.cells ([0, 1, 2, 3].map (Value.int .i64)).toArray 3 (0, 0)) = g2 at q1 hi1
  refine h_call0 (s40 (ho.le q1) hi1 (by simp)) ?_
  rintro _ g3 ⟨e3, rfl⟩
  have e3' := e3.symm
  subst e3'
  refine ⟨[.bool true], ⟨⟨_, rfl⟩, trivial⟩, rfl, ⟨fun _ => ?_, fun hc => by cases hc⟩⟩
  have hB5 := SlAt.le blkC_mono (hl1.trans q1) hB4
  refine h_call0 (s42 hB5 b4_ok (by decide)) ?_
  rintro va g4 ⟨hl4, ha⟩
  refine ⟨[va], ⟨ha.fit, trivial⟩, rfl, ?_⟩
  have hal := ha.len
  obtain ⟨cs, ⟨u, rfl, hu⟩, hr⟩ := ha.get 3 [1, 2] (by rw [← b4_ahead]; rfl)
  refine ⟨fun _ => ⟨rfl, by show cmpOp .lss 3 ((vlen va : Nat) : Int) = true; rw [hal]; rfl, trivial⟩, h_load [u] ⟨hu.fit, trivial⟩ (fun _ => hr) ?_⟩
  intro b5 hb5
  have q5 : g4.le (g4.put b5 (.cells ([1, 2].map (Value.int .i64)).toArray 3 (0, 0))) := H.le_put hb5
  have hi5 : IntsAt (g4.put b5 (.cells ([1, 2].map (Value.int .i64)).toArray 3 (0, 0))) (.slice (some ⟨b5, 0, none⟩) 2 2) [1, 2] := OwnInts.ints (own_new (l := [1, 2]) hb5)
  refine h_call0 (s40 (hu.le q5) hi5 (by simp)) ?_
  rintro _ g6 ⟨e6, rfl⟩
  refine ⟨[.bool true], ⟨⟨_, rfl⟩, trivial⟩, rfl, rfl, ?_, rfl⟩
  rw [e6]
  exact ((q0.trans hl1).trans q1).trans (hl4.trans q5)
end Go.Proofs.YtgcaicdmjbkplaaDoor
