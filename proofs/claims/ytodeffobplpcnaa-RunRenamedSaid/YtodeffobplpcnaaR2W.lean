/-
  Instructions and ends renamed in place, within blocks of one's own. Conditions: as the lemmas say.
-/
import Derived.Test.YtodeffobplpcnaaR2Ren
import Derived.Test.YtodeffobplpcnaaR2Q
import Derived.Test.YtodeffobplpcnaaR2Lr
set_option linter.unusedVariables false
set_option linter.unusedSimpArgs false
namespace Go.Proofs.Ytodeffobplpcnaa
open Go

def asM (u v x : Int) : Int := if x = u then v else if x = v then u else x
theorem s28k {h : H} (x u v : Int) : CallsA Try.prog 28 (fun e => [.int .i64 x, (e 1).ptr 0, (e 0).ptr 0]) [[.int .i64 v], [.int .i64 u]] h (fun r cs h' => cs = [[.int .i64 v], [.int .i64 u]] ∧ r = .int .i64 (asM u v x) ∧ h' = h) := by
  refine c28k (G := [.int .i64 x, .int .i64 v, .int .i64 u]) ⟨⟨_, rfl⟩, ⟨_, rfl⟩, ⟨_, rfl⟩, trivial⟩ ?_
  refine h_ite (fun hc => ?_) (fun hc => h_ite (fun hc2 => ?_) (fun hc2 => ?_))
  · replace hc : cmpOp .eql x u = true := hc
    rw [cmp_eql, decide_eq_true_eq] at hc
    exact ⟨rfl, by unfold asM; rw [if_pos hc]; rfl, rfl⟩
  · replace hc : cmpOp .eql x u = false := hc
    replace hc2 : cmpOp .eql x v = true := hc2
    rw [cmp_eql, decide_eq_false_iff_not] at hc
    rw [cmp_eql, decide_eq_true_eq] at hc2
    exact ⟨rfl, by unfold asM; rw [if_neg hc, if_pos hc2]; rfl, rfl⟩
  · replace hc : cmpOp .eql x u = false := hc
    replace hc2 : cmpOp .eql x v = false := hc2
    rw [cmp_eql, decide_eq_false_iff_not] at hc hc2
    exact ⟨rfl, by unfold asM; rw [if_neg hc, if_neg hc2]; rfl, rfl⟩
theorem s28j {h : H} (x u v : Int) : CallsA Try.prog 28 (fun e => [.int .i64 x, (e 0).ptr 0, (e 1).ptr 0]) [[.int .i64 u], [.int .i64 v]] h (fun r cs h' => cs = [[.int .i64 u], [.int .i64 v]] ∧ r = .int .i64 (asM u v x) ∧ h' = h) := by
  refine c28j (G := [.int .i64 x, .int .i64 u, .int .i64 v]) ⟨⟨_, rfl⟩, ⟨_, rfl⟩, ⟨_, rfl⟩, trivial⟩ ?_
  refine h_ite (fun hc => ?_) (fun hc => h_ite (fun hc2 => ?_) (fun hc2 => ?_))
  · replace hc : cmpOp .eql x u = true := hc
    rw [cmp_eql, decide_eq_true_eq] at hc
    exact ⟨rfl, by unfold asM; rw [if_pos hc]; rfl, rfl⟩
  · replace hc : cmpOp .eql x u = false := hc
    replace hc2 : cmpOp .eql x v = true := hc2
    rw [cmp_eql, decide_eq_false_iff_not] at hc
    rw [cmp_eql, decide_eq_true_eq] at hc2
    exact ⟨rfl, by unfold asM; rw [if_neg hc, if_pos hc2]; rfl, rfl⟩
  · replace hc : cmpOp .eql x u = false := hc
    replace hc2 : cmpOp .eql x v = false := hc2
    rw [cmp_eql, decide_eq_false_iff_not] at hc hc2
    exact ⟨rfl, by unfold asM; rw [if_neg hc, if_neg hc2]; rfl, rfl⟩
/-- One of two. -/
def sx {α : Type} (s : Bool) (a b : α) : α := cond s b a
def asC (s : Bool) (x cv cu : Nat) (k : Out) : Out := (.call 28 [(.int .i64 (.var x)), (.loc 12 0), (.loc 13 0)] (sx s [13, 12] [12, 13]) (sx s [[(.int .i64 (.var cv))], [(.int .i64 (.var cu))]] [[(.int .i64 (.var cu))], [(.int .i64 (.var cv))]]) [[.int .i64], [.int .i64]] [(false, [.int .i64])] k)
theorem h_as {s : Bool} {R : Value → List (List Value) → H → Prop} {G : List Value} {L : Lv} {h : H} {k : Out} {x a b : Nat} {z v u : Int} (ex : gv G x = .int .i64 z) (ea : gv G a = .int .i64 v) (eb : gv G b = .int .i64 u)
    (hk : holds Try.prog R k (G ++ [.int .i64 (sx s v u), .int .i64 (sx s u v), .int .i64 (asM u v z)]) L h) :
    holds Try.prog R (asC s x a b k) G L h := by
  show CallsA _ _ _ _ _ _
  cases s with
  | false =>
    have hc := s28k (h := h) z u v
    simp only [sx, cond, List.map_cons, List.map_nil, SV.denL, SV.den, X.den, ex, ea, eb, vi_int]
    refine CallsA.mono hc ?_
    rintro r cs h' ⟨rfl, rfl, rfl⟩
    exact ⟨[.int .i64 (asM u v z)], ⟨⟨_, rfl⟩, trivial⟩, rfl, ⟨⟨⟨_, rfl⟩, trivial⟩, ⟨⟨_, rfl⟩, trivial⟩, trivial⟩, hk⟩
  | true =>
    have hc := s28j (h := h) z u v
    simp only [sx, cond, List.map_cons, List.map_nil, SV.denL, SV.den, X.den, ex, ea, eb, vi_int]
    refine CallsA.mono hc ?_
    rintro r cs h' ⟨rfl, rfl, rfl⟩
    exact ⟨[.int .i64 (asM u v z)], ⟨⟨_, rfl⟩, trivial⟩, rfl, ⟨⟨⟨_, rfl⟩, trivial⟩, ⟨⟨_, rfl⟩, trivial⟩, trivial⟩, hk⟩

/-- The view of one instruction that has become y. -/
def VZ (h : H) (v : Value) (bs : List Blk) (fp : List Nat) (i : Nat) (x : Blk) (w : Value) (j : Nat) (q : Value) (y : Ins) : Prop :=
  View h v (bs.set i ⟨x.ins.set j y, x.en⟩) fp i ⟨x.ins.set j y, x.en⟩ w j y q
section
variable {h : H} {v : Value} {bs : List Blk} {fp : List Nat} {i : Nat} {x : Blk} {w : Value} {j : Nat} {q : Value} {y : Ins}
theorem VZ.of (V : View h v bs fp i x w j y q) : VZ h v bs fp i x w j q y := by
  have e1 : x.ins.set j y = x.ins := by
    obtain ⟨h1, h2⟩ := List.getElem?_eq_some_iff.1 V.getI
    rw [← h2]; simp
  have e2 : bs.set i x = bs := by
    obtain ⟨h1, h2⟩ := List.getElem?_eq_some_iff.1 V.getB
    rw [← h2]; simp
  unfold VZ
  rw [e1]
  show View h v (bs.set i x) fp i x w j y q
  rw [e2]; exact V
theorem VZ.set (V : VZ h v bs fp i x w j q y) {o : Nat} {w0 w1 : Value} {A C : List Value} {y' : Ins} (h1 : insC y q = A ++ [w0] ++ C) (ho : A.length = o) (h2 : A ++ [w1] ++ C = insC y' q) (ha : y'.args = y.args) :
    Writable h ((vaddr w).add (j * 7 + o)) 1 ∧ VZ (h.sets ((vaddr w).add (j * 7 + o)) [w1]) v bs fp i x w j q y' ∧ KeptH h (h.sets ((vaddr w).add (j * 7 + o)) [w1]) fp := by
  obtain ⟨k1, k2, k3⟩ := View.set V h1 ho h2 ha
  refine ⟨k1, ?_, k3⟩
  unfold VZ; simpa only [List.set_set] using k2
theorem VZ.arg (V : VZ h v bs fp i x w j q y) {a : Nat} {z z' : Int} (hz : y.args[a]? = some z) :
    Writable h ((vaddr q).add a) 1 ∧ VZ (h.sets ((vaddr q).add a) [.int .i64 z']) v bs fp i x w j q { y with args := y.args.set a z' } ∧ KeptH h (h.sets ((vaddr q).add a) [.int .i64 z']) fp := by
  obtain ⟨k1, k2, k3⟩ := View.arg V (z' := z') hz
  refine ⟨k1, ?_, k3⟩
  unfold VZ; simpa only [List.set_set] using k2
theorem VZ.cell (V : VZ h v bs fp i x w j q y) {o : Nat} {c : Value} (hc : (insC y q)[o]? = some c) : Reads h ((vaddr w).add (j * 7 + o)) [c] := by
  obtain ⟨_, _, _, _, _, _, _, _, _, K, K2⟩ := V
  exact K2.reads fun k u hk => by obtain ⟨rfl, rfl⟩ := get_one hk; exact hc
theorem VZ.args (V : VZ h v bs fp i x w j q y) : IntsAt h q y.args := View.argsAt V
end
/-- Where the named values stand. -/
structure AtG (G : List Value) (m cv cu : Nat) (w : Value) (j : Nat) (v u : Int) : Prop where
  len : G.length = m
  g24 : gv G 24 = w
  g21 : gv G 21 = .int .i64 (j : Int)
  ev : gv G cv = .int .i64 v
  eu : gv G cu = .int .i64 u
  l24 : 24 < m
  lv : cv < m
  lu : cu < m
section
variable {s : Bool} {R : Value → List (List Value) → H → Prop} {J0 J1 : List Value → H → Prop} {G : List Value} {m cv cu : Nat} {w : Value} {j : Nat} {v u : Int} {h : H} {b : Value} {bs : List Blk} {fp : List Nat} {i : Nat} {x : Blk} {q : Value} {y : Ins}
theorem AtG.hi (A : AtG G m cv cu w j v u) {D : List Value} (k : Nat) {c : Value} (hc : gv D k = c) : gv (G ++ D) (m + k) = c := (gv_at (by rw [A.len])).trans hc
theorem AtG.pe (A : AtG G m cv cu w j v u) (D : List Value) (o : Nat) : PE.den (G ++ D) (.fld (.idx (.var 24) (.var 21) 7) o) = (vaddr w).add (j * 7 + o) := by
  simp only [PE.den, X.den, gv_of_lt (D := D) (show 24 < G.length by rw [A.len]; exact A.l24), gv_of_lt (D := D) (show 21 < G.length by rw [A.len]; have := A.l24; omega), A.g24, A.g21, vi_int, Int.toNat_natCast, add_add]
theorem AtG.pe0 (A : AtG G m cv cu w j v u) (o : Nat) : PE.den G (.fld (.idx (.var 24) (.var 21) 7) o) = (vaddr w).add (j * 7 + o) := by
  have := A.pe [] o; rwa [List.append_nil] at this
theorem AtG.dv (A : AtG G m cv cu w j v u) (D : List Value) : gv (G ++ D) cv = .int .i64 v := by rw [gv_of_lt (by rw [A.len]; exact A.lv)]; exact A.ev
theorem AtG.du (A : AtG G m cv cu w j v u) (D : List Value) : gv (G ++ D) cu = .int .i64 u := by rw [gv_of_lt (by rw [A.len]; exact A.lu)]; exact A.eu
theorem AtG.dj (A : AtG G m cv cu w j v u) (D : List Value) : gv (G ++ D) 21 = .int .i64 (j : Int) := by rw [gv_of_lt (by rw [A.len]; have := A.l24; omega)]; exact A.g21
theorem AtG.more (A : AtG G m cv cu w j v u) (D : List Value) {m' : Nat} (h : m' = m + D.length) : AtG (G ++ D) m' cv cu w j v u :=
  ⟨by rw [List.length_append, A.len, h], by rw [gv_of_lt (by rw [A.len]; exact A.l24)]; exact A.g24, A.dj D, A.dv D, A.du D, by have := A.l24; omega, by have := A.lv; omega, by have := A.lu; omega⟩
theorem AtG.as (s : Bool) (A : AtG G m cv cu w j v u) (D : List Value) {z : Int} {m' cv' cu' : Nat} (h1 : cv' = m + sx s D.length (D.length + 1)) (h2 : cu' = m + sx s (D.length + 1) D.length) (h : m' = m + D.length + 3) : AtG (G ++ (D ++ [.int .i64 (sx s v u), .int .i64 (sx s u v), .int .i64 z])) m' cv' cu' w j v u := by
  refine ⟨by rw [List.length_append, A.len, h, List.length_append]; simp; omega, by rw [gv_of_lt (by rw [A.len]; exact A.l24)]; exact A.g24, A.dj _, ?_, ?_, by have := A.l24; omega, ?_, ?_⟩
  · rw [h1]; cases s <;> simp only [sx, cond]
    · exact A.hi _ (gv_at (j := 0) (by omega))
    · exact A.hi _ (gv_at (j := 1) (by omega))
  · rw [h2]; cases s <;> simp only [sx, cond]
    · exact A.hi _ (gv_at (j := 1) (by omega))
    · exact A.hi _ (gv_at (j := 0) (by omega))
  · rw [h1]; cases s <;> simp only [sx, cond] <;> omega
  · rw [h2]; cases s <;> simp only [sx, cond] <;> omega
def argsT (s : Bool) (n cv cu : Nat) : Out :=
  (.load (.tt true) (.fld (.idx (.var 24) (.var 21) 7) 6) [.sl]
  (.loop 2 [(.int .i64 (.lit 0)), (.int .i64 (.var cv)), (.int .i64 (.var cu))] [.int .i64, .int .i64, .int .i64]
   (.ite (.cmp .lss (.var (n + 1)) (.len (n + 0)))
    (.load (.tt true) (.fld (.idx (.var 24) (.var 21) 7) 6) [.sl]
    (.load (.tt true) (.fld (.idx (.var 24) (.var 21) 7) 6) [.sl]
    (.need (.tt true) [(.cmp .geq (.var (n + 1)) (.lit 0)), (.cmp .lss (.var (n + 1)) (.len (n + 5)))]
    (.load (.tt true) (.idx (.var (n + 5)) (.var (n + 1)) 1) [.int .i64]
    (asC s (n + 6) (n + 2) (n + 3)
    (.still (.tt true) (.fld (.idx (.var 24) (.var 21) 7) 6) [(.val (n + 5))]
    (.still (.tt true) (.fld (.idx (.var 24) (.var 21) 7) 6) [(.val (n + 4))]
    (.need (.tt true) [(.cmp .geq (.var (n + 1)) (.lit 0)), (.cmp .lss (.var (n + 1)) (.len (n + 4)))]
    (.store (.idx (.var (n + 4)) (.var (n + 1)) 1) [(.int .i64 (.var (n + 9)))]
    (.again 2 [(.int .i64 (.op .add .i64 (.var (n + 1)) (.lit 1))), (.int .i64 (.var (n + sx s 7 8))), (.int .i64 (.var (n + sx s 8 7)))]))))))))))
    (.again 1 [(.int .i64 (.op .add .i64 (.var 21) (.lit 1))), (.int .i64 (.var (n + 2))), (.int .i64 (.var (n + 3)))]))))
theorem args_holds (A : AtG G m cv cu w j v u) (V : VZ h b bs fp i x w j q y) (hal : y.args.length ≤ 1000) (hj : j < 1000)
    (HJ : ∀ h', VZ h' b bs fp i x w j q { y with args := y.args.map (asM u v) } → KeptH h h' fp → J1 [.int .i64 ((j + 1 : Nat) : Int), .int .i64 v, .int .i64 u] h') :
    holds Try.prog R (argsT s m cv cu) G [J0, J1] h := by
  have hqf := V.args.fit
  have hql := V.args.len
  have rq : ∀ {h' : H} {y' : Ins} (V' : VZ h' b bs fp i x w j q y'), Reads h' ((vaddr w).add (j * 7 + 6)) [q] := fun V' => V'.cell rfl
  refine h_load [q] ⟨hqf, trivial⟩ (fun _ => by rw [A.pe0]; exact rq V) ?_
  refine h_loop (fun xs h' => ∃ a : Nat, xs = [.int .i64 (a : Int), .int .i64 v, .int .i64 u] ∧ a ≤ y.args.length ∧ VZ h' b bs fp i x w j q { y with args := modL (asM u v) a y.args } ∧ KeptH h h' fp)
    (fun xs h' => y.args.length - (vi (gv xs 0)).toNat) ⟨0, ?_, Nat.zero_le _, V, KeptH.refl _ _⟩ ?_
  · simp only [SV.denL, SV.den, X.den, A.dv, A.du, vi_int]; rfl
  rintro xs h' J - ⟨a, rfl, ha, V', hk⟩ hJ
  simp only [List.append_assoc, List.cons_append, List.nil_append]
  have f0 : ∀ D : List Value, gv (G ++ (q :: .int .i64 (a : Int) :: .int .i64 v :: .int .i64 u :: D)) (m + 0) = q := fun D => A.hi 0 rfl
  have f1 : ∀ D : List Value, gv (G ++ (q :: .int .i64 (a : Int) :: .int .i64 v :: .int .i64 u :: D)) (m + 1) = .int .i64 (a : Int) := fun D => A.hi 1 rfl
  refine h_ite (fun hc => ?_) (fun hc => ?_)
  · simp only [X.den, f0, f1, hql, vb_bool, vi_int, cmp_lss, decide_eq_true_eq] at hc
    have hlt : a < y.args.length := by omega
    have hz : y.args[a]? = some y.args[a] := List.getElem?_eq_getElem hlt
    generalize y.args[a] = z at hz
    have hz' : (modL (asM u v) a y.args)[a]? = some z := modL_get _ hz
    have hnd : ∀ {D : List Value} {k : Nat}, gv (G ++ (q :: .int .i64 (a : Int) :: .int .i64 v :: .int .i64 u :: D)) (m + k) = q → needs (G ++ (q :: .int .i64 (a : Int) :: .int .i64 v :: .int .i64 u :: D)) [(.cmp .geq (.var (m + 1)) (.lit 0)), (.cmp .lss (.var (m + 1)) (.len (m + k)))] := fun {D k} e => by
      simp only [needs, X.den, f1, e, hql, vb_bool, vi_int, and_true]
      exact ⟨ge0 _, ltN hlt⟩
    refine h_load [q] ⟨hqf, trivial⟩ (fun _ => by rw [A.pe]; exact rq V') (h_load [q] ⟨hqf, trivial⟩ (fun _ => by rw [List.append_assoc, A.pe]; exact rq V') ?_)
    simp only [List.append_assoc, List.cons_append, List.nil_append]
    refine ⟨fun _ => hnd (A.hi 5 rfl), h_load [.int .i64 z] ⟨⟨_, rfl⟩, trivial⟩ (fun _ => ?_) ?_⟩
    · have := V'.args.read hz'
      simp only [PE.den, X.den, f1, A.hi (D := q :: .int .i64 (a : Int) :: .int .i64 v :: .int .i64 u :: q :: q :: []) 5 rfl, vi_int, Int.toNat_natCast]
      exact this
    simp only [List.append_assoc, List.cons_append, List.nil_append]
    refine h_as (z := z) (v := v) (u := u) (A.hi 6 rfl) (A.hi 2 rfl) (A.hi 3 rfl) ?_
    simp only [List.append_assoc, List.cons_append, List.nil_append]
    refine ⟨fun _ => ?_, fun _ => ?_, fun _ => hnd (A.hi 4 rfl), ?_⟩
    · rw [A.pe]; simp only [SV.denL, SV.den, A.hi (D := q :: .int .i64 (a : Int) :: .int .i64 v :: .int .i64 u :: q :: q :: .int .i64 z :: .int .i64 (sx s v u) :: .int .i64 (sx s u v) :: .int .i64 (asM u v z) :: []) 5 rfl]; exact rq V'
    · rw [A.pe]; simp only [SV.denL, SV.den, A.hi (D := q :: .int .i64 (a : Int) :: .int .i64 v :: .int .i64 u :: q :: q :: .int .i64 z :: .int .i64 (sx s v u) :: .int .i64 (sx s u v) :: .int .i64 (asM u v z) :: []) 4 rfl]; exact rq V'
    obtain ⟨k1, k2, k3⟩ := V'.arg (z' := asM u v z) hz'
    refine h_store ((vaddr q).add a) [.int .i64 (asM u v z)] ?_ ?_ k1 ?_
    · simp only [PE.den, X.den, f1, A.hi (D := q :: .int .i64 (a : Int) :: .int .i64 v :: .int .i64 u :: q :: q :: .int .i64 z :: .int .i64 (sx s v u) :: .int .i64 (sx s u v) :: .int .i64 (asM u v z) :: []) 4 rfl, vi_int, Int.toNat_natCast, Nat.mul_one] <;> rfl
    · simp only [SV.denL, SV.den, X.den, A.hi (D := q :: .int .i64 (a : Int) :: .int .i64 v :: .int .i64 u :: q :: q :: .int .i64 z :: .int .i64 (sx s v u) :: .int .i64 (sx s u v) :: .int .i64 (asM u v z) :: []) 9 rfl, vi_int] <;> rfl
    show J _ _
    have f7 : gv (G ++ (q :: .int .i64 (a : Int) :: .int .i64 v :: .int .i64 u :: q :: q :: .int .i64 z :: .int .i64 (sx s v u) :: .int .i64 (sx s u v) :: .int .i64 (asM u v z) :: [])) (m + sx s 7 8) = .int .i64 v := A.hi _ (by cases s <;> rfl)
    have f8 : gv (G ++ (q :: .int .i64 (a : Int) :: .int .i64 v :: .int .i64 u :: q :: q :: .int .i64 z :: .int .i64 (sx s v u) :: .int .i64 (sx s u v) :: .int .i64 (asM u v z) :: [])) (m + sx s 8 7) = .int .i64 u := A.hi _ (by cases s <;> rfl)
    simp only [SV.denL, SV.den, X.den, f1, f7, f8, vi_int]
    rw [int_add_one (n := 1000) (by omega) (by omega)]
    refine hJ _ _ ⟨a + 1, rfl, by omega, ?_, hk.trans k3⟩ ?_
    · have e := modL_set (asM u v) hz
      rw [← e]; exact k2
    · simp only [gv_zero, vi_int]; omega
  · simp only [X.den, f0, f1, hql, vb_bool, vi_int, cmp_lss, decide_eq_false_iff_not] at hc
    have hae : a = y.args.length := by omega
    subst hae
    rw [modL_all] at V'
    show J1 _ _
    simp only [SV.denL, SV.den, X.den, A.dj, A.hi (D := q :: .int .i64 (y.args.length : Int) :: .int .i64 v :: .int .i64 u :: []) 2 rfl, A.hi (D := q :: .int .i64 (y.args.length : Int) :: .int .i64 v :: .int .i64 u :: []) 3 rfl, vi_int]
    rw [int_add_one (n := 1000) (by omega) (by omega)]
    exact HJ _ V' hk
def bT (s : Bool) (m cv cu : Nat) : Out :=
  (.load (.tt true) (.fld (.idx (.var 24) (.var 21) 7) 0) [.int .u8]
  (.load (.not (.cmp .eql (.var (m + 0)) (.lit 3))) (.fld (.idx (.var 24) (.var 21) 7) 0) [.int .u8]
  (.ite (.ite (.cmp .eql (.var (m + 0)) (.lit 3)) (.tt true) (.cmp .eql (.var (m + 1)) (.lit 5)))
   (.load (.tt true) (.fld (.idx (.var 24) (.var 21) 7) 4) [.int .i64]
   (asC s (m + 2) cv cu
   (.store (.fld (.idx (.var 24) (.var 21) 7) 4) [(.int .i64 (.var (m + 5)))]
   (argsT s (m + 6) (m + sx s 3 4) (m + sx s 4 3)))))
   (argsT s (m + 2) cv cu))))
theorem b_holds (A : AtG G m cv cu w j v u) (V : VZ h b bs fp i x w j q y) (hal : y.args.length ≤ 1000) (hj : j < 1000)
    (HJ : ∀ h', VZ h' b bs fp i x w j q { y with b := if y.kind = 3 ∨ y.kind = 5 then asM u v y.b else y.b, args := y.args.map (asM u v) } → KeptH h h' fp → J1 [.int .i64 ((j + 1 : Nat) : Int), .int .i64 v, .int .i64 u] h') :
    holds Try.prog R (bT s m cv cu) G [J0, J1] h := by
  refine h_load [.int .u8 y.kind] ⟨⟨_, rfl⟩, trivial⟩ (fun _ => by rw [A.pe0]; exact V.cell rfl) (h_load [.int .u8 y.kind] ⟨⟨_, rfl⟩, trivial⟩ (fun _ => by rw [A.pe]; exact V.cell rfl) ?_)
  simp only [List.append_assoc, List.cons_append, List.nil_append]
  have g0 : ∀ D : List Value, gv (G ++ (.int .u8 y.kind :: D)) (m + 0) = .int .u8 y.kind := fun D => A.hi 0 rfl
  have g1 : ∀ D : List Value, gv (G ++ (.int .u8 y.kind :: .int .u8 y.kind :: D)) (m + 1) = .int .u8 y.kind := fun D => A.hi 1 rfl
  refine h_ite (fun hc => ?_) (fun hc => ?_)
  · simp only [X.den, g0, g1, vb_ite, vb_bool, vi_int, cmp_eql, decide_eq_true_eq] at hc
    have hk : y.kind = 3 ∨ y.kind = 5 := by
      by_cases h3 : y.kind = 3
      · exact .inl h3
      · rw [if_neg h3] at hc; exact .inr (of_decide_eq_true hc)
    rw [if_pos hk] at HJ
    refine h_load [.int .i64 y.b] ⟨⟨_, rfl⟩, trivial⟩ (fun _ => by rw [A.pe]; exact V.cell rfl) ?_
    simp only [List.append_assoc, List.cons_append, List.nil_append]
    refine h_as (z := y.b) (v := v) (u := u) (A.hi 2 rfl) (A.dv _) (A.du _) ?_
    simp only [List.append_assoc, List.cons_append, List.nil_append]
    obtain ⟨k1, k2, k3⟩ := V.set (o := 4) (w0 := .int .i64 y.b) (w1 := .int .i64 (asM u v y.b)) (A := [.int .u8 y.kind, .int .u8 y.op, .int .i64 y.d, .int .i64 y.a]) (C := [.int .i64 y.n, q]) (y' := { y with b := asM u v y.b }) rfl rfl rfl rfl
    refine h_store _ [.int .i64 (asM u v y.b)] (A.pe _ 4) ?_ k1 ?_
    · simp only [SV.denL, SV.den, X.den, A.hi (D := .int .u8 y.kind :: .int .u8 y.kind :: .int .i64 y.b :: .int .i64 (sx s v u) :: .int .i64 (sx s u v) :: .int .i64 (asM u v y.b) :: []) 5 rfl, vi_int] <;> rfl
    exact args_holds (A.as s [.int .u8 y.kind, .int .u8 y.kind, .int .i64 y.b] (z := asM u v y.b) (m' := m + 6) (cv' := m + sx s 3 4) (cu' := m + sx s 4 3) rfl rfl rfl) k2 hal hj fun h' V' hk' => HJ h' V' (k3.trans hk')
  · simp only [X.den, g0, g1, vb_ite, vb_bool, vi_int, cmp_eql] at hc
    have hk : ¬ (y.kind = 3 ∨ y.kind = 5) := by
      by_cases h3 : y.kind = 3
      · rw [if_pos (by simpa using h3)] at hc; cases hc
      · rw [if_neg (by simpa using h3)] at hc; have := of_decide_eq_false hc; omega
    rw [if_neg hk] at HJ
    exact args_holds (A.more [.int .u8 y.kind, .int .u8 y.kind] (m' := m + 2) rfl) V hal hj HJ
def aT (s : Bool) (m cv cu : Nat) : Out :=
  (.load (.tt true) (.fld (.idx (.var 24) (.var 21) 7) 0) [.int .u8]
  (.load (.cmp .neq (.var (m + 0)) (.lit 1)) (.fld (.idx (.var 24) (.var 21) 7) 0) [.int .u8]
  (.ite (.ite (.cmp .neq (.var (m + 0)) (.lit 1)) (.cmp .neq (.var (m + 1)) (.lit 6)) (.tt false))
   (.load (.tt true) (.fld (.idx (.var 24) (.var 21) 7) 3) [.int .i64]
   (asC s (m + 2) cv cu
   (.store (.fld (.idx (.var 24) (.var 21) 7) 3) [(.int .i64 (.var (m + 5)))]
   (bT s (m + 6) (m + sx s 3 4) (m + sx s 4 3)))))
   (bT s (m + 2) cv cu))))
theorem a_holds (A : AtG G m cv cu w j v u) (V : VZ h b bs fp i x w j q y) (hal : y.args.length ≤ 1000) (hj : j < 1000)
    (HJ : ∀ h', VZ h' b bs fp i x w j q { y with a := if y.kind ≠ 1 ∧ y.kind ≠ 6 then asM u v y.a else y.a, b := if y.kind = 3 ∨ y.kind = 5 then asM u v y.b else y.b, args := y.args.map (asM u v) } → KeptH h h' fp → J1 [.int .i64 ((j + 1 : Nat) : Int), .int .i64 v, .int .i64 u] h') :
    holds Try.prog R (aT s m cv cu) G [J0, J1] h := by
  refine h_load [.int .u8 y.kind] ⟨⟨_, rfl⟩, trivial⟩ (fun _ => by rw [A.pe0]; exact V.cell rfl) (h_load [.int .u8 y.kind] ⟨⟨_, rfl⟩, trivial⟩ (fun _ => by rw [A.pe]; exact V.cell rfl) ?_)
  simp only [List.append_assoc, List.cons_append, List.nil_append]
  have g0 : ∀ D : List Value, gv (G ++ (.int .u8 y.kind :: D)) (m + 0) = .int .u8 y.kind := fun D => A.hi 0 rfl
  have g1 : ∀ D : List Value, gv (G ++ (.int .u8 y.kind :: .int .u8 y.kind :: D)) (m + 1) = .int .u8 y.kind := fun D => A.hi 1 rfl
  refine h_ite (fun hc => ?_) (fun hc => ?_)
  · simp only [X.den, g0, g1, vb_ite, vb_bool, vi_int, cmp_neq, decide_eq_true_eq] at hc
    have hk : y.kind ≠ 1 ∧ y.kind ≠ 6 := by
      by_cases h3 : y.kind = 1
      · rw [if_neg (by simpa using h3)] at hc; cases hc
      · rw [if_pos h3] at hc; exact ⟨h3, of_decide_eq_true hc⟩
    rw [if_pos hk] at HJ
    refine h_load [.int .i64 y.a] ⟨⟨_, rfl⟩, trivial⟩ (fun _ => by rw [A.pe]; exact V.cell rfl) ?_
    simp only [List.append_assoc, List.cons_append, List.nil_append]
    refine h_as (z := y.a) (v := v) (u := u) (A.hi 2 rfl) (A.dv _) (A.du _) ?_
    simp only [List.append_assoc, List.cons_append, List.nil_append]
    obtain ⟨k1, k2, k3⟩ := V.set (o := 3) (w0 := .int .i64 y.a) (w1 := .int .i64 (asM u v y.a)) (A := [.int .u8 y.kind, .int .u8 y.op, .int .i64 y.d]) (C := [.int .i64 y.b, .int .i64 y.n, q]) (y' := { y with a := asM u v y.a }) rfl rfl rfl rfl
    refine h_store _ [.int .i64 (asM u v y.a)] (A.pe _ 3) ?_ k1 ?_
    · simp only [SV.denL, SV.den, X.den, A.hi (D := .int .u8 y.kind :: .int .u8 y.kind :: .int .i64 y.a :: .int .i64 (sx s v u) :: .int .i64 (sx s u v) :: .int .i64 (asM u v y.a) :: []) 5 rfl, vi_int] <;> rfl
    exact b_holds (A.as s [.int .u8 y.kind, .int .u8 y.kind, .int .i64 y.a] (z := asM u v y.a) (m' := m + 6) (cv' := m + sx s 3 4) (cu' := m + sx s 4 3) rfl rfl rfl) k2 hal hj fun h' V' hk' => HJ h' V' (k3.trans hk')
  · simp only [X.den, g0, g1, vb_ite, vb_bool, vi_int, cmp_neq, decide_eq_true_eq] at hc
    have hk : ¬ (y.kind ≠ 1 ∧ y.kind ≠ 6) := by
      by_cases h3 : y.kind = 1
      · exact fun q => q.1 h3
      · rw [if_pos h3] at hc; exact fun q => of_decide_eq_false hc q.2
    rw [if_neg hk] at HJ
    exact b_holds (A.more [.int .u8 y.kind, .int .u8 y.kind] (m' := m + 2) rfl) V hal hj HJ
def dT (s : Bool) (m cv cu : Nat) : Out :=
  (.load (.tt true) (.fld (.idx (.var 24) (.var 21) 7) 0) [.int .u8]
  (.ite (.cmp .neq (.var (m + 0)) (.lit 5))
   (.load (.tt true) (.fld (.idx (.var 24) (.var 21) 7) 2) [.int .i64]
   (asC s (m + 1) cv cu
   (.store (.fld (.idx (.var 24) (.var 21) 7) 2) [(.int .i64 (.var (m + 4)))]
   (aT s (m + 5) (m + sx s 2 3) (m + sx s 3 2)))))
   (aT s (m + 1) cv cu)))
theorem d_holds (A : AtG G m cv cu w j v u) (V : VZ h b bs fp i x w j q y) (hal : y.args.length ≤ 1000) (hj : j < 1000)
    (HJ : ∀ h', VZ h' b bs fp i x w j q (renI (asM u v) y) → KeptH h h' fp → J1 [.int .i64 ((j + 1 : Nat) : Int), .int .i64 v, .int .i64 u] h') :
    holds Try.prog R (dT s m cv cu) G [J0, J1] h := by
  unfold renI at HJ
  refine h_load [.int .u8 y.kind] ⟨⟨_, rfl⟩, trivial⟩ (fun _ => by rw [A.pe0]; exact V.cell rfl) ?_
  have g0 : ∀ D : List Value, gv (G ++ (.int .u8 y.kind :: D)) (m + 0) = .int .u8 y.kind := fun D => A.hi 0 rfl
  refine h_ite (fun hc => ?_) (fun hc => ?_)
  · simp only [X.den, g0, vb_bool, vi_int, cmp_neq, decide_eq_true_eq] at hc
    rw [if_pos hc] at HJ
    refine h_load [.int .i64 y.d] ⟨⟨_, rfl⟩, trivial⟩ (fun _ => by rw [A.pe]; exact V.cell rfl) ?_
    simp only [List.append_assoc, List.cons_append, List.nil_append]
    refine h_as (z := y.d) (v := v) (u := u) (A.hi 1 rfl) (A.dv _) (A.du _) ?_
    simp only [List.append_assoc, List.cons_append, List.nil_append]
    obtain ⟨k1, k2, k3⟩ := V.set (o := 2) (w0 := .int .i64 y.d) (w1 := .int .i64 (asM u v y.d)) (A := [.int .u8 y.kind, .int .u8 y.op]) (C := [.int .i64 y.a, .int .i64 y.b, .int .i64 y.n, q]) (y' := { y with d := asM u v y.d }) rfl rfl rfl rfl
    refine h_store _ [.int .i64 (asM u v y.d)] (A.pe _ 2) ?_ k1 ?_
    · simp only [SV.denL, SV.den, X.den, A.hi (D := .int .u8 y.kind :: .int .i64 y.d :: .int .i64 (sx s v u) :: .int .i64 (sx s u v) :: .int .i64 (asM u v y.d) :: []) 4 rfl, vi_int] <;> rfl
    exact a_holds (A.as s [.int .u8 y.kind, .int .i64 y.d] (z := asM u v y.d) (m' := m + 5) (cv' := m + sx s 2 3) (cu' := m + sx s 3 2) rfl rfl rfl) k2 hal hj fun h' V' hk' => HJ h' V' (k3.trans hk')
  · simp only [X.den, g0, vb_bool, vi_int, cmp_neq, decide_eq_false_iff_not] at hc
    rw [if_neg hc] at HJ
    exact a_holds (A.more [.int .u8 y.kind] (m' := m + 1) rfl) V hal hj HJ
/-- The loops over the blocks. -/
def endT (s : Bool) : Out :=
  (.load (.tt true) (.fld (.fld (.idx (.var 16) (.var 17) 5) 1) 0) [.int .u8]
  (.ite (.cmp .neq (.var 24) (.lit 1))
   (.load (.tt true) (.fld (.fld (.idx (.var 16) (.var 17) 5) 1) 1) [.int .i64]
   (asC s 25 22 23
   (.store (.fld (.fld (.idx (.var 16) (.var 17) 5) 1) 1) [(.int .i64 (.var 28))]
   (.again 0 [(.int .i64 (.op .add .i64 (.var 17) (.lit 1))), (.int .i64 (.var (sx s 26 27))), (.int .i64 (.var (sx s 27 26)))]))))
   (.again 0 [(.int .i64 (.op .add .i64 (.var 17) (.lit 1))), (.int .i64 (.var 22)), (.int .i64 (.var 23))])))
def blkT (s : Bool) (fin : Out) : Out :=
  (.ite (.cmp .lss (.var 17) (.len 16))
   (.need (.tt true) [(.cmp .geq (.var 17) (.lit 0)), (.cmp .lss (.var 17) (.len 16))]
   (.load (.tt true) (.fld (.idx (.var 16) (.var 17) 5) 0) [.sl]
   (.loop 1 [(.int .i64 (.lit 0)), (.int .i64 (.var 18)), (.int .i64 (.var 19))] [.int .i64, .int .i64, .int .i64]
    (.ite (.cmp .lss (.var 21) (.len 20))
     (.load (.tt true) (.fld (.idx (.var 16) (.var 17) 5) 0) [.sl]
     (.need (.tt true) [(.cmp .geq (.var 21) (.lit 0)), (.cmp .lss (.var 21) (.len 24))]
     (dT s 25 22 23)))
     (endT s)))))
   fin)
theorem own_cell {h : H} {b : Value} {bs : List Blk} {fp : List Nat} {i : Nat} {x : Blk} (k : OwnBlks h b bs fp) (hx : bs[i]? = some x) : ∃ w, vlen w = x.ins.length ∧ Fits .sl w ∧ Reads h ((vaddr b).add (i * 5 + 0)) [w] ∧ ∀ o c, (endC x.en)[o]? = some c → Reads h ((vaddr b).add (i * 5 + (1 + o))) [c] := by
  obtain ⟨c, f, L1, L2, fr, K⟩ := k.lens hx
  obtain ⟨w, rfl, hw⟩ := K.rep
  refine ⟨w, hw.len (by omega), (SlF.at (sz := 7) (Rep := InsC) (Nat.zero_lt_succ 6) insF_at hw).fit, K.reads fun k u hk => by obtain ⟨rfl, rfl⟩ := get_one hk; rfl, fun o c hc => K.reads fun k u hk => ?_⟩
  obtain ⟨rfl, rfl⟩ := get_one hk
  rw [Nat.add_zero, Nat.add_comm 1 o]; exact hc
theorem blks_holds {R : Value → List (List Value) → H → Prop} {G : List Value} {h : H} {b : Value} {bs : List Blk} {fp : List Nat} {ini : List SV} {fin : Out} {v u : Int} (own : OwnBlks h b bs fp) (hnd : fp.Nodup) (hG : G.length = 17) (h16 : gv G 16 = b)
    (hini : SV.denL G dE ini = [.int .i64 0, .int .i64 v, .int .i64 u]) (hbl : bs.length ≤ 1000) (hsm : ∀ z ∈ bs, z.ins.length ≤ 1000 ∧ ∀ y ∈ z.ins, y.args.length ≤ 1000)
    (HF : ∀ (h' : H) (L : Lv) (k : Int), OwnBlks h' b (bs.map (renB (asM u v))) fp → KeptH h h' fp → holds Try.prog R fin (G ++ [.int .i64 k, .int .i64 v, .int .i64 u]) L h') :
    holds Try.prog R (.loop 0 ini [.int .i64, .int .i64, .int .i64] (blkT s fin)) G [] h := by
  have hvl := own.len (by omega)
  refine h_loop (fun xs h' => ∃ k : Nat, xs = [.int .i64 (k : Int), .int .i64 v, .int .i64 u] ∧ k ≤ bs.length ∧ OwnBlks h' b (modL (renB (asM u v)) k bs) fp ∧ KeptH h h' fp)
    (fun xs h' => bs.length - (vi (gv xs 0)).toNat) ⟨0, hini, Nat.zero_le _, own, KeptH.refl _ _⟩ ?_
  rintro xs h' J0 - ⟨k, rfl, hk, own', hkp⟩ hJ0
  have g16 : ∀ D : List Value, gv (G ++ D) 16 = b := fun D => by rw [gv_of_lt (by omega)]; exact h16
  have g17 : ∀ D : List Value, gv (G ++ (.int .i64 (k : Int) :: D)) 17 = .int .i64 (k : Int) := fun D => gv_at (j := 0) (by omega)
  refine h_ite (fun hc => ?_) (fun hc => ?_)
  · simp only [X.den, g16, g17, hvl, vb_bool, vi_int, cmp_lss, decide_eq_true_eq] at hc
    have hlt : k < bs.length := by omega
    have hx : bs[k]? = some bs[k] := List.getElem?_eq_getElem hlt
    have hxm : bs[k] ∈ bs := List.getElem_mem _
    generalize bs[k] = x at hx hxm
    obtain ⟨s1, s2⟩ := hsm x hxm
    have hx' : (modL (renB (asM u v)) k bs)[k]? = some x := modL_get _ hx
    obtain ⟨bs', hbs⟩ : ∃ bs', bs' = modL (renB (asM u v)) k bs := ⟨_, rfl⟩
    rw [← hbs] at hx' own'
    have pb : ∀ D : List Value, PE.den (G ++ (.int .i64 (k : Int) :: D)) (.fld (.idx (.var 16) (.var 17) 5) 0) = (vaddr b).add (k * 5 + 0) := fun D => by
      simp only [PE.den, X.den, g16, g17, vi_int, Int.toNat_natCast, add_add]
    have pe : ∀ (D : List Value) (o : Nat), PE.den (G ++ (.int .i64 (k : Int) :: D)) (.fld (.fld (.idx (.var 16) (.var 17) 5) 1) o) = (vaddr b).add (k * 5 + (1 + o)) := fun D o => by
      simp only [PE.den, X.den, g16, g17, vi_int, Int.toNat_natCast, add_add, Nat.add_assoc]
    obtain ⟨w0, w1, w2, w3, -⟩ := own_cell own' hx'
    refine ⟨fun _ => ?_, h_load [w0] ⟨w2, trivial⟩ (fun _ => by rw [pb]; exact w3) ?_⟩
    · simp only [needs, X.den, g16, g17, hvl, vb_bool, vi_int, and_true]
      exact ⟨ge0 _, ltN hlt⟩
    simp only [List.append_assoc, List.cons_append, List.nil_append]
    refine h_loop (fun xs h2 => ∃ j : Nat, xs = [.int .i64 (j : Int), .int .i64 v, .int .i64 u] ∧ j ≤ x.ins.length ∧ OwnBlks h2 b (bs'.set k ⟨modL (renI (asM u v)) j x.ins, x.en⟩) fp ∧ KeptH h h2 fp)
      (fun xs h' => x.ins.length - (vi (gv xs 0)).toNat) ⟨0, ?_, Nat.zero_le _, ?_, hkp⟩ ?_
    · have e1 : gv (G ++ [.int .i64 (k : Int), .int .i64 v, .int .i64 u, w0]) 18 = .int .i64 v := gv_at (j := 1) (by omega)
      have e2 : gv (G ++ [.int .i64 (k : Int), .int .i64 v, .int .i64 u, w0]) 19 = .int .i64 u := gv_at (j := 2) (by omega)
      simp only [SV.denL, SV.den, X.den, e1, e2, vi_int]; rfl
    · have : bs'.set k ⟨x.ins, x.en⟩ = bs' := by
        obtain ⟨h1, h2⟩ := List.getElem?_eq_some_iff.1 hx'
        show bs'.set k x = bs'
        rw [← h2]; simp
      rw [modL_zero, this]; exact own'
    rintro xs h2 J1 - ⟨j, rfl, hj, own2, hkp2⟩ hJ1
    have hx2 : (bs'.set k ⟨modL (renI (asM u v)) j x.ins, x.en⟩)[k]? = some ⟨modL (renI (asM u v)) j x.ins, x.en⟩ := by
      rw [List.getElem?_set_self]; exact (List.getElem?_eq_some_iff.1 hx').1
    simp only [List.append_assoc, List.cons_append, List.nil_append]
    have g20 : ∀ D : List Value, gv (G ++ (.int .i64 (k : Int) :: .int .i64 v :: .int .i64 u :: w0 :: .int .i64 (j : Int) :: D)) 20 = w0 := fun D => gv_at (j := 3) (by omega)
    have g21 : ∀ D : List Value, gv (G ++ (.int .i64 (k : Int) :: .int .i64 v :: .int .i64 u :: w0 :: .int .i64 (j : Int) :: D)) 21 = .int .i64 (j : Int) := fun D => gv_at (j := 4) (by omega)
    refine h_ite (fun hc2 => ?_) (fun hc2 => ?_)
    · simp only [X.den, g20, g21, w1, vb_bool, vi_int, cmp_lss, decide_eq_true_eq] at hc2
      have hlt2 : j < x.ins.length := by omega
      have hy : x.ins[j]? = some x.ins[j] := List.getElem?_eq_getElem hlt2
      have hym : x.ins[j] ∈ x.ins := List.getElem_mem _
      generalize x.ins[j] = y at hy hym
      have hy2 : (modL (renI (asM u v)) j x.ins)[j]? = some y := modL_get _ hy
      obtain ⟨w, q, V⟩ := view_of own2 hnd hx2 hy2
      have hwf := V.insAt.fit
      have hwl := V.insAt.len
      rw [modL_len] at hwl
      refine h_load [w] ⟨hwf, trivial⟩ (fun _ => by rw [pb]; exact V.blk) ⟨fun _ => ?_, ?_⟩
      · simp only [List.append_assoc, List.cons_append, List.nil_append]
        have g24 : gv (G ++ [.int .i64 (k : Int), .int .i64 v, .int .i64 u, w0, .int .i64 (j : Int), .int .i64 v, .int .i64 u, w]) 24 = w := gv_at (j := 7) (by omega)
        simp only [needs, X.den, g21, g24, hwl, vb_bool, vi_int, and_true]
        exact ⟨ge0 _, ltN hlt2⟩
      simp only [List.append_assoc, List.cons_append, List.nil_append]
      refine d_holds (m := 25) (cv := 22) (cu := 23) (w := w) (j := j) (v := v) (u := u) ⟨by simp [hG], gv_at (j := 7) (by omega), g21 _, gv_at (j := 5) (by omega), gv_at (j := 6) (by omega), by omega, by omega, by omega⟩ (VZ.of V) (s2 y hym) (by omega) fun h3 V3 k3 => ?_
      refine hJ1 _ _ ⟨j + 1, rfl, by omega, ?_, hkp2.trans k3⟩ ?_
      · have := View.own V3
        simp only [List.set_set, modL_set _ hy] at this
        exact this
      · simp only [gv_zero, vi_int]; omega
    · simp only [X.den, g20, g21, w1, vb_bool, vi_int, cmp_lss, decide_eq_false_iff_not] at hc2
      have hje : j = x.ins.length := by omega
      subst hje
      rw [modL_all] at own2 hx2
      obtain ⟨_, _, _, _, rc⟩ := own_cell own2 hx2
      refine h_load [.int .u8 x.en.kind] ⟨⟨_, rfl⟩, trivial⟩ (fun _ => by rw [pe]; exact rc 0 _ rfl) ?_
      simp only [List.append_assoc, List.cons_append, List.nil_append]
      have g22 : ∀ D : List Value, gv (G ++ (.int .i64 (k : Int) :: .int .i64 v :: .int .i64 u :: w0 :: .int .i64 (x.ins.length : Int) :: .int .i64 v :: .int .i64 u :: D)) 22 = .int .i64 v := fun D => gv_at (j := 5) (by omega)
      have g23 : ∀ D : List Value, gv (G ++ (.int .i64 (k : Int) :: .int .i64 v :: .int .i64 u :: w0 :: .int .i64 (x.ins.length : Int) :: .int .i64 v :: .int .i64 u :: D)) 23 = .int .i64 u := fun D => gv_at (j := 6) (by omega)
      have g24 : ∀ D : List Value, gv (G ++ (.int .i64 (k : Int) :: .int .i64 v :: .int .i64 u :: w0 :: .int .i64 (x.ins.length : Int) :: .int .i64 v :: .int .i64 u :: .int .u8 x.en.kind :: D)) 24 = .int .u8 x.en.kind := fun D => gv_at (j := 7) (by omega)
      have fin0 : ∀ {h3 : H} {en : Fin4}, en = renE (asM u v) x.en → OwnBlks h3 b (bs'.set k ⟨x.ins.map (renI (asM u v)), en⟩) fp → KeptH h h3 fp → J0 [.int .i64 ((k + 1 : Nat) : Int), .int .i64 v, .int .i64 u] h3 := fun {h3 en} e own3 kp3 => by
        refine hJ0 _ _ ⟨k + 1, rfl, by omega, ?_, kp3⟩ ?_
        · subst e
          rw [hbs] at own3
          have := modL_set (renB (asM u v)) hx
          rw [← this]; exact own3
        · simp only [gv_zero, vi_int]; omega
      refine h_ite (fun hc3 => ?_) (fun hc3 => ?_)
      · simp only [X.den, g24, vb_bool, vi_int, cmp_neq, decide_eq_true_eq] at hc3
        refine h_load [.int .i64 x.en.a] ⟨⟨_, rfl⟩, trivial⟩ (fun _ => by rw [pe]; exact rc 1 _ rfl) ?_
        simp only [List.append_assoc, List.cons_append, List.nil_append]
        refine h_as (z := x.en.a) (v := v) (u := u) (gv_at (j := 8) (by omega)) (g22 _) (g23 _) ?_
        simp only [List.append_assoc, List.cons_append, List.nil_append]
        obtain ⟨k1, k2, k3⟩ := blk_end own2 hnd hx2 (o := 1) (w0 := .int .i64 x.en.a) (w1 := .int .i64 (asM u v x.en.a)) (A := [.int .u8 x.en.kind]) (C := [.int .i64 x.en.to, .int .i64 x.en.el]) (en := { x.en with a := asM u v x.en.a }) rfl rfl rfl
        have g26 : ∀ z1 z2 : Value, gv (G ++ [.int .i64 (k : Int), .int .i64 v, .int .i64 u, w0, .int .i64 (x.ins.length : Int), .int .i64 v, .int .i64 u, .int .u8 x.en.kind, z1, .int .i64 (sx s v u), .int .i64 (sx s u v), z2]) (sx s 26 27) = .int .i64 v := fun _ _ => by
          cases s
          · exact gv_at (i := 26) (j := 9) (by omega)
          · exact gv_at (i := 27) (j := 10) (by omega)
        have g27 : ∀ z1 z2 : Value, gv (G ++ [.int .i64 (k : Int), .int .i64 v, .int .i64 u, w0, .int .i64 (x.ins.length : Int), .int .i64 v, .int .i64 u, .int .u8 x.en.kind, z1, .int .i64 (sx s v u), .int .i64 (sx s u v), z2]) (sx s 27 26) = .int .i64 u := fun _ _ => by
          cases s
          · exact gv_at (i := 27) (j := 10) (by omega)
          · exact gv_at (i := 26) (j := 9) (by omega)
        have g28 : ∀ z1 z2 : Value, gv (G ++ [.int .i64 (k : Int), .int .i64 v, .int .i64 u, w0, .int .i64 (x.ins.length : Int), .int .i64 v, .int .i64 u, .int .u8 x.en.kind, z1, .int .i64 (sx s v u), .int .i64 (sx s u v), z2]) 28 = z2 := fun _ _ => gv_at (j := 11) (by omega)
        refine h_store _ [.int .i64 (asM u v x.en.a)] (pe _ 1) ?_ k1 ?_
        · simp only [SV.denL, SV.den, X.den, g28, vi_int]
        show J0 _ _
        simp only [SV.denL, SV.den, X.den, g17, g26, g27, vi_int]
        rw [int_add_one (n := 1000) (by omega) (by omega)]
        simp only [List.set_set] at k2
        exact fin0 (by unfold renE; rw [if_pos hc3]) k2 (hkp2.trans k3)
      · simp only [X.den, g24, vb_bool, vi_int, cmp_neq, decide_eq_false_iff_not] at hc3
        show J0 _ _
        simp only [SV.denL, SV.den, X.den, g17, g22, g23, vi_int]
        rw [int_add_one (n := 1000) (by omega) (by omega)]
        exact fin0 (by unfold renE; rw [if_neg hc3]) own2 hkp2
  · simp only [X.den, g16, g17, hvl, vb_bool, vi_int, cmp_lss, decide_eq_false_iff_not] at hc
    have hke : k = bs.length := by omega
    subst hke
    rw [modL_all] at own'
    exact HF h' _ _ own' hkp
end
end Go.Proofs.Ytodeffobplpcnaa
