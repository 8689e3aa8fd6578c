/-
  Which numbers each block adds and which it takes away: what marks computes. Conditions: none (its arguments read as they do).
-/
import Derived.Test.YtbbicdfipheaeaaDoorR5U
import Derived.Test.YtbbicdfipheaeaaDoorR5Bs
import Derived.Test.YtbbicdfipheaeaaDoorR5C
set_option linter.unusedVariables false
set_option linter.unusedSimpArgs false
namespace Go.Proofs.YtbbicdfipheaeaaDoor
open Go

abbrev MarkAt := SlAt 1 IntsC
theorem MarkAt.le {h h' : H} (hl : h.le h') {v : Value} {T : List (List Nat)} (k : MarkAt h v T) : MarkAt h' v T := SlAt.le intsC_mono hl k
theorem markAt_of {h : H} {v : Value} {T : List (List Nat)} {f : List Nat} (k : SlF 47 1 IntF h v T f) : MarkAt h v T := k.at (by omega) intF_at
/-- The numbers that a row of bytes adds to each block, of its first i. -/
def MarkI (N : Nat) (A : List Int) (i : Nat) (T : List (List Nat)) : Prop :=
  T.length = N ∧ ∀ {b D}, T[b]? = some D → (∀ x, x ∈ D ↔ ∃ k a, k < i ∧ k < 40 ∧ A[k]? = some a ∧ k % N = b ∧ x = a.toNat % 20) ∧ D.length ≤ 40 ∧ D.length ≤ i
/-- The same, of all. -/
structure MarkR (N : Nat) (A : List Int) (T : List (List Nat)) : Prop where
  len : T.length = N
  mem : ∀ {b : Nat} {D : List Nat}, T[b]? = some D → ∀ x, x ∈ D ↔ ∃ k a, k < 40 ∧ A[k]? = some a ∧ k % N = b ∧ x = a.toNat % 20
  small : ∀ {b : Nat} {D : List Nat}, T[b]? = some D → D.length ≤ 40
theorem MarkI.zero {N : Nat} {A : List Int} : MarkI N A 0 (List.replicate N []) := by
  refine ⟨by simp, fun {b D} h => ?_⟩
  rw [List.getElem?_replicate] at h
  split at h
  · cases h; exact ⟨fun x => by simp, by simp, by simp⟩
  · cases h
theorem MarkI.skip {N i : Nat} {A : List Int} {T : List (List Nat)} (K : MarkI N A i T) (hi : 40 ≤ i) : MarkI N A (i + 1) T := by
  refine ⟨K.1, fun {b D} h => ?_⟩
  obtain ⟨h1, h2, h3⟩ := K.2 h
  refine ⟨fun x => ?_, h2, by omega⟩
  rw [h1]
  constructor
  · rintro ⟨k, a, p1, p2, p3⟩; exact ⟨k, a, by omega, p2, p3⟩
  · rintro ⟨k, a, p1, p2, p3⟩; exact ⟨k, a, by omega, p2, p3⟩
theorem MarkI.put {N i : Nat} {A : List Int} {T : List (List Nat)} {D : List Nat} {a : Int} (K : MarkI N A i T) (hi : i < 40) (ha : A[i]? = some a) (hD : T[i % N]? = some D) : MarkI N A (i + 1) (T.set (i % N) (D ++ [a.toNat % 20])) := by
  refine ⟨by rw [List.length_set]; exact K.1, fun {b E} h => ?_⟩
  rw [List.getElem?_set] at h
  split at h
  · rename_i e
    split at h
    · cases h
      obtain ⟨h1, h2, h3⟩ := K.2 hD
      refine ⟨fun x => ?_, by simp; omega, by simp; omega⟩
      rw [List.mem_append, List.mem_singleton, h1]
      constructor
      · rintro (⟨k, c, p1, p2, p3, p4, p5⟩ | rfl)
        · exact ⟨k, c, by omega, p2, p3, by rw [p4, e], p5⟩
        · exact ⟨i, a, by omega, hi, ha, e, rfl⟩
      · rintro ⟨k, c, p1, p2, p3, p4, p5⟩
        by_cases q : k = i
        · subst q; rw [ha] at p3; cases p3; exact .inr p5
        · exact .inl ⟨k, c, by omega, p2, p3, by rw [p4, e], p5⟩
    · cases h
  · rename_i e
    obtain ⟨h1, h2, h3⟩ := K.2 h
    refine ⟨fun x => ?_, h2, by omega⟩
    rw [h1]
    constructor
    · rintro ⟨k, c, p1, p2, p3, p4, p5⟩; exact ⟨k, c, by omega, p2, p3, p4, p5⟩
    · rintro ⟨k, c, p1, p2, p3, p4, p5⟩
      by_cases q : k = i
      · subst q; exact absurd p4 e
      · exact ⟨k, c, by omega, p2, p3, p4, p5⟩
theorem MarkI.done {N i : Nat} {A : List Int} {T : List (List Nat)} (K : MarkI N A i T) (hi : A.length ≤ i) : MarkR N A T := by
  refine ⟨K.1, fun {b D} h x => ?_, fun {b D} h => (K.2 h).2.1⟩
  rw [(K.2 h).1]
  constructor
  · rintro ⟨k, a, p1, p2, p3⟩; exact ⟨k, a, p2, p3⟩
  · rintro ⟨k, a, p2, p3, p4⟩
    have := (List.getElem?_eq_some_iff.1 p3).1
    exact ⟨k, a, by omega, p2, p3, p4⟩
theorem MarkR.lt {N : Nat} {A : List Int} {T : List (List Nat)} (K : MarkR N A T) {b : Nat} {D : List Nat} (h : T[b]? = some D) : ∀ x ∈ D, x < 20 := fun x hx => by
  obtain ⟨k, a, _, _, _, rfl⟩ := (K.mem h x).1 hx
  omega
theorem rem_nat {i N : Nat} (hi : i < 9223372036854775808) (hN : 1 ≤ N) : intOp .rem .i64 (i : Int) (N : Int) = ((i % N : Nat) : Int) := by
  simp only [intOp]
  have e : (i : Int).tmod N = ((i % N : Nat) : Int) := by rw [Int.tmod_eq_emod_of_nonneg (by omega)]; rfl
  exact e
theorem rem_20 {a : Int} (h0 : 0 ≤ a) (h1 : a ≤ 255) : IntKind.i64.wrap (intOp .rem .u8 a 20) = ((a.toNat % 20 : Nat) : Int) := by
  simp only [intOp]
  obtain ⟨n, rfl⟩ : ∃ n : Nat, a = n := ⟨a.toNat, by omega⟩
  have e : (n : Int).tmod 20 = ((n % 20 : Nat) : Int) := by rw [Int.tmod_eq_emod_of_nonneg (by omega)]; rfl
  rw [e, wrap_i64 (by omega) (by omega), Int.toNat_natCast]
theorem add_one_big {i : Nat} (h : i < 9223372036854775807) : intOp .add .i64 (i : Int) 1 = ((i + 1 : Nat) : Int) := by
  simp only [intOp]
  rw [wrap_i64 (by omega) (by omega)]; simp

/-- One of its loops. -/
def markT (iv src row : Nat) (k : Out) : Out :=
   (.loop 0 [(.int .i64 (.lit 0))] [.int .i64] 
    (.ite (.cmp .lss (.var iv) (.len src))
     (.need (.tt true) [(.cmp .geq (.var iv) (.lit 0)), (.cmp .lss (.var iv) (.len src))] 
     (.load (.tt true) (.idx (.var src) (.var iv) 1) [.int .u8] 
     (.ite (.cmp .lss (.var iv) (.lit 40))
      (.need (.tt true) [(.cmp .neq (.len 0) (.lit 0))] 
      (.need (.tt true) [(.cmp .neq (.len 0) (.lit 0))] 
      (.need (.tt true) [(.cmp .geq (.op .rem .i64 (.var iv) (.len 0)) (.lit 0)), (.cmp .lss (.op .rem .i64 (.var iv) (.len 0)) (.len row))] 
      (.load (.tt true) (.idx (.var row) (.op .rem .i64 (.var iv) (.len 0)) 1) [.sl] 
      (.still (.tt true) (.idx (.var row) (.op .rem .i64 (.var iv) (.len 0)) 1) [(.val (iv + 2))] 
      (.app 3 1 8 (.val (iv + 2)) (.cells [(.int .i64 (.conv .i64 (.op .rem .u8 (.var (iv + 1)) (.lit 20))))] 1) 
      (.need (.tt true) [(.cmp .geq (.op .rem .i64 (.var iv) (.len 0)) (.lit 0)), (.cmp .lss (.op .rem .i64 (.var iv) (.len 0)) (.len row))] 
      (.store (.idx (.var row) (.op .rem .i64 (.var iv) (.len 0)) 1) [(.val (iv + 3))] 
      (.again 0 [(.int .i64 (.op .add .i64 (.var iv) (.lit 1)))])))))))))
      (.again 0 [(.int .i64 (.op .add .i64 (.var iv) (.lit 1)))]))))
     k))
theorem gv_eq {G D : List Value} {i : Nat} (hi : G.length = i) (j : Nat) : gv (G ++ D) (i + j) = gv D j := by
  subst hi
  simp [gv, List.getD_eq_getElem?_getD, List.getElem?_append_right]
theorem gv_eq0 {G D : List Value} {i : Nat} (hi : G.length = i) : gv (G ++ D) i = gv D 0 := gv_eq hi 0
section
variable {R : Value → List (List Value) → H → Prop} {G : List Value} {L : Lv} {h0 h : H} {va vm : Value} {A : List Int} {N iv src row : Nat} {fT : List Nat} {k : Out}
theorem markT_holds (hiv : G.length = iv) (hs : src < iv) (hr : row < iv) (h00 : 0 < iv) (es : gv G src = va) (er : gv G row = vm) (hN : vlen (gv G 0) = N) (hN1 : 1 ≤ N) (hN2 : N ≤ 1000) (hA : BytesAt h0 va A) (hA2 : A.length ≤ 9223372036854775807) (hl : h0.le h)
    (k0 : SlF 47 1 IntF h vm (List.replicate N []) fT) (hnd : fT.Nodup) (hf : Fresh h0 fT)
    (K : ∀ h' T' fT' n L', MarkR N A T' → SlF 47 1 IntF h' vm T' fT' → fT'.Nodup → KeptH h h' fT → (∀ b ∈ fT', b ∈ fT ∨ h b = none) → holds Tryd.prog R k (G ++ [natV n]) L' h') :
    holds Tryd.prog R (markT iv src row k) G L h := by
  have hal := hA.len
  refine h_loop (fun xs h' => ∃ (i : Nat) (T : List (List Nat)) (f : List Nat), xs = [natV i] ∧ i ≤ A.length ∧ MarkI N A i T ∧ SlF 47 1 IntF h' vm T f ∧ f.Nodup ∧ KeptH h h' fT ∧ ∀ b ∈ f, b ∈ fT ∨ h b = none)
    (fun xs h' => A.length - (vi (gv xs 0)).toNat) ⟨0, _, fT, rfl, Nat.zero_le _, MarkI.zero, k0, hnd, KeptH.refl _ _, fun b hb => .inl hb⟩ ?_
  rintro xs h' J - ⟨i, T, f, rfl, hi, hT, kT, hn, hk, hff⟩ hJ
  have g0 : ∀ D, gv (G ++ D) 0 = gv G 0 := fun D => gv_of_lt (by omega)
  have g1 : ∀ D, gv (G ++ D) src = va := fun D => by rw [gv_of_lt (by omega), es]
  have g2 : ∀ D, gv (G ++ D) row = vm := fun D => by rw [gv_of_lt (by omega), er]
  have g3 : ∀ D, gv (G ++ D) iv = gv D 0 := fun D => gv_eq0 hiv
  have g4 : ∀ D j, gv (G ++ D) (iv + j) = gv D j := fun D j => gv_eq hiv j
  have hle' : h0.le h' := hk.le hl hf
  have hvml : vlen vm = N := by rw [kT.len (by omega)]; exact hT.1
  have hmod : i % N < N := Nat.mod_lt _ (by omega)
  refine h_ite (fun hc => ?_) (fun hc => ?_)
  · simp only [X.den, g1, g3, gv_zero, vi_int, vb_bool, hal, cmp_lss, decide_eq_true_eq] at hc
    have hil : i < A.length := by omega
    have hx := List.getElem?_eq_getElem hil
    generalize A[i] = a at hx
    obtain ⟨hrd, ha0, ha1⟩ := (hA.le hle').read hx
    have hrem := rem_nat (i := i) (N := N) (by omega) hN1
    refine ⟨fun _ => ?_, h_load [.int .u8 a] ⟨⟨_, rfl⟩, trivial⟩ (fun _ => ?_) ?_⟩
    · simp only [needs, X.den, g1, g3, gv_zero, vi_int, vb_bool, hal, and_true]
      exact ⟨ge0 i, by rw [cmp_lss, decide_eq_true_eq]; exact hc⟩
    · simp only [PE.den, X.den, g1, g3, gv_zero, vi_int, Int.toNat_natCast]; exact hrd
    simp only [List.append_assoc, List.cons_append, List.nil_append]
    refine h_ite (fun hc2 => ?_) (fun hc2 => ?_)
    · simp only [X.den, g3, gv_zero, vi_int, vb_bool, cmp_lss, decide_eq_true_eq] at hc2
      have hi40 : i < 40 := by omega
      have nd0 : ∀ D, needs (G ++ D) [(.cmp .neq (.len 0) (.lit 0))] := fun D => by
        simp only [needs, X.den, g0, hN, vb_bool, vi_int, cmp_neq, decide_eq_true_eq, and_true]
        omega
      have nd1 : ∀ D, gv D 0 = natV i → needs (G ++ D) [(.cmp .geq (.op .rem .i64 (.var iv) (.len 0)) (.lit 0)), (.cmp .lss (.op .rem .i64 (.var iv) (.len 0)) (.len row))] := fun D e => by
        simp only [needs, X.den, g0, g2, g3, e, hN, hvml, vb_bool, vi_int, hrem, and_true]
        exact ⟨ge0 _, ltN hmod⟩
      have pe : ∀ D, gv D 0 = natV i → PE.den (G ++ D) (.idx (.var row) (.op .rem .i64 (.var iv) (.len 0)) 1) = (vaddr vm).add (i % N * 1) := fun D e => by
        simp only [PE.den, X.den, g0, g2, g3, e, hN, vi_int, hrem, Int.toNat_natCast]
      have hD : T[i % N]? = some T[i % N]! := by
        have : i % N < T.length := by rw [hT.1]; exact hmod
        rw [List.getElem?_eq_getElem this]; simp [this]
      generalize T[i % N]! = D at hD
      have hDl := (hT.2 hD).2
      obtain ⟨u, hu1, hu2, hu3⟩ := to_app (i := a.toNat % 20) kT hn hD (by omega)
      refine ⟨fun _ => nd0 _, fun _ => nd0 _, fun _ => nd1 _ rfl, h_load [u] ⟨hu1, trivial⟩ (fun _ => by rw [pe _ rfl]; exact hu2) ?_⟩
      simp only [List.append_assoc, List.cons_append, List.nil_append]
      refine ⟨fun _ => ?_, ?_⟩
      · rw [pe _ rfl]
        simp only [SV.denL, SV.den, g4, gv_succ, gv_zero]
        exact hu2
      refine ⟨[natV (a.toNat % 20)], 1, ⟨?_, rfl⟩, ?_⟩
      · simp only [SV.denL, SV.den, X.den, g4, gv_succ, gv_zero, vi_int, rem_20 ha0 ha1]
      simp only [SV.den, g4, gv_succ, gv_zero]
      refine hu3 _ fun u' h9 fT9 m1 m2 m3 m4 m5 => ?_
      simp only [List.append_assoc, List.cons_append, List.nil_append]
      refine ⟨fun _ => nd1 _ rfl, ?_⟩
      refine h_store ((vaddr vm).add (i % N * 1)) [u'] (pe _ rfl) (by simp only [SV.denL, SV.den, g4, gv_succ, gv_zero]) m1 ?_
      obtain ⟨q1, q2⟩ := kept_chain hk hff m4 m5
      show J [_] _
      simp only [SV.den, X.den, g3, gv_zero, vi_int, add_one_big (i := i) (by omega)]
      refine hJ _ _ ⟨i + 1, _, fT9, rfl, by omega, hT.put hi40 hx hD, m2, m3, q1, q2⟩ ?_
      simp only [gv_zero, vi_int]; omega
    · simp only [X.den, g3, gv_zero, vi_int, vb_bool, cmp_lss, decide_eq_false_iff_not] at hc2
      show J [_] _
      simp only [SV.den, X.den, g3, gv_zero, vi_int, add_one_big (i := i) (by omega)]
      refine hJ _ _ ⟨i + 1, _, f, rfl, by omega, hT.skip (by omega), kT, hn, hk, hff⟩ ?_
      simp only [gv_zero, vi_int]; omega
  · simp only [X.den, g1, g3, gv_zero, vi_int, vb_bool, hal, cmp_lss, decide_eq_false_iff_not] at hc
    exact K h' T f i _ (hT.done (by omega)) kT hn hk hff
end
theorem s13 {h : H} {vB va vc : Value} {A C : List Int} {N : Nat} (hB : Fits .sl vB) (hN : vlen vB = N) (hN1 : 1 ≤ N) (hN2 : N ≤ 1000) (hA : BytesAt h va A) (hA2 : A.length ≤ 9223372036854775807) (hC : BytesAt h vc C) (hC2 : C.length ≤ 9223372036854775807) :
    CallsA Tryd.prog 13 (fun _ => [vB, va, vc]) [] h (Ret fun r h' => h.le h' ∧ ∃ vm vl M S, r = .tuple #[vm, vl] ∧ MarkR N A M ∧ MarkR N C S ∧ MarkAt h' vm M ∧ MarkAt h' vl S) := by
  refine c13 (G := [vB, va, vc]) ⟨hB, hA.fit, hC.fit, trivial⟩ ?_
  -- both rows made, and what is left
  have rest : ∀ {b1 b2 : Nat}, h b1 = none → (h.put b1 (.cells (repZ ((zeroCells Tryd.prog 47).getD []) N).toArray 47 (0, 0))) b2 = none → ∀ (k : Out) (ra rb : Nat) (G : List Value), G.length = 5 → (ra = 3 ∧ rb = 4 ∨ ra = 4 ∧ rb = 3) → G = [vB, va, vc, .slice (some ⟨b1, 0, none⟩) N N, .slice (some ⟨b2, 0, none⟩) N N] →
      (∀ h' M S n m L, MarkR N A M → MarkR N C S → MarkAt h' (gv G ra) M → MarkAt h' (gv G rb) S → h.le h' → holds Tryd.prog (Ret fun r h' => h.le h' ∧ ∃ vm vl M S, r = .tuple #[vm, vl] ∧ MarkR N A M ∧ MarkR N C S ∧ MarkAt h' vm M ∧ MarkAt h' vl S) k (G ++ [natV n, natV m]) L h') →
      holds Tryd.prog (Ret fun r h' => h.le h' ∧ ∃ vm vl M S, r = .tuple #[vm, vl] ∧ MarkR N A M ∧ MarkR N C S ∧ MarkAt h' vm M ∧ MarkAt h' vl S) (markT 5 1 ra (markT 6 2 rb k)) G [] ((h.put b1 (.cells (repZ ((zeroCells Tryd.prog 47).getD []) N).toArray 47 (0, 0))).put b2 (.cells (repZ ((zeroCells Tryd.prog 47).getD []) N).toArray 47 (0, 0))) := by
    intro b1 b2 hb1 hb2 k ra rb G hG5 hab hG HK
    have r1 := mk_rows (n := N) hb1
    have r2 := mk_rows (n := N) hb2
    have l1 : h.le (h.put b1 (.cells (repZ ((zeroCells Tryd.prog 47).getD []) N).toArray 47 (0, 0))) := H.le_put hb1
    generalize (h.put b1 (.cells (repZ ((zeroCells Tryd.prog 47).getD []) N).toArray 47 (0, 0))) = g1 at hb2 r1 r2 l1 ⊢
    have l2 : g1.le (g1.put b2 (.cells (repZ ((zeroCells Tryd.prog 47).getD []) N).toArray 47 (0, 0))) := H.le_put hb2
    generalize (g1.put b2 (.cells (repZ ((zeroCells Tryd.prog 47).getD []) N).toArray 47 (0, 0))) = g2 at r2 l2 ⊢
    have r1' := r1.agree intF_good (le_agree' l2 (r1.live intF_good))
    have hne : b1 ≠ b2 := fun q => by
      have := r1.live intF_good b1 (by simp)
      rw [q, hb2] at this; cases this
    have hb2' : h b2 = none := H.le_none l1 hb2
    have F1 : Fresh h [b1] := fun b hb => by rw [List.mem_singleton] at hb; subst hb; exact hb1
    have F2 : Fresh h [b2] := fun b hb => by rw [List.mem_singleton] at hb; subst hb; exact hb2'
    have hle := l1.trans l2
    -- the row of the one, the row of the other
    obtain ⟨fa, fb, ka, kb, na, nb, Fa, Fb, hd⟩ : ∃ fa fb, SlF 47 1 IntF g2 (gv G ra) (List.replicate N []) fa ∧ SlF 47 1 IntF g2 (gv G rb) (List.replicate N []) fb ∧ fa.Nodup ∧ fb.Nodup ∧ Fresh h fa ∧ Fresh h fb ∧ ∀ b ∈ fb, b ∉ fa := by
      rcases hab with ⟨rfl, rfl⟩ | ⟨rfl, rfl⟩
      · rw [hG]; exact ⟨[b1], [b2], r1', r2, by simp, by simp, F1, F2, fun b hb hb' => by rw [List.mem_singleton] at hb hb'; omega⟩
      · rw [hG]; exact ⟨[b2], [b1], r2, r1', by simp, by simp, F2, F1, fun b hb hb' => by rw [List.mem_singleton] at hb hb'; omega⟩
    have hra : ra < 5 ∧ rb < 5 := by omega
    have e0 : vlen (gv G 0) = N := by rw [hG]; exact hN
    have e1 : gv G 1 = va := by rw [hG]; rfl
    have e2 : gv G 2 = vc := by rw [hG]; rfl
    refine markT_holds (h0 := h) (va := va) (vm := gv G ra) (A := A) (N := N) hG5 (by omega) hra.1 (by omega) e1 rfl e0 hN1 hN2 hA hA2 hle ka na Fa fun h3 M fM n L3 hM kM nM kk3 ff3 => ?_
    have kb3 := kb.agree intF_good (kk3.agree (kb.live intF_good) hd)
    refine markT_holds (h0 := h) (va := vc) (vm := gv G rb) (A := C) (N := N) (by simp [hG5]) (by omega) (by omega) (by omega) (by rw [gv_of_lt (by omega)]; exact e2) (by rw [gv_of_lt (by omega)]) (by rw [gv_of_lt (by omega)]; exact e0) hN1 hN2 hC hC2 (kk3.le hle Fa) kb3 nb Fb fun h4 S fS m L4 hS kS nS kk4 ff4 => ?_
    have hd4 : ∀ b ∈ fM, b ∉ fb := fun b hb hb' => by
      rcases ff3 b hb with q | q
      · exact hd b hb' q
      · have := kb.live intF_good b hb'; rw [q] at this; cases this
    have kM4 := kM.agree intF_good (kk4.agree (kM.live intF_good) hd4)
    rw [List.append_assoc]
    exact HK h4 M S n m L4 hM hS (markAt_of kM4) (markAt_of kS) (kk4.le (kk3.le hle Fa) Fb)
  have e24 : ∀ (D : List Value), vi ((X.len 0).den (vB :: D)) = (N : Int) := fun D => by show ((vlen vB : Nat) : Int) = _; rw [hN]
  have mk : ∀ {Dd : List Value} {L : Lv} {g : H} {k : Out} {Rr : Value → List (List Value) → H → Prop}, (∀ b, g b = none → holds Tryd.prog Rr k (vB :: Dd ++ [.slice (some ⟨b, 0, none⟩) N N]) L (g.put b (.cells (repZ ((zeroCells Tryd.prog 47).getD []) N).toArray 47 (0, 0)))) → holds Tryd.prog Rr (.mk 47 1 24 (.len 0) k) (vB :: Dd) L g := fun {Dd L g k Rr} hk => by
    refine ⟨by rw [e24]; omega, by rw [e24]; omega, fun b hb => ?_⟩
    rw [e24, Int.toNat_natCast]
    exact hk b hb
  have a12 := fun (b1 b2 : Nat) (hb1 : h b1 = none) hb2 => rest hb1 hb2 (.done (.tup [(.val 3), (.val 4)]) []) 3 4 [vB, va, vc, .slice (some ⟨b1, 0, none⟩) N N, .slice (some ⟨b2, 0, none⟩) N N] rfl (.inl ⟨rfl, rfl⟩) rfl fun h' M S n m L hM hS kM kS hl => ⟨rfl, hl, _, _, M, S, rfl, hM, hS, kM, kS⟩
  have a21 := fun (b1 b2 : Nat) (hb1 : h b1 = none) hb2 => rest hb1 hb2 (.done (.tup [(.val 4), (.val 3)]) []) 4 3 [vB, va, vc, .slice (some ⟨b1, 0, none⟩) N N, .slice (some ⟨b2, 0, none⟩) N N] rfl (.inr ⟨rfl, rfl⟩) rfl fun h' M S n m L hM hS kM kS hl => ⟨rfl, hl, _, _, M, S, rfl, hM, hS, kM, kS⟩
  have first : ∀ b1, h b1 = none → holds Tryd.prog _ (.mk 47 1 24 (.len 0) (markT 5 1 3 (markT 6 2 4 (.done (.tup [(.val 3), (.val 4)]) [])))) ([vB, va, vc, .slice (some ⟨b1, 0, none⟩) N N]) [] _ := fun b1 hb1 => mk fun b2 hb2 => a12 b1 b2 hb1 hb2
  exact ⟨mk fun b1 hb1 => ⟨first b1 hb1, first b1 hb1⟩, mk fun b1 hb1 => mk fun b2 hb2 => a21 b1 b2 hb1 hb2⟩
end Go.Proofs.YtbbicdfipheaeaaDoor
