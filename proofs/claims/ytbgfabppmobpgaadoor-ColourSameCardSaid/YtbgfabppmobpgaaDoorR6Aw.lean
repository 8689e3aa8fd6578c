/-
  How the laws of the search begin: the fixed fact, a made graph with its costs. Conditions: as each contract says.
-/
import Derived.Test.YtbgfabppmobpgaaDoorR6I
import Derived.Test.YtbgfabppmobpgaaDoorR6M
set_option linter.unusedVariables false
set_option linter.unusedSimpArgs false
namespace Go.Proofs.YtbgfabppmobpgaaDoor
open Go

theorem rem_u8 {n m : Int} (h0 : 0 ≤ n) (hm : 0 < m) (hm2 : m < 256) : IntKind.i64.wrap (intOp .rem .u8 n m) = n % m := by
  have e1 : intOp .rem .u8 n m = n % m := by simp only [intOp]; rw [Int.tmod_eq_emod_of_nonneg h0]
  have := Int.emod_lt_of_pos n hm
  have := Int.emod_nonneg n (by omega : m ≠ 0)
  rw [e1, wrap_i64 (by omega) (by omega)]
theorem rem_u8r {n m : Int} (h0 : 0 ≤ n) : intOp .rem .u8 n m = n % m := by simp only [intOp]; rw [Int.tmod_eq_emod_of_nonneg h0]
theorem add_small {a b : Int} (h1 : -1000000 ≤ a + b) (h2 : a + b ≤ 1000000) : intOp .add .i64 a b = a + b := by simp only [intOp]; rw [wrap_i64 (by omega) (by omega)]
theorem costF_mem {l : List Int} {u : Nat} (hu : u < l.length) : costF l u ∈ l := List.mem_of_getElem? (costF_some hu)
def triE : List (Nat × Nat) := [(0, 1), (0, 2), (1, 2)]
theorem tri_ok : (⟨3, edI triE, []⟩ : Gr).ok = true := by decide
theorem tri_E : bestE ⟨3, edI triE, []⟩ 2 [5, 1, 9] = 0 := bestE_of tri_ok rfl (by decide) (by decide) (by decide) (by decide)
theorem tri_best {l : List Int} {s : Int} (R : BestR ⟨3, edI triE, []⟩ 2 [5, 1, 9] l s) : s = 1 ∧ l.length = 3 ∧ gt l 1 = -1 ∧ 0 ≤ gt l 0 ∧ 0 ≤ gt l 2 := by
  have hn : ((3 : Int)).toNat = 3 := rfl
  obtain ⟨r1, r2, r3, _, r5⟩ := R
  have h1 := r5 (fun u => if u = 0 then 0 else if u = 1 then -1 else 1) ⟨fun u hu => by
    show -1 ≤ (if u = 0 then (0 : Int) else if u = 1 then -1 else 1) ∧ (if u = 0 then (0 : Int) else if u = 1 then -1 else 1) < 2
    split <;> (try split) <;> omega, fun u v h1 h2 _ h0 => by
    show (if u = 0 then (0 : Int) else if u = 1 then -1 else 1) ≠ (if v = 0 then (0 : Int) else if v = 1 then -1 else 1)
    have h0' : (0 : Int) ≤ (if u = 0 then (0 : Int) else if u = 1 then -1 else 1) := h0
    have h2' : v < 3 := h2
    split at h0' <;> (try split at h0') <;> split <;> (try split) <;> omega⟩
  have e1 : costL (costF [5, 1, 9]) (fun u => if u = 0 then 0 else if u = 1 then -1 else 1) 0 3 = 1 := by decide
  have e2 : costL (costF [5, 1, 9]) (gt l) 0 3 = (if gt l 0 < 0 then 5 else 0) + ((if gt l 1 < 0 then 1 else 0) + ((if gt l 2 < 0 then 9 else 0) + 0)) := rfl
  have r3' : s = costL (costF [5, 1, 9]) (gt l) 0 3 := r3
  have h1' : s ≤ costL (costF [5, 1, 9]) (fun u => if u = 0 then 0 else if u = 1 then -1 else 1) 0 3 := h1
  rw [e1] at h1'
  rw [e2] at r3'
  have a0 := r2.1 0 (by decide)
  have a1 := r2.1 1 (by decide)
  have a2 := r2.1 2 (by decide)
  have b01 := r2.2 0 1 (by decide) (by decide) (by decide)
  have b02 := r2.2 0 2 (by decide) (by decide) (by decide)
  have b12 := r2.2 1 2 (by decide) (by decide) (by decide)
  refine ⟨?_, r1, ?_⟩
  · split at r3' <;> split at r3' <;> split at r3' <;> omega
  · split at r3' <;> split at r3' <;> split at r3' <;> omega
section
variable {h : H}
theorem edges_row {b : Nat} {E : List (Nat × Nat)} {n : Nat} (hn : E.length = n) : EdgesAt (h.put b (.cells (edC E).toArray 41 (0, 0))) (.slice (some ⟨b, 0, none⟩) n n) (edI E) := by
  have := RowF.new (h := h) (e := 41) (sz := 2) (b := b) (n := n) (c := n) (cs := edC E) (r := []) (by rw [edC_len, hn]) (by simp) (Nat.le_refl _)
  rw [List.append_nil] at this
  exact rowF_edges this
theorem s11 (ht : Tab h) : CallsA Tryd.prog 11 (fun _ => []) [] h (Ret fun r h' => h.le h' ∧ r = .bool true) := by
  refine c11 (G := []) trivial ?_
  intro b1 hb1
  have l1 : h.le (h.put b1 (.cells (edC triE).toArray 41 (0, 0))) := H.le_put hb1
  have k1 := edges_row (h := h) (b := b1) (E := triE) (n := 3) rfl
  show holds _ _ _ [.slice (some ⟨b1, 0, none⟩) 3 3] _ (h.put b1 (.cells (edC triE).toArray 41 (0, 0)))
  generalize h.put b1 (.cells (edC triE).toArray 41 (0, 0)) = h1 at l1 k1
  generalize Value.slice (some ⟨b1, 0, none⟩) 3 3 = u at k1
  intro b2 hb2
  have l2 : h1.le (h1.put b2 (.cells (([5, 1, 9] : List Int).map (Value.int .i64)).toArray 3 (0, 0))) := H.le_put hb2
  have k2 := (own_new (h0 := h1) (h := h1) (b := b2) (l := ([5, 1, 9] : List Int)) hb2).ints
  show holds _ _ _ [u, .slice (some ⟨b2, 0, none⟩) 3 3] _ (h1.put b2 (.cells (([5, 1, 9] : List Int).map (Value.int .i64)).toArray 3 (0, 0)))
  have k2' : IntsAt (h1.put b2 (.cells (([5, 1, 9] : List Int).map (Value.int .i64)).toArray 3 (0, 0))) (.slice (some ⟨b2, 0, none⟩) 3 3) ([5, 1, 9] : List Int) := k2
  clear k2
  generalize h1.put b2 (.cells (([5, 1, 9] : List Int).map (Value.int .i64)).toArray 3 (0, 0)) = h2 at l2 k2'
  generalize Value.slice (some ⟨b2, 0, none⟩) 3 3 = cv at k2'
  have K : GrAt h2 u (.slice none 0 0) ⟨3, edI triE, []⟩ := ⟨EdgesAt.le l2 k1, SlAt.nil, by decide, by decide⟩
  have hB : CallsA Tryd.prog 14 (fun _ => [.agg #[.int .i64 3, u, .slice none 0 0], .int .i64 2, cv]) [] h2 (Ret fun r h' => h2.le h' ∧ BestQ ⟨3, edI triE, []⟩ 2 [5, 1, 9] r h') :=
    s14 (g := ⟨3, edI triE, []⟩) (k := 2) (cost := [5, 1, 9]) (ht.le (l1.trans l2)) K k2' (by simp)
  refine h_call0 hB ?_
  clear hB
  rintro r h3 ⟨l3, hq⟩
  rcases hq with ⟨q, -⟩ | ⟨-, v, l, s, rfl, hv, R⟩
  · exact absurd tri_E q
  · obtain ⟨r1, r2, r3, r4, r5⟩ := tri_best R
    subst r1
    have hvl := hv.len
    rw [r2] at hvl
    have fi : ∀ n : Int, FitsL [.int .i64] [.int .i64 n] := fun n => ⟨⟨_, rfl⟩, trivial⟩
    have g0 := gt_some (l := l) (v := 0) (by omega)
    have g1 := gt_some (l := l) (v := 1) (by omega)
    have g2 := gt_some (l := l) (v := 2) (by omega)
    rw [r3] at g1
    generalize gt l 0 = x at g0 r4
    generalize gt l 2 = y at g2 r5
    have nd : ∀ {D : List Value} {j : Nat}, gv D 2 = v → j < 3 → needs D [(.tt true), (.cmp .lss (.lit (j : Int)) (.len 2))] := fun {D j} e hj => by
      simp only [needs, X.den, e, hvl, vb_bool, vi_int, cmp_lss, decide_eq_true_eq, and_true, true_and]; omega
    refine ⟨[v, .int .i64 1, .int .i64 0], ⟨hv.fit, ⟨_, rfl⟩, ⟨_, rfl⟩, trivial⟩, rfl, fun _ => nd (j := 1) rfl (by omega), h_load [.int .i64 (-1)] (fi _) (fun _ => hv.read g1) ⟨fun _ => nd (j := 0) rfl (by omega), h_load [.int .i64 x] (fi _) (fun _ => hv.read g0) ⟨fun _ => nd (j := 2) rfl (by omega), h_load [.int .i64 y] (fi _) (fun _ => hv.read g2) ⟨rfl, l1.trans (l2.trans l3), ?_⟩⟩⟩⟩
    have e1 : cmpOp .geq x 0 = true := by rw [cmp_geq, decide_eq_true_eq]; exact r4
    have e2 : cmpOp .geq y 0 = true := by rw [cmp_geq, decide_eq_true_eq]; exact r5
    have e3 : cmpOp .eql ((vlen v : Nat) : Int) 3 = true := by rw [cmp_eql, decide_eq_true_eq]; omega
    simp only [SV.den, X.den, List.cons_append, List.nil_append, List.append_nil, gv_zero, gv_succ, vi_int, vb_bool, vb_ite, e1, e2, e3]
    rfl
end
end Go.Proofs.YtbgfabppmobpgaaDoor
