/-
  Facts that are numbers: the greatest, the least; the chapter's example; from where facts come. Conditions: as each contract says.
-/
import Derived.Test.YtbbicdfipheaeaaDoorR5Bi
set_option linter.unusedVariables false
set_option linter.unusedSimpArgs false
namespace Go.Proofs.YtbbicdfipheaeaaDoor
open Go

def IntR : RepF Nat := fun _ cs n fp => cs = [natV n] ∧ fp = []
theorem intR_good : GoodF IntR := ⟨fun _ h => h, fun h b hb => by rw [h.2] at hb; cases hb⟩
theorem intR_new {h : H} (n : Nat) : IntR h [natV n] n [] := ⟨rfl, rfl⟩
theorem repZ1 (x : Value) (n : Nat) : repZ [x] n = List.replicate n x := by
  apply List.ext_getElem?
  intro i
  unfold repZ
  simp only [List.length_cons, List.length_nil, Nat.zero_add, Nat.mul_one, Nat.mod_one, List.getElem?_map, List.getElem?_replicate]
  by_cases hi : i < n
  · rw [List.getElem?_range hi, if_pos hi]; rfl
  · rw [List.getElem?_eq_none (by simpa using hi), if_neg hi]; rfl
/-- A new row of parts that are alike, and hold no rows. -/
theorem mk_same {α : Type} {R : RepF α} {e : TypeId} {h : H} {b n : Nat} {z : Value} {x : α} (hz : ∀ {h : H}, R h [z] x []) :
    SlF e 1 R (h.put b (.cells (repZ [z] n).toArray e (0, 0))) (.slice (some ⟨b, 0, none⟩) n n) (List.replicate n x) [b] := by
  rw [repZ1]
  have hr := RowF.new (h := h) (e := e) (sz := 1) (b := b) (n := n) (c := n) (cs := List.replicate n z) (r := []) (by simp) (by simp) (Nat.le_refl _)
  rw [List.append_nil] at hr
  have e1 : ∀ n, cellsE (List.replicate n (⟨[z], x, []⟩ : El α)) = List.replicate n z := fun n => by
    unfold cellsE
    induction n with
    | zero => rfl
    | succ n ih => rw [List.replicate_succ, List.flatMap_cons, List.replicate_succ, ih]; rfl
  have e2 : fpE (List.replicate n (⟨[z], x, []⟩ : El α)) = [] := by
    unfold fpE
    rw [List.flatMap_eq_nil_iff]
    intro t ht
    rw [(List.mem_replicate.1 ht).2]
  refine ⟨List.replicate n ⟨[z], x, []⟩, [b], by simp, by rw [e2]; rfl, by rw [e1]; exact hr, fun t ht => ?_⟩
  rw [(List.mem_replicate.1 ht).2]
  exact ⟨rfl, hz⟩
theorem zero_i : (zeroCells Tryd.prog 3).getD [] = [.int .i64 0] := by kernel_rfl
theorem mk_nums {h : H} {b n : Nat} : SlF 3 1 IntR (h.put b (.cells (repZ ((zeroCells Tryd.prog 3).getD []) n).toArray 3 (0, 0))) (.slice (some ⟨b, 0, none⟩) n n) (List.replicate n 0) [b] := by
  rw [zero_i]; exact mk_same (intR_new 0)
theorem enter {f : FuncId} (hf : hasN allF f = true) (xs : Array Value) (w : World) : (callFunc f xs).run Tryd.prog w = .ok (.enter f xs) w := callOK f (hasN_mem hf) xs w
section
variable {h h0 : H} {va : Value} {l : List Nat} {fp : List Nat} {i x y b : Nat}
theorem slF_num (k : SlF 3 1 IntR h va l fp) (hi : l[i]? = some x) : Reads h ((vaddr va).add (i * 1)) [natV x] := by
  obtain ⟨c, f, ⟨e1, e2⟩, r, -⟩ := k.get1 hi
  obtain rfl : c = natV x := by simpa using e1
  exact r
theorem num_set (k : SlF 3 1 IntR h va l fp) (hnd : fp.Nodup) (hi : l[i]? = some x) (y : Nat) : Writable h ((vaddr va).add (i * 1)) 1 ∧ ∃ fp', SlF 3 1 IntR (h.sets ((vaddr va).add (i * 1)) [natV y]) va (l.set i y) fp' ∧ fp'.Nodup ∧ KeptH h (h.sets ((vaddr va).add (i * 1)) [natV y]) fp ∧ (∀ b ∈ fp', b ∈ fp ∨ h b = none) ∧ Reads (h.sets ((vaddr va).add (i * 1)) [natV y]) ((vaddr va).add (i * 1)) [natV y] := by
  obtain ⟨w1, fp', w2, w3, w4, w5⟩ := k.put1 intR_good hnd hi (intR_new y) (fun b hb => by cases hb) List.nodup_nil
  refine ⟨w1, fp', w2, w3, w5, (fun b hb => (w4 b hb).elim .inl fun q => (by cases q)), slF_num w2 (List.getElem?_set_self (List.getElem?_eq_some_iff.1 hi).1)⟩
theorem s42 (k : SlF 3 1 IntR h va l fp) (hnd : fp.Nodup) (hi : l[i]? = some x) :
    CallsA Tryd.prog 42 (fun _ => [.pointer (some ((vaddr va).add (i * 1))), natV y]) [] h (Ret fun v h' => v = .bool (decide (x < max x y)) ∧ ∃ fp', SlF 3 1 IntR h' va (l.set i (max x y)) fp' ∧ fp'.Nodup ∧ KeptH h h' fp ∧ ∀ b ∈ fp', b ∈ fp ∨ h b = none) := by
  refine c42 (G := [.pointer (some ((vaddr va).add (i * 1))), natV y]) ⟨⟨_, rfl⟩, ⟨_, rfl⟩, trivial⟩ ?_
  obtain ⟨w1, fp', w2, w3, w4, w5, w6⟩ := num_set k hnd hi (max x y)
  refine h_load [natV x] ⟨⟨_, rfl⟩, trivial⟩ (fun _ => slF_num k hi) (h_store ((vaddr va).add (i * 1)) [natV (max x y)] rfl ?_ w1 (h_load [natV (max x y)] ⟨⟨_, rfl⟩, trivial⟩ (fun _ => w6) ⟨rfl, ?_, fp', w2, w3, w4, w5⟩))
  · simp only [SV.denL, SV.den, X.den, List.cons_append, List.nil_append, gv_zero, gv_succ, vi_int, vb_bool, vi_ite, cmp_gtr, decide_eq_true_eq]
    congr 2
    split <;> omega
  · show Value.bool (cmpOp .gtr ((max x y : Nat) : Int) (x : Int)) = _
    rw [cmp_gtr]
    congr 1
    exact decide_eq_decide.2 (by omega)
theorem s43 (hx : x ≤ 1000) : CallsA Tryd.prog 43 (fun _ => [natV b, natV x]) [] h (Ret fun v h' => h' = h ∧ v = natV (x + 1)) := by
  refine c43 (G := [natV b, natV x]) ⟨⟨_, rfl⟩, ⟨_, rfl⟩, trivial⟩ ⟨rfl, rfl, ?_⟩
  have e : intOp .add .i64 (x : Int) 1 = ((x + 1 : Nat) : Int) := int_add_one (n := 1000000) (by omega) (by omega)
  show Value.int .i64 (intOp .add .i64 (x : Int) 1) = _
  rw [e]
def firstA (b : Nat) : Nat := if b = 0 then 1 else 0
def frmA (b : Nat) : List Nat := if b = 1 then [0] else if b = 2 then [1] else []
theorem s41 (hb : b < 3) : CallsA Tryd.prog 41 (fun _ => [natV b]) [] h (Ret fun v h' => h.le h' ∧ v = natV (firstA b)) := by
  refine c41 (G := [natV b]) ⟨⟨_, rfl⟩, trivial⟩ fun c hc => ?_
  refine ⟨fun _ => ⟨ge0 b, ltN hb, trivial⟩, h_load [natV (firstA b)] ⟨⟨_, rfl⟩, trivial⟩ (fun _ => ?_) ⟨rfl, H.le_put hc, rfl⟩⟩
  show Reads _ ((⟨c, 0, none⟩ : Addr).add (b * 1)) _
  refine Reads.put fun i u hi => ?_
  obtain ⟨rfl, rfl⟩ := get_one hi
  have : b = 0 ∨ b = 1 ∨ b = 2 := by omega
  rcases this with rfl | rfl | rfl <;> rfl
theorem s40 (hb : b < 3) : CallsA Tryd.prog 40 (fun _ => [natV b]) [] h (Ret fun v h' => h.le h' ∧ OwnInts h h' v ((frmA b).map Int.ofNat)) := by
  refine c40 (G := [natV b]) ⟨⟨_, rfl⟩, trivial⟩ fun c1 h1 c2 h2 c3 h3 => ?_
  have l1 : h.le (h.put c1 (.cells (SV.denL [natV b] dE [.int .i64 (.lit 0)]).toArray 3 (0, 0))) := H.le_put h1
  have o1 : OwnInts h (h.put c1 (.cells (SV.denL [natV b] dE [.int .i64 (.lit 0)]).toArray 3 (0, 0))) (.slice (some ⟨c1, 0, none⟩) 1 1) [0] := own_one h1
  generalize h.put c1 (.cells (SV.denL [natV b] dE [.int .i64 (.lit 0)]).toArray 3 (0, 0)) = g1 at h2 h3 l1 o1 ⊢
  have h20 := H.le_none l1 h2
  have l2 : g1.le (g1.put c2 (.cells (SV.denL ([natV b] ++ [NK.val c1 (.lsl 1)]) dE [.int .i64 (.lit 1)]).toArray 3 (0, 0))) := H.le_put h2
  have o2 : OwnInts g1 (g1.put c2 (.cells (SV.denL ([natV b] ++ [NK.val c1 (.lsl 1)]) dE [.int .i64 (.lit 1)]).toArray 3 (0, 0))) (.slice (some ⟨c2, 0, none⟩) 1 1) [1] := own_one h2
  generalize g1.put c2 (.cells (SV.denL ([natV b] ++ [NK.val c1 (.lsl 1)]) dE [.int .i64 (.lit 1)]).toArray 3 (0, 0)) = g2 at h3 l2 o2 ⊢
  have o2' : OwnInts h g2 (.slice (some ⟨c2, 0, none⟩) 1 1) [1] := by
    rcases o2 with ⟨e, _⟩ | ⟨b', n, c, r, e, q⟩
    · cases e
    · refine .inr ⟨b', n, c, r, e, q.1, q.2.1, q.2.2.1, q.2.2.2.1, H.le_none l1 q.2.2.2.2⟩
  refine ⟨fun _ => ⟨ge0 b, ltN hb, trivial⟩, ?_⟩
  have l3 := H.le_put (o := .cells ([Value.slice none 0 0, .slice (some ⟨c1, 0, none⟩) 1 1, .slice (some ⟨c2, 0, none⟩) 1 1]).toArray 47 (0, 0)) h3
  have rd : ∀ {u : Value}, ([Value.slice none 0 0, .slice (some ⟨c1, 0, none⟩) 1 1, .slice (some ⟨c2, 0, none⟩) 1 1])[b]? = some u → Reads (g2.put c3 (.cells ([Value.slice none 0 0, .slice (some ⟨c1, 0, none⟩) 1 1, .slice (some ⟨c2, 0, none⟩) 1 1]).toArray 47 (0, 0))) ((⟨c3, 0, none⟩ : Addr).add (b * 1)) [u] := fun {u} hu => by
    refine Reads.put fun i w hi => ?_
    obtain ⟨rfl, rfl⟩ := get_one hi
    simpa using hu
  have hl := (l1.trans l2).trans l3
  have : b = 0 ∨ b = 1 ∨ b = 2 := by omega
  rcases this with rfl | rfl | rfl
  · exact h_load [.slice none 0 0] ⟨fits_nil, trivial⟩ (fun _ => rd rfl) ⟨rfl, hl, .inl ⟨rfl, rfl⟩⟩
  · exact h_load [.slice (some ⟨c1, 0, none⟩) 1 1] ⟨⟨_, _, _, rfl, (fun e => by cases e), Nat.le_refl _⟩, trivial⟩ (fun _ => rd rfl) ⟨rfl, hl, Row.le (l2.trans l3) o1⟩
  · exact h_load [.slice (some ⟨c2, 0, none⟩) 1 1] ⟨⟨_, _, _, rfl, (fun e => by cases e), Nat.le_refl _⟩, trivial⟩ (fun _ => rd rfl) ⟨rfl, hl, Row.le l3 o2'⟩
end
/-- The chapter's example. -/
def flA : FlowS Nat := { N := 3, frm := frmA, first := firstA, pass := fun _ x => x + 1, join := max, chg := fun x y => decide (x < max x y), le := (· ≤ ·), pot := fun x => 100 - x, ok := fun b x => x ≤ b + 1 }
theorem flA_frm {b a : Nat} (h : a ∈ frmA b) : b = a + 1 ∧ b < 3 := by
  unfold frmA at h
  split at h
  · simp at h; omega
  · split at h
    · simp at h; omega
    · cases h
theorem frmA_len (b : Nat) : (frmA b).length ≤ 1000 := by
  unfold frmA; split
  · simp
  · split <;> simp
theorem flA_good : flA.Good where
  frm_lt := fun {b a} _ h => by have := flA_frm h; show a < 3; omega
  refl := fun x => Nat.le_refl x
  trans := fun h h' => Nat.le_trans h h'
  left := fun x y => Nat.le_max_left x y
  right := fun x y => Nat.le_max_right x y
  same := fun {b a x y} _ _ _ _ h => by
    have : ¬ (x < max x (y + 1)) := by simpa [flA] using h
    show max x (y + 1) = x; omega
  fall := fun {b a x y} hb ha hx hy hc => by
    have h1 : x < max x (y + 1) := by simpa [flA] using hc
    have h2 := flA_frm ha
    have h3 : y ≤ a + 1 := hy
    show 100 - max x (y + 1) < 100 - x
    omega
  first_ok := fun {b} _ => by show firstA b ≤ b + 1; unfold firstA; split <;> omega
  step_ok := fun {b a x y} hb ha hx hy => by
    have h2 := flA_frm ha
    have h3 : y ≤ a + 1 := hy
    have h4 : x ≤ b + 1 := hx
    show max x (y + 1) ≤ b + 1
    omega
theorem flA_C {h : H} : FlowC (fun c => c) (.int .i64) flA 3 IntR h (.func (.func 40) #[] #[]) (.func (.func 41) #[] #[]) (.func (.func 42) #[] #[]) (.func (.func 43) #[] #[]) where
  fits := ⟨.inr ⟨_, _, _, rfl⟩, .inr ⟨_, _, _, rfl⟩, .inr ⟨_, _, _, rfl⟩, .inr ⟨_, _, _, rfl⟩, trivial⟩
  shape := fun h => by obtain ⟨e, -⟩ := h; exact ⟨_, by simpa using e⟩
  good := intR_good
  frm := fun {h b} _ hb => .of (enter (by decide)) ((s40 hb).mono fun v cs h' ⟨e, a, c⟩ => ⟨e, a, c, frmA_len b⟩)
  first := fun {h b} _ hb => .of (enter (by decide)) ((s41 hb).mono fun v cs h' ⟨e, a, c⟩ => ⟨e, a, _, [], c, intR_new _, (fun b hb => by cases hb), List.nodup_nil⟩)
  pass := fun {h b x c f} _ hb hx hr => by
    obtain ⟨e1, e2⟩ := hr
    obtain rfl : c = natV x := by simpa using e1
    have hx' : x ≤ b + 1 := hx
    have hb' : b < 3 := hb
    exact .of (enter (by decide)) ((s43 (by omega)).mono fun v cs h' ⟨e, a, c⟩ => ⟨e, by rw [a]; exact H.le_refl _, _, [], c, intR_new _, (fun b hb => by cases hb), List.nodup_nil⟩)
  join := fun {h va l fp i x a y c f} _ k hnd hf hi hN ha hx hy hr hd => by
    obtain ⟨e1, e2⟩ := hr
    obtain rfl : c = natV (y + 1) := by simpa [flA] using e1
    exact .of (enter (by decide)) (s42 k hnd hi)
theorem flA_end {l : List Nat} (K : Solved flA l) : l = [1, 2, 3] := by
  have hl : l.length = 3 := K.len
  match l, hl with
  | [a, b, c], _ =>
    have fst : ∀ (i x : Nat), [a, b, c][i]? = some x → firstA i ≤ x := fun i x h => K.fst h
    have ok : ∀ (i x : Nat), [a, b, c][i]? = some x → x ≤ i + 1 := fun i x h => K.ok h
    have cl : ∀ (i j x y : Nat), i < 3 → j ∈ frmA i → [a, b, c][i]? = some x → [a, b, c][j]? = some y → y + 1 ≤ x := fun i j x y h1 h2 h3 h4 => K.closed h1 h2 h3 h4
    have h1 : 1 ≤ a := fst 0 a rfl
    have h2 : a ≤ 0 + 1 := ok 0 a rfl
    have h3 : b ≤ 1 + 1 := ok 1 b rfl
    have h4 : c ≤ 2 + 1 := ok 2 c rfl
    have h5 : a + 1 ≤ b := cl 1 0 b a (by omega) (by simp [frmA]) rfl rfl
    have h6 : b + 1 ≤ c := cl 2 1 c b (by omega) (by simp [frmA]) rfl rfl
    clear fst ok cl K
    obtain rfl : a = 1 := by omega
    obtain rfl : b = 2 := by omega
    obtain rfl : c = 3 := by omega
    rfl
theorem s11 {h : H} : CallsA Tryd.prog 11 (fun _ => []) [] h (Ret fun r h' => h.le h' ∧ r = .bool true) := by
  refine c11 (G := []) trivial ?_
  have h6 : CallsA Tryd.prog 39 (fun _ => [.agg #[.int .i64 3, .func (.func 40) #[] #[], .func (.func 41) #[] #[], .func (.func 42) #[] #[], .func (.func 43) #[] #[]]]) [] h
      (Ret fun r h' => h.le h' ∧ ∃ l fp, Solved flA l ∧ SlF 3 1 IntR h' r l fp ∧ Fresh h fp ∧ fp.Nodup) := s39 (F := flA) (e := 3) (RF := IntR) flA_good flA_C (by show 3 ≤ 1000; omega) (z0 := 0) (fun _ => mk_nums)
  refine h_call0 h6 ?_
  rintro r g ⟨hl, l, fp, hs, hr, hf, hnd⟩
  have e := flA_end hs
  subst e
  have hlen : vlen r = 3 := SlF.len (by omega) hr
  have r0 := slF_num hr (i := 0) (x := 1) rfl
  have r1 := slF_num hr (i := 1) (x := 2) rfl
  have r2 := slF_num hr (i := 2) (x := 3) rfl
  have hfit : Fits .sl r := by obtain ⟨L, fr, _, _, h4, _⟩ := hr; exact h4.row0.fit
  refine ⟨[r], ⟨hfit, trivial⟩, rfl, ?_⟩
  have hq : cmpOp .lss (0 : Int) ((vlen r : Nat) : Int) = true := by rw [hlen]; rfl
  have hq1 : cmpOp .lss (1 : Int) ((vlen r : Nat) : Int) = true := by rw [hlen]; rfl
  have hq2 : cmpOp .lss (2 : Int) ((vlen r : Nat) : Int) = true := by rw [hlen]; rfl
  refine ⟨fun _ => ⟨rfl, hq, trivial⟩, h_load [natV 1] ⟨⟨_, rfl⟩, trivial⟩ (fun _ => r0) ⟨fun _ => ⟨rfl, hq1, trivial⟩, h_load [natV 2] ⟨⟨_, rfl⟩, trivial⟩ (fun _ => r1) ⟨fun _ => ⟨rfl, hq2, trivial⟩, h_load [natV 3] ⟨⟨_, rfl⟩, trivial⟩ (fun _ => r2) ⟨rfl, hl, ?_⟩⟩⟩⟩
  simp only [SV.den, X.den, List.cons_append, List.nil_append, gv_zero, gv_succ, vi_int, vb_bool, vb_ite, hlen, cmp_eql]
  rfl
end Go.Proofs.YtbbicdfipheaeaaDoor
