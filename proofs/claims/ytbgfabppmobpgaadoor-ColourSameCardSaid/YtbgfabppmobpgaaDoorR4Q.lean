/-
  Queues, which blocks follow, rows. Conditions: as each contract says.
-/
import Derived.Test.YtbgfabppmobpgaaDoorMapL
import Derived.Test.YtbgfabppmobpgaaDoorR1Tk
set_option linter.unusedVariables false
set_option linter.unusedSimpArgs false
namespace Go.Proofs.YtbgfabppmobpgaaDoor
open Go

theorem KeptH.le_nil {h h' : H} (k : KeptH h h' []) : h.le h' := k.le (H.le_refl _) (fun b hb => by cases hb)
theorem KeptH.trans_nil {h h' h'' : H} {f : List Nat} (a : KeptH h h' []) (b : KeptH h' h'' f) (hf : Fresh h f) : KeptH h h'' [] := fun x _ hx => by
  have e := a x (by simp) hx
  rw [b x (fun hb => by rw [hf x hb] at hx; cases hx) (by rw [e]; exact hx), e]

theorem get_one {α : Type} {a x : α} {i : Nat} (h : [a][i]? = some x) : i = 0 ∧ x = a := by
  cases i with
  | zero => simp at h; exact ⟨rfl, h.symm⟩
  | succ i => simp at h
theorem rowF_ints {h : H} {e : TypeId} {u : Value} {l : List Int} {fp : List Nat} (k : RowF h e 1 u (l.map (.int .i64)) fp) : IntsAt h u l := by
  refine ⟨k.row0.fit, by have := k.row0.len; simp at this; exact this.symm, fun i x hi => ⟨_, rfl, k.row0.reads fun j u hj => ?_⟩⟩
  cases j with
  | zero => simp at hj; subst hj; simp [hi]
  | succ j => simp at hj

theorem H.le.kept {h h' : H} (hl : h.le h') : KeptH h h' [] := fun b _ hb => by
  obtain ⟨o, ho⟩ := Option.isSome_iff_exists.1 hb
  rw [hl b o ho, ho]
theorem kept_chain {h h1 h2 : H} {f f1 f2 : List Nat} (a : KeptH h h1 f) (a' : ∀ b ∈ f1, b ∈ f ∨ h b = none) (b : KeptH h1 h2 f1) (b' : ∀ x ∈ f2, x ∈ f1 ∨ h1 x = none) : KeptH h h2 f ∧ ∀ x ∈ f2, x ∈ f ∨ h x = none := by
  constructor
  · intro x hx hs
    have e := a x hx hs
    rw [b x (fun hf => by
      rcases a' x hf with q | q
      · exact hx q
      · rw [q] at hs; cases hs) (by rw [e]; exact hs), e]
  · intro x hx
    rcases b' x hx with q | q
    · exact a' x q
    · by_cases hf : x ∈ f
      · exact .inl hf
      · right
        cases e : h x with
        | none => rfl
        | some o =>
          have := a x hf (by rw [e]; rfl)
          rw [q, e] at this; cases this

/-! ### Queues -/
theorem zero_int : ((zeroCells Tryd.prog 3).getD []).length = 1 := by kernel_rfl
theorem own_two {h : H} {b : Nat} {x y : Int} (hb : h b = none) : OwnInts h (h.put b (.cells ([Value.int .i64 x, .int .i64 y]).toArray 3 (0, 0))) (.slice (some ⟨b, 0, none⟩) 2 2) [x, y] := own_new (l := [x, y]) hb
theorem own_one {h : H} {b : Nat} {x : Int} (hb : h b = none) : OwnInts h (h.put b (.cells ([Value.int .i64 x]).toArray 3 (0, 0))) (.slice (some ⟨b, 0, none⟩) 1 1) [x] := own_new (l := [x]) hb
/-! ### Words for rows, blocks -/
/-- A loop whose measure speaks of what the invariant names. -/
theorem h_loopM {P : Program} {R : Value → List (List Value) → H → Prop} {G : List Value} {L : Lv} {h : H} {lvl : Nat} {ini : List SV} {shs : List Sh} {body : Out} (I : Nat → List Value → H → Prop) (n0 : Nat) (h0 : I n0 (SV.denL G dE ini) h)
    (hs : ∀ n xs h' J, FitsL shs xs → I n xs h' → (∀ m ys h'', I m ys h'' → m < n → J ys h'') → holds P R body (G ++ xs) (List.take lvl L ++ [J]) h') : holds P R (.loop lvl ini shs body) G L h := by
  classical
  have hmin : ∀ xs h', (∃ n, I n xs h') → ∃ n, I n xs h' ∧ ∀ m, I m xs h' → n ≤ m := fun xs h' ⟨n, hn⟩ => by
    induction n using Nat.strongRecOn with
    | _ n ih =>
      by_cases hq : ∃ m, m < n ∧ I m xs h'
      · obtain ⟨m, hm, hI⟩ := hq; exact ih m hm hI
      · exact ⟨n, hn, fun m hm => Nat.le_of_not_lt fun hl => hq ⟨m, hl, hm⟩⟩
  let μ : List Value → H → Nat := fun xs h' => if hq : ∃ n, I n xs h' then Classical.choose (hmin xs h' hq) else 0
  refine h_loop (fun xs h' => ∃ n, I n xs h') μ ⟨n0, h0⟩ ?_
  intro xs h' J hf hI hJ
  have hμ : μ xs h' = Classical.choose (hmin xs h' hI) := dif_pos hI
  obtain ⟨k1, k2⟩ := Classical.choose_spec (hmin xs h' hI)
  refine hs _ xs h' J hf k1 fun m ys h'' hm hlt => hJ ys h'' ⟨m, hm⟩ ?_
  have hq : ∃ n, I n ys h'' := ⟨m, hm⟩
  have hμ2 : μ ys h'' = Classical.choose (hmin ys h'' hq) := dif_pos hq
  have := (Classical.choose_spec (hmin ys h'' hq)).2 m hm
  rw [hμ, hμ2]; omega

/-- How many numbers below n are not there. -/
def cu (n : Nat) (p : Nat → Bool) : Nat := ((List.range n).filter fun x => !p x).length
theorem cu_le {n : Nat} {p q : Nat → Bool} (h : ∀ x, p x = true → q x = true) : cu n q ≤ cu n p := by
  unfold cu
  have : ((List.range n).filter fun x => !q x) = (((List.range n).filter fun x => !p x).filter fun x => !q x) := by
    rw [List.filter_filter]
    apply List.filter_congr
    intro x _
    cases hp : p x with
    | false => simp
    | true => simp [h x hp]
  rw [this]; exact List.length_filter_le _ _
theorem cu_lt {n x : Nat} {p q : Nat → Bool} (hx : x < n) (hp : p x = false) (hq : q x = true) (h : ∀ y, p y = true → q y = true) : cu n q < cu n p := by
  unfold cu
  have : ((List.range n).filter fun x => !q x) = (((List.range n).filter fun x => !p x).filter fun x => !q x) := by
    rw [List.filter_filter]
    apply List.filter_congr
    intro x _
    cases hp : p x with
    | false => simp
    | true => simp [h x hp]
  rw [this, List.length_filter_lt_length_iff_exists]
  exact ⟨x, List.mem_filter.2 ⟨List.mem_range.2 hx, by simp [hp]⟩, by simp [hq]⟩
theorem ge0 (n : Nat) : cmpOp .geq (n : Int) 0 = true := by rw [cmp_geq, decide_eq_true_eq]; omega
theorem ltN {n m : Nat} (h : n < m) : cmpOp .lss (n : Int) (m : Int) = true := by rw [cmp_lss, decide_eq_true_eq]; omega
/-- Some memory, but for these blocks. -/
def H.cut (g : H) (f : List Nat) : H := fun b => if b ∈ f then none else g b
theorem H.cut_le (g : H) (f : List Nat) : (H.cut g f).le g := fun b o e => by
  unfold H.cut at e; split at e
  · cases e
  · exact e
theorem H.cut_fresh (g : H) (f : List Nat) : Fresh (H.cut g f) f := fun b hb => by unfold H.cut; rw [if_pos hb]
theorem H.le_cut {h g : H} {f : List Nat} (hl : h.le g) (hf : Fresh h f) : h.le (H.cut g f) := fun b o e => by
  unfold H.cut
  rw [if_neg (fun hb => by rw [hf b hb] at e; cases e)]; exact hl b o e
theorem Row.cut {h0 h : H} {e : TypeId} {sz : Nat} {v : Value} {cs : List Value} {f : List Nat} (k : Row h0 h e sz v cs) (hl : Live h0 f) : Row h0 (H.cut h f) e sz v cs := by
  rcases k with ⟨rfl, rfl⟩ | ⟨b, n, c, r, rfl, h1, h2, h3, h4, h5⟩
  · exact .inl ⟨rfl, rfl⟩
  · refine .inr ⟨b, n, c, r, rfl, ?_, h2, h3, h4, h5⟩
    unfold H.cut
    rw [if_neg (fun hb => by have := hl b hb; rw [h5] at this; cases this)]; exact h1
theorem agree_of {h h' : H} {f g : List Nat} (k : KeptH h h' f) (hl : Live h g) (hd : ∀ b ∈ g, b ∉ f) : Agree h h' g := k.agree hl hd
theorem cu_le_n (n : Nat) (p : Nat → Bool) : cu n p ≤ n := by
  unfold cu
  have := List.length_filter_le (fun x => !p x) (List.range n)
  rwa [List.length_range] at this
abbrev natV (n : Nat) : Value := .int .i64 (n : Int)
theorem len_of_rowF {h : H} {e : TypeId} {v : Value} {cs : List Value} {fp : List Nat} (k : RowF h e 1 v cs fp) : vlen v = cs.length := by have := k.row0.len; omega
theorem rowF_set {h : H} {e : TypeId} {v x : Value} {cs : List Value} {fp : List Nat} {i : Nat} (k : RowF h e 1 v cs fp) (hi : i < cs.length) :
    Writable h ((vaddr v).add i) 1 ∧ RowF (h.sets ((vaddr v).add i) [x]) e 1 v (cs.set i x) fp ∧ KeptH h (h.sets ((vaddr v).add i) [x]) fp := by
  have hsp : cs = cs.take i ++ [cs[i]] ++ cs.drop (i + 1) := by
    conv => lhs; rw [← List.take_append_drop i cs, List.drop_eq_getElem_cons hi]
    simp only [List.append_assoc, List.cons_append, List.nil_append]
  have hsp' : cs.set i x = cs.take i ++ [x] ++ cs.drop (i + 1) := by
    rw [List.set_eq_take_append_cons_drop, if_pos hi]; simp only [List.append_assoc, List.cons_append, List.nil_append]
  have hal : (cs.take i).length = i := by rw [List.length_take]; omega
  have hl := len_of_rowF k
  obtain ⟨aa, nn, cc, e0, _, e3⟩ := k.row0.fit
  have k' := k
  rw [hsp] at k'
  obtain ⟨s1, s2⟩ := set_rowF (N := [x]) k' rfl (by simp)
  rw [hal] at s1 s2
  refine ⟨?_, by rw [hsp']; exact s1, fun b hb _ => s2 b hb⟩
  refine k.row0.writable ?_
  rw [e0] at hl ⊢
  simp only [vlen_sl] at hl
  simp only [vcap_sl]; omega
theorem rowF_read {h : H} {e : TypeId} {v : Value} {cs : List Value} {fp : List Nat} {i : Nat} (k : RowF h e 1 v cs fp) {x : Value} (hi : cs[i]? = some x) : Reads h ((vaddr v).add (i * 1)) [x] := by
  rw [Nat.mul_one]
  exact k.row0.reads fun j u hj => by obtain ⟨rfl, rfl⟩ := get_one hj; exact hi
theorem ints_of_nats {h : H} {e : TypeId} {v : Value} {l : List Nat} {fp : List Nat} (k : RowF h e 1 v (l.map natV) fp) : IntsAt h v (l.map Int.ofNat) := by
  refine rowF_ints (e := e) (fp := fp) ?_
  rw [List.map_map]; exact k
theorem natV_at {O : List Nat} {i : Nat} (hi : i < O.length) : ∃ y : Nat, O[i]? = some y ∧ (O.map natV).getD i undef = natV y := by
  refine ⟨O[i], List.getElem?_eq_getElem hi, ?_⟩
  rw [List.getD_eq_getElem?_getD, List.getElem?_map, List.getElem?_eq_getElem hi]; rfl
theorem zero_bool : (zeroCells Tryd.prog 4).getD [] = [.bool false] := by kernel_rfl
theorem repZ_bool (n : Nat) : repZ [Value.bool false] n = (List.replicate n false).map .bool := by
  apply List.ext_getElem?
  intro i
  unfold repZ
  simp only [List.length_cons, List.length_nil, Nat.zero_add, Nat.mul_one, Nat.mod_one, List.getElem?_map, List.getElem?_replicate]
  by_cases hi : i < n
  · rw [List.getElem?_range hi, if_pos hi]; rfl
  · rw [List.getElem?_eq_none (by simpa using hi), if_neg hi]; rfl
theorem mk_bools {h : H} {b n : Nat} (hb : h b = none) : RowF (h.put b (.cells (repZ ((zeroCells Tryd.prog 4).getD []) n).toArray 4 (0, 0))) 4 1 (.slice (some ⟨b, 0, none⟩) n n) ((List.replicate n false).map .bool) [b] := by
  rw [zero_bool, repZ_bool]
  have := RowF.new (h := h) (e := 4) (sz := 1) (b := b) (n := n) (c := n) (cs := (List.replicate n false).map Value.bool) (r := []) (by simp) (by simp) (Nat.le_refl _)
  rwa [List.append_nil] at this
def IntF : RepF (List Nat) := fun h cs l fp => ∃ u, cs = [u] ∧ RowF h 3 1 u (l.map natV) fp
theorem intF_good : GoodF IntF := ⟨fun ha ⟨u, h1, h2⟩ => ⟨u, h1, h2.agree ha⟩, fun ⟨u, h1, h2⟩ => h2.live⟩
def IntsC (h : H) (cs : List Value) (l : List Nat) : Prop := ∃ u, cs = [u] ∧ IntsAt h u (l.map Int.ofNat)
theorem intsC_mono : Mono IntsC := fun _ _ _ _ hl ⟨u, h1, h2⟩ => ⟨u, h1, h2.le hl⟩
theorem intF_at {h : H} {cs : List Value} {l : List Nat} {fp : List Nat} (k : IntF h cs l fp) : IntsC h cs l := by
  obtain ⟨u, h1, h2⟩ := k; exact ⟨u, h1, ints_of_nats h2⟩
theorem rowF_nodup {h : H} {e : TypeId} {sz : Nat} {v : Value} {cs : List Value} {fp : List Nat} (k : RowF h e sz v cs fp) : fp.Nodup := by
  rcases k with ⟨_, _, rfl⟩ | ⟨b, _, _, _, _, _, _, _, _, rfl⟩ <;> simp
theorem zero_sl : (zeroCells Tryd.prog 29).getD [] = [.slice none 0 0] := by kernel_rfl
theorem repZ_sl (n : Nat) : repZ [Value.slice none 0 0] n = List.replicate n (.slice none 0 0) := by
  apply List.ext_getElem?
  intro i
  unfold repZ
  simp only [List.length_cons, List.length_nil, Nat.zero_add, Nat.mul_one, Nat.mod_one, List.getElem?_map, List.getElem?_replicate]
  by_cases hi : i < n
  · rw [List.getElem?_range hi, if_pos hi]; rfl
  · rw [List.getElem?_eq_none (by simpa using hi), if_neg hi]; rfl
theorem mk_rows {h : H} {b n : Nat} (hb : h b = none) : SlF 29 1 IntF (h.put b (.cells (repZ ((zeroCells Tryd.prog 29).getD []) n).toArray 29 (0, 0))) (.slice (some ⟨b, 0, none⟩) n n) (List.replicate n ([] : List Nat)) [b] := by
  rw [zero_sl, repZ_sl]
  have hr := RowF.new (h := h) (e := 29) (sz := 1) (b := b) (n := n) (c := n) (cs := List.replicate n (Value.slice none 0 0)) (r := []) (by simp) (by simp) (Nat.le_refl _)
  rw [List.append_nil] at hr
  have e1 : cellsE (List.replicate n (⟨[.slice none 0 0], [], []⟩ : El (List Nat))) = List.replicate n (.slice none 0 0) := by
    unfold cellsE
    induction n with
    | zero => rfl
    | succ n ih => rw [List.replicate_succ, List.flatMap_cons, List.replicate_succ, ← ih]; · rfl
                   · have := RowF.new (h := h) (e := 29) (sz := 1) (b := b) (n := n) (c := n) (cs := List.replicate n (Value.slice none 0 0)) (r := []) (by simp) (by simp) (Nat.le_refl _)
                     rwa [List.append_nil] at this
  have e2 : fpE (List.replicate n (⟨[.slice none 0 0], [], []⟩ : El (List Nat))) = [] := by
    unfold fpE
    rw [List.flatMap_eq_nil_iff]
    intro x hx
    rw [(List.mem_replicate.1 hx).2]
  refine ⟨List.replicate n ⟨[.slice none 0 0], [], []⟩, [b], by simp, by rw [e2]; rfl, by rw [e1]; exact hr, fun t ht => ?_⟩
  rw [(List.mem_replicate.1 ht).2]
  exact ⟨rfl, _, rfl, .inl ⟨rfl, rfl, rfl⟩⟩
theorem iteT {P : Program} {R : Value → List (List Value) → H → Prop} {G : List Value} {L : Lv} {h : H} {c : X} {a b : Out} (hc : vb (c.den G) = true) (ha : holds P R a G L h) : holds P R (.ite c a b) G L h := ⟨fun _ => ha, fun h => absurd (hc.symm.trans h) (by simp)⟩
theorem iteF {P : Program} {R : Value → List (List Value) → H → Prop} {G : List Value} {L : Lv} {h : H} {c : X} {a b : Out} (hc : vb (c.den G) = false) (hb : holds P R b G L h) : holds P R (.ite c a b) G L h := ⟨fun h => absurd (hc.symm.trans h) (by simp), fun _ => hb⟩
end Go.Proofs.YtbgfabppmobpgaaDoor
