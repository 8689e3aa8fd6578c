/-
  Rows of a function's own (new blocks, with room behind), and what an append makes of one. Conditions: none (definitions and plain lemmas).
-/
import Derived.Test.YtibdneedfopcoaaVc
set_option linter.unusedVariables false
set_option linter.unusedSimpArgs false
namespace Go.Proofs.Ytibdneedfopcoaa
open Go

/-- A row in a block of its own, new since h0: its first cells are these. -/
def Row (h0 h : H) (e : TypeId) (sz : Nat) (v : Value) (cs : List Value) : Prop :=
  (v = .slice none 0 0 ∧ cs = []) ∨
  ∃ b n c r, v = .slice (some ⟨b, 0, none⟩) n c ∧ h b = some (.cells (cs ++ r).toArray e (0, 0)) ∧ cs.length = n * sz ∧ r.length = (c - n) * sz ∧ n ≤ c ∧ h0 b = none
/-- All but one block is as it was. -/
def H.leX (a : Option Addr) (h h' : H) : Prop := ∀ b o, (∀ x, a = some x → b ≠ x.block) → h b = some o → h' b = some o
def vbase : Value → Option Addr | .slice a _ _ => a | .pointer a => a | _ => none
theorem Row.fit {h0 h : H} {e : TypeId} {sz : Nat} {v : Value} {cs : List Value} (H : Row h0 h e sz v cs) : Fits .sl v := by
  rcases H with ⟨rfl, rfl⟩ | ⟨b, n, c, r, rfl, h1, h2, h3, h4, h5⟩
  · exact fits_nil
  · exact ⟨_, _, _, rfl, (fun e => by cases e), h4⟩
theorem Row.len {h0 h : H} {e : TypeId} {sz : Nat} {v : Value} {cs : List Value} (H : Row h0 h e sz v cs) : cs.length = vlen v * sz := by
  rcases H with ⟨rfl, rfl⟩ | ⟨b, n, c, r, rfl, h1, h2, h3, h4, h5⟩
  · simp [vlen]
  · exact h2
theorem Row.fresh {h0 h : H} {e : TypeId} {sz : Nat} {v : Value} {cs : List Value} (H : Row h0 h e sz v cs) {a : Addr} (ha : vbase v = some a) : h0 a.block = none := by
  rcases H with ⟨rfl, rfl⟩ | ⟨b, n, c, r, rfl, h1, h2, h3, h4, h5⟩
  · cases ha
  · cases ha; exact h5
theorem Row.new {h0 h : H} {e : TypeId} {sz b n c : Nat} {cs r : List Value} (hb : h0 b = none) (hn : cs.length = n * sz) (hc : r.length = (c - n) * sz) (hnc : n ≤ c) :
    Row h0 (h.put b (.cells (cs ++ r).toArray e (0, 0))) e sz (.slice (some ⟨b, 0, none⟩) n c) cs :=
  .inr ⟨b, n, c, r, rfl, H.put_same, hn, hc, hnc, hb⟩
theorem Row.reads {h0 h : H} {e : TypeId} {sz : Nat} {v : Value} {cs : List Value} (H : Row h0 h e sz v cs) {o : Nat} {xs : List Value} (hx : ∀ i u, xs[i]? = some u → cs[o + i]? = some u) : Reads h ((vaddr v).add o) xs := by
  intro i u hi
  have h1 := hx i u hi
  rcases H with ⟨rfl, rfl⟩ | ⟨b, n, c, r, rfl, h2, h3, h4, h5, h6⟩
  · simp at h1
  · rw [vaddr_sl, add_lit, add_lit]
    have hlt := (List.getElem?_eq_some_iff.1 h1).1
    simp only [H.cell?, h2]
    simp [List.getElem?_append_left hlt, h1]
theorem Row.writable {h0 h : H} {e : TypeId} {sz : Nat} {v : Value} {cs : List Value} (H : Row h0 h e sz v cs) {o k : Nat} (ho : o + k ≤ vcap v * sz) : Writable h ((vaddr v).add o) k := by
  intro i hi
  rcases H with ⟨rfl, rfl⟩ | ⟨b, n, c, r, rfl, h2, h3, h4, h5, h6⟩
  · simp [vcap] at ho; omega
  · rw [vaddr_sl, add_lit, add_lit]
    simp only [vcap_sl] at ho
    have hl : (cs ++ r).length = c * sz := by
      rw [List.length_append, h3, h4, ← Nat.add_mul]; congr 1; omega
    have : 0 + o + i < (cs ++ r).length := by omega
    simp only [H.cell?, H.frozen?, h2]
    simp [List.getElem?_eq_getElem this]
    rw [List.length_append] at this; omega
theorem Row.le {h0 h h' : H} (hl : h.le h') {e : TypeId} {sz : Nat} {v : Value} {cs : List Value} (H : Row h0 h e sz v cs) : Row h0 h' e sz v cs := by
  rcases H with ⟨rfl, rfl⟩ | ⟨b, n, c, r, rfl, h1, h2⟩
  · exact .inl ⟨rfl, rfl⟩
  · exact .inr ⟨b, n, c, r, rfl, hl _ _ h1, h2⟩
/-- Cells set one behind the other, in one block. -/
theorem sets_block {b : Nat} {e : TypeId} {f : Nat × Nat} : ∀ (N : List Value) (h : H) (o : Nat) (pre mid post : List Value), pre.length = o → mid.length = N.length → h b = some (.cells (pre ++ mid ++ post).toArray e f) →
    (h.sets (⟨b, o, none⟩ : Addr) N) b = some (.cells (pre ++ N ++ post).toArray e f) ∧ ∀ x, x ≠ b → (h.sets (⟨b, o, none⟩ : Addr) N) x = h x
  | [], h, o, pre, mid, post, h1, h2, h3 => by
    have : mid = [] := List.eq_nil_of_length_eq_zero (by simpa using h2)
    subst this
    exact ⟨h3, fun _ _ => rfl⟩
  | v :: N, h, o, pre, [], post, h1, h2, h3 => by simp at h2
  | v :: N, h, o, pre, m :: mid, post, h1, h2, h3 => by
    simp only [H.sets]
    have hs : (h.set (⟨b, o, none⟩ : Addr) v) b = some (.cells ((pre ++ [v]) ++ mid ++ post).toArray e f) := by
      simp only [H.set, if_pos, h3]
      congr 2
      simp only [Option.isSome_none, Bool.false_eq_true, if_false, List.setIfInBounds_toArray]
      congr 1
      rw [List.append_assoc, List.set_append_right _ _ (by omega), h1, Nat.sub_self]
      simp
    have ih := sets_block N (h.set (⟨b, o, none⟩ : Addr) v) (o + 1) (pre ++ [v]) mid post (by simp [h1]) (by simpa using h2) hs
    rw [show (⟨b, o, none⟩ : Addr).add 1 = ⟨b, o + 1, none⟩ from add_lit b o 1]
    refine ⟨by simpa using ih.1, fun x hx => ?_⟩
    rw [ih.2 x hx]
    simp [H.set, hx]
/-- What an append makes of a row of one's own. -/
theorem app_row {h0 h : H} {e : TypeId} {sz bytes m : Nat} {v : Value} {z cs N : List Value} {K : Value → H → Prop} (H : Row h0 h e sz v cs) (hle : h0.le h) (hN : N.length = m * sz) (hz : z.length = sz)
    (hb : (vlen v + m) * bytes ≤ 140737488355328)
    (HK : ∀ v' h', Row h0 h' e sz v' (cs ++ N) → vlen v' = vlen v + m → h0.le h' → h.leX (vbase v) h' → (vbase v' = vbase v ∨ ∀ a, vbase v' = some a → h a.block = none) → K v' h') : AppSpec h e sz bytes z v N m K := by
  have hrep : ∀ k, (repZ z k).length = k * sz := fun k => by simp [repZ, hz]
  rcases H with ⟨rfl, rfl⟩ | ⟨b, n, c, r, rfl, h1, h2, h3, h4, h5⟩
  · refine ⟨fun hc => ?_, fun hc => ⟨growslice_fits hc hb, [], by simp, (fun _ e => by cases e), fun b nc hn hnc => ?_⟩⟩
    · have hm : m = 0 := by omega
      subst hm
      have : N = [] := List.eq_nil_of_length_eq_zero (by simpa using hN)
      subst this
      exact ⟨fun i hi => absurd hi (Nat.not_lt_zero _), HK _ _ (.inl ⟨rfl, rfl⟩) rfl hle (fun _ _ _ e => e) (.inl rfl)⟩
    · have h00 := H.le_none hle hn
      refine HK _ _ (Row.new h00 ?_ (hrep _) hnc) rfl (hle.trans (H.le_put hn)) (fun x o _ e => H.le_put hn x o e) (.inr fun a ha => by cases ha; exact hn)
      rw [Nat.zero_add]; simpa using hN
  · refine ⟨fun hc => ⟨?_, ?_⟩, fun hc => ⟨growslice_fits hc hb, cs, h2, fun ad e => ?_, fun b' nc hn hnc => ?_⟩⟩
    · have := Row.writable (h0 := h0) (e := e) (sz := sz) (cs := cs) (o := n * sz) (k := N.length) (.inr ⟨b, n, c, r, rfl, h1, h2, h3, h4, h5⟩) (by rw [hN, ← Nat.add_mul]; exact Nat.mul_le_mul_right _ hc)
      exact this
    · have hr : r = r.take N.length ++ r.drop N.length := (List.take_append_drop ..).symm
      have hlr : N.length ≤ r.length := by rw [hN, h3]; exact Nat.mul_le_mul_right _ (by omega)
      obtain ⟨s1, s2⟩ := sets_block (b := b) (e := e) (f := (0, 0)) N h (n * sz) cs (r.take N.length) (r.drop N.length) h2 (by rw [List.length_take]; omega) (by rw [List.append_assoc, ← hr]; exact h1)
      have ea : ((some (⟨b, 0, none⟩ : Addr)).getD default).add (n * sz) = ⟨b, n * sz, none⟩ := by rw [Option.getD_some, add_lit, Nat.zero_add]
      rw [ea]
      refine HK _ _ (.inr ⟨b, n + m, c, r.drop N.length, rfl, s1, ?_, ?_, hc, h5⟩) rfl (fun x o e => ?_) (fun x o hx e => ?_) (.inl rfl)
      · rw [List.length_append, h2, hN, Nat.add_mul]
      · rw [List.length_drop, h3, hN, ← Nat.sub_mul]; congr 1; omega
      · have : x ≠ b := fun e' => by rw [e', h5] at e; cases e
        rw [s2 x this]; exact hle _ _ e
      · rw [s2 x (hx _ rfl)]; exact e
    · cases e
      have := Row.reads (h0 := h0) (e := e) (sz := sz) (cs := cs) (o := 0) (xs := cs) (.inr ⟨b, n, c, r, rfl, h1, h2, h3, h4, h5⟩) (fun i u hi => by simpa using hi)
      exact this
    · have h00 := H.le_none hle hn
      refine HK _ _ (Row.new h00 ?_ (hrep _) hnc) rfl (hle.trans (H.le_put hn)) (fun x o _ e => H.le_put hn x o e) (.inr fun a ha => by cases ha; exact hn)
      rw [List.length_append, h2, hN, Nat.add_mul]
/-- What a store makes of a row of one's own. -/
theorem set_row {h0 h : H} {e : TypeId} {sz o : Nat} {v : Value} {cs N : List Value} (H : Row h0 h e sz v cs) (hle : h0.le h) (ho : o + N.length ≤ cs.length) :
    Row h0 (h.sets ((vaddr v).add o) N) e sz v (cs.take o ++ N ++ cs.drop (o + N.length)) ∧ h0.le (h.sets ((vaddr v).add o) N) ∧ h.leX (vbase v) (h.sets ((vaddr v).add o) N) := by
  rcases H with ⟨rfl, rfl⟩ | ⟨b, n, c, r, rfl, h1, h2, h3, h4, h5⟩
  · have hN : N = [] := List.eq_nil_of_length_eq_zero (by rw [List.length_nil] at ho; omega)
    subst hN
    exact ⟨.inl ⟨rfl, by simp⟩, hle, fun _ _ _ e => e⟩
  · have ec : cs = cs.take o ++ (cs.drop o).take N.length ++ cs.drop (o + N.length) := by
      rw [← List.drop_drop, List.append_assoc, List.take_append_drop, List.take_append_drop]
    obtain ⟨s1, s2⟩ := sets_block (b := b) (e := e) (f := (0, 0)) N h o (cs.take o) ((cs.drop o).take N.length) (cs.drop (o + N.length) ++ r) (by rw [List.length_take]; omega) (by rw [List.length_take, List.length_drop]; omega)
      (by rw [← List.append_assoc, ← ec]; exact h1)
    have ea : (vaddr (.slice (some ⟨b, 0, none⟩) n c)).add o = ⟨b, o, none⟩ := by rw [vaddr_sl, add_lit, Nat.zero_add]
    rw [ea]
    refine ⟨.inr ⟨b, n, c, r, rfl, by rw [List.append_assoc (cs.take o ++ N)]; exact s1, ?_, h3, h4, h5⟩, fun x o' e => ?_, fun x o' hx e => ?_⟩
    · rw [← h2]
      simp only [List.length_append, List.length_take, List.length_drop]; omega
    · have : x ≠ b := fun e' => by rw [e', h5] at e; cases e
      rw [s2 x this]; exact hle _ _ e
    · rw [s2 x (hx _ rfl)]; exact e
/-- A row of numbers. -/
abbrev OwnInts (h0 h : H) (v : Value) (l : List Int) : Prop := Row h0 h 3 1 v (l.map (.int .i64))
theorem OwnInts.ints {h0 h : H} {v : Value} {l : List Int} (H : OwnInts h0 h v l) : IntsAt h v l := by
  refine ⟨H.fit, by have := Row.len H; simp at this; exact this.symm, fun i x hi => ⟨_, rfl, Row.reads H fun j u hj => ?_⟩⟩
  cases j with
  | zero => simp at hj; subst hj; simp [hi]
  | succ j => simp at hj
theorem own_new {h0 h : H} {b : Nat} {l : List Int} (hb : h0 b = none) : OwnInts h0 (h.put b (.cells (l.map (Value.int .i64)).toArray 3 (0, 0))) (.slice (some ⟨b, 0, none⟩) l.length l.length) l := by
  have := Row.new (h0 := h0) (h := h) (e := 3) (sz := 1) (b := b) (n := l.length) (c := l.length) (cs := l.map (Value.int .i64)) (r := []) hb (by simp) (by simp) (Nat.le_refl _)
  rw [List.append_nil] at this; exact this

/-! ### Slices of slices -/
theorem SlAt.slice {α : Type} {sz : Nat} {Rep : H → List Value → α → Prop} {h : H} {v : Value} {l : List α} (H : SlAt sz Rep h v l) {lo hi : Nat} (h1 : lo ≤ hi) (h2 : hi ≤ l.length) :
    SlAt sz Rep h (sliceV v lo hi sz) ((l.drop lo).take (hi - lo)) := by
  have hl := H.len
  have hg := H.get
  obtain ⟨a, n, c, rfl, h3, h4⟩ := H.fit
  have hl' : n = l.length := hl
  refine ⟨⟨if c = lo then a else a.map (·.add (lo * sz)), hi - lo, c - lo, rfl, fun e => ?_, by omega⟩, ?_, fun i x hi' => ?_⟩
  · have : a = none := by
      split at e
      · exact e
      · simpa using e
    obtain ⟨q1, q2⟩ := h3 this
    omega
  · simp only [sliceV, vlen_sl, List.length_take, List.length_drop]; omega
  · rw [List.getElem?_take] at hi'
    split at hi'
    · rename_i hlt
      rw [List.getElem?_drop] at hi'
      obtain ⟨cs, k1, k2⟩ := hg _ x hi'
      refine ⟨cs, k1, ?_⟩
      have hlt2 := (List.getElem?_eq_some_iff.1 hi').1
      have hne : c ≠ lo := by omega
      simp only [sliceV, if_neg hne]
      cases a with
      | none => have := (h3 rfl).1; omega
      | some ad =>
        simp only [Option.map_some, vaddr_sl] at k2 ⊢
        rw [add_add, ← Nat.add_mul]; exact k2
    · cases hi'

/-! ### Bytes -/
def ByteC (_ : H) (cs : List Value) (n : Int) : Prop := cs = [.int .u8 n] ∧ 0 ≤ n ∧ n ≤ 255
theorem byteC_mono : Mono ByteC := fun _ _ _ _ _ h => h
abbrev BytesAt := SlAt 1 ByteC
theorem BytesAt.le {h h' : H} (hl : h.le h') {v : Value} {l : List Int} (H : BytesAt h v l) : BytesAt h' v l := SlAt.le byteC_mono hl H
theorem BytesAt.read {h : H} {v : Value} {l : List Int} (H : BytesAt h v l) {i : Nat} {x : Int} (hi : l[i]? = some x) : Reads h ((vaddr v).add (i * 1)) [.int .u8 x] ∧ 0 ≤ x ∧ x ≤ 255 := by
  obtain ⟨cs, ⟨rfl, h1⟩, h2⟩ := H.get i x hi; exact ⟨h2, h1⟩

/-! ### A call with one chunk -/
def RetC (Q : Value → List Value → H → Prop) (v : Value) (cs : List (List Value)) (h : H) : Prop := ∃ c, cs = [c] ∧ Q v c h
theorem h_call1 {P : Program} {R : Value → List (List Value) → H → Prop} {G : List Value} {L : Lv} {h : H} {f : FuncId} {args cl : List SV} {ks : List Nat} {sh : List Sh} {rs : List (Bool × List Sh)} {k : Out} {Q : Value → List Value → H → Prop}
    (hc : CallsA P f (fun e => SV.denL G (fun j => e (kIdx ks j)) args) [SV.denL G dE cl] h (RetC Q))
    (hk : ∀ v c h', Q v c h' → FitsL sh c ∧ ∃ xs, FitsL (rshs rs) xs ∧ v = rval rs xs ∧ holds P R k (G ++ (c ++ xs)) L h') : holds P R (.call f args ks [cl] [sh] rs k) G L h :=
  CallsA.mono hc fun v cs' h' ⟨c, he, hq⟩ => by
    obtain ⟨h0, xs, h1, h2, h3⟩ := hk v c h' hq
    subst he
    exact ⟨xs, h1, h2, ⟨h0, trivial⟩, by simpa using h3⟩
end Go.Proofs.Ytibdneedfopcoaa
