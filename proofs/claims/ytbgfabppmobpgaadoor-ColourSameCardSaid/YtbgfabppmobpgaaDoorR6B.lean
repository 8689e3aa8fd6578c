/-
  Graphs: who is near whom, what is right, what fits, what is left out. Conditions: as each contract says.
-/
import Derived.Test.YtbgfabppmobpgaaDoorR6A
set_option linter.unusedVariables false
set_option linter.unusedSimpArgs false
namespace Go.Proofs.YtbgfabppmobpgaaDoor
open Go

/-- A set, read. -/
def SetC (h : H) (cs : List Value) (p : SP) : Prop := ∃ v ws, cs = [v] ∧ WordsAt h v ws ∧ InW ws ∧ ws.length ≤ 64 ∧ hasW ws = p
theorem setC_mono : Mono SetC := fun _ _ _ _ hl ⟨v, ws, h1, h2, h3⟩ => ⟨v, ws, h1, SlAt.le u64C_mono hl h2, h3⟩
theorem setF_at {h : H} {cs : List Value} {p : SP} {fp : List Nat} (k : SetF h cs p fp) : SetC h cs p := by
  obtain ⟨v, ws, e, h1, h2⟩ := k; exact ⟨v, ws, e, rowF_words h1.1, h1.2.1, h1.2.2, h2⟩
abbrev NearAt := SlAt 1 SetC
theorem allW_S {ws : List Int} (hl : ws.length ≤ 64) : allW ws = allS (hasW ws) := by
  unfold allW allS
  refine (filter_skip (a := 64 * ws.length) (b := 4096) (by omega) fun y h1 h2 => ?_).symm
  cases e : hasW ws y with
  | false => rfl
  | true => have := hasW_big e; omega
theorem sAllS {h : H} {c : Value} {p : SP} (ht : Tab h) (hs : SetC h [c] p) : CallsA Tryd.prog 45 (fun _ => [.agg #[c]]) [] h (Ret fun r h' => h.le h' ∧ OwnInts h h' r ((allS p).map Int.ofNat)) := by
  obtain ⟨v, ws, e, h1, h2, h3, rfl⟩ := hs
  obtain rfl : c = v := by simpa using e
  rw [← allW_S h3]
  exact s45 ht h1 h2 h3
theorem SetC.fit {h : H} {c : Value} {p : SP} (hs : SetC h [c] p) : Fits .sl c := by
  obtain ⟨v, ws, e, h1, h2, h3, rfl⟩ := hs
  obtain rfl : c = v := by simpa using e
  exact h1.fit
theorem NearAt.get1 {h : H} {v : Value} {L : List SP} (k : NearAt h v L) {i : Nat} {p : SP} (hi : L[i]? = some p) : ∃ c, SetC h [c] p ∧ Reads h ((vaddr v).add (i * 1)) [c] := by
  obtain ⟨cs, h1, h2⟩ := k.get i p hi
  obtain ⟨c, ws, rfl, h3⟩ := h1
  exact ⟨c, ⟨c, ws, rfl, h3⟩, h2⟩
theorem mk_sameC {α : Type} {e : TypeId} {R : RepF α} {h : H} {b n : Nat} {z : Value} {x : α} (hz : ∀ {h : H}, R h [z] x []) : SlF e 1 R (h.put b (.cells (repZ [z] n).toArray e (0, 0))) (.slice (some ⟨b, 0, none⟩) n n) (List.replicate n x) [b] := by
  have hrz : repZ [z] n = List.replicate n z := by
    unfold repZ
    apply List.ext_getElem (by simp)
    intro i h1 h2
    simp [Nat.mod_one]
  rw [hrz]
  have hr := RowF.new (h := h) (e := e) (sz := 1) (b := b) (n := n) (c := n) (cs := List.replicate n z) (r := []) (by simp) (by simp) (Nat.le_refl _)
  rw [List.append_nil] at hr
  have e1 : ∀ n : Nat, cellsE (List.replicate n (⟨[z], x, []⟩ : El α)) = List.replicate n z := by
    intro n
    unfold cellsE
    induction n with
    | zero => rfl
    | succ n ih => rw [List.replicate_succ, List.flatMap_cons, List.replicate_succ, ih]; rfl
  have e2 : fpE (List.replicate n (⟨[z], x, []⟩ : El α)) = [] := by
    unfold fpE
    rw [List.flatMap_eq_nil_iff]
    intro y hy
    rw [(List.mem_replicate.1 hy).2]
  refine ⟨List.replicate n ⟨[z], x, []⟩, [b], by simp, by rw [e2]; rfl, by rw [e1]; exact hr, fun t ht => ?_⟩
  rw [(List.mem_replicate.1 ht).2]
  exact ⟨rfl, hz⟩
theorem zero_setC {h1 : H} {b N : Nat} : SlF 67 1 SetF (h1.put b (.cells (repZ ((zeroCells Tryd.prog 67).getD []) N).toArray 67 (0, 0))) (.slice (some ⟨b, 0, none⟩) N N) (List.replicate N (fun _ => false)) [b] := by
  rw [show (zeroCells Tryd.prog 67).getD [] = [.slice none 0 0] by kernel_rfl]
  exact mk_sameC fun {h} => ⟨_, [], rfl, ⟨.inl ⟨rfl, rfl, rfl⟩, (fun w hw => by cases hw), by simp⟩, by funext y; simp [hasW]⟩
/-- Edges as numbers. -/
def edN (E : EdgeL) : List (Nat × Nat) := E.map fun e => (e.1.toNat, e.2.toNat)
def nearM (N : Nat) (E : List (Nat × Nat)) : List SP := E.foldl (fun L e => linkL e.1 L e.2) (List.replicate N fun _ => false)
theorem nearM_len (N : Nat) (E : List (Nat × Nat)) : (nearM N E).length = N := by
  have : ∀ (E : List (Nat × Nat)) (L : List SP), (E.foldl (fun L e => linkL e.1 L e.2) L).length = L.length := by
    intro E
    induction E with
    | nil => exact fun _ => rfl
    | cons e E ih => exact fun L => by rw [List.foldl_cons, ih, linkL_len]
  unfold nearM; rw [this]; simp
theorem nearM_nr {N : Nat} {E : List (Nat × Nat)} (hE : ∀ e ∈ E, e.1 < N ∧ e.2 < N) (x y : Nat) : nrL (nearM N E) x y = true ↔ (x, y) ∈ E ∨ (y, x) ∈ E := by
  have key : ∀ (E : List (Nat × Nat)) (L : List SP), L.length = N → (∀ e ∈ E, e.1 < N ∧ e.2 < N) → ((nrL (E.foldl (fun L e => linkL e.1 L e.2) L) x y = true) ↔ nrL L x y = true ∨ (x, y) ∈ E ∨ (y, x) ∈ E) := by
    intro E
    induction E with
    | nil => intro L _ _; simp
    | cons e E ih =>
      intro L hL h
      obtain ⟨h1, h2⟩ := h e (List.mem_cons_self ..)
      rw [List.foldl_cons, ih _ (by rw [linkL_len]; exact hL) fun f hf => h f (List.mem_cons_of_mem _ hf), linkL_nr (by omega) (by omega)]
      simp only [List.mem_cons]
      obtain ⟨a, b⟩ := e
      simp only [Prod.mk.injEq]
      constructor
      · rintro ((q | ⟨q, q'⟩ | ⟨q, q'⟩) | q | q)
        · exact .inl q
        · exact .inr (.inl (.inl ⟨q, q'⟩))
        · exact .inr (.inr (.inl ⟨q, q'⟩))
        · exact .inr (.inl (.inr q))
        · exact .inr (.inr (.inr q))
      · rintro (q | (⟨q, q'⟩ | q) | (⟨q, q'⟩ | q))
        · exact .inl (.inl q)
        · exact .inl (.inr (.inl ⟨q, q'⟩))
        · exact .inr (.inl q)
        · exact .inl (.inr (.inr ⟨q, q'⟩))
        · exact .inr (.inr q)
  unfold nearM
  rw [key E _ (by simp) hE]
  have : nrL (List.replicate N fun _ => false) x y = false := by
    unfold nrL; rw [List.getD_eq_getElem?_getD, List.getElem?_replicate]; split <;> rfl
  rw [this]; simp
theorem ok_range {N : Int} {E : EdgeL} (h : rightE N E = true) {e : Int × Int} (he : e ∈ E) : 0 ≤ e.1 ∧ e.1 < e.2 ∧ e.2 < N := by
  obtain ⟨j, hj⟩ := List.mem_iff_getElem?.1 he
  have := rightE_at h (List.getElem?_eq_some_iff.1 hj).1
  unfold okE at this
  rw [hj] at this
  simp only [Bool.and_eq_true, decide_eq_true_eq] at this
  exact ⟨this.1.1.1, this.1.1.2, this.1.2⟩
theorem Gr.ok_parts {g : Gr} (h : g.ok = true) : 0 ≤ g.n ∧ g.n < 4096 ∧ rightE g.n g.e = true ∧ rightE g.n g.m = true ∧ ∀ x ∈ g.m, g.e.any (isE x.1 x.2) = false := by
  unfold Gr.ok at h
  simp only [Bool.and_eq_true, decide_eq_true_eq, Bool.not_eq_true', List.any_eq_false] at h
  exact ⟨h.1.1.1.1, h.1.1.1.2, h.1.1.2, h.1.2, fun x hx => by simpa using h.2 x hx⟩
section
variable {h : H} {ve vm : Value} {g : Gr}
theorem s26 (K : GrAt h ve vm g) (hg : g.ok = true) : CallsA Tryd.prog 26 (fun _ => [grV g ve vm]) [] h (Ret fun r h' => h.le h' ∧ ∃ fp, SlF 67 1 SetF h' r (nearM g.n.toNat (edN g.e)) fp ∧ Fresh h fp ∧ fp.Nodup) := by
  obtain ⟨g1, g2, g3, -, -⟩ := Gr.ok_parts hg
  refine c26 (G := [.int .i64 g.n, ve, vm]) ⟨⟨_, rfl⟩, K.e.fit, K.m.fit, trivial⟩ ?_
  refine ⟨g1, by show g.n * 24 ≤ _; omega, ?_⟩
  intro b hb
  show holds _ _ _ ([.int .i64 g.n, ve, vm] ++ [.slice (some ⟨b, 0, none⟩) g.n.toNat g.n.toNat]) _ (h.put b (.cells (repZ ((zeroCells Tryd.prog 67).getD []) g.n.toNat).toArray 67 (0, 0)))
  have k0 := zero_setC (h1 := h) (b := b) (N := g.n.toNat)
  have hl0 : h.le (h.put b (.cells (repZ ((zeroCells Tryd.prog 67).getD []) g.n.toNat).toArray 67 (0, 0))) := H.le_put hb
  generalize (h.put b (.cells (repZ ((zeroCells Tryd.prog 67).getD []) g.n.toNat).toArray 67 (0, 0))) = h0 at k0 hl0
  generalize hv : Value.slice (some ⟨b, 0, none⟩) g.n.toNat g.n.toNat = vo at k0
  have hvl := K.e.len
  refine h_range (n := g.e.length) (fun i h' => h.le h' ∧ ∃ fp, SlF 67 1 SetF h' vo (nearM g.n.toNat (edN (g.e.take i))) fp ∧ Fresh h fp ∧ fp.Nodup) hvl (by omega) rfl (by have := K.el; omega) ⟨hl0, [b], k0, fun x hx => by rw [List.mem_singleton] at hx; subst hx; exact hb, by simp⟩ ?_ ?_
  · rintro i h1 J hi ⟨hl1, fp, k1, f1, n1⟩ hJ
    have hx : g.e[i]? = some g.e[i] := List.getElem?_eq_getElem hi
    generalize g.e[i] = x at hx
    obtain ⟨x1, x2, x3⟩ := ok_range g3 (List.mem_of_getElem? hx)
    obtain ⟨x, y⟩ := x
    simp only at x1 x2 x3
    obtain ⟨a, rfl⟩ : ∃ a : Nat, x = a := ⟨x.toNat, by omega⟩
    obtain ⟨c, rfl⟩ : ∃ c : Nat, y = c := ⟨y.toNat, by omega⟩
    have hvo : vlen vo = g.n.toNat := by rw [k1.len (by omega), nearM_len]
    obtain ⟨L, hL⟩ : ∃ L, L = nearM g.n.toNat (edN (g.e.take i)) := ⟨_, rfl⟩
    have hLl : L.length = g.n.toNat := by rw [hL, nearM_len]
    rw [← hL] at k1
    have hstep : nearM g.n.toNat (edN (g.e.take (i + 1))) = linkL a L c := by
      rw [hL, List.take_add_one, hx]
      unfold edN nearM
      simp [List.foldl_append]
    have ha : L[a]? = some (nrL L a) := nrL_some (by omega)
    have k1e := EdgesAt.le hl1 K.e
    refine h_load [.int .i64 (a : Int), .int .i64 (c : Int)] ⟨⟨_, rfl⟩, ⟨_, rfl⟩, trivial⟩ (fun _ => k1e.read hx) ⟨fun _ => needIx (i := a) (n := g.n.toNat) (v := vo) rfl rfl hvo (by omega), ?_⟩
    refine h_call0 (s32p k1 n1 ha (x := c) (by omega)) ?_
    rintro _ h2 ⟨rfl, fp2, k2, n2, q2, s2⟩
    have hl2 : h.le h2 := q2.le hl1 f1
    have f2 : Fresh h fp2 := fun z hz => (s2 z hz).elim (f1 z) (H.le_none hl1)
    have hc2 : (L.set a (insP (nrL L a) c))[c]? = some (nrL (L.set a (insP (nrL L a) c)) c) := nrL_some (by rw [List.length_set]; omega)
    refine ⟨[.bool (!nrL L a c)], ⟨⟨_, rfl⟩, trivial⟩, rfl, fun _ => needIx (i := c) (n := g.n.toNat) (v := vo) rfl rfl hvo (by omega), ?_⟩
    refine h_call0 (s32p k2 n2 hc2 (x := a) (by omega)) ?_
    rintro _ h3 ⟨rfl, fp3, k3, n3, q3, s3⟩
    refine ⟨[.bool _], ⟨⟨_, rfl⟩, trivial⟩, rfl, hJ _ ⟨q3.le hl2 f2, fp3, ?_, fun z hz => (s3 z hz).elim (f2 z) (H.le_none hl2), n3⟩⟩
    rw [hstep]; exact k3
  · rintro h' J ⟨hl1, fp, k1, f1, n1⟩
    rw [List.take_length] at k1
    subst hv
    exact ⟨rfl, hl1, fp, k1, f1, n1⟩
theorem hasE_ok {N : Int} {E : EdgeL} (hE : rightE N E = true) {a b : Int} (hab : a < b) : hasE E a b = E.any (isE a b) := by
  unfold hasE
  apply Bool.eq_iff_iff.2
  simp only [List.any_eq_true, Bool.or_eq_true]
  constructor
  · rintro ⟨x, hx, q | q⟩
    · exact ⟨x, hx, q⟩
    · have := ok_range hE hx
      unfold isE at q
      rw [decide_eq_true_eq] at q
      omega
  · rintro ⟨x, hx, q⟩
    exact ⟨x, hx, .inl q⟩
theorem s18 (K : GrAt h ve vm g) : CallsA Tryd.prog 18 (fun _ => [grV g ve vm]) [] h (Ret fun r h' => h' = h ∧ r = .bool g.ok) := by
  refine c18 (G := [.int .i64 g.n, ve, vm]) ⟨⟨_, rfl⟩, K.e.fit, K.m.fit, trivial⟩ ?_
  refine h_ite (fun hc => ?_) (fun hc => ?_)
  · simp only [holds, X.den, PE.den, SV.den, SV.denL, NK.val, NK.sv, NK.pub, gv_zero, gv_succ, vi_int, vb_bool, vlen_sl, vaddr_ptr, vb_ite, vi_ite, cmp_eql, cmp_neq, cmp_lss, cmp_leq, cmp_gtr, cmp_geq, List.map_nil, List.map_cons, List.cons_append, List.nil_append, List.flatten_nil, needs, Ret, true_and, and_true, decide_eq_true_eq, forall_const, intOp] at hc
    have e0 : (decide (0 ≤ g.n) && decide (g.n < 4096)) = true := by grind
    refine h_call0 (s29 K.e K.el) ?_
    rintro _ h1 ⟨e1, rfl⟩
    have e1' := e1.symm
    subst e1'
    refine ⟨[.bool (rightE g.n g.e)], ⟨⟨_, rfl⟩, trivial⟩, rfl, h_ite (fun h3 => ?_) (fun h3 => ?_)⟩
    · replace h3 : rightE g.n g.e = true := h3
      refine h_call0 (s29 K.m K.ml) ?_
      rintro _ h4 ⟨e4, rfl⟩
      have e4' := e4.symm
      subst e4'
      refine ⟨[.bool (rightE g.n g.m)], ⟨⟨_, rfl⟩, trivial⟩, rfl, h_ite (fun h5 => ?_) (fun h5 => ?_)⟩
      · replace h5 : (!rightE g.n g.m) = true := h5
        rw [Bool.not_eq_true'] at h5
        refine ⟨rfl, rfl, ?_⟩
        unfold Gr.ok; rw [h5]; simp [SV.den, X.den]
      · replace h5 : (!rightE g.n g.m) = false := h5
        rw [Bool.not_eq_false'] at h5
        have hvl := K.m.len
        refine h_range (n := g.m.length) (fun i h' => h' = h ∧ ∀ j y, j < i → g.m[j]? = some y → g.e.any (isE y.1 y.2) = false) hvl (by omega) rfl (by have := K.ml; omega) ⟨rfl, fun j y hj => absurd hj (Nat.not_lt_zero _)⟩ ?_ ?_
        · rintro i h' J hi ⟨e, hp⟩ hJ
          have e' := e.symm
          subst e'
          have hx : g.m[i]? = some g.m[i] := List.getElem?_eq_getElem hi
          generalize g.m[i] = x at hx
          have xr := ok_range h5 (List.mem_of_getElem? hx)
          refine h_load [.int .i64 x.1] ⟨⟨_, rfl⟩, trivial⟩ (fun _ => K.m.readA hx) ⟨fun _ => needIx (v := vm) rfl rfl hvl hi, h_load [.int .i64 x.2] ⟨⟨_, rfl⟩, trivial⟩ (fun _ => K.m.readB hx) (h_call0 (s30 K.e K.el) ?_)⟩
          rintro _ h6 ⟨e6, rfl⟩
          have e6' := e6.symm
          subst e6'
          refine ⟨[.bool (hasE g.e x.1 x.2)], ⟨⟨_, rfl⟩, trivial⟩, rfl, h_ite (fun hd => ?_) (fun hd => ?_)⟩
          · replace hd : hasE g.e x.1 x.2 = true := hd
            rw [hasE_ok h3 xr.2.1] at hd
            refine ⟨rfl, rfl, ?_⟩
            have : (g.m.any fun x => g.e.any (isE x.1 x.2)) = true := any_yes hx hd
            unfold Gr.ok; rw [this]; simp [SV.den, X.den]
          · replace hd : hasE g.e x.1 x.2 = false := hd
            rw [hasE_ok h3 xr.2.1] at hd
            exact hJ _ ⟨rfl, none_upto (f := fun y => g.e.any (isE y.1 y.2)) hp hx hd⟩
        · rintro h' J ⟨e, hp⟩
          refine ⟨rfl, e, ?_⟩
          have : (g.m.any fun x => g.e.any (isE x.1 x.2)) = false := any_no hp
          unfold Gr.ok; rw [this, h3, h5, e0]; simp [SV.den, X.den]
    · replace h3 : rightE g.n g.e = false := h3
      refine ⟨rfl, rfl, ?_⟩
      unfold Gr.ok; rw [h3]; simp [SV.den, X.den]
  · refine ⟨rfl, rfl, ?_⟩
    simp only [holds, X.den, PE.den, SV.den, SV.denL, NK.val, NK.sv, NK.pub, gv_zero, gv_succ, vi_int, vb_bool, vlen_sl, vaddr_ptr, vb_ite, vi_ite, cmp_eql, cmp_neq, cmp_lss, cmp_leq, cmp_gtr, cmp_geq, List.map_nil, List.map_cons, List.cons_append, List.nil_append, List.flatten_nil, needs, Ret, true_and, and_true, decide_eq_true_eq, forall_const, intOp] at hc
    have : g.ok = false := by unfold Gr.ok; grind
    rw [this]; rfl
end
end Go.Proofs.YtbgfabppmobpgaaDoor
