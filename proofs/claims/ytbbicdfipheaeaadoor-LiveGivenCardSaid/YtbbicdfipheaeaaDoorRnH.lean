/-
  Outputs that are the same; inputs; a function run, code run. Conditions: as each contract says.
-/
import Derived.Test.YtbbicdfipheaeaaDoorRq
set_option linter.unusedVariables false
set_option linter.unusedSimpArgs false
namespace Go.Proofs.YtbbicdfipheaeaaDoor
open Go

theorem insF_noneR {f : Ins → Int} : ∀ {l : List Ins} {k : Nat}, insF f k l = none → ∀ x ∈ l, f x = 0
  | [], _, _, x, hx => by cases hx
  | y :: l, k, h, x, hx => by
    unfold insF at h
    split at h
    · cases h
    · rename_i h0
      rcases List.mem_cons.1 hx with rfl | hx
      · exact Decidable.not_not.1 h0
      · exact insF_noneR h x hx
theorem insF_someR {f : Ins → Int} : ∀ {l : List Ins} {k : Nat} {r : Nat × Int}, insF f k l = some r → r.2 ≠ 0
  | [], _, _, h => by cases h
  | y :: l, k, r, h => by
    unfold insF at h
    split at h
    · rename_i h0; cases h; exact h0
    · exact insF_someR h
theorem blkF_zeroR {f : Ins → Int} {g : Fin4 → Int} {most : Nat} : ∀ {l : List Blk} {k : Nat}, (blkF f g most k l).1 = 0 → ∀ b ∈ l, b.ins.length ≤ most ∧ (∀ x ∈ b.ins, f x = 0) ∧ g b.en = 0
  | [], _, _, b, hb => by cases hb
  | y :: l, k, h, b, hb => by
    unfold blkF at h
    split at h
    · simp at h
    · rename_i h1
      split at h
      · rename_i k' e' he
        have := insF_someR he
        exact absurd h this
      · rename_i he
        split at h
        · rename_i h2; exact absurd h h2
        · rename_i h2
          rcases List.mem_cons.1 hb with rfl | hb
          · exact ⟨by omega, insF_noneR he, Decidable.not_not.1 h2⟩
          · exact blkF_zeroR h b hb
theorem checkM_zeroR {p n : Int} {bs : List Blk} (h : (checkM p n bs).1 = 0) : 1 ≤ bs.length ∧ bs.length ≤ 16 ∧ ∀ b ∈ bs, b.ins.length ≤ 32 ∧ (∀ x ∈ b.ins, ofM x n = 0) ∧ endM b.en n bs.length 21 = 0 := by
  unfold checkM at h
  split at h
  · simp at h
  · rename_i h1
    exact ⟨by omega, by omega, blkF_zeroR h⟩

theorem endM_kind {e : Fin4} {R N : Int} (h : endM e R N 21 = 0) : 1 ≤ e.kind ∧ e.kind ≤ 3 := by unfold endM at h; grind (splits := 40)
theorem bl_ir {n m : Nat} {N : Int} {b : Blk} (h1 : b.ins.length ≤ 1000) (h2 : ∀ x ∈ b.ins, ofM x (n : Int) = 0) (h3 : endM b.en (n : Int) N 21 = 0) (hm : n ≤ m) (hm2 : m ≤ 1000) : BlOk (n : Int) (m : Int) N b :=
  ⟨h1, fun x hx => ofM_pl (h2 x hx) (by omega) (by omega), endM_kind h3, endM_pl h3 (by omega)⟩
/-! ### Outputs, read -/
def CallC (h : H) (cs : List Value) (c : Int × List Int) : Prop := ∃ u, cs = [.int .i64 c.1, u] ∧ IntsAt h u c.2
theorem callC_mono : Mono CallC := fun _ _ _ _ hl ⟨v, h1, h2⟩ => ⟨v, h1, h2.le hl⟩
abbrev CallsAt := SlAt 2 CallC
theorem rowF_ints64 {h : H} {e : TypeId} {u : Value} {l : List Int} {fp : List Nat} (k : RowF h e 1 u (l.map (.int .i64)) fp) : IntsAt h u l := rowF_ints k
theorem callF_at {h : H} {cs : List Value} {x : Int × List Int} {fp : List Nat} (k : CallF h cs x fp) : CallC h cs x := by
  obtain ⟨u, h1, h2⟩ := k; exact ⟨u, h1, rowF_ints h2⟩
def OutA (h : H) (r : Value) (t : Rs) : Prop := ∃ cv, r = .agg (outC t cv).toArray ∧ t.mem.length = 64 ∧ CallsAt h cv t.calls
theorem OutR.at_ {h0 h : H} {r : Value} {t : Rs} (o : OutR h0 h r t) : OutA h r t := by
  obtain ⟨cv, fC, h1, h2, h3, _, _⟩ := o
  exact ⟨cv, h1, h2, h3.at (by omega) callF_at⟩
theorem OutA.le {h h' : H} {r : Value} {t : Rs} (hl : h.le h') (o : OutA h r t) : OutA h' r t := by
  obtain ⟨cv, h1, h2, h3⟩ := o; exact ⟨cv, h1, h2, SlAt.le callC_mono hl h3⟩
def zeroRs : Rs := ⟨0, 0, [], List.replicate 64 0, 0, [], []⟩
theorem zeroRs_at {h : H} : OutA h (.agg (outC zeroRs (.slice none 0 0)).toArray) zeroRs := ⟨_, rfl, rfl, SlAt.nil⟩
theorem den_part {F A D : List Value} {E : Nat → CE} {shs : List Sh} {l : List SV} (hf : FitsL shs A) (hl : l = Sh.svs F.length shs) : SV.denL (F ++ A ++ D) E l = A := by
  subst hl
  exact (vals_of (svs_at (E := E) hf) (svs_den (E := E) (G := F) hf).2.1).symm
/-- Nothing that is seen of two outputs differs. -/
def SameO (s t : Rs) : Prop := s.how = t.how ∧ s.value = t.value ∧ s.calls = t.calls ∧ s.mem = t.mem ∧ s.left = t.left
def CallsOk (t : Rs) : Prop := t.calls.length ≤ 100000000 ∧ ∀ c ∈ t.calls, c.2.length ≤ 100000
theorem Runs.calls {bs : List Blk} {R n : Int} {F : Int} {m : Nat} (hok : ∀ x ∈ bs, BlOk R n bs.length x) {b k : Nat} {s t : Rs} (h : Runs bs R b k s t) : (∀ c ∈ s.calls, c.2.length ≤ 100000) → Good m F s → (∀ c ∈ t.calls, c.2.length ≤ 100000) ∧ Good m F t := by
  have st : ∀ {x : Ins} {s : Rs}, PlOk R n x → (∀ c ∈ s.calls, c.2.length ≤ 100000) → ∀ c ∈ (stepM R x s).1.calls, c.2.length ≤ 100000 := by
    intro x s hp h
    have hal := hp.al
    unfold stepM
    split
    · exact h
    · split
      · exact h
      · split
        · exact h
        · split
          · exact h
          · split
            · exact h
            · split
              · split <;> exact h
              · split
                · exact h
                · split
                  · exact h
                  · split
                    · intro c hc
                      rcases List.mem_append.1 hc with q | q
                      · exact h c q
                      · rw [List.mem_singleton] at q; subst q; simp only [List.length_map]; omega
                    · exact h
  have en : ∀ {e : Fin4} {s : Rs}, (endS e s).1.calls = s.calls := by intro e s; unfold endS; split <;> (try rfl); split <;> (try rfl); split <;> rfl
  induction h with
  | stop h1 h2 h3 =>
    intro hc hg
    have hp := (hok _ (List.mem_of_getElem? h1)).ins _ (List.mem_of_getElem? h2)
    have a := st hp hc
    rw [h3] at a
    exact ⟨a, by have := stepM_good (R := R) (x := ‹Ins›) hg; rw [h3] at this; exact this⟩
  | step h1 h2 h3 _ ih =>
    intro hc hg
    have hp := (hok _ (List.mem_of_getElem? h1)).ins _ (List.mem_of_getElem? h2)
    have a := st hp hc
    rw [h3] at a
    exact ih a (by have := stepM_good (R := R) (x := ‹Ins›) hg; rw [h3] at this; exact this)
  | fin h1 h0 h2 =>
    rename_i b' k' s' t' x'
    intro hc hg
    have a := en (e := x'.en) (s := s'); have g := endS_good (e := x'.en) hg
    rw [h2] at a g
    exact ⟨by rw [a]; exact hc, g⟩
  | go h1 h0 h2 _ ih =>
    rename_i b' k' s' t' f' x' c' _
    intro hc hg
    have a := en (e := x'.en) (s := s'); have g := endS_good (e := x'.en) hg
    rw [h2] at a g
    exact ih (by rw [a]; exact hc) g
theorem Runs.ok {bs : List Blk} {R n : Int} {m first : Nat} {args mem ans : List Int} {fuel : Int} {t : Rs} (hok : ∀ x ∈ bs, BlOk R n bs.length x) (h : Runs bs R 0 0 (start m first args mem ans fuel) t) (hf : first + args.length ≤ m) (hfu : 0 ≤ fuel ∧ fuel ≤ 1100000) : CallsOk t := by
  obtain ⟨h1, h2⟩ := h.calls (m := m) (F := 2000000) hok (fun c hc => by cases hc) ⟨places0_len hf, by simp only [start, List.length_nil]; omega⟩
  have := h2.lf
  exact ⟨by omega, h1⟩
def eqs : Nat → Nat → Nat → X
  | 0, i, j => .cmp .eql (.var i) (.var j)
  | k + 1, i, j => .and (.cmp .eql (.var i) (.var j)) (eqs k (i + 1) (j + 1))
theorem eqs_true {G : List Value} : ∀ {k i j : Nat}, (∀ m, m ≤ k → vi (gv G (i + m)) = vi (gv G (j + m))) → vb ((eqs k i j).den G) = true
  | 0, i, j, h => by have := h 0 (by omega); simp only [eqs, X.den, vb_bool, cmp_eql, decide_eq_true_eq]; exact this
  | k + 1, i, j, h => by
    have h0 := h 0 (by omega)
    have ih := eqs_true (G := G) (k := k) (i := i + 1) (j := j + 1) (fun m hm => by have := h (m + 1) (by omega); rw [show i + 1 + m = i + (m + 1) by omega, show j + 1 + m = j + (m + 1) by omega]; exact this)
    simp only [eqs, X.den, vb_bool, cmp_eql, Bool.and_eq_true, decide_eq_true_eq]
    exact ⟨h0, ih⟩
theorem outC_gv {s : Rs} {cv : Value} (hm : s.mem.length = 64) : gv (outC s cv) 0 = .int .i64 s.how ∧ gv (outC s cv) 1 = .int .i64 s.value ∧ gv (outC s cv) 2 = cv ∧ gv (outC s cv) 67 = .int .i64 s.left := by
  refine ⟨rfl, rfl, rfl, ?_⟩
  have h : (s.mem.map (Value.int .i64)).length = 64 := by simp [hm]
  show gv (s.mem.map (Value.int .i64) ++ [.int .i64 s.left]) 64 = _
  exact gv_at (j := 0) (by omega)
theorem outC_mem {s t : Rs} {cu cv : Value} (h : s.mem = t.mem) {i : Nat} (hi : 3 ≤ i) (hi2 : i ≤ 66) (hm : s.mem.length = 64) : gv (outC s cu) i = gv (outC t cv) i := by
  obtain ⟨j, rfl⟩ : ∃ j, i = j + 3 := ⟨i - 3, by omega⟩
  show gv (s.mem.map (Value.int .i64) ++ [.int .i64 s.left]) j = gv (t.mem.map (Value.int .i64) ++ [.int .i64 t.left]) j
  rw [gv_of_lt (by simp [hm]; omega), gv_of_lt (by simp [← h, hm]; omega), h]
theorem out_cond {G : List Value} (h0 : vi (gv G 0) = vi (gv G 68)) (h1 : vi (gv G 1) = vi (gv G 69)) (hm : vb ((eqs 63 3 71).den G) = true) (h2 : vi (gv G 67) = vi (gv G 135)) (hl : vlen (gv G 2) = vlen (gv G 70)) :
    vb ((X.ite (.ite (.ite (.ite (.cmp .neq (.var 0) (.var 68)) (.tt true) (.cmp .neq (.var 1) (.var 69))) (.tt true) (.not (eqs 63 3 71))) (.tt true) (.cmp .neq (.var 67) (.var 135))) (.tt true) (.cmp .neq (.len 2) (.len 70))).den G) = false := by
  generalize eqs 63 3 71 = E at *
  simp [X.den, vb_ite, h0, h1, hm, h2, hl, cmp_neq]
theorem call_cond {G : List Value} (h1 : vi (gv G 137) = vi (gv G 139)) (hl : vlen (gv G 138) = vlen (gv G 140)) : vb ((X.ite (.cmp .neq (.var 137) (.var 139)) (.tt true) (.cmp .neq (.len 138) (.len 140))).den G) = false := by
  simp [X.den, vb_ite, h1, hl, cmp_neq]
theorem s38 {h : H} {u v : Value} {s t : Rs} (hu : OutA h u s) (hv : OutA h v t) (hs : SameO s t) (hc : CallsOk s) : CallsA Tryd.prog 38 (fun _ => [u, v]) [] h (Ret fun r h' => h' = h ∧ r = .bool true) := by
  obtain ⟨cu, rfl, mu, hcu⟩ := hu
  obtain ⟨cv, rfl, mv, hcv⟩ := hv
  obtain ⟨e1, e2, e3, e4, e5⟩ := hs
  rw [← e3] at hcv
  have fu := outC_fit mu hcu.fit
  have fv := outC_fit mv hcv.fit
  have lu : (outC s cu).length = 68 := outC_len mu
  have lv : (outC t cv).length = 68 := outC_len mv
  obtain ⟨u0, u1, u2, u67⟩ := outC_gv (s := s) (cv := cu) mu
  obtain ⟨v0, v1, v2, v67⟩ := outC_gv (s := t) (cv := cv) mv
  have a0 : gv (outC s cu ++ outC t cv) 0 = .int .i64 s.how := by rw [gv_of_lt (by omega), u0]
  have a1 : gv (outC s cu ++ outC t cv) 1 = .int .i64 s.value := by rw [gv_of_lt (by omega), u1]
  have a2 : gv (outC s cu ++ outC t cv) 2 = cu := by rw [gv_of_lt (by omega), u2]
  have a67 : gv (outC s cu ++ outC t cv) 67 = .int .i64 s.left := by rw [gv_of_lt (by omega), u67]
  have b0 : gv (outC s cu ++ outC t cv) 68 = .int .i64 t.how := by rw [gv_at (j := 0) (by omega), v0]
  have b1 : gv (outC s cu ++ outC t cv) 69 = .int .i64 t.value := by rw [gv_at (j := 1) (by omega), v1]
  have b2 : gv (outC s cu ++ outC t cv) 70 = cv := by rw [gv_at (j := 2) (by omega), v2]
  have b67 : gv (outC s cu ++ outC t cv) 135 = .int .i64 t.left := by rw [gv_at (j := 67) (by omega), v67]
  have bm : ∀ m, m ≤ 63 → gv (outC s cu ++ outC t cv) (3 + m) = gv (outC s cu ++ outC t cv) (71 + m) := fun m hm => by
    rw [gv_of_lt (by omega), gv_at (j := 3 + m) (by omega)]; exact outC_mem e4 (by omega) (by omega) mu
  have hul := hcu.len
  have hvl := hcv.len
  have key : (fun _ : Nat → CE => [Value.agg (outC s cu).toArray, Value.agg (outC t cv).toArray]) = fun e => SV.denL (outC s cu ++ outC t cv) (fun k => e (k - 1000000)) [.agg (Sh.svs 0 outSh), .agg (Sh.svs 68 outSh)] := by
    funext e
    have d1 := den_part (F := []) (D := outC t cv) (E := fun k => e (k - 1000000)) fu rfl
    have d2 := den_part (F := outC s cu) (D := []) (E := fun k => e (k - 1000000)) fv rfl
    rw [lu, List.append_nil] at d2
    simp only [SV.denL, SV.den]
    rw [d2]
    rw [List.nil_append] at d1
    exact congrArg (fun z => [Value.agg z.toArray, Value.agg (outC t cv).toArray]) d1.symm
  rw [key]
  refine c38 (G := outC s cu ++ outC t cv) ?_ ?_
  · exact FitsL.append fu fv
  refine iteF (out_cond (by rw [a0, b0, e1]) (by rw [a1, b1, e2]) (eqs_true fun m hm => by rw [bm m hm]) (by rw [a67, b67, e5]) (by rw [a2, b2, hul, hvl])) ?_
  have hG : (outC s cu ++ outC t cv).length = 136 := by rw [List.length_append, lu, lv]
  generalize outC s cu ++ outC t cv = G at *
  refine h_range (n := s.calls.length) (fun i h' => h' = h) (by rw [a2]; exact hul) (by omega) hG (by have := hc.1; omega) rfl ?_ ?_
  · rintro i h' J hi rfl hJ
    have hx : s.calls[i]? = some s.calls[i] := List.getElem?_eq_getElem hi
    have hxm : s.calls[i] ∈ s.calls := List.getElem_mem _
    generalize s.calls[i] = x at hx hxm
    have hxl := hc.2 x hxm
    obtain ⟨_, ⟨q1, rfl, hq1⟩, hr1⟩ := hcu.get i x hx
    obtain ⟨_, ⟨q2, rfl, hq2⟩, hr2⟩ := hcv.get i x hx
    have l1 := hq1.len
    have l2 := hq2.len
    have f2 : ∀ D : List Value, gv (G ++ D) 2 = cu := fun D => by rw [gv_of_lt (by omega), a2]
    have f70 : ∀ D : List Value, gv (G ++ D) 70 = cv := fun D => by rw [gv_of_lt (by omega), b2]
    have r1 : ∀ D : List Value, Reads h' ((PE.idx (.var 2) (.var 136) 2).den (G ++ (.int .i64 (i : Int) :: D))) [.int .i64 x.1, q1] := fun D => by
      simp only [PE.den, X.den, f2, gv_at (G := G) (D := .int .i64 (i : Int) :: D) (i := 136) (j := 0) (by omega), gv_zero, vi_int, Int.toNat_natCast]; exact hr1
    have r2 : ∀ D : List Value, Reads h' ((PE.idx (.var 70) (.var 136) 2).den (G ++ (.int .i64 (i : Int) :: D))) [.int .i64 x.1, q2] := fun D => by
      simp only [PE.den, X.den, f70, gv_at (G := G) (D := .int .i64 (i : Int) :: D) (i := 136) (j := 0) (by omega), gv_zero, vi_int, Int.toNat_natCast]; exact hr2
    have nd : ∀ D : List Value, needs (G ++ (.int .i64 (i : Int) :: D)) [(.cmp .geq (.var 136) (.lit 0)), (.cmp .lss (.var 136) (.len 70))] := fun D => by
      refine needI (x := (i : Int)) (n := s.calls.length) ?_ ?_ ⟨by omega, by omega⟩
      · rw [gv_at (j := 0) (by omega)]; rfl
      · rw [f70]; exact hvl
    have g4 : ∀ (D : List Value) (m : Nat), gv (G ++ ([.int .i64 (i : Int), .int .i64 x.1, q1, .int .i64 x.1, q2] ++ D)) (136 + m) = gv ([.int .i64 (i : Int), .int .i64 x.1, q1, .int .i64 x.1, q2] ++ D) m := fun D m => gv_at (by omega)
    refine h_load [.int .i64 x.1, q1] ⟨⟨_, rfl⟩, hq1.fit, trivial⟩ (fun _ => r1 []) ⟨fun _ => by have := nd [.int .i64 x.1, q1]; simpa [List.append_assoc] using this, h_load [.int .i64 x.1, q2] ⟨⟨_, rfl⟩, hq2.fit, trivial⟩ (fun _ => by have := r2 [.int .i64 x.1, q1]; simpa [List.append_assoc] using this) ?_⟩
    have eG : G ++ [.int .i64 (i : Int)] ++ [.int .i64 x.1, q1] ++ [.int .i64 x.1, q2] = G ++ [.int .i64 (i : Int), .int .i64 x.1, q1, .int .i64 x.1, q2] := by simp [List.append_assoc]
    rw [eG]
    have g1' : ∀ m, gv (G ++ [.int .i64 (i : Int), .int .i64 x.1, q1, .int .i64 x.1, q2]) (136 + m) = gv [.int .i64 (i : Int), .int .i64 x.1, q1, .int .i64 x.1, q2] m := fun m => gv_at (by omega)
    have s1 : SV.denL (G ++ [.int .i64 (i : Int), .int .i64 x.1, q1, .int .i64 x.1, q2]) dE [(.int .i64 (.var 137)), (.val 138)] = [.int .i64 x.1, q1] := by
      simp only [SV.denL, SV.den, X.den]
      rw [g1' 1, g1' 2]; rfl
    have s2 : SV.denL (G ++ [.int .i64 (i : Int), .int .i64 x.1, q1, .int .i64 x.1, q2]) dE [(.int .i64 (.var 139)), (.val 140)] = [.int .i64 x.1, q2] := by
      simp only [SV.denL, SV.den, X.den]
      rw [g1' 3, g1' 4]; rfl
    have t1 : Reads h' ((PE.idx (.var 2) (.var 136) 2).den (G ++ [.int .i64 (i : Int), .int .i64 x.1, q1, .int .i64 x.1, q2])) (SV.denL (G ++ [.int .i64 (i : Int), .int .i64 x.1, q1, .int .i64 x.1, q2]) dE [(.int .i64 (.var 137)), (.val 138)]) := by rw [s1]; exact r1 _
    have t2 : Reads h' ((PE.idx (.var 70) (.var 136) 2).den (G ++ [.int .i64 (i : Int), .int .i64 x.1, q1, .int .i64 x.1, q2])) (SV.denL (G ++ [.int .i64 (i : Int), .int .i64 x.1, q1, .int .i64 x.1, q2]) dE [(.int .i64 (.var 139)), (.val 140)]) := by rw [s2]; exact r2 _
    have cnd : vb ((X.ite (.cmp .neq (.var 137) (.var 139)) (.tt true) (.cmp .neq (.len 138) (.len 140))).den (G ++ [.int .i64 (i : Int), .int .i64 x.1, q1, .int .i64 x.1, q2])) = false := by
      refine call_cond ?_ ?_
      · rw [g1' 1, g1' 3]; rfl
      · rw [g1' 2, g1' 4]; show vlen q1 = vlen q2; rw [l1, l2]
    have inner : holds Tryd.prog (Ret fun r h'' => h'' = h' ∧ r = .bool true) (.loop 1 [(.int .i64 (.lit 0))] [.int .i64] 
       (.ite (.cmp .lss (.var 141) (.len 138))
        (.need (.tt true) [(.cmp .geq (.var 141) (.lit 0)), (.cmp .lss (.var 141) (.len 138))] 
        (.load (.tt true) (.idx (.var 138) (.var 141) 1) [.int .i64] 
        (.need (.tt true) [(.cmp .geq (.var 141) (.lit 0)), (.cmp .lss (.var 141) (.len 140))] 
        (.load (.tt true) (.idx (.var 140) (.var 141) 1) [.int .i64] 
        (.ite (.cmp .neq (.var 142) (.var 143))
         (.done (.bool (.tt false)) [])
         (.again 1 [(.int .i64 (.op .add .i64 (.var 141) (.lit 1)))]))))))
        (.again 0 [(.int .i64 (.op .add .i64 (.var 136) (.lit 1)))]))) (G ++ [.int .i64 (i : Int), .int .i64 x.1, q1, .int .i64 x.1, q2]) [J] h' := by
      have hG2 : (G ++ [.int .i64 (i : Int), .int .i64 x.1, q1, .int .i64 x.1, q2]).length = 141 := by simp [hG]
      refine h_range (n := x.2.length) (fun k h'' => h'' = h') (by rw [g1' 2]; exact l1) (by omega) hG2 (by omega) rfl ?_ ?_
      · rintro k h'' J2 hk rfl hJ2
        have hz : x.2[k]? = some x.2[k] := List.getElem?_eq_getElem hk
        generalize x.2[k] = z at hz
        have g2' : ∀ (D : List Value) m, gv (G ++ [.int .i64 (i : Int), .int .i64 x.1, q1, .int .i64 x.1, q2] ++ [.int .i64 (k : Int)] ++ D) (136 + m) = gv ([.int .i64 (i : Int), .int .i64 x.1, q1, .int .i64 x.1, q2, .int .i64 (k : Int)] ++ D) m := fun D m => by
          rw [List.append_assoc, List.append_assoc]; exact gv_at (by omega)
        have gk := g2' [] 5
        have g138 := g2' [] 2
        have g140' := g2' [.int .i64 z] 4
        have gk' := g2' [.int .i64 z] 5
        have gz1 := g2' ([.int .i64 z] ++ [.int .i64 z]) 6
        have gz2 := g2' ([.int .i64 z] ++ [.int .i64 z]) 7
        have gk2 := g2' ([.int .i64 z] ++ [.int .i64 z]) 5
        simp only [List.append_nil] at gk g138
        rw [← List.append_assoc] at gz1 gz2 gk2
        refine h_load [.int .i64 z] ⟨⟨_, rfl⟩, trivial⟩ (fun _ => ?_) ⟨fun _ => needI (x := (k : Int)) (n := x.2.length) gk' (by rw [g140']; exact l2) ⟨by omega, by omega⟩, h_load [.int .i64 z] ⟨⟨_, rfl⟩, trivial⟩ (fun _ => ?_) ?_⟩
        · simp only [PE.den, X.den, gk, g138]; exact hq1.read hz
        · simp only [PE.den, X.den, gk', g140']; exact hq2.read hz
        refine iteF ?_ ?_
        · simp only [X.den, gz1, gz2]; show cmpOp .neq z z = false; rw [cmp_neq]; simp
        · show J2 _ _
          simp only [SV.denL, SV.den, X.den, gk2]
          exact hJ2 _ rfl
      · rintro h'' J2 rfl
        show J _ _
        have gi : gv (G ++ [.int .i64 (i : Int), .int .i64 x.1, q1, .int .i64 x.1, q2] ++ [.int .i64 (x.2.length : Int)]) 136 = .int .i64 (i : Int) := by rw [List.append_assoc, gv_at (j := 0) (by omega)]; rfl
        simp only [SV.denL, SV.den, X.den, gi]
        exact hJ _ rfl
    exact ⟨⟨fun _ => t2, fun _ => t1, fun _ => t2, fun _ => t1, fun _ => t2, iteF cnd inner⟩, ⟨fun _ => t2, fun _ => t1, fun _ => t2, fun _ => t1, fun _ => t2, iteF cnd inner⟩⟩
  · rintro h' J rfl
    exact ⟨rfl, rfl, rfl⟩
end Go.Proofs.YtbbicdfipheaeaaDoor
