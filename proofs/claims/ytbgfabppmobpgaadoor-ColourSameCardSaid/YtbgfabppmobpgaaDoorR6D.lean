/-
  Colouring a graph: registers fit, who has few edges gets one. Conditions: none (plain lemmas).
-/
import Derived.Test.YtbgfabppmobpgaaDoorR6C
set_option linter.unusedVariables false
set_option linter.unusedSimpArgs false
namespace Go.Proofs.YtbgfabppmobpgaaDoor
open Go

theorem nodup_sub_len {α : Type} [DecidableEq α] : ∀ (l m : List α), l.Nodup → (∀ x ∈ l, x ∈ m) → l.length ≤ m.length
  | [], m, _, _ => Nat.zero_le _
  | a :: l, m, hn, hs => by
    obtain ⟨h1, h2⟩ := List.nodup_cons.1 hn
    have ha := hs a (List.mem_cons_self ..)
    have := nodup_sub_len l (m.erase a) h2 fun x hx => (List.mem_erase_of_ne (fun e => h1 (by rw [← e]; exact hx))).2 (hs x (List.mem_cons_of_mem _ hx))
    rw [List.length_erase_of_mem ha] at this
    have := List.length_pos_of_mem ha
    simp only [List.length_cons]; omega
theorem allS_nodup (p : SP) : (allS p).Nodup := by unfold allS; exact List.nodup_range.filter _
theorem cntP_le_list {p : SP} {D : List Nat} (h : ∀ y, p y = true → y ∈ D) : cntP p ≤ D.length := by
  rw [← allS_len]; exact nodup_sub_len _ _ (allS_nodup p) fun x hx => h x (mem_allS.1 hx).2
section
variable {N k : Nat} {firm : List Bool} {w w' : CW}

/-! ### Edges stay -/
def EdgOk (N : Nat) (E : List (Nat × Nat)) (w : CW) : Prop := ∀ e ∈ E, e.1 < N ∧ e.2 < N ∧ w.nr (w.of e.1) (w.of e.2) = true
theorem Stp.edg {E : List (Nat × Nat)} (K : CInv N w) (S : Stp k w w') (H : EdgOk N E w) : EdgOk N E w' := by
  cases S with
  | push hv hd => exact H
  | drop hm hl => exact H
  | spill hv hn => exact H
  | @merge a b ms M hm hl hx hg =>
    intro e he
    obtain ⟨h1, h2, h3⟩ := H e he
    refine ⟨h1, h2, (merge_nr K M ms _ _).2 ?_⟩
    rw [merge_of K M ms h1, merge_of K M ms h2]
    by_cases e1 : w.of e.1 = b
    · rw [if_pos e1]
      rw [e1] at h3
      have e2 : w.of e.2 ≠ b := fun q => by rw [q, K.irr] at h3; cases h3
      rw [if_neg e2]; exact .inr (.inl ⟨rfl, h3⟩)
    · rw [if_neg e1]
      by_cases e2 : w.of e.2 = b
      · rw [if_pos e2]
        rw [e2] at h3
        exact .inr (.inr ⟨rfl, K.sym _ _ h3⟩)
      · rw [if_neg e2]; exact .inl h3

/-! ### Few that are near, of one with no move -/
structure InvA (N : Nat) (Mv : Nat → Prop) (d : Nat → Nat) (w : CW) : Prop where
  mvs : ∀ m ∈ w.moves, Mv m.1 ∧ Mv m.2
  ofm : ∀ x, x < N → Mv x → Mv (w.of x)
  root : ∀ v, v < N → ¬ Mv v → w.st.getD v v = v
  few : ∀ v, v < N → ¬ Mv v → ∃ D : List Nat, D.length ≤ d v ∧ ∀ n, w.nr v n = true → w.of n ∈ D
theorem Stp.invA {Mv : Nat → Prop} {d : Nat → Nat} (K : CInv N w) (S : Stp k w w') (H : InvA N Mv d w) : InvA N Mv d w' := by
  cases S with
  | push hv hd => exact ⟨H.mvs, H.ofm, H.root, H.few⟩
  | drop hm hl => exact ⟨fun m h => H.mvs m (hm m h), H.ofm, H.root, H.few⟩
  | spill hv hn => exact ⟨fun m h => H.mvs m (List.mem_filter.1 h).1, H.ofm, H.root, H.few⟩
  | @merge a b ms M hm hl hx hg =>
    obtain ⟨m, hmm, ea, eb⟩ := hx
    have hMa : Mv a := by rw [← ea]; exact H.ofm _ (K.mv m hmm).1 (H.mvs m hmm).1
    have hMb : Mv b := by rw [← eb]; exact H.ofm _ (K.mv m hmm).2 (H.mvs m hmm).2
    refine ⟨fun m h => H.mvs m (hm m h), fun x hx hM => ?_, fun v hv hM => ?_, fun v hv hM => ?_⟩
    · rw [merge_of K M ms hx]; split
      · exact hMa
      · exact H.ofm x hx hM
    · rw [merge_st K M, if_neg (fun e => hM (by rw [e]; exact hMb))]; exact H.root v hv hM
    · obtain ⟨D, h1, h2⟩ := H.few v hv hM
      refine ⟨D.map fun x => if x = b then a else x, by rw [List.length_map]; exact h1, fun n hn => ?_⟩
      rcases (merge_nr K M ms v n).1 hn with h | ⟨h, h'⟩ | ⟨h, h'⟩
      · rw [merge_of K M ms (K.bnd _ _ h).2]
        exact List.mem_map.2 ⟨_, h2 n h, rfl⟩
      · exact absurd hMa (by rw [← h]; exact hM)
      · have ha' : (w.merge a b ms).of n = a := by rw [h]; exact CW.of_self (by rw [merge_st K M, if_neg M.ne]; exact K.leftR a M.la)
        rw [ha']
        have hb := h2 b (K.sym _ _ h')
        rw [CW.of_self (K.leftR b M.lb)] at hb
        exact List.mem_map.2 ⟨b, hb, by rw [if_pos rfl]⟩

/-! ### All have few -/
structure InvB (N k : Nat) (w : CW) : Prop where
  all : ∀ S : SP, (∀ y, S y = true → w.left y = true) → (∃ y, S y = true) → ∃ v, S v = true ∧ cntP (fun y => w.nr v y && S y) < k
  stk : ∀ pre v post, w.stack = pre ++ v :: post → ∃ D : List Nat, D.length < k ∧ ∀ n, w.nr v n = true → (w.left (w.of n) = true ∨ w.of n ∈ post) → w.of n ∈ D
theorem snoc_split {α : Type} {l pre post : List α} {x v : α} (h : l ++ [x] = pre ++ v :: post) : (post = [] ∧ v = x ∧ l = pre) ∨ ∃ p, post = p ++ [x] ∧ l = pre ++ v :: p := by
  rcases List.eq_nil_or_concat post with rfl | ⟨p, y, rfl⟩
  · have := List.append_inj' h rfl
    exact .inl ⟨rfl, by have := this.2; simp at this; exact this.symm, this.1⟩
  · have h' : l ++ [x] = (pre ++ v :: p) ++ [y] := by rw [h]; simp
    have := List.append_inj' h' rfl
    have e2 := this.2
    simp at e2
    exact .inr ⟨p, by rw [e2]; simp, this.1⟩
theorem Stp.invB (K : CInv N w) (S : Stp k w w') (H : InvB N k w) : InvB N k w' := by
  cases S with
  | @push v hv hd =>
    have hlt : ∀ x, cutP w.left v x = true → w.left x = true := fun x h => (cutP_at.1 h).1
    refine ⟨fun S h1 h2 => H.all S (fun y hy => hlt y (h1 y hy)) h2, fun pre u post e => ?_⟩
    rcases snoc_split e with ⟨rfl, rfl, e2⟩ | ⟨p, rfl, e2⟩
    · refine ⟨allS fun y => w.nr u y && w.left y, by rw [allS_len]; exact hd, fun n hn hc => ?_⟩
      rcases hc with hc | hc
      · have h3 := K.clo _ _ hn
        exact mem_allS.2 ⟨Nat.lt_of_lt_of_le (K.bnd _ _ h3).2 K.hN, by rw [Bool.and_eq_true]; exact ⟨h3, hlt _ hc⟩⟩
      · cases hc
    · obtain ⟨D, d1, d2⟩ := H.stk pre u p e2
      refine ⟨D, d1, fun n hn hc => d2 n hn ?_⟩
      rcases hc with hc | hc
      · exact .inl (hlt _ hc)
      · rcases List.mem_append.1 hc with hc | hc
        · exact .inr hc
        · rw [List.mem_singleton] at hc
          exact .inl (by rw [show w.of n = v from hc]; exact hv)
  | drop hm hl => exact ⟨H.all, H.stk⟩
  | @spill v hv hn =>
    obtain ⟨u, h1, h2⟩ := H.all w.left (fun y h => h) ⟨v, hv⟩
    have := hn u h1 (Nat.lt_of_lt_of_le (K.leftN u h1) K.hN)
    unfold CW.deg at this
    omega
  | @merge a b ms M hm hl hx hg =>
    have hlt : ∀ x, cutP w.left b x = true → w.left x = true := fun x h => (cutP_at.1 h).1
    have hnr := merge_nr K M ms
    have ha4 : a < 4096 := Nat.lt_of_lt_of_le (K.leftN a M.la) K.hN
    have hb4 : b < 4096 := Nat.lt_of_lt_of_le (K.leftN b M.lb) K.hN
    refine ⟨fun S h1 h2 => ?_, fun pre u post e => ?_⟩
    · by_cases hSa : S a = true
      · by_cases hex : ∃ v, S v = true ∧ cntP (fun y => (w.merge a b ms).nr v y && S y) < k
        · exact hex
        · exfalso
          have hall : ∀ v, S v = true → k ≤ cntP (fun y => (w.merge a b ms).nr v y && S y) := fun v hv => by
            by_cases h : k ≤ cntP (fun y => (w.merge a b ms).nr v y && S y)
            · exact h
            · exact absurd ⟨v, hv, by omega⟩ hex
          have hk := hall a hSa
          have hgr : cntP (fun y => (w.merge a b ms).nr a y && S y) ≤ w.great k a b := by
            unfold CW.great
            rw [← allS_len]
            refine nodup_sub_len _ _ (allS_nodup _) fun n hn => ?_
            obtain ⟨n4, hn2⟩ := mem_allS.1 hn
            rw [Bool.and_eq_true] at hn2
            obtain ⟨hn3, hSn⟩ := hn2
            have hln := hlt n (h1 n hSn)
            rw [List.mem_filter, decide_eq_true_eq]
            refine ⟨mem_allS.2 ⟨n4, ?_⟩, Nat.le_trans (hall n hSn) ?_⟩
            · unfold CW.both
              rw [Bool.and_eq_true, Bool.or_eq_true]
              refine ⟨?_, hln⟩
              rcases (hnr a n).1 hn3 with h | ⟨_, h'⟩ | ⟨h, h'⟩
              · exact .inl h
              · exact .inr h'
              · exact absurd h' (by rw [Mg.ba K M]; simp)
            · unfold CW.deg
              have hna : n ≠ a := fun e => by
                have hx : ∀ {z}, (w.merge a b ms).nr z z = true → False := fun {z} hz => by
                  rw [(K.merge M hm).irr] at hz; cases hz
                rw [e] at hn3; exact hx hn3
              refine cntP_swap ha4 hb4 (fun y hy hp => ?_) fun hp hq => ?_
              · simp only [Bool.and_eq_true] at hp ⊢
                refine ⟨?_, hlt _ (h1 _ hp.2)⟩
                rcases (hnr n y).1 hp.1 with h | ⟨h, _⟩ | ⟨h, _⟩
                · exact h
                · exact absurd h hna
                · exact absurd h hy
              · simp only [Bool.and_eq_true] at hp
                have hSb : S b = false := by
                  cases h : S b with
                  | false => rfl
                  | true => have := (cutP_at.1 (h1 b h)).2; exact absurd rfl this
                simp only [hSb, Bool.and_false, and_true, Bool.and_eq_true]
                refine ⟨?_, M.lb⟩
                rcases (hnr n a).1 hp.1 with h | ⟨h, _⟩ | ⟨_, h⟩
                · simp only [h, M.la, Bool.and_self] at hq; cases hq
                · exact absurd h hna
                · exact K.sym _ _ h
          omega
      · rw [Bool.not_eq_true] at hSa
        obtain ⟨v, hv, hc⟩ := H.all S (fun y hy => hlt y (h1 y hy)) h2
        refine ⟨v, hv, Nat.lt_of_le_of_lt (cntP_mono fun y hy => ?_) hc⟩
        simp only [Bool.and_eq_true] at hy ⊢
        refine ⟨?_, hy.2⟩
        rcases (hnr v y).1 hy.1 with h | ⟨h, _⟩ | ⟨h, _⟩
        · exact h
        · rw [h, hSa] at hv; cases hv
        · rw [h, hSa] at hy; cases hy.2
    · obtain ⟨D, d1, d2⟩ := H.stk pre u post e
      have hu : u ∈ w.stack := by rw [show w.stack = _ from e]; simp
      have hua : u ≠ a := fun q => by have := (K.stk u hu).2.2; rw [q, M.la] at this; cases this
      refine ⟨D.map fun x => if x = b then a else x, by rw [List.length_map]; exact d1, fun n hn hc => ?_⟩
      rcases (hnr u n).1 hn with h | ⟨h, _⟩ | ⟨h, h'⟩
      · have hnN := (K.bnd _ _ h).2
        rw [merge_of K M ms hnN] at hc ⊢
        refine List.mem_map.2 ⟨w.of n, d2 n h ?_, rfl⟩
        by_cases q : w.of n = b
        · rw [q]; exact .inl M.lb
        · rw [if_neg q] at hc
          exact hc.imp (hlt _) id
      · exact absurd h hua
      · have ha' : (w.merge a b ms).of n = a := by rw [h]; exact CW.of_self (by rw [merge_st K M, if_neg M.ne]; exact K.leftR a M.la)
        rw [ha']
        have hob := CW.of_self (K.leftR b M.lb)
        have hb := d2 b (K.sym _ _ h') (by rw [hob]; exact .inl M.lb)
        rw [hob] at hb
        exact List.mem_map.2 ⟨b, hb, by rw [if_pos rfl]⟩

/-! ### What is picked -/
theorem pick1_len (w : CW) (got : List Int) (v : Nat) : (w.pick1 k got v).length = got.length := by unfold CW.pick1; split <;> simp
/-- What holds of registers, so far. -/
structure GOk (N k : Nat) (w : CW) (got : List Int) : Prop where
  len : got.length = N
  rng : ∀ v, -1 ≤ gt got v ∧ gt got v < k
  ok : ∀ a b, a < N → b < N → w.st.getD a a = a → w.st.getD b b = b → w.nr a b = true → 0 ≤ gt got a → gt got a ≠ gt got b
theorem pickC_some {got : List Int} {v c : Nat} (h : w.pickC k got v = some c) : c < k ∧ ∀ n, w.nr v n = true → n < 4096 → gt got (w.of n) ≠ (c : Int) := by
  unfold CW.pickC at h
  have h1 := List.find?_some h
  have h2 := List.mem_of_find?_eq_some h
  refine ⟨List.mem_range.1 h2, fun n hn h4 e => ?_⟩
  rw [Bool.not_eq_true', List.any_eq_false] at h1
  exact h1 n (mem_allS.2 ⟨h4, hn⟩) (by rw [decide_eq_true_eq]; exact e)
theorem GOk.pick (K : CInv N w) {got : List Int} (G : GOk N k w got) {v : Nat} (hv : v < N) (hr : w.st.getD v v = v) : GOk N k w (w.pick1 k got v) := by
  unfold CW.pick1
  split
  · rename_i c hc
    obtain ⟨h1, h2⟩ := pickC_some hc
    have hvl : v < got.length := by rw [G.len]; exact hv
    have hcl : ∀ n, w.nr v n = true → w.st.getD n n = n → gt got n ≠ (c : Int) := fun n hn hrn => by
      have := h2 n hn (Nat.lt_of_lt_of_le (K.bnd _ _ hn).2 K.hN)
      rw [CW.of_self hrn] at this; exact this
    refine ⟨by rw [List.length_set]; exact G.len, fun u => ?_, fun a b ha hb ra rb hab h0 => ?_⟩
    · rw [gt_set hvl]; split
      · omega
      · exact G.rng u
    · rw [gt_set hvl] at h0 ⊢
      rw [gt_set hvl]
      by_cases ea : a = v
      · by_cases eb : b = v
        · rw [ea, eb, K.irr] at hab; cases hab
        · rw [if_pos ea, if_neg eb]
          rw [ea] at hab
          exact fun e => hcl b hab rb e.symm
      · rw [if_neg ea] at h0 ⊢
        by_cases eb : b = v
        · rw [if_pos eb]
          rw [eb] at hab
          exact hcl a (K.sym _ _ hab) ra
        · rw [if_neg eb]; exact G.ok a b ha hb ra rb hab h0
  · exact G
theorem fold_ok (K : CInv N w) : ∀ (l : List Nat) {got : List Int}, (∀ v ∈ l, v < N ∧ w.st.getD v v = v) → GOk N k w got → GOk N k w (l.foldl (w.pick1 k) got)
  | [], got, _, G => G
  | v :: l, got, h, G => fold_ok K l (fun u hu => h u (List.mem_cons_of_mem _ hu)) (G.pick K (h v (List.mem_cons_self ..)).1 (h v (List.mem_cons_self ..)).2)
theorem gok_nil : GOk N k w (List.replicate N (-1)) := by
  have h : ∀ v, gt (List.replicate N (-1)) v = -1 := fun v => by
    unfold gt; rw [List.getD_eq_getElem?_getD, List.getElem?_replicate]; split <;> rfl
  exact ⟨List.length_replicate, fun v => by rw [h]; omega, fun a b _ _ _ _ _ h0 => by rw [h] at h0; omega⟩
theorem pick_ok (K : CInv N w) : GOk N k w (w.pick k) := by
  unfold CW.pick
  rw [K.len]
  exact fold_ok K _ (fun v hv => ⟨(K.stk v (List.mem_reverse.1 hv)).1, (K.stk v (List.mem_reverse.1 hv)).2.1⟩) gok_nil
theorem fold_keep (l : List Nat) : ∀ {got : List Int} {v : Nat}, (∀ u ∈ l, u < got.length) → 0 ≤ gt got v → 0 ≤ gt (l.foldl (w.pick1 k) got) v := by
  induction l with
  | nil => exact fun _ h => h
  | cons u l ih =>
    intro got v hl h
    rw [List.foldl_cons]
    refine ih (fun x hx => by rw [pick1_len]; exact hl x (List.mem_cons_of_mem _ hx)) ?_
    unfold CW.pick1
    split
    · rw [gt_set (hl u (List.mem_cons_self ..))]; split <;> omega
    · exact h
theorem fold_only (l : List Nat) : ∀ {got : List Int} {v : Nat}, (∀ u ∈ l, u < got.length) → 0 ≤ gt (l.foldl (w.pick1 k) got) v → v ∈ l ∨ 0 ≤ gt got v := by
  induction l with
  | nil => exact fun _ h => .inr h
  | cons u l ih =>
    intro got v hl h
    rw [List.foldl_cons] at h
    rcases ih (fun x hx => by rw [pick1_len]; exact hl x (List.mem_cons_of_mem _ hx)) h with h | h
    · exact .inl (List.mem_cons_of_mem _ h)
    · unfold CW.pick1 at h
      split at h
      · rw [gt_set (hl u (List.mem_cons_self ..))] at h
        split at h
        · rename_i e; exact .inl (by rw [e]; exact List.mem_cons_self ..)
        · exact .inr h
      · exact .inr h
/-- One that has few others with registers about it gets one. -/
theorem pick1_gets {got : List Int} {v : Nat} {D : List Nat} (hv : v < got.length) (hD : D.length < k) (h : ∀ n, w.nr v n = true → 0 ≤ gt got (w.of n) → w.of n ∈ D) : 0 ≤ gt (w.pick1 k got v) v := by
  unfold CW.pick1
  cases hp : w.pickC k got v with
  | some c => simp only; rw [gt_set hv, if_pos rfl]; omega
  | none =>
    exfalso
    unfold CW.pickC at hp
    have hn := List.find?_eq_none.1 hp
    have : k ≤ (D.map (gt got)).length := by
      have h1 := nodup_sub_len ((List.range k).map Int.ofNat) (D.map (gt got)) (by
        rw [List.nodup_iff_pairwise_ne, List.pairwise_map]
        exact List.nodup_range.imp fun {a b} hab e => hab (Int.ofNat.inj e)) fun x hx => by
          obtain ⟨c, hc, rfl⟩ := List.mem_map.1 hx
          have := hn c hc
          simp only [Bool.not_eq_true, Bool.not_eq_false'] at this
          obtain ⟨n, hm, he⟩ := List.any_eq_true.1 this
          rw [decide_eq_true_eq] at he
          exact List.mem_map.2 ⟨w.of n, h n (mem_allS.1 hm).2 (by unfold gt; rw [he]; exact Int.natCast_nonneg c), he⟩
      rw [List.length_map, List.length_range] at h1
      exact h1
    rw [List.length_map] at this
    omega
theorem stack_split {v : Nat} (h : v ∈ w.stack) : ∃ pre post, w.stack = pre ++ v :: post := by
  obtain ⟨pre, post, e⟩ := List.append_of_mem h
  exact ⟨pre, post, e⟩
theorem pick_gets (K : CInv N w) {pre post D : List Nat} {v : Nat} (e : w.stack = pre ++ v :: post) (hD : D.length < k) (h : ∀ n, w.nr v n = true → w.of n ∈ post → w.of n ∈ D) : 0 ≤ gt (w.pick k) v := by
  have hl : ∀ u ∈ w.stack, u < N := fun u hu => (K.stk u hu).1
  have er : w.stack.reverse = post.reverse ++ v :: pre.reverse := by rw [e]; simp
  unfold CW.pick
  rw [er, List.foldl_append, List.foldl_cons, K.len]
  obtain ⟨got, hg⟩ : ∃ got, got = post.reverse.foldl (w.pick1 k) (List.replicate N (-1)) := ⟨_, rfl⟩
  have hgl : got.length = N := by
    rw [hg]
    exact (fold_ok K (k := k) post.reverse (fun u hu => have := K.stk u (by rw [e]; simp [List.mem_reverse.1 hu]); ⟨this.1, this.2.1⟩) gok_nil).len
  rw [← hg]
  refine fold_keep _ (fun u hu => by rw [pick1_len, hgl]; exact hl u (by rw [e]; simp [List.mem_reverse.1 hu])) ?_
  refine pick1_gets (by rw [hgl]; exact hl v (by rw [e]; simp)) hD fun n hn h0 => h n hn ?_
  rw [hg] at h0
  rcases fold_only _ (fun u hu => by rw [List.length_replicate]; exact hl u (by rw [e]; simp [List.mem_reverse.1 hu])) h0 with h1 | h1
  · exact List.mem_reverse.1 h1
  · exfalso
    unfold gt at h1
    rw [List.getD_eq_getElem?_getD, List.getElem?_replicate] at h1
    split at h1 <;> simp at h1
theorem pick_getsA (K : CInv N w) {D : List Nat} {v : Nat} (hv : v ∈ w.stack) (hD : D.length < k) (h : ∀ n, w.nr v n = true → w.of n ∈ D) : 0 ≤ gt (w.pick k) v := by
  obtain ⟨pre, post, e⟩ := stack_split hv
  exact pick_gets K e hD fun n hn _ => h n hn

/-! ### From the beginning to the end -/
/-- How it begins. -/
def cw0 (near : List SP) (moves : List (Nat × Nat)) (N : Nat) : CW := ⟨near, moves, List.range N, fun y => decide (y < N), []⟩
structure Beg0 (N : Nat) (E M : List (Nat × Nat)) (near : List SP) : Prop where
  hN : N ≤ 4096
  e : ∀ e ∈ E, e.1 < e.2 ∧ e.2 < N
  m : ∀ m ∈ M, m.1 < m.2 ∧ m.2 < N
  len : near.length = N
  nr : ∀ x y, nrL near x y = true ↔ (x, y) ∈ E ∨ (y, x) ∈ E
def degE (E : List (Nat × Nat)) (v : Nat) : Nat := (E.filter fun e => decide (e.1 = v) || decide (e.2 = v)).length
theorem range_getD {N v : Nat} : (List.range N).getD v v = v := by
  rw [List.getD_eq_getElem?_getD]
  by_cases h : v < N
  · rw [List.getElem?_range h]; rfl
  · rw [List.getElem?_eq_none (by simp; omega)]; rfl
theorem cnt_lt {N : Nat} (hN : N ≤ 4096) : cntP (fun y => decide (y < N)) ≤ N := by
  have := cntP_le_list (p := fun y => decide (y < N)) (D := List.range N) fun y hy => List.mem_range.2 (by simpa using hy)
  simpa using this
section
variable {E M : List (Nat × Nat)} {near : List SP}
theorem Beg0.inv (B : Beg0 N E M near) : CInv N (cw0 near M N) := by
  have hof : ∀ v, (cw0 near M N).of v = v := fun v => CW.of_self range_getD
  have hne : ∀ {x y : Nat}, (x, y) ∈ E → x < N ∧ y < N := fun {x y} h => by have := B.e _ h; simp only at this; omega
  refine ⟨B.len, B.hN, fun v n h => ?_, fun v n h => (B.nr _ _).2 ((B.nr _ _).1 h).symm, fun v => ?_, ⟨fun _ => 0, ⟨List.length_range, fun v h => ?_, fun v h => Nat.zero_le _, fun v h hne => absurd range_getD hne⟩, fun v h => rfl, fun v h hl => ?_⟩, cnt_lt B.hN, fun v h => of_decide_eq_true h, fun v h => range_getD, fun v h => absurd h (by simp [cw0]), fun v h _ => .inl (decide_eq_true h), fun v n h => by rw [hof]; exact h, fun m h => by have := B.m m h; omega⟩
  · rcases (B.nr _ _).1 h with h | h
    · exact hne h
    · exact (hne h).symm
  · cases h : (cw0 near M N).nr v v with
    | false => rfl
    | true =>
      rcases (B.nr _ _).1 h with h | h <;> (have := B.e _ h; simp only at this; omega)
  · show (List.range N).getD v v < N
    rw [range_getD]; exact h
  · have : decide (v < N) = true := decide_eq_true h
    have e : decide (v < N) = false := hl
    rw [this] at e; cases e
theorem Beg0.edg (B : Beg0 N E M near) : EdgOk N E (cw0 near M N) := fun e he => by
  have hof : ∀ v, (cw0 near M N).of v = v := fun v => CW.of_self range_getD
  have := B.e e he
  exact ⟨by omega, by omega, by rw [hof, hof]; exact (B.nr _ _).2 (.inl he)⟩
theorem near_few (B : Beg0 N E M near) (v : Nat) : ∃ D : List Nat, D.length ≤ degE E v ∧ ∀ n, nrL near v n = true → n ∈ D := by
  refine ⟨(E.filter fun e => decide (e.1 = v) || decide (e.2 = v)).map fun e => if e.1 = v then e.2 else e.1, by rw [List.length_map]; exact Nat.le_refl _, fun n hn => ?_⟩
  rcases (B.nr _ _).1 hn with h | h
  · exact List.mem_map.2 ⟨(v, n), List.mem_filter.2 ⟨h, by simp⟩, by simp⟩
  · refine List.mem_map.2 ⟨(n, v), List.mem_filter.2 ⟨h, by simp⟩, ?_⟩
    have := B.e _ h
    simp only at this ⊢
    rw [if_neg (by omega)]
theorem Beg0.invA (B : Beg0 N E M near) : InvA N (fun v => ∃ m ∈ M, m.1 = v ∨ m.2 = v) (degE E) (cw0 near M N) := by
  have hof : ∀ v, (cw0 near M N).of v = v := fun v => CW.of_self range_getD
  refine ⟨fun m h => ⟨⟨m, h, .inl rfl⟩, ⟨m, h, .inr rfl⟩⟩, fun x _ h => by rw [hof]; exact h, fun v _ _ => range_getD, fun v _ _ => ?_⟩
  obtain ⟨D, h1, h2⟩ := near_few B v
  exact ⟨D, h1, fun n hn => by rw [hof]; exact h2 n hn⟩
theorem Beg0.invB (B : Beg0 N E M near) (hd : ∀ v, v < N → degE E v < k) : InvB N k (cw0 near M N) := by
  refine ⟨fun S h1 ⟨v, hv⟩ => ⟨v, hv, ?_⟩, fun pre v post e => by
    have : ([] : List Nat) = pre ++ v :: post := e
    simp at this⟩
  obtain ⟨D, d1, d2⟩ := near_few B v
  have hvN : v < N := of_decide_eq_true (h1 v hv)
  have := cntP_le_list (p := fun y => (cw0 near M N).nr v y && S y) (D := D) fun y hy => by
    rw [Bool.and_eq_true] at hy; exact d2 y hy.1
  have := hd v hvN
  omega
inductive Stps (k : Nat) : CW → CW → Prop
  | nil {w : CW} : Stps k w w
  | snoc {w w' w'' : CW} (h : Stps k w w') (s : Stp k w' w'') : Stps k w w''
theorem Stps.keep {P : CW → Prop} (hP : ∀ {w w'}, CInv N w → Stp k w w' → P w → P w') {w w' : CW} (S : Stps k w w') (K : CInv N w) (H : P w) : CInv N w' ∧ P w' := by
  induction S with
  | nil => exact ⟨K, H⟩
  | snoc h s ih => exact ⟨(s.inv ih.1).1, hP ih.1 s ih.2⟩
/-- What the end's registers are. -/
structure Coloured (N k : Nat) (E M : List (Nat × Nat)) (out : List Int) : Prop where
  len : out.length = N
  rng : ∀ v, v < N → -1 ≤ gt out v ∧ gt out v < k
  ok : ∀ e ∈ E, 0 ≤ gt out e.1 → gt out e.1 ≠ gt out e.2
  few : ∀ v, v < N → (¬ ∃ m ∈ M, m.1 = v ∨ m.2 = v) → degE E v < k → 0 ≤ gt out v
  all : (∀ v, v < N → degE E v < k) → ∀ v, v < N → 0 ≤ gt out v
theorem coloured (B : Beg0 N E M near) (S : Stps k (cw0 near M N) w) (he : ∀ v, w.left v = false) : Coloured N k E M (w.out k) := by
  obtain ⟨K, HE⟩ := S.keep (P := EdgOk N E) (fun K s h => s.edg K h) B.inv B.edg
  have HA := (S.keep (P := InvA N (fun v => ∃ m ∈ M, m.1 = v ∨ m.2 = v) (degE E)) (fun K s h => s.invA K h) B.inv B.invA).2
  have G := pick_ok (k := k) K
  have hout : ∀ v, v < N → gt (w.out k) v = gt (w.pick k) (w.of v) := fun v hv => by
    unfold CW.out gt
    rw [List.getD_eq_getElem?_getD, List.getElem?_map, K.len, List.getElem?_range hv]; rfl
  have hst : ∀ v, v < N → w.of v ∈ w.stack := fun v hv => by
    rcases K.cov _ (K.of_lt hv) (K.of_root hv) with h | h
    · rw [he] at h; cases h
    · exact h
  refine ⟨by unfold CW.out; rw [List.length_map, List.length_range, K.len], fun v hv => by rw [hout v hv]; exact G.rng _, fun e hE h0 => ?_, fun v hv hm hd => ?_, fun hd v hv => ?_⟩
  · obtain ⟨h1, h2, h3⟩ := HE e hE
    rw [hout _ h1] at h0 ⊢
    rw [hout _ h2]
    exact G.ok _ _ (K.of_lt h1) (K.of_lt h2) (K.of_root h1) (K.of_root h2) h3 h0
  · obtain ⟨D, d1, d2⟩ := HA.few v hv hm
    have hr := CW.of_self (HA.root v hv hm)
    rw [hout v hv, hr]
    have := hst v hv
    rw [hr] at this
    exact pick_getsA K this (by omega) d2
  · have HB := (S.keep (P := InvB N k) (fun K s h => s.invB K h) B.inv (B.invB hd)).2
    rw [hout v hv]
    obtain ⟨pre, post, e⟩ := stack_split (hst v hv)
    obtain ⟨D, d1, d2⟩ := HB.stk pre _ post e
    exact pick_gets K e d1 fun n hn hp => d2 n hn (.inr hp)
end
end
end Go.Proofs.YtbgfabppmobpgaaDoor
