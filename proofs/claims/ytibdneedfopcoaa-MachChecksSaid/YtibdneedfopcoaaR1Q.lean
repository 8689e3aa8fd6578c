/-
  What code that is made is: the parts that need no program. Conditions: none (plain lemmas).
-/
import Derived.Test.YtibdneedfopcoaaR1P
set_option linter.unusedVariables false
set_option linter.unusedSimpArgs false
namespace Go.Proofs.Ytibdneedfopcoaa
open Go

def modI (R : Int) (x : Ins) : Ins := ⟨x.kind, x.op, x.d.tmod R, x.a.tmod R, x.b.tmod R, x.n, x.args.map (·.tmod R)⟩
def modE (R : Int) (e : Fin4) : Fin4 := ⟨e.kind, e.a.tmod R, e.to, e.el⟩
def modB (R : Int) (b : Blk) : Blk := ⟨b.ins.map (modI R), modE R b.en⟩
theorem tmod_zero' (R : Int) : (0 : Int).tmod R = 0 := by simp
theorem inR_tmod {v R z : Int} (hR : 0 < R) (h : inR v z = true) : inR R (z.tmod R) = true := by
  simp only [inR, decide_eq_true_eq] at h ⊢
  exact tmod_range h.1 hR
theorem usesM_mod (R : Int) (x : Ins) : usesM (modI R x) = (usesM x).map (·.tmod R) := by
  unfold usesM modI
  simp only
  split
  · rfl
  · split
    · rfl
    · split <;> rfl
theorem namedM_mod (R : Int) (x : Ins) : namedM (modI R x) = (namedM x).map (·.tmod R) := by
  unfold namedM
  rw [usesM_mod, List.map_append]
  congr 1
  show (if givesM x.kind then [x.d.tmod R] else []) = _
  split <;> rfl
theorem plainM_mod {R : Int} {x : Ins} (h : plainM x) : plainM (modI R x) := by
  unfold plainM at h ⊢
  obtain ⟨h1, h2, h3, h4, h5, h6⟩ := h
  refine ⟨h1, ?_, ?_, ?_, h5, ?_⟩
  · rcases h2 with e | e
    · left; show x.d.tmod R = 0; rw [e]; simp
    · exact .inr e
  · rcases h3 with e | e
    · left; show x.a.tmod R = 0; rw [e]; simp
    · exact .inr e
  · rcases h4 with e | e
    · left; show x.b.tmod R = 0; rw [e]; simp
    · exact .inr e
  · rcases h6 with e | e
    · left; show x.args.map _ = []; rw [e]; rfl
    · exact .inr e
theorem modI_ok {x : Ins} {v R : Int} (hR : 0 < R) (h : ofM x v = 0) : ofM (modI R x) R = 0 := by
  unfold ofM at h ⊢
  split at h
  · cases h
  · rename_i h1
    split at h
    · cases h
    · rename_i h2
      split at h
      · rename_i h3
        rw [if_neg, if_neg, if_pos]
        · rw [namedM_mod, List.all_map]
          rw [List.all_eq_true] at h3 ⊢
          intro y hy
          exact inR_tmod hR (h3 y hy)
        · show ¬ 3 < (x.args.map _).length
          rw [List.length_map]; exact h2
        · simp only [not_or, Decidable.not_not] at h1 ⊢
          exact ⟨h1.1, h1.2.1, plainM_mod h1.2.2⟩
      · cases h
theorem modE_ok {e : Fin4} {v R N : Int} (hR : 0 < R) (h : endM e v N 21 = 0) : endM (modE R e) R N 21 = 0 := by
  have hz : ∀ z : Int, 0 ≤ z → 0 ≤ z.tmod R ∧ z.tmod R < R := fun z hz => tmod_range hz hR
  have h0 : (0 : Int).tmod R = 0 := by simp
  have := hz e.a
  have h1 : e.a = 0 → e.a.tmod R = 0 := fun q => by rw [q]; simp
  unfold endM modE at *
  simp only at *
  grind (splits := 80)
theorem mofM_kind {x : Ins} {r s : Int} (h3 : 3 ≤ r) (h8 : r ≤ 8) (h : ofM x r = 0) : mofM x r s = 0 := by
  have hk : 1 ≤ x.kind ∧ x.kind ≤ 6 := by
    unfold ofM at h
    split at h
    · cases h
    · rename_i h1; grind
  unfold mofM
  rw [if_neg (by omega), if_neg (by omega), ofM_mapE x r h3 h8, h]; rfl
/-- Blocks that are right code. -/
def MOk (r s N : Int) (n : Nat) (b : Blk) : Prop := b.ins.length ≤ n ∧ (∀ y ∈ b.ins, mofM y r s = 0 ∧ y.args.length ≤ 1000) ∧ endM b.en r N 21 = 0
theorem mcheck_ok {p r s : Int} {bs : List Blk} {n : Nat} (h0 : 0 ≤ p) (h4 : p ≤ 4) (h3 : 3 ≤ r) (h8 : r ≤ 8) (hp : p ≤ s) (hs : s ≤ 64) (h1 : 1 ≤ bs.length) (h16 : bs.length ≤ 16) (hn : n ≤ 400) (hb : ∀ b ∈ bs, MOk r s bs.length n b) : mcheckM p r s bs = (0, 0, 0) := by
  unfold mcheckM
  rw [if_neg (by omega)]
  refine blkF_ok fun b hm => ?_
  obtain ⟨k1, k2, k3⟩ := hb b hm
  exact ⟨by omega, fun y hy => (k2 y hy).1, by rw [k3]; rfl⟩
def spillI (k d a : Int) : Ins := ⟨k, 0, d, a, 0, 0, []⟩
theorem spill_ok {r s d a : Int} (hd : 0 ≤ d ∧ d < s) (ha : 0 ≤ a ∧ a < r) : mofM (spillI 7 d a) r s = 0 := by
  unfold mofM spillI; simp [hd, ha]
theorem fill_ok {r s d a : Int} (hd : 0 ≤ d ∧ d < r) (ha : 0 ≤ a ∧ a < s) : mofM (spillI 8 d a) r s = 0 := by
  unfold mofM spillI; simp [hd, ha]

/-! ### Parts of a row as what is appended -/
theorem add_zero' (a : Addr) : a.add 0 = a := by unfold Addr.add; simp
theorem src_take {h : H} {e : TypeId} {sz : Nat} {v : Value} {cs : List Value} {fp : List Nat} {k : Nat} (H : RowF h e sz v cs fp) (hk : k ≤ vlen v) : SlSrc h (cs.take (k * sz)) k (sliceV v 0 k sz) := by
  have hr : Reads h (vaddr v) cs := by
    have := H.row0.reads (o := 0) (xs := cs) (fun j u hj => by simpa using hj)
    rwa [add_zero'] at this
  have hl := H.row0.len
  have hf := H.row0.fit
  obtain ⟨a, n, c, rfl, h1, h2⟩ := hf
  cases a with
  | none =>
    obtain ⟨rfl, rfl⟩ := h1 rfl
    simp only [vlen_sl] at hk
    obtain rfl : k = 0 := by omega
    simp [sliceV, SlSrc]
  | some ad =>
    have hr' : Reads h ad (cs.take (k * sz)) := fun j u hj => hr j u (by rw [List.getElem?_take] at hj; split at hj <;> simp_all)
    simp only [sliceV, SlSrc]
    by_cases hc : c = 0
    · simp only [if_pos hc]; exact ⟨by omega, hr'⟩
    · simp only [if_neg hc, Option.map_some, Nat.zero_mul]
      exact ⟨by omega, by rw [add_zero']; exact hr'⟩
theorem src_drop {h : H} {e : TypeId} {sz : Nat} {v : Value} {cs : List Value} {fp : List Nat} {k : Nat} (H : RowF h e sz v cs fp) (hk : k ≤ vlen v) : SlSrc h (cs.drop (k * sz)) (vlen v - k) (sliceV v k (vlen v) sz) := by
  have hr : Reads h ((vaddr v).add (k * sz)) (cs.drop (k * sz)) := H.row0.reads fun j u hj => by rw [List.getElem?_drop] at hj; exact hj
  have hl := H.row0.len
  have hf := H.row0.fit
  obtain ⟨a, n, c, rfl, h1, h2⟩ := hf
  simp only [vlen_sl] at hk hl ⊢
  cases a with
  | none =>
    obtain ⟨rfl, rfl⟩ := h1 rfl
    simp [sliceV, SlSrc]
  | some ad =>
    simp only [sliceV, SlSrc]
    by_cases hc : c = k
    · simp only [if_pos hc]
      refine ⟨by first | trivial | rfl, ?_⟩
      rw [List.drop_eq_nil_of_le (by rw [hl, ← hc]; exact Nat.mul_le_mul_right _ h2)]
      intro j u hj; simp at hj
    · simp only [if_neg hc, Option.map_some]
      exact ⟨trivial, hr⟩
theorem insF_cell {h : H} {cs : List Value} {x : Ins} {fp : List Nat} (H : InsF h cs x fp) : ∀ v ∈ cs, v.oneCell' = true := by
  obtain ⟨u, rfl, hu⟩ := H
  obtain ⟨a, n, c, rfl, -, -⟩ := hu.row0.fit
  intro v hv
  simp only [insC, List.mem_cons, List.not_mem_nil, or_false] at hv
  rcases hv with rfl | rfl | rfl | rfl | rfl | rfl | rfl <;> rfl
theorem cells_all {h : H} {L : List (El Ins)} (H : EltsF 7 InsF h L) : ∀ v ∈ cellsE L, v.oneCell' = true := fun v hv => by
  obtain ⟨t, ht, hv⟩ := List.mem_flatMap.1 hv
  exact insF_cell (H t ht).2 v hv
theorem cells_take {α : Type} {sz : Nat} {R : RepF α} {h : H} {L : List (El α)} (H : EltsF sz R h L) (k : Nat) : (cellsE L).take (k * sz) = cellsE (L.take k) ∧ (cellsE L).drop (k * sz) = cellsE (L.drop k) := by
  have h1 : EltsF sz R h (L.take k) := fun t ht => H t (List.mem_of_mem_take ht)
  have hl := cellsE_length h1
  have hsp : cellsE L = cellsE (L.take k) ++ cellsE (L.drop k) := by rw [← cellsE_append, List.take_append_drop]
  by_cases hk : k ≤ L.length
  · rw [List.length_take, Nat.min_eq_left hk] at hl
    rw [hsp, ← hl]
    simp
  · have h2 := cellsE_length H
    have : L.length * sz ≤ k * sz := Nat.mul_le_mul_right _ (by omega)
    rw [List.take_of_length_le (by omega), List.take_of_length_le (by omega), List.drop_eq_nil_of_le (by omega), List.drop_eq_nil_of_le (by omega)]
    exact ⟨rfl, rfl⟩
def stills (p : PE) (l : List Nat) (k : Out) : Out := l.foldr (fun i k => .still (.tt true) p [.val i] k) k
theorem h_stills {P : Program} {R : Value → List (List Value) → H → Prop} {G : List Value} {L : Lv} {h : H} {p : PE} {k : Out} : ∀ {l : List Nat}, (∀ i ∈ l, Reads h (p.den G) [gv G i]) → holds P R k G L h → holds P R (stills p l k) G L h
  | [], _, hk => hk
  | i :: l, hr, hk => ⟨fun _ => hr i (by simp), h_stills (fun j hj => hr j (by simp [hj])) hk⟩
theorem src_ok {G : List Value} {h : H} {sz m i : Nat} {N : List Value} {v : Value} (hv : gv G i = v) (hs : SlSrc h N m v) (hN : N.length = m * sz) (hc : ∀ v ∈ N, v.oneCell' = true) : SrcOk G h sz (.sl (.val i)) N m := by
  refine ⟨hN, hc, ?_⟩
  show (match gv G i with | .slice (some b) n _ => m = n ∧ Reads h b N | .slice none n _ => m = n ∧ n = 0 | _ => False)
  rw [hv]
  exact hs
theorem SlSrc.le {h h' : H} {N : List Value} {m : Nat} {v : Value} (hl : h.le h') (H : SlSrc h N m v) : SlSrc h' N m v := by
  unfold SlSrc at *
  split at H
  · exact ⟨H.1, H.2.le hl⟩
  · exact H
  · exact H
/-- An instruction put between others, in a row anew. -/
theorem ins_chain {R : Value → List (List Value) → H → Prop} {G : List Value} {Lv : Lv} {h : H} {v : Value} {bs : List Blk} {fp : List Nat} {i : Nat} {x : Blk} {w : Value} {f : List Nat} {L1 L2 : List (El Blk)} {fr : List Nat}
    (hnd : fp.Nodup) (K : Lens 41 5 BlkF h v bs fp i x (w :: endC x.en) f L1 L2 fr) {k : Nat} (hk : k ≤ x.ins.length) {y : Ins} (hy : y.args = []) (hlen : x.ins.length ≤ 1000)
    {b0 : Nat} (hb0 : h b0 = none) {n : Nat} {p : PE} {cs : List SV} (lA lB lC lD : List Nat) {fin : Out}
    (hG : G.length = n + 5) (gw : gv G n = w) (g1 : gv G (n + 1) = sliceV w 0 k 7) (g2 : gv G (n + 2) = w) (g3 : gv G (n + 3) = sliceV w k x.ins.length 7) (g4 : gv G (n + 4) = .slice (some ⟨b0, 0, none⟩) 0 0)
    (hp : ∀ D, p.den (G ++ D) = (vaddr v).add (i * 5 + 0)) (hcs : ∀ D, SV.denL (G ++ D) dE cs = insC y (.slice none 0 0))
    (hl : ∀ q ∈ lA ++ (lB ++ (lC ++ lD)), q = n ∨ q = n + 2)
    (hfin : ∀ h' fp' D, OwnBlks h' v (bs.set i ⟨x.ins.take k ++ [y] ++ x.ins.drop k, x.en⟩) fp' → fp'.Nodup → KeptH h h' fp → (∀ b ∈ fp', b ∈ fp ∨ h b = none) → holds Try.prog R fin (G ++ D) Lv h') :
    holds Try.prog R (stills p lA (.app 46 7 64 (.val (n + 4)) (.sl (.val (n + 1))) (stills p lB (.app 46 7 64 (.val (n + 5)) (.cells cs 1) (stills p lC (.app 46 7 64 (.val (n + 6)) (.sl (.val (n + 3))) (stills p lD (.store p [.val (n + 7)] fin)))))))) G Lv
      (h.put b0 (.cells ([] : List Value).toArray 46 (0, 0))) := by
  obtain ⟨u, e, hw⟩ := K.rep
  obtain rfl : w = u := by simp only [List.cons.injEq] at e; exact e.1
  have hwl := hw.len (by omega)
  have hfn := K.nodup_in hnd
  obtain ⟨Lw, frw, hins, hf, hrow, helts⟩ := hw
  have hLl : Lw.length = x.ins.length := by rw [hins, List.length_map]
  obtain ⟨t1, t2⟩ := cells_take helts k
  have hrd : Reads h ((vaddr v).add (i * 5 + 0)) [w] := K.reads fun j u hj => by obtain ⟨rfl, rfl⟩ := get_one hj; rfl
  have hst : ∀ (h' : H) (D : List Value) (l : List Nat), KeptH h h' [] → (∀ q ∈ l, q = n ∨ q = n + 2) → ∀ q ∈ l, Reads h' (p.den (G ++ D)) [gv (G ++ D) q] := fun h' D l hk' hl' q hq => by
    have : gv (G ++ D) q = w := by
      rcases hl' q hq with rfl | rfl
      · rw [gv_of_lt (by omega), gw]
      · rw [gv_of_lt (by omega), g2]
    rw [this, hp]
    exact hrd.le hk'.le_nil
  have k0 : KeptH h (h.put b0 (.cells ([] : List Value).toArray 46 (0, 0))) [] := KeptH.put hb0 _
  have r0 : RowF (h.put b0 (.cells ([] : List Value).toArray 46 (0, 0))) 46 7 (.slice (some ⟨b0, 0, none⟩) 0 0) [] [b0] := RowF.new (r := []) (c := 0) rfl rfl (Nat.le_refl _)
  have one : ∀ {h1 h2 : H} {f1 f2 : List Nat}, KeptH h h1 [] → KeptH h1 h2 f1 → Fresh h f1 → (f2 = f1 ∨ ∃ b, f2 = [b] ∧ h1 b = none) → KeptH h h2 [] ∧ Fresh h f2 := fun {h1 h2 f1 f2} a b c d => by
    refine ⟨KeptH.trans_nil a b c, ?_⟩
    rcases d with rfl | ⟨b', rfl, hb'⟩
    · exact c
    · intro q hq
      rw [List.mem_singleton] at hq; subst hq
      exact H.le_none a.le_nil hb'
  have fr0 : Fresh h [b0] := fun q hq => by rw [List.mem_singleton] at hq; subst hq; exact hb0
  refine h_stills (by have := hst _ [] lA k0 (fun q hq => hl q (by simp [hq])); simpa using this) ?_
  refine ⟨(cellsE Lw).take (k * 7), k, src_ok g1 ((src_take hrow (by omega)).le k0.le_nil) ?_ (fun v hv => cells_all helts v (List.mem_of_mem_take hv)), ?_⟩
  · rw [List.length_take, cellsE_length helts, hLl]
    exact Nat.min_eq_left (Nat.mul_le_mul_right _ hk)
  have hc1 : ((cellsE Lw).take (k * 7)).length = k * 7 := by
    rw [List.length_take, cellsE_length helts, hLl]; exact Nat.min_eq_left (Nat.mul_le_mul_right _ hk)
  show AppSpec _ _ _ _ _ (gv G (n + 4)) _ _ _
  rw [g4]
  refine app_rowF r0 hc1 zero46' (by simp only [vlen_sl]; omega) fun v1 h1 f1 m1 m2 m3 m4 => ?_
  obtain ⟨k1, fr1⟩ := one k0 m3 fr0 m4
  have hG1 : (G ++ [v1]).length = n + 6 := by simp [hG]
  have q1 : gv (G ++ [v1]) (n + 5) = v1 := by rw [← hG]; exact gv_last
  refine h_stills (hst _ _ lB k1 (fun q hq => hl q (by simp [hq]))) ?_
  refine ⟨insC y (.slice none 0 0), 1, ⟨(hcs _).symm, rfl⟩, ?_⟩
  show AppSpec _ _ _ _ _ (gv (G ++ [v1]) (n + 5)) _ _ _
  rw [q1]
  refine app_rowF m1 rfl zero46' (by rw [m2]; simp only [vlen_sl]; omega) fun v2 h2 f2 p1 p2 p3 p4 => ?_
  obtain ⟨k2, fr2⟩ := one k1 p3 fr1 p4
  have q2 : gv (G ++ [v1] ++ [v2]) (n + 6) = v2 := by rw [← hG1]; exact gv_last
  have q3 : gv (G ++ [v1] ++ [v2]) (n + 3) = sliceV w k x.ins.length 7 := by rw [gv_of_lt (by omega), gv_of_lt (by omega), g3]
  refine h_stills (by have := hst h2 ([v1] ++ [v2]) lC k2 (fun q hq => hl q (by simp [hq])); simpa [List.append_assoc] using this) ?_
  have hc3 : ((cellsE Lw).drop (k * 7)).length = (x.ins.length - k) * 7 := by
    rw [List.length_drop, cellsE_length helts, hLl, Nat.sub_mul]
  refine ⟨(cellsE Lw).drop (k * 7), x.ins.length - k, src_ok q3 ?_ hc3 (fun v hv => cells_all helts v (List.mem_of_mem_drop hv)), ?_⟩
  · have := (src_drop hrow (k := k) (by omega)).le k2.le_nil
    rw [hwl] at this; exact this
  show AppSpec _ _ _ _ _ (gv (G ++ [v1] ++ [v2]) (n + 6)) _ _ _
  rw [q2]
  refine app_rowF p1 hc3 zero46' (by rw [p2, m2]; simp only [vlen_sl]; omega) fun v3 h3 f3 o1 o2 o3 o4 => ?_
  obtain ⟨k3, fr3⟩ := one k2 o3 fr2 o4
  refine h_stills (by have := hst h3 ([v1] ++ ([v2] ++ [v3])) lD k3 (fun q hq => hl q (by simp [hq])); simpa [List.append_assoc] using this) ?_
  have hlive := helts.live insF_good
  have hnw : (fpE Lw).Nodup := by rw [hf] at hfn; exact (List.nodup_append.1 hfn).2.1
  have he3 : EltsF 7 InsF h3 Lw := helts.agree insF_good (k3.agree hlive fun b _ => by simp)
  have hSl : SlF 46 7 InsF h3 v3 (x.ins.take k ++ [y] ++ x.ins.drop k) (f3 ++ fpE Lw) := by
    refine ⟨Lw.take k ++ ⟨insC y (.slice none 0 0), y, []⟩ :: Lw.drop k, f3, by rw [hins]; simp, ?_, ?_, fun t ht => ?_⟩
    · rw [fpE_append, fpE_cons, List.nil_append, ← fpE_append, List.take_append_drop]
    · rw [cellsE_append, cellsE_cons, ← t1, ← t2, ← List.append_assoc]
      have := o1
      simpa [List.append_assoc] using this
    · rcases List.mem_append.1 ht with q | q
      · exact he3 t (List.mem_of_mem_take q)
      · rcases List.mem_cons.1 q with rfl | q
        · exact ⟨rfl, _, rfl, by rw [hy]; exact .inl ⟨rfl, rfl, rfl⟩⟩
        · exact he3 t (List.mem_of_mem_drop q)
  have hff : ∀ b ∈ f3 ++ fpE Lw, b ∈ f ∨ h b = none := fun b hb => by
    rcases List.mem_append.1 hb with q | q
    · exact .inr (fr3 b q)
    · left; rw [hf]; exact List.mem_append_right _ q
  have hf3n : f3.Nodup := by
    rcases o1 with ⟨_, _, rfl⟩ | ⟨b, _, _, _, _, _, _, _, _, rfl⟩ <;> simp
  have hnn : (f3 ++ fpE Lw).Nodup := nodup_app hf3n hnw fun b hb hb' => by
    have := hlive b hb'; rw [fr3 b hb] at this; cases this
  obtain ⟨z1, fq, z2, z3, z4, z5⟩ := blk_ins hnd K (k3.mono fun b hb => by cases hb) hSl hff hnn
  have hG3 : (G ++ [v1] ++ [v2]).length = n + 7 := by simp [hG]
  have q4 : gv (G ++ [v1] ++ [v2] ++ [v3]) (n + 7) = v3 := by rw [← hG3]; exact gv_last
  have hp3 : p.den (G ++ [v1] ++ [v2] ++ [v3]) = (vaddr v).add (i * 5 + 0) := by have := hp ([v1] ++ ([v2] ++ [v3])); simpa [List.append_assoc] using this
  refine h_store ((vaddr v).add (i * 5 + 0)) [v3] hp3 (by simp only [SV.denL, SV.den, q4]) z1 ?_
  have := hfin _ fq ([v1] ++ ([v2] ++ [v3])) z2 z3 z4 z5
  simpa [List.append_assoc] using this
end Go.Proofs.Ytibdneedfopcoaa
