/-
  Instructions put between others, in a row anew; places picked by remainders. Conditions: as each lemma says.
-/
import Derived.Test.YtbbicdfipheaeaaDoorR4Q
import Derived.Test.YtbbicdfipheaeaaDoorVa
set_option linter.unusedVariables false
set_option linter.unusedSimpArgs false
namespace Go.Proofs.YtbbicdfipheaeaaDoor
open Go

section
variable {h : H} {v : Value} {bs : List Blk} {fp : List Nat} {i : Nat} {x : Blk} {w : Value} {f : List Nat} {L1 L2 : List (El Blk)} {fr : List Nat}
theorem Lens.nodup_in {α : Type} {e : TypeId} {sz : Nat} {R : RepF α} {l : List α} {x : α} {c : List Value} {L1 L2 : List (El α)} (K : Lens e sz R h v l fp i x c f L1 L2 fr) (hnd : fp.Nodup) : f.Nodup := by
  have := hnd; rw [K.foot] at this
  exact (List.nodup_append.1 (List.nodup_append.1 (List.nodup_append.1 this).2.1).2.1).1
/-- A block's instructions are others from now on. -/
theorem blk_ins (hnd : fp.Nodup) (K : Lens 66 5 BlkF h v bs fp i x (w :: endC x.en) f L1 L2 fr) {h1 : H} (hk : KeptH h h1 f) {w' : Value} {ins' : List Ins} {f' : List Nat}
    (hw : SlF 72 7 InsF h1 w' ins' f') (hf : ∀ b ∈ f', b ∈ f ∨ h b = none) (hn : f'.Nodup) :
    Writable h1 ((vaddr v).add (i * 5 + 0)) 1 ∧ ∃ fp', OwnBlks (h1.sets ((vaddr v).add (i * 5 + 0)) [w']) v (bs.set i ⟨ins', x.en⟩) fp' ∧ fp'.Nodup ∧ KeptH h (h1.sets ((vaddr v).add (i * 5 + 0)) [w']) fp ∧ ∀ b ∈ fp', b ∈ fp ∨ h b = none := by
  obtain ⟨m1, m2, m3⟩ := K.upd blkF_good hnd hk (o := 0) (N := [w']) (A := []) (B := [w]) (C := endC x.en) rfl rfl rfl (by simp)
  have hag : Agree h1 (h1.sets ((vaddr v).add (i * 5 + 0)) [w']) f' := fun b hb => m2 b fun hr => by
    rcases hf b hb with e | e
    · exact K.apart hnd b e hr
    · have := K.row.live b hr; rw [e] at this; cases this
  refine ⟨m1, _, m3 ⟨ins', x.en⟩ f' ⟨w', rfl, hw.agree insF_good hag⟩, K.nodup blkF_good hnd hf hn, fun b hb hl => ?_, fun b hb => ?_⟩
  · rw [m2 b fun hr => hb (by rw [K.foot]; simp [hr])]
    exact hk b (fun hr => hb (by rw [K.foot]; simp [hr])) hl
  · rw [K.foot]
    simp only [List.mem_append] at hb ⊢
    rcases hb with hb | hb | hb | hb
    · exact .inl (.inl hb)
    · exact .inl (.inr (.inl hb))
    · rcases hf b hb with e | e
      · exact .inl (.inr (.inr (.inl e)))
      · exact .inr e
    · exact .inl (.inr (.inr (.inr hb)))
end
theorem zero46' : ((zeroCells Tryd.prog 72).getD []).length = 7 := by kernel_rfl
def spillI (k d a : Int) : Ins := ⟨k, 0, d, a, 0, 0, []⟩
/-! ### Parts of a row as what is appended -/
theorem add_zero' (a : Addr) : a.add 0 = a := by unfold Addr.add; simp
theorem src_take {h : H} {e : TypeId} {sz : Nat} {v : Value} {cs : List Value} {fp : List Nat} {k : Nat} (H : RowF h e sz v cs fp) (hk : k ≤ vlen v) : SlSrc h (cs.take (k * sz)) k (sliceV v 0 k sz) := by
  have hr : Reads h (vaddr v) cs := by
    have := H.row0.reads (o := 0) (xs := cs) (fun j u hj => by simpa using hj)
    rwa [add_zero'] at this
  have hl := H.row0.len
  have hf := H.row0.fit
  obtain ⟨a, n, c, rfl, h1, h2⟩ := hf
  cases a with
  | none =>
    obtain ⟨rfl, rfl⟩ := h1 rfl
    simp only [vlen_sl] at hk
    obtain rfl : k = 0 := by omega
    simp [sliceV, SlSrc]
  | some ad =>
    have hr' : Reads h ad (cs.take (k * sz)) := fun j u hj => hr j u (by rw [List.getElem?_take] at hj; split at hj <;> simp_all)
    simp only [sliceV, SlSrc]
    by_cases hc : c = 0
    · simp only [if_pos hc]; exact ⟨by omega, hr'⟩
    · simp only [if_neg hc, Option.map_some, Nat.zero_mul]
      exact ⟨by omega, by rw [add_zero']; exact hr'⟩
theorem src_drop {h : H} {e : TypeId} {sz : Nat} {v : Value} {cs : List Value} {fp : List Nat} {k : Nat} (H : RowF h e sz v cs fp) (hk : k ≤ vlen v) : SlSrc h (cs.drop (k * sz)) (vlen v - k) (sliceV v k (vlen v) sz) := by
  have hr : Reads h ((vaddr v).add (k * sz)) (cs.drop (k * sz)) := H.row0.reads fun j u hj => by rw [List.getElem?_drop] at hj; exact hj
  have hl := H.row0.len
  have hf := H.row0.fit
  obtain ⟨a, n, c, rfl, h1, h2⟩ := hf
  simp only [vlen_sl] at hk hl ⊢
  cases a with
  | none =>
    obtain ⟨rfl, rfl⟩ := h1 rfl
    simp [sliceV, SlSrc]
  | some ad =>
    simp only [sliceV, SlSrc]
    by_cases hc : c = k
    · simp only [if_pos hc]
      refine ⟨by first | trivial | rfl, ?_⟩
      rw [List.drop_eq_nil_of_le (by rw [hl, ← hc]; exact Nat.mul_le_mul_right _ h2)]
      intro j u hj; simp at hj
    · simp only [if_neg hc, Option.map_some]
      exact ⟨trivial, hr⟩
theorem insF_cell {h : H} {cs : List Value} {x : Ins} {fp : List Nat} (H : InsF h cs x fp) : ∀ v ∈ cs, v.oneCell' = true := by
  obtain ⟨u, rfl, hu⟩ := H
  obtain ⟨a, n, c, rfl, -, -⟩ := hu.row0.fit
  intro v hv
  simp only [insC, List.mem_cons, List.not_mem_nil, or_false] at hv
  rcases hv with rfl | rfl | rfl | rfl | rfl | rfl | rfl <;> rfl
theorem cells_all {h : H} {L : List (El Ins)} (H : EltsF 7 InsF h L) : ∀ v ∈ cellsE L, v.oneCell' = true := fun v hv => by
  obtain ⟨t, ht, hv⟩ := List.mem_flatMap.1 hv
  exact insF_cell (H t ht).2 v hv
theorem cells_take {α : Type} {sz : Nat} {R : RepF α} {h : H} {L : List (El α)} (H : EltsF sz R h L) (k : Nat) : (cellsE L).take (k * sz) = cellsE (L.take k) ∧ (cellsE L).drop (k * sz) = cellsE (L.drop k) := by
  have h1 : EltsF sz R h (L.take k) := fun t ht => H t (List.mem_of_mem_take ht)
  have hl := cellsE_length h1
  have hsp : cellsE L = cellsE (L.take k) ++ cellsE (L.drop k) := by rw [← cellsE_append, List.take_append_drop]
  by_cases hk : k ≤ L.length
  · rw [List.length_take, Nat.min_eq_left hk] at hl
    rw [hsp, ← hl]
    simp
  · have h2 := cellsE_length H
    have : L.length * sz ≤ k * sz := Nat.mul_le_mul_right _ (by omega)
    rw [List.take_of_length_le (by omega), List.take_of_length_le (by omega), List.drop_eq_nil_of_le (by omega), List.drop_eq_nil_of_le (by omega)]
    exact ⟨rfl, rfl⟩
def stills (p : PE) (l : List Nat) (k : Out) : Out := l.foldr (fun i k => .still (.tt true) p [.val i] k) k
theorem h_stills {P : Program} {R : Value → List (List Value) → H → Prop} {G : List Value} {L : Lv} {h : H} {p : PE} {k : Out} : ∀ {l : List Nat}, (∀ i ∈ l, Reads h (p.den G) [gv G i]) → holds P R k G L h → holds P R (stills p l k) G L h
  | [], _, hk => hk
  | i :: l, hr, hk => ⟨fun _ => hr i (by simp), h_stills (fun j hj => hr j (by simp [hj])) hk⟩
theorem src_ok {G : List Value} {h : H} {sz m i : Nat} {N : List Value} {v : Value} (hv : gv G i = v) (hs : SlSrc h N m v) (hN : N.length = m * sz) (hc : ∀ v ∈ N, v.oneCell' = true) : SrcOk G h sz (.sl (.val i)) N m := by
  refine ⟨hN, hc, ?_⟩
  show (match gv G i with | .slice (some b) n _ => m = n ∧ Reads h b N | .slice none n _ => m = n ∧ n = 0 | _ => False)
  rw [hv]
  exact hs
theorem SlSrc.le {h h' : H} {N : List Value} {m : Nat} {v : Value} (hl : h.le h') (H : SlSrc h N m v) : SlSrc h' N m v := by
  unfold SlSrc at *
  split at H
  · exact ⟨H.1, H.2.le hl⟩
  · exact H
  · exact H
def bI (b : Int) (m : Nat) : Nat := (b.tmod m).toNat
theorem bI_lt {b : Int} {m : Nat} (hb : 0 ≤ b) (hm : 0 < m) : bI b m < m := by
  have := tmod_range (a := b) (n := m) hb (by omega); unfold bI; omega
def KX (a l : Nat) : X := .op .rem .i64 (.conv .i64 (.op .quo .u8 (.var a) (.lit 8))) (.op .add .i64 (.len l) (.lit 1))
def kI (b : Int) (n : Nat) : Nat := ((b.tdiv 8).tmod (n + 1)).toNat
theorem kx_val {G : List Value} {a l : Nat} {b : Int} {n : Nat} (ea : gv G a = .int .u8 b) (el : vlen (gv G l) = n) (hb : 0 ≤ b ∧ b ≤ 255) (hn : n ≤ 1000) : vi ((KX a l).den G) = ((kI b n : Nat) : Int) := by
  have h1 : 0 ≤ b.tdiv 8 ∧ b.tdiv 8 ≤ 31 := by
    rw [Int.tdiv_eq_ediv_of_nonneg hb.1]; omega
  have := tmod_range (a := b.tdiv 8) (n := (n : Int) + 1) h1.1 (by omega)
  simp only [KX, X.den, ea, el, vi_int, intOp, kI]
  rw [wrap_u8 (by omega) (by omega), wrap_i64 (by omega) (by omega), wrap_i64 (by omega) (by omega)]; omega
theorem kI_le {b : Int} {n : Nat} (hb : 0 ≤ b ∧ b ≤ 255) : kI b n ≤ n := by
  have h1 : 0 ≤ b.tdiv 8 := by rw [Int.tdiv_eq_ediv_of_nonneg hb.1]; omega
  have := tmod_range (a := b.tdiv 8) (n := (n : Int) + 1) h1 (by omega)
  unfold kI; omega
def ysC (ys : List Ins) : List Value := ys.flatMap fun y => insC y (.slice none 0 0)
def ysE (ys : List Ins) : List (El Ins) := ys.map fun y => ⟨insC y (.slice none 0 0), y, []⟩
theorem ysC_len (ys : List Ins) : (ysC ys).length = ys.length * 7 := by
  induction ys with
  | nil => rfl
  | cons y l ih => simp only [ysC, List.flatMap_cons, List.length_append] at ih ⊢; rw [ih]; simp [insC]; omega
theorem ysE_x (ys : List Ins) : (ysE ys).map El.x = ys := by simp [ysE, List.map_map, Function.comp_def]
theorem ysE_fp (ys : List Ins) : fpE (ysE ys) = [] := by
  induction ys with
  | nil => rfl
  | cons y l ih => simp only [ysE, List.map_cons] at ih ⊢; rw [fpE_cons, ih]; rfl
theorem ysE_cells (ys : List Ins) : cellsE (ysE ys) = ysC ys := by
  induction ys with
  | nil => rfl
  | cons y l ih => simp only [ysE, List.map_cons, ysC, List.flatMap_cons] at ih ⊢; rw [cellsE_cons, ih]
/-- An instruction put between others, in a row anew. -/
theorem ins_chainG {R : Value → List (List Value) → H → Prop} {G : List Value} {Lv : Lv} {h : H} {v : Value} {bs : List Blk} {fp : List Nat} {i : Nat} {x : Blk} {w : Value} {f : List Nat} {L1 L2 : List (El Blk)} {fr : List Nat}
    (hnd : fp.Nodup) (K : Lens 66 5 BlkF h v bs fp i x (w :: endC x.en) f L1 L2 fr) {k : Nat} (hk : k ≤ x.ins.length) {ys : List Ins} (hy : ∀ y ∈ ys, y.args = []) (hyl : ys.length ≤ 1000) {msrc : ASrc} (hlen : x.ins.length ≤ 1000)
    {b0 : Nat} (hb0 : h b0 = none) {n : Nat} {p : PE} (lA lB lC lD : List Nat) {fin : Out}
    (hG : G.length = n + 5) (gw : gv G n = w) (g1 : gv G (n + 1) = sliceV w 0 k 7) (g2 : gv G (n + 2) = w) (g3 : gv G (n + 3) = sliceV w k x.ins.length 7) (g4 : gv G (n + 4) = .slice (some ⟨b0, 0, none⟩) 0 0)
    (hp : ∀ D, p.den (G ++ D) = (vaddr v).add (i * 5 + 0)) (hcs : ∀ (D : List Value) (h' : H), KeptH h h' [] → SrcOk (G ++ D) h' 7 msrc (ysC ys) ys.length)
    (hl : ∀ q ∈ lA ++ (lB ++ (lC ++ lD)), q = n ∨ q = n + 2)
    (hfin : ∀ h' fp' D, D.length = 3 → OwnBlks h' v (bs.set i ⟨x.ins.take k ++ ys ++ x.ins.drop k, x.en⟩) fp' → fp'.Nodup → KeptH h h' fp → (∀ b ∈ fp', b ∈ fp ∨ h b = none) → holds Tryd.prog R fin (G ++ D) Lv h') :
    holds Tryd.prog R (stills p lA (.app 72 7 64 (.val (n + 4)) (.sl (.val (n + 1))) (stills p lB (.app 72 7 64 (.val (n + 5)) msrc (stills p lC (.app 72 7 64 (.val (n + 6)) (.sl (.val (n + 3))) (stills p lD (.store p [.val (n + 7)] fin)))))))) G Lv
      (h.put b0 (.cells ([] : List Value).toArray 72 (0, 0))) := by
  obtain ⟨u, e, hw⟩ := K.rep
  obtain rfl : w = u := by simp only [List.cons.injEq] at e; exact e.1
  have hwl := hw.len (by omega)
  have hfn := K.nodup_in hnd
  obtain ⟨Lw, frw, hins, hf, hrow, helts⟩ := hw
  have hLl : Lw.length = x.ins.length := by rw [hins, List.length_map]
  obtain ⟨t1, t2⟩ := cells_take helts k
  have hrd : Reads h ((vaddr v).add (i * 5 + 0)) [w] := K.reads fun j u hj => by obtain ⟨rfl, rfl⟩ := get_one hj; rfl
  have hst : ∀ (h' : H) (D : List Value) (l : List Nat), KeptH h h' [] → (∀ q ∈ l, q = n ∨ q = n + 2) → ∀ q ∈ l, Reads h' (p.den (G ++ D)) [gv (G ++ D) q] := fun h' D l hk' hl' q hq => by
    have : gv (G ++ D) q = w := by
      rcases hl' q hq with rfl | rfl
      · rw [gv_of_lt (by omega), gw]
      · rw [gv_of_lt (by omega), g2]
    rw [this, hp]
    exact hrd.le hk'.le_nil
  have k0 : KeptH h (h.put b0 (.cells ([] : List Value).toArray 72 (0, 0))) [] := KeptH.put hb0 _
  have r0 : RowF (h.put b0 (.cells ([] : List Value).toArray 72 (0, 0))) 72 7 (.slice (some ⟨b0, 0, none⟩) 0 0) [] [b0] := RowF.new (r := []) (c := 0) rfl rfl (Nat.le_refl _)
  have one : ∀ {h1 h2 : H} {f1 f2 : List Nat}, KeptH h h1 [] → KeptH h1 h2 f1 → Fresh h f1 → (f2 = f1 ∨ ∃ b, f2 = [b] ∧ h1 b = none) → KeptH h h2 [] ∧ Fresh h f2 := fun {h1 h2 f1 f2} a b c d => by
    refine ⟨KeptH.trans_nil a b c, ?_⟩
    rcases d with rfl | ⟨b', rfl, hb'⟩
    · exact c
    · intro q hq
      rw [List.mem_singleton] at hq; subst hq
      exact H.le_none a.le_nil hb'
  have fr0 : Fresh h [b0] := fun q hq => by rw [List.mem_singleton] at hq; subst hq; exact hb0
  refine h_stills (by have := hst _ [] lA k0 (fun q hq => hl q (by simp [hq])); simpa using this) ?_
  refine ⟨(cellsE Lw).take (k * 7), k, src_ok g1 ((src_take hrow (by omega)).le k0.le_nil) ?_ (fun v hv => cells_all helts v (List.mem_of_mem_take hv)), ?_⟩
  · rw [List.length_take, cellsE_length helts, hLl]
    exact Nat.min_eq_left (Nat.mul_le_mul_right _ hk)
  have hc1 : ((cellsE Lw).take (k * 7)).length = k * 7 := by
    rw [List.length_take, cellsE_length helts, hLl]; exact Nat.min_eq_left (Nat.mul_le_mul_right _ hk)
  show AppSpec _ _ _ _ _ (gv G (n + 4)) _ _ _
  rw [g4]
  refine app_rowF r0 hc1 zero46' (by simp only [vlen_sl]; omega) fun v1 h1 f1 m1 m2 m3 m4 => ?_
  obtain ⟨k1, fr1⟩ := one k0 m3 fr0 m4
  have hG1 : (G ++ [v1]).length = n + 6 := by simp [hG]
  have q1 : gv (G ++ [v1]) (n + 5) = v1 := by rw [← hG]; exact gv_last
  refine h_stills (hst _ _ lB k1 (fun q hq => hl q (by simp [hq]))) ?_
  refine ⟨ysC ys, ys.length, hcs _ _ k1, ?_⟩
  show AppSpec _ _ _ _ _ (gv (G ++ [v1]) (n + 5)) _ _ _
  rw [q1]
  refine app_rowF m1 (ysC_len ys) zero46' (by rw [m2]; simp only [vlen_sl]; omega) fun v2 h2 f2 p1 p2 p3 p4 => ?_
  obtain ⟨k2, fr2⟩ := one k1 p3 fr1 p4
  have q2 : gv (G ++ [v1] ++ [v2]) (n + 6) = v2 := by rw [← hG1]; exact gv_last
  have q3 : gv (G ++ [v1] ++ [v2]) (n + 3) = sliceV w k x.ins.length 7 := by rw [gv_of_lt (by omega), gv_of_lt (by omega), g3]
  refine h_stills (by have := hst h2 ([v1] ++ [v2]) lC k2 (fun q hq => hl q (by simp [hq])); simpa [List.append_assoc] using this) ?_
  have hc3 : ((cellsE Lw).drop (k * 7)).length = (x.ins.length - k) * 7 := by
    rw [List.length_drop, cellsE_length helts, hLl, Nat.sub_mul]
  refine ⟨(cellsE Lw).drop (k * 7), x.ins.length - k, src_ok q3 ?_ hc3 (fun v hv => cells_all helts v (List.mem_of_mem_drop hv)), ?_⟩
  · have := (src_drop hrow (k := k) (by omega)).le k2.le_nil
    rw [hwl] at this; exact this
  show AppSpec _ _ _ _ _ (gv (G ++ [v1] ++ [v2]) (n + 6)) _ _ _
  rw [q2]
  refine app_rowF p1 hc3 zero46' (by rw [p2, m2]; simp only [vlen_sl]; omega) fun v3 h3 f3 o1 o2 o3 o4 => ?_
  obtain ⟨k3, fr3⟩ := one k2 o3 fr2 o4
  refine h_stills (by have := hst h3 ([v1] ++ ([v2] ++ [v3])) lD k3 (fun q hq => hl q (by simp [hq])); simpa [List.append_assoc] using this) ?_
  have hlive := helts.live insF_good
  have hnw : (fpE Lw).Nodup := by rw [hf] at hfn; exact (List.nodup_append.1 hfn).2.1
  have he3 : EltsF 7 InsF h3 Lw := helts.agree insF_good (k3.agree hlive fun b _ => by simp)
  have hSl : SlF 72 7 InsF h3 v3 (x.ins.take k ++ ys ++ x.ins.drop k) (f3 ++ fpE Lw) := by
    refine ⟨Lw.take k ++ (ysE ys ++ Lw.drop k), f3, by rw [hins, List.map_append, List.map_append, ysE_x, List.append_assoc]; simp, ?_, ?_, fun t ht => ?_⟩
    · rw [fpE_append, fpE_append, ysE_fp, List.nil_append, ← fpE_append, List.take_append_drop]
    · rw [cellsE_append, cellsE_append, ysE_cells, ← t1, ← t2, ← List.append_assoc]
      have := o1
      simpa [List.append_assoc] using this
    · rcases List.mem_append.1 ht with q | q
      · exact he3 t (List.mem_of_mem_take q)
      · rcases List.mem_append.1 q with q | q
        · obtain ⟨y, hym, rfl⟩ := List.mem_map.1 q
          exact ⟨rfl, _, rfl, by rw [hy y hym]; exact .inl ⟨rfl, rfl, rfl⟩⟩
        · exact he3 t (List.mem_of_mem_drop q)
  have hff : ∀ b ∈ f3 ++ fpE Lw, b ∈ f ∨ h b = none := fun b hb => by
    rcases List.mem_append.1 hb with q | q
    · exact .inr (fr3 b q)
    · left; rw [hf]; exact List.mem_append_right _ q
  have hf3n : f3.Nodup := by
    rcases o1 with ⟨_, _, rfl⟩ | ⟨b, _, _, _, _, _, _, _, _, rfl⟩ <;> simp
  have hnn : (f3 ++ fpE Lw).Nodup := nodup_app hf3n hnw fun b hb hb' => by
    have := hlive b hb'; rw [fr3 b hb] at this; cases this
  obtain ⟨z1, fq, z2, z3, z4, z5⟩ := blk_ins hnd K (k3.mono fun b hb => by cases hb) hSl hff hnn
  have hG3 : (G ++ [v1] ++ [v2]).length = n + 7 := by simp [hG]
  have q4 : gv (G ++ [v1] ++ [v2] ++ [v3]) (n + 7) = v3 := by rw [← hG3]; exact gv_last
  have hp3 : p.den (G ++ [v1] ++ [v2] ++ [v3]) = (vaddr v).add (i * 5 + 0) := by have := hp ([v1] ++ ([v2] ++ [v3])); simpa [List.append_assoc] using this
  refine h_store ((vaddr v).add (i * 5 + 0)) [v3] hp3 (by simp only [SV.denL, SV.den, q4]) z1 ?_
  have := hfin _ fq ([v1] ++ ([v2] ++ [v3])) rfl z2 z3 z4 z5
  simpa [List.append_assoc] using this
theorem Lens.agree {α : Type} {e : TypeId} {sz : Nat} {R : RepF α} {h h' : H} {v : Value} {l : List α} {fp : List Nat} {i : Nat} {x : α} {c : List Value} {f : List Nat} {L1 L2 : List (El α)} {fr : List Nat} (hR : GoodF R) (K : Lens e sz R h v l fp i x c f L1 L2 fr) (ha : Agree h h' fp) : Lens e sz R h' v l fp i x c f L1 L2 fr := by
  have ha' : Agree h h' (fr ++ (fpE L1 ++ (f ++ fpE L2))) := by rw [← K.foot]; exact ha
  have a1 : Agree h h' fr := fun b hb => ha' b (by simp [hb])
  have a2 : Agree h h' (fpE L1) := fun b hb => ha' b (by simp [hb])
  have a3 : Agree h h' f := fun b hb => ha' b (by simp [hb])
  have a4 : Agree h h' (fpE L2) := fun b hb => ha' b (by simp [hb])
  exact ⟨K.list, K.foot, K.at_, K.row.agree a1, K.len, hR.agree a3 K.rep, K.e1.agree hR a2, K.e2.agree hR a4⟩
/-! ### A place, picked by remainders -/
def RX (a l : Nat) : X := .op .rem .i64 (.conv .i64 (.var a)) (.len l)
def RX1 (a l : Nat) : X := .op .rem .i64 (.conv .i64 (.var a)) (.op .add .i64 (.len l) (.lit 1))
def RXv (a j : Nat) : X := .op .rem .i64 (.conv .i64 (.var a)) (.var j)
section
variable {G : List Value} {a l j : Nat} {b : Int} {m : Nat}
theorem rx_val (ea : gv G a = .int .u8 b) (el : vlen (gv G l) = m) (hb : 0 ≤ b ∧ b ≤ 255) (hm : 0 < m) : vi ((RX a l).den G) = ((bI b m : Nat) : Int) := by
  have := tmod_range (a := b) (n := m) hb.1 (by omega)
  simp only [RX, X.den, ea, el, vi_int, intOp, bI]
  rw [wrap_i64 (by omega) (by omega)]; omega
theorem rx1_val (ea : gv G a = .int .u8 b) (el : vlen (gv G l) = m) (hb : 0 ≤ b ∧ b ≤ 255) (hm : m ≤ 100000) : vi ((RX1 a l).den G) = ((bI b (m + 1) : Nat) : Int) := by
  have := tmod_range (a := b) (n := (m : Int) + 1) hb.1 (by omega)
  simp only [RX1, X.den, ea, el, vi_int, intOp, bI]
  rw [wrap_i64 (n := b) (by omega) (by omega), wrap_i64 (by omega) (by omega)]; push_cast; omega
theorem rxv_val (ea : gv G a = .int .u8 b) (ej : gv G j = .int .i64 (m : Int)) (hb : 0 ≤ b ∧ b ≤ 255) (hm : 0 < m) : vi ((RXv a j).den G) = ((bI b m : Nat) : Int) := by
  have := tmod_range (a := b) (n := m) hb.1 (by omega)
  simp only [RXv, X.den, ea, ej, vi_int, intOp, bI]
  rw [wrap_i64 (by omega) (by omega)]; omega
theorem need_len (el : vlen (gv G l) = m) (hm : 0 < m) : needs G [(.cmp .neq (.len l) (.lit 0))] := by
  simp only [needs, X.den, el, vi_int, vb_bool, cmp_neq, decide_eq_true_eq, and_true]; omega
theorem need_len1 (el : vlen (gv G l) = m) (hm : m ≤ 100000) : needs G [(.cmp .neq (.op .add .i64 (.len l) (.lit 1)) (.lit 0))] := by
  simp only [needs, X.den, el, intOp, vi_int, vb_bool, cmp_neq, decide_eq_true_eq, and_true]
  rw [wrap_i64 (by omega) (by omega)]; omega
theorem need_var {z : Int} (ej : gv G j = .int .i64 z) (hz : z ≠ 0) : needs G [(.cmp .neq (.var j) (.lit 0))] := by
  simp only [needs, X.den, ej, vi_int, vb_bool, cmp_neq, decide_eq_true_eq, and_true]; exact hz
theorem need_rx (ea : gv G a = .int .u8 b) (el : vlen (gv G l) = m) (hb : 0 ≤ b ∧ b ≤ 255) (hm : 0 < m) : needs G [(.cmp .geq (RX a l) (.lit 0)), (.cmp .lss (RX a l) (.len l))] := by
  have e : vb ((X.cmp .geq (RX a l) (.lit 0)).den G) = cmpOp .geq (vi ((RX a l).den G)) 0 := rfl
  have e' : vb ((X.cmp .lss (RX a l) (.len l)).den G) = cmpOp .lss (vi ((RX a l).den G)) (vlen (gv G l) : Nat) := rfl
  have := bI_lt hb.1 hm
  refine ⟨?_, ?_, trivial⟩
  · rw [e, rx_val ea el hb hm]; exact ge0 _
  · rw [e', rx_val ea el hb hm, el, cmp_lss, decide_eq_true_eq]; omega
theorem need_cap (ea : gv G a = .int .u8 b) (el : vlen (gv G l) = m) (hb : 0 ≤ b ∧ b ≤ 255) (hm : m ≤ 100000) (hc : m ≤ vcap (gv G j)) : needs G [(.cmp .geq (RX1 a l) (.lit 0)), (.cmp .leq (RX1 a l) (.cap j))] := by
  have e : vb ((X.cmp .geq (RX1 a l) (.lit 0)).den G) = cmpOp .geq (vi ((RX1 a l).den G)) 0 := rfl
  have e' : vb ((X.cmp .leq (RX1 a l) (.cap j)).den G) = cmpOp .leq (vi ((RX1 a l).den G)) (vcap (gv G j) : Nat) := rfl
  have := bI_lt (m := m + 1) hb.1 (by omega)
  refine ⟨?_, ?_, trivial⟩
  · rw [e, rx1_val ea el hb hm]; exact ge0 _
  · rw [e', rx1_val ea el hb hm, cmp_leq, decide_eq_true_eq]; omega
theorem need_hi (ea : gv G a = .int .u8 b) (el : vlen (gv G l) = m) (hb : 0 ≤ b ∧ b ≤ 255) (hm : m ≤ 100000) (hc : vlen (gv G j) = m) : needs G [(.cmp .geq (RX1 a l) (.lit 0)), (.cmp .leq (RX1 a l) (.len j))] := by
  have e : vb ((X.cmp .geq (RX1 a l) (.lit 0)).den G) = cmpOp .geq (vi ((RX1 a l).den G)) 0 := rfl
  have e' : vb ((X.cmp .leq (RX1 a l) (.len j)).den G) = cmpOp .leq (vi ((RX1 a l).den G)) (vlen (gv G j) : Nat) := rfl
  have := bI_lt (m := m + 1) hb.1 (by omega)
  refine ⟨?_, ?_, trivial⟩
  · rw [e, rx1_val ea el hb hm]; exact ge0 _
  · rw [e', rx1_val ea el hb hm, hc, cmp_leq, decide_eq_true_eq]; omega
theorem lo_val (ea : gv G a = .int .u8 b) (el : vlen (gv G l) = m) (hb : 0 ≤ b ∧ b ≤ 255) (hm : m ≤ 100000) : (LF.slice (.val j) none (some (RX1 a l)) 7).den G = sliceV (gv G j) 0 (bI b (m + 1)) 7 := by
  show sliceV (gv G j) 0 (vi ((RX1 a l).den G)).toNat 7 = _
  rw [rx1_val ea el hb hm, Int.toNat_natCast]
theorem hi_val (ea : gv G a = .int .u8 b) (el : vlen (gv G l) = m) (hb : 0 ≤ b ∧ b ≤ 255) (hm : m ≤ 100000) : (LF.slice (.val j) (some (RX1 a l)) none 7).den G = sliceV (gv G j) (bI b (m + 1)) (vlen (gv G j)) 7 := by
  show sliceV (gv G j) (vi ((RX1 a l).den G)).toNat (vlen (gv G j)) 7 = _
  rw [rx1_val ea el hb hm, Int.toNat_natCast]
end
end Go.Proofs.YtbbicdfipheaeaaDoor
