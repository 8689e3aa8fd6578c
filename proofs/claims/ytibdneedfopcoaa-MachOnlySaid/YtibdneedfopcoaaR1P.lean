/-
  Instructions changed in place within blocks of one's own; rows made anew of parts of old ones. Conditions: none (plain lemmas).
-/
import Derived.Test.YtibdneedfopcoaaR1J
set_option linter.unusedVariables false
set_option linter.unusedSimpArgs false
namespace Go.Proofs.Ytibdneedfopcoaa
open Go

/-! ### A list of which the first so many are changed -/
def modL {α : Type} (f : α → α) (i : Nat) (l : List α) : List α := (l.take i).map f ++ l.drop i
theorem modL_zero {α : Type} (f : α → α) (l : List α) : modL f 0 l = l := rfl
theorem modL_all {α : Type} (f : α → α) (l : List α) : modL f l.length l = l.map f := by simp [modL]
theorem modL_len {α : Type} (f : α → α) (i : Nat) (l : List α) : (modL f i l).length = l.length := by simp [modL]; omega
theorem modL_get {α : Type} (f : α → α) {i : Nat} {l : List α} {x : α} (hi : l[i]? = some x) : (modL f i l)[i]? = some x := by
  have hlt := (List.getElem?_eq_some_iff.1 hi).1
  unfold modL
  rw [List.getElem?_append_right (by simp; omega)]
  simp only [List.length_map, List.length_take, List.getElem?_drop]
  rw [show i + (i - min i l.length) = i by omega]; exact hi
theorem modL_set {α : Type} (f : α → α) {i : Nat} {l : List α} {x : α} (hi : l[i]? = some x) : (modL f i l).set i (f x) = modL f (i + 1) l := by
  obtain ⟨hlt, rfl⟩ := List.getElem?_eq_some_iff.1 hi
  unfold modL
  rw [List.set_append_right _ _ (by simp; omega)]
  simp only [List.length_map, List.length_take]
  rw [show i - min i l.length = 0 by omega, List.drop_eq_getElem_cons hlt, List.set_cons_zero, List.take_succ_eq_append_getElem hlt]
  simp only [List.map_append, List.map_cons, List.map_nil, List.append_assoc, List.cons_append, List.nil_append]

/-! ### A part of a row, set: the row seen at that part -/
section
variable {α : Type} {e : TypeId} {sz : Nat} {R : RepF α} {h : H} {v : Value} {l : List α} {fp : List Nat} {i : Nat} {x : α} {c : List Value} {f : List Nat} {L1 L2 : List (El α)} {fr : List Nat}
theorem Lens.storeL (hR : GoodF R) (K : Lens e sz R h v l fp i x c f L1 L2 fr) (hnd : fp.Nodup) {o : Nat} {N A B C : List Value} (hc : c = A ++ B ++ C) (ho : A.length = o) (hN : N.length = B.length) (hne : B ≠ []) :
    Writable h ((vaddr v).add (i * sz + o)) N.length ∧ (∀ b, b ∉ fr → (h.sets ((vaddr v).add (i * sz + o)) N) b = h b) ∧
    ∀ x', (R (h.sets ((vaddr v).add (i * sz + o)) N) c x f → R (h.sets ((vaddr v).add (i * sz + o)) N) (A ++ N ++ C) x' f) → Lens e sz R (h.sets ((vaddr v).add (i * sz + o)) N) v (l.set i x') fp i x' (A ++ N ++ C) f L1 L2 fr := by
  obtain ⟨q1, q2, -⟩ := K.store hR hnd hc ho hN hne
  refine ⟨q1, q2, fun x' hx => ?_⟩
  subst hc
  have hrow : RowF h e sz v ((cellsE L1 ++ A) ++ B ++ (C ++ cellsE L2)) fr := by have := K.row; simpa [List.append_assoc] using this
  have hA : (cellsE L1 ++ A).length = i * sz + o := by rw [List.length_append, K.pre, ho]
  obtain ⟨s1, s2⟩ := set_rowF hrow hN hne
  rw [hA] at s1 s2
  rw [K.foot] at hnd
  obtain ⟨n1, n2, n3⟩ := List.nodup_append.1 hnd
  have ag : ∀ {g : List Nat}, (∀ b ∈ g, b ∈ fpE L1 ++ (f ++ fpE L2)) → Agree h (h.sets ((vaddr v).add (i * sz + o)) N) g := fun hg b hb => s2 b fun hr => n3 b hr b (hg b hb) rfl
  have hlist : l.set i x' = L1.map El.x ++ x' :: L2.map El.x := by
    rw [K.list, List.set_append_right _ _ (by rw [List.length_map, K.at_]; omega), List.length_map, K.at_, Nat.sub_self]; rfl
  refine ⟨hlist, K.foot, K.at_, by simpa [List.append_assoc] using s1, ?_, hx (hR.agree (ag fun b hb => by simp [hb]) K.rep), K.e1.agree hR (ag fun b hb => by simp [hb]), K.e2.agree hR (ag fun b hb => by simp [hb])⟩
  have := K.len
  simp only [List.length_append] at this ⊢; omega
theorem Lens.slF (K : Lens e sz R h v l fp i x c f L1 L2 fr) : SlF e sz R h v l fp := by
  refine ⟨L1 ++ ⟨c, x, f⟩ :: L2, fr, by rw [K.list]; simp, by rw [fpE_append, fpE_cons]; exact K.foot, ?_, fun s hs => ?_⟩
  · rw [cellsE_append, cellsE_cons, ← List.append_assoc]; exact K.row
  · rcases List.mem_append.1 hs with q | q
    · exact K.e1 s q
    · rcases List.mem_cons.1 q with rfl | q
      · exact ⟨K.len, K.rep⟩
      · exact K.e2 s q
theorem Lens.get (K : Lens e sz R h v l fp i x c f L1 L2 fr) : l[i]? = some x := by
  rw [K.list, List.getElem?_append_right (by rw [List.length_map, K.at_]; omega), List.length_map, K.at_, Nat.sub_self]; rfl
end

/-! ### One instruction of one block -/
/-- Block i is x, whose instructions lie at w; of these number j is y, whose arguments lie at q. -/
def View (h : H) (v : Value) (bs : List Blk) (fp : List Nat) (i : Nat) (x : Blk) (w : Value) (j : Nat) (y : Ins) (q : Value) : Prop :=
  fp.Nodup ∧ ∃ f L1 L2 fr f2 M1 M2 fr2, Lens 41 5 BlkF h v bs fp i x (w :: endC x.en) f L1 L2 fr ∧ Lens 46 7 InsF h w x.ins f j y (insC y q) f2 M1 M2 fr2
section
variable {h : H} {v : Value} {bs : List Blk} {fp : List Nat} {i : Nat} {x : Blk} {w : Value} {j : Nat} {y : Ins} {q : Value}
theorem view_of (k : OwnBlks h v bs fp) (hnd : fp.Nodup) (hx : bs[i]? = some x) (hy : x.ins[j]? = some y) : ∃ w q, View h v bs fp i x w j y q := by
  obtain ⟨c, f, L1, L2, fr, K⟩ := k.lens hx
  obtain ⟨w, rfl, hw⟩ := K.rep
  obtain ⟨c2, f2, M1, M2, fr2, K2⟩ := hw.lens hy
  obtain ⟨q, rfl, hq⟩ := K2.rep
  exact ⟨w, q, hnd, _, _, _, _, _, _, _, _, K, K2⟩
theorem View.own (V : View h v bs fp i x w j y q) : OwnBlks h v bs fp := by obtain ⟨_, _, _, _, _, _, _, _, _, K, K2⟩ := V; exact K.slF
theorem View.blk (V : View h v bs fp i x w j y q) : Reads h ((vaddr v).add (i * 5 + 0)) [w] := by
  obtain ⟨_, _, _, _, _, _, _, _, _, K, K2⟩ := V; exact K.reads fun j u hj => by obtain ⟨rfl, rfl⟩ := get_one hj; rfl
theorem View.ins (V : View h v bs fp i x w j y q) : Reads h ((vaddr w).add (j * 7 + 0)) (insC y q) := by
  obtain ⟨_, _, _, _, _, _, _, _, _, K, K2⟩ := V; exact K2.reads fun j u hj => by rw [Nat.zero_add]; exact hj
theorem View.insAt (V : View h v bs fp i x w j y q) : SlAt 7 InsC h w x.ins := by
  obtain ⟨_, _, _, _, _, _, _, _, _, K, K2⟩ := V; exact SlF.at (sz := 7) (Rep := InsC) (Nat.zero_lt_succ 6) insF_at K2.slF
theorem View.argsAt (V : View h v bs fp i x w j y q) : IntsAt h q y.args := by
  obtain ⟨_, _, _, _, _, _, _, _, _, K, K2⟩ := V
  obtain ⟨u, e, hu⟩ := K2.rep
  obtain rfl : q = u := by simp only [insC, List.cons.injEq] at e; exact e.2.2.2.2.2.2.1
  exact rowF_ints hu
theorem View.getB (V : View h v bs fp i x w j y q) : bs[i]? = some x := by obtain ⟨_, _, _, _, _, _, _, _, _, K, K2⟩ := V; exact K.get
theorem View.getI (V : View h v bs fp i x w j y q) : x.ins[j]? = some y := by obtain ⟨_, _, _, _, _, _, _, _, _, K, K2⟩ := V; exact K2.get
/-- A cell of the instruction is set. -/
theorem View.set (V : View h v bs fp i x w j y q) {o : Nat} {w0 w1 : Value} {A C : List Value} {y' : Ins} (h1 : insC y q = A ++ [w0] ++ C) (ho : A.length = o) (h2 : A ++ [w1] ++ C = insC y' q) (ha : y'.args = y.args) :
    Writable h ((vaddr w).add (j * 7 + o)) 1 ∧ View (h.sets ((vaddr w).add (j * 7 + o)) [w1]) v (bs.set i ⟨x.ins.set j y', x.en⟩) fp i ⟨x.ins.set j y', x.en⟩ w j y' q ∧ KeptH h (h.sets ((vaddr w).add (j * 7 + o)) [w1]) fp := by
  obtain ⟨hnd, f, L1, L2, fr, f2, M1, M2, fr2, K, K2⟩ := V
  have hfn := K.nodup_in hnd
  obtain ⟨m1, m2, m3⟩ := K2.storeL insF_good hfn (o := o) (N := [w1]) (A := A) (B := [w0]) (C := C) h1 ho rfl (by simp)
  have K2' := m3 y' fun ⟨u, e, hu⟩ => by
    obtain rfl : q = u := by simp only [insC, List.cons.injEq] at e; exact e.2.2.2.2.2.2.1
    exact ⟨q, h2, by rw [ha]; exact hu⟩
  rw [h2] at K2'
  have hk : KeptH h (h.sets ((vaddr w).add (j * 7 + o)) [w1]) f := fun b hb _ => m2 b fun hr => hb (by rw [K2.foot]; simp [hr])
  obtain ⟨_, _, K'⟩ := K.inner blkF_good hnd hk (x' := ⟨x.ins.set j y', x.en⟩) (f' := f) ⟨w, rfl, K2'.slF⟩ (fun b hb => .inl hb) hfn
  rw [← K.foot] at K'
  exact ⟨m1, ⟨hnd, f, L1, L2, fr, f2, M1, M2, fr2, K', K2'⟩, hk.mono fun b hb => by rw [K.foot]; simp [hb]⟩
/-- An argument is set. -/
theorem View.arg (V : View h v bs fp i x w j y q) {a : Nat} {z z' : Int} (hz : y.args[a]? = some z) :
    Writable h ((vaddr q).add a) 1 ∧ View (h.sets ((vaddr q).add a) [.int .i64 z']) v (bs.set i ⟨x.ins.set j { y with args := y.args.set a z' }, x.en⟩) fp i ⟨x.ins.set j { y with args := y.args.set a z' }, x.en⟩ w j { y with args := y.args.set a z' } q ∧
      KeptH h (h.sets ((vaddr q).add a) [.int .i64 z']) fp := by
  obtain ⟨hnd, f, L1, L2, fr, f2, M1, M2, fr2, K, K2⟩ := V
  have hfn := K.nodup_in hnd
  have hf2n := K2.nodup_in hfn
  obtain ⟨u, e, hu⟩ := K2.rep
  obtain rfl : q = u := by simp only [insC, List.cons.injEq] at e; exact e.2.2.2.2.2.2.1
  obtain ⟨hlt, rfl⟩ := List.getElem?_eq_some_iff.1 hz
  have hsp : y.args.map (Value.int .i64) = (y.args.take a).map (.int .i64) ++ [.int .i64 y.args[a]] ++ (y.args.drop (a + 1)).map (.int .i64) := by
    conv => lhs; rw [← List.take_append_drop a y.args, List.drop_eq_getElem_cons hlt]
    simp only [List.map_append, List.map_cons, List.append_assoc, List.cons_append, List.nil_append]
  have hsp' : (y.args.set a z').map (Value.int .i64) = (y.args.take a).map (.int .i64) ++ [.int .i64 z'] ++ (y.args.drop (a + 1)).map (.int .i64) := by
    rw [List.set_eq_take_append_cons_drop, if_pos hlt]
    simp only [List.map_append, List.map_cons, List.append_assoc, List.cons_append, List.nil_append]
  have hal : ((y.args.take a).map (Value.int .i64)).length = a := by simp; omega
  have hrow := hu
  rw [hsp] at hrow
  obtain ⟨s1, s2⟩ := set_rowF (N := [Value.int .i64 z']) hrow rfl (by simp)
  rw [hal] at s1 s2
  rw [← hsp'] at s1
  have hk2 : KeptH h (h.sets ((vaddr q).add a) [.int .i64 z']) f2 := fun b hb _ => s2 b hb
  obtain ⟨_, _, K2'⟩ := K2.inner insF_good hfn hk2 (x' := { y with args := y.args.set a z' }) (f' := f2) ⟨q, rfl, s1⟩ (fun b hb => .inl hb) hf2n
  rw [← K2.foot] at K2'
  have hk : KeptH h (h.sets ((vaddr q).add a) [.int .i64 z']) f := hk2.mono fun b hb => by rw [K2.foot]; simp [hb]
  obtain ⟨_, _, K'⟩ := K.inner blkF_good hnd hk (x' := ⟨x.ins.set j { y with args := y.args.set a z' }, x.en⟩) (f' := f) ⟨w, rfl, K2'.slF⟩ (fun b hb => .inl hb) hfn
  rw [← K.foot] at K'
  refine ⟨?_, ⟨hnd, f, L1, L2, fr, f2, M1, M2, fr2, K', K2'⟩, hk.mono fun b hb => by rw [K.foot]; simp [hb]⟩
  refine hrow.row0.writable ?_
  have e1 := hrow.row0.len
  obtain ⟨aa, nn, cc, rfl, _, e3⟩ := hrow.row0.fit
  simp only [List.length_append, List.length_cons, List.length_nil, vlen_sl, vcap_sl, hal] at e1 ⊢
  omega
end
/-- The end's cells are set. -/
theorem blk_end {h : H} {v : Value} {bs : List Blk} {fp : List Nat} {i : Nat} {x : Blk} (k : OwnBlks h v bs fp) (hnd : fp.Nodup) (hx : bs[i]? = some x) {o : Nat} {w0 w1 : Value} {A C : List Value} {en : Fin4} (h1 : endC x.en = A ++ [w0] ++ C) (ho : A.length = o) (h2 : A ++ [w1] ++ C = endC en) :
    Writable h ((vaddr v).add (i * 5 + (1 + o))) 1 ∧ OwnBlks (h.sets ((vaddr v).add (i * 5 + (1 + o))) [w1]) v (bs.set i ⟨x.ins, en⟩) fp ∧ KeptH h (h.sets ((vaddr v).add (i * 5 + (1 + o))) [w1]) fp := by
  obtain ⟨c, f, L1, L2, fr, K⟩ := k.lens hx
  obtain ⟨u, rfl, hs⟩ := K.rep
  obtain ⟨k1, k2, k3⟩ := K.store blkF_good hnd (o := 1 + o) (N := [w1]) (A := u :: A) (B := [w0]) (C := C) (by rw [h1]; simp) (by simp [ho]; omega) rfl (by simp)
  refine ⟨k1, k3 _ fun ⟨u', e1, e2⟩ => ?_, fun b hb _ => k2 b fun hr => hb (by rw [K.foot]; simp [hr])⟩
  have : u = u' := by simp only [List.cons.injEq] at e1; exact e1.1
  exact ⟨u, by rw [← h2]; simp, by rw [this]; exact e2⟩
end Go.Proofs.Ytibdneedfopcoaa
