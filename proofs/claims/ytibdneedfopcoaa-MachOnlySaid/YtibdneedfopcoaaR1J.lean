/-
  One block's instructions changed in place; two checks that agree. Conditions: as each contract says.
-/
import Derived.Test.YtibdneedfopcoaaR1V
import Derived.Test.YtibdneedfopcoaaR1T
import Derived.Test.YtibdneedfopcoaaR1H
set_option linter.unusedVariables false
set_option linter.unusedSimpArgs false
namespace Go.Proofs.Ytibdneedfopcoaa
open Go

theorem ofM_zeroJ {x : Ins} {n : Int} (h : ofM x n = 0) : x.args.length ≤ 3 ∧ ∀ y ∈ namedM x, 0 ≤ y ∧ y < n := by
  unfold ofM at h
  split at h
  · cases h
  · split at h
    · cases h
    · split at h
      · rename_i h1 h2 h3
        refine ⟨by omega, fun y hy => ?_⟩
        have := List.all_eq_true.1 h3 y hy
        simpa [inR] using this
      · cases h
theorem endM_zeroJ {e : Fin4} {n m : Int} (hm : 1 ≤ m) (h : endM e n m 21 = 0) : (lastM e = true → 0 ≤ e.a ∧ e.a < n) ∧ (0 ≤ e.to ∧ e.to < m) ∧ 0 ≤ e.el ∧ e.el < m := by
  unfold endM at h
  unfold lastM
  grind (splits := 60)
theorem madeB_small {p0 p1 p2 : Int} {l : List Int} (h0 : 0 ≤ p0) (h1 : 0 ≤ p1) (h2 : 0 ≤ p2) (hl : InB l) : Small (madeB p0 p1 p2 l) := by
  have b := madeV_range h0 h1
  have c := madeN_range h2
  refine ⟨by have := madeB_len (p0 := p0) (p1 := p1) (l := l) h2; omega, fun x hx => ?_⟩
  obtain ⟨k1, k2, k3⟩ := blksM_ok (w := madeV p0 p1) (m := madeN p2) (by omega) (Int.le_refl _) (by omega) (Int.le_refl _) hl _ x hx
  exact ⟨by omega, fun y hy => by have := (ofM_zeroJ (k2 y hy)).1; omega⟩
def faultG (f : Int × Int × Int) : List Value := [.int .i64 f.1, .int .i64 f.2.1, .int .i64 f.2.2]
theorem faultG_fit (f : Int × Int × Int) : FitsL [.int .i64, .int .i64, .int .i64] (faultG f) := ⟨⟨_, rfl⟩, ⟨_, rfl⟩, ⟨_, rfl⟩, trivial⟩
theorem same3 {G : List Value} {a b c a' b' c' : Nat} {f : Int × Int × Int} (e1 : gv G a = .int .i64 f.1) (e2 : gv G b = .int .i64 f.2.1) (e3 : gv G c = .int .i64 f.2.2) (e1' : gv G a' = .int .i64 f.1) (e2' : gv G b' = .int .i64 f.2.1) (e3' : gv G c' = .int .i64 f.2.2) :
    vb ((X.and (.cmp .eql (.var a) (.var a')) (.and (.cmp .eql (.var b) (.var b')) (.cmp .eql (.var c) (.var c')))).den G) = true := by
  simp [X.den, e1, e2, e3, e1', e2', e3', cmp_eql]
theorem not_same3 {G : List Value} {a b c a' b' c' : Nat} {f : Int × Int × Int} (e1 : gv G a = .int .i64 f.1) (e2 : gv G b = .int .i64 f.2.1) (e3 : gv G c = .int .i64 f.2.2) (e1' : gv G a' = .int .i64 f.1) (e2' : gv G b' = .int .i64 f.2.1) (e3' : gv G c' = .int .i64 f.2.2) :
    vb ((X.not (X.and (.cmp .eql (.var a) (.var a')) (.and (.cmp .eql (.var b) (.var b')) (.cmp .eql (.var c) (.var c'))))).den G) = false := by
  simp [X.den, e1, e2, e3, e1', e2', e3', cmp_eql]
theorem le_agree {h h' : H} {fp : List Nat} (hl : h.le h') (hv : Live h fp) : Agree h h' fp := fun x hx => by
  obtain ⟨o, ho⟩ := Option.isSome_iff_exists.1 (hv x hx)
  rw [hl _ _ ho, ho]
theorem iteT {P : Program} {R : Value → List (List Value) → H → Prop} {G : List Value} {L : Lv} {h : H} {c : X} {a b : Out} (hc : vb (c.den G) = true) (ha : holds P R a G L h) : holds P R (.ite c a b) G L h := ⟨fun _ => ha, fun h => absurd (hc.symm.trans h) (by simp)⟩
theorem iteF {P : Program} {R : Value → List (List Value) → H → Prop} {G : List Value} {L : Lv} {h : H} {c : X} {a b : Out} (hc : vb (c.den G) = false) (hb : holds P R b G L h) : holds P R (.ite c a b) G L h := ⟨fun h => absurd (hc.symm.trans h) (by simp), fun _ => hb⟩
theorem zero3f {G : List Value} {a b c : Nat} (e1 : gv G a = .int .i64 0) (e2 : gv G b = .int .i64 0) (e3 : gv G c = .int .i64 0) :
    vb ((X.and (.cmp .eql (.var a) (.lit 0)) (.and (.cmp .eql (.var b) (.lit 0)) (.cmp .eql (.var c) (.lit 0)))).den G) = true := by
  simp [X.den, e1, e2, e3, cmp_eql]
/-- The check and the document's answer, one behind the other. -/
theorem two_checks {R : Value → List (List Value) → H → Prop} {G : List Value} {L : Lv} {h : H} {k : Out} {i j m : Nat} {p n : Int} {v : Value} {bs : List Blk} (hi : gv G i = .int .i64 p) (hj : gv G j = .int .i64 n) (hm : gv G m = v)
    (li : i < G.length) (lj : j < G.length) (lm : m < G.length) (hv : BlksAt h v bs) (hk : ∀ h', h.le h' → holds Try.prog R k (G ++ faultG (checkM p n bs) ++ faultG (checkM p n bs)) L h') :
    holds Try.prog R (.call 16 [(.agg [(.int .i64 (.var i)), (.int .i64 (.var j)), (.val m)])] [] [] [] [(true, [.int .i64, .int .i64, .int .i64])]
      (.call 17 [(.agg [(.int .i64 (.var i)), (.int .i64 (.var j)), (.val m)])] [] [] [] [(true, [.int .i64, .int .i64, .int .i64])] k)) G L h := by
  refine h_call0 (Q := fun r h' => h.le h' ∧ r = faultV (checkM p n bs)) ?_ ?_
  · simp only [SV.denL, SV.den, X.den, hi, hj, hm, vi_int]
    exact s16 p n v bs hv
  rintro _ h1 ⟨hl1, rfl⟩
  refine ⟨faultG (checkM p n bs), faultG_fit _, rfl, h_call0 (Q := fun r h' => h1.le h' ∧ r = faultV (checkM p n bs)) ?_ ?_⟩
  · simp only [SV.denL, SV.den, X.den, gv_of_lt li, gv_of_lt lj, gv_of_lt lm, hi, hj, hm, vi_int]
    exact s17 p n v bs (SlAt.le blkC_mono hl1 hv)
  rintro _ h2 ⟨hl2, rfl⟩
  exact ⟨faultG (checkM p n bs), faultG_fit _, rfl, hk h2 (hl1.trans hl2)⟩
section
variable {h : H} {v : Value} {bs : List Blk} {fp : List Nat} {i : Nat} {x : Blk} {w : Value} {f : List Nat} {L1 L2 : List (El Blk)} {fr : List Nat}
theorem Lens.nodup_in {α : Type} {e : TypeId} {sz : Nat} {R : RepF α} {l : List α} {x : α} {c : List Value} {L1 L2 : List (El α)} (K : Lens e sz R h v l fp i x c f L1 L2 fr) (hnd : fp.Nodup) : f.Nodup := by
  have := hnd; rw [K.foot] at this
  exact (List.nodup_append.1 (List.nodup_append.1 (List.nodup_append.1 this).2.1).2.1).1
/-- A block's instructions are others from now on. -/
theorem blk_ins (hnd : fp.Nodup) (K : Lens 41 5 BlkF h v bs fp i x (w :: endC x.en) f L1 L2 fr) {h1 : H} (hk : KeptH h h1 f) {w' : Value} {ins' : List Ins} {f' : List Nat}
    (hw : SlF 46 7 InsF h1 w' ins' f') (hf : ∀ b ∈ f', b ∈ f ∨ h b = none) (hn : f'.Nodup) :
    Writable h1 ((vaddr v).add (i * 5 + 0)) 1 ∧ ∃ fp', OwnBlks (h1.sets ((vaddr v).add (i * 5 + 0)) [w']) v (bs.set i ⟨ins', x.en⟩) fp' ∧ fp'.Nodup ∧ KeptH h (h1.sets ((vaddr v).add (i * 5 + 0)) [w']) fp ∧ ∀ b ∈ fp', b ∈ fp ∨ h b = none := by
  obtain ⟨m1, m2, m3⟩ := K.upd blkF_good hnd hk (o := 0) (N := [w']) (A := []) (B := [w]) (C := endC x.en) rfl rfl rfl (by simp)
  have hag : Agree h1 (h1.sets ((vaddr v).add (i * 5 + 0)) [w']) f' := fun b hb => m2 b fun hr => by
    rcases hf b hb with e | e
    · exact K.apart hnd b e hr
    · have := K.row.live b hr; rw [e] at this; cases this
  refine ⟨m1, _, m3 ⟨ins', x.en⟩ f' ⟨w', rfl, hw.agree insF_good hag⟩, K.nodup blkF_good hnd hf hn, fun b hb hl => ?_, fun b hb => ?_⟩
  · rw [m2 b fun hr => hb (by rw [K.foot]; simp [hr])]
    exact hk b (fun hr => hb (by rw [K.foot]; simp [hr])) hl
  · rw [K.foot]
    simp only [List.mem_append] at hb ⊢
    rcases hb with hb | hb | hb | hb
    · exact .inl (.inl hb)
    · exact .inl (.inr (.inl hb))
    · rcases hf b hb with e | e
      · exact .inl (.inr (.inr (.inl e)))
      · exact .inr e
    · exact .inl (.inr (.inr (.inr hb)))
end
def kIns (k : Int) : Ins := ⟨k, 0, 0, 0, 0, 0, []⟩
theorem kIns_own {h : H} (k : Int) : InsF h (insC (kIns k) (.slice none 0 0)) (kIns k) [] := ⟨_, rfl, .inl ⟨rfl, rfl, rfl⟩⟩
theorem zero46' : ((zeroCells Try.prog 46).getD []).length = 7 := by kernel_rfl
end Go.Proofs.Ytibdneedfopcoaa
