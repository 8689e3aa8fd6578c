/-
  run.Do: from the beginning to the end of a run. Conditions: as each contract says.
-/
import Derived.Test.YtbbicdfipheaeaaDoorRnC
set_option linter.unusedVariables false
set_option linter.unusedSimpArgs false
namespace Go.Proofs.YtbbicdfipheaeaaDoor
open Go

theorem stepM_left {R : Int} {x : Ins} {s : Rs} : (stepM R x s).1.left ≤ s.left := by
  unfold stepM
  split
  · exact Int.le_refl _
  · split
    · exact Int.le_refl _
    · split
      · exact Int.le_refl _
      · split
        · exact Int.le_refl _
        · split
          · show s.left - 1 ≤ s.left; omega
          · split
            · split <;> (show s.left - 1 ≤ s.left; omega)
            · split
              · show s.left - 1 ≤ s.left; omega
              · split
                · show s.left - 1 ≤ s.left; omega
                · split <;> (show s.left - 1 ≤ s.left; omega)
/-- What a run hands out. -/
def OutR (h0 h' : H) (r : Value) (s : Rs) : Prop := ∃ cv fC, r = .agg (outC s cv).toArray ∧ s.mem.length = 64 ∧ SlF 123 2 CallF h' cv s.calls fC ∧ Fresh h0 fC ∧ fC.Nodup
theorem Mc.outR {e : TypeId} {tl : List Value} {h0 h : H} {b : Nat} {pv cv : Value} {fP fC : List Nat} {s : Rs} (M : Mc e tl h0 h b pv cv fP fC s) : OutR h0 h (.agg (outC s cv).toArray) s :=
  ⟨cv, fC, rfl, M.m64, M.cl, fun c hc => M.fr c (by simp [hc]), (List.nodup_append.1 (List.nodup_cons.1 M.nd).2).2.1⟩
def leftOf (b : Nat) (h : H) : Nat := match h.cell? ⟨b, 67, none⟩ with | some v => (vi v).toNat | none => 0
theorem Mc.leftOf {e : TypeId} {tl : List Value} {h0 h : H} {b : Nat} {pv cv : Value} {fP fC : List Nat} {s : Rs} (M : Mc e tl h0 h b pv cv fP fC s) : leftOf b h = s.left.toNat := by
  have := M.left_ 0 _ rfl
  rw [add_add, add_lit] at this
  unfold Go.Proofs.YtbbicdfipheaeaaDoor.leftOf
  rw [show (0 + (67 + 0) : Nat) = 67 from rfl] at this
  rw [this]; rfl
theorem Reads.add0 {h : H} {a : Addr} {l : List Value} (hr : Reads h a l) : Reads h (a.add 0) l := by rw [add_zero']; exact hr
theorem done_out {P : Program} {Q : Value → List (List Value) → H → Prop} {G xs : List Value} {L : Lv} {h : H} {l : List SV} (hf : FitsL outSh xs) (hl : l = Sh.svs G.length outSh) (hQ : Q (.agg xs.toArray) [] h) : holds P Q (.done (.agg l) []) (G ++ xs) L h := by
  show Q (.agg (SV.denL (G ++ xs) dE l).toArray) [] h
  rw [denL_svs hf hl]; exact hQ
section
variable {h0 h : H} {b : Nat} {pv : Value} {fP : List Nat} {R S first : Nat} {bv av mv nv : Value} {bs : List Blk} {args mem ans : List Int} {fuel : Int}
def Out.loopOf : Out → Out
  | .mk _ _ _ _ (.alloc _ _ _ (.load _ _ _ (.need _ _ (.bnd _ (.copy _ _ _ (.still _ _ _ (.bnd _ (.copy _ _ _ (.store _ _ k))))))))) => k
  | _ => .fail
theorem do_loop {Q : Value → List (List Value) → H → Prop} {g4 g11 g12 g13 g14 g1 g2 g3 g5 g6 g7 : Value} {s0 : Rs} (hb : BlksAt h0 bv bs) (hok : ∀ x ∈ bs, BlOk R ((R + S : Nat) : Int) bs.length x) (hb1 : 1 ≤ bs.length) (hb16 : bs.length ≤ 1000) (hn : R + S ≤ 1000)
    (D : Dc h0 h b pv fP R s0) (g0 : Good (R + S) 2000000 s0) (hQ : ∀ r h' t, Runs bs R 0 0 s0 t → KeptH h0 h' [] → OutR h0 h' r t → Q r [] h') :
    holds Tryd.prog Q (Out.loopOf t66) [bv, g1, g2, g3, g4, g5, g6, g7, pv, pV b, pv, g11, g12, g13, g14] [] h := by
  have hbl := hb.len
  refine h_loop (fun xs h' => ∃ (i : Int) (on : Bool) (s : Rs), xs = [.int .i64 i, .bool on] ∧ Dc h0 h' b pv fP R s ∧ Good (R + S) 2000000 s ∧
      (on = true → ∃ c : Nat, i = (c : Int) ∧ c < bs.length ∧ ∀ f, Runs bs R c 0 s f → Runs bs R 0 0 s0 f) ∧ (on = false → Runs bs R 0 0 s0 s))
    (fun xs h' => if vb (gv xs 1) = true then leftOf b h' + 1 else 0) ⟨0, true, s0, rfl, D, g0, fun _ => ⟨0, rfl, by omega, fun f hf => hf⟩, fun e => by cases e⟩ ?_
  rintro xs h1 J - ⟨i, on, s, rfl, D1, g1', hon, hoff⟩ hJ
  simp only [List.cons_append, List.nil_append]
  obtain ⟨cv1, mv1, fC1, M1, hm1⟩ := D1.mc
  refine h_ite (fun hc => ?_) (fun hc => ?_)
  rotate_left
  · replace hc : on = false := hc
    refine h_load (outC s cv1) (outC_fit M1.m64 M1.out) (fun _ => M1.outs.add0) ?_
    exact done_out (outC_fit M1.m64 M1.out) rfl (hQ _ h1 s (hoff hc) M1.kept M1.outR)
  replace hc : on = true := hc
  subst hc
  obtain ⟨c, rfl, hcb, hrun⟩ := hon rfl
  have hx : bs[c]? = some bs[c] := List.getElem?_eq_getElem hcb
  have hxm : bs[c] ∈ bs := List.getElem_mem _
  generalize bs[c] = x at hx hxm
  have hB := hok x hxm
  obtain ⟨_, ⟨w, rfl, hw⟩, hr⟩ := hb.get c x hx
  have hr1 : Reads h1 (((vaddr bv).add (c * 5)).add 0) [w] := (hr.le M1.kept.le_nil).sub fun j z hz => by obtain ⟨rfl, rfl⟩ := get_one hz; rfl
  have n1 : cmpOp .lss (c : Int) ((vlen bv : Nat) : Int) = true := by rw [hbl]; exact ltN hcb
  refine ⟨fun _ => ⟨ge0 c, n1, trivial⟩, h_load [w] ⟨hw.fit, trivial⟩ (fun _ => hr1) ?_⟩
  simp only [List.cons_append, List.nil_append]
  refine h_range (n := x.ins.length) (fun k h' => ∃ s', Dc h0 h' b pv fP R s' ∧ Good (R + S) 2000000 s' ∧ s'.left ≤ s.left ∧ ∀ f, Runs bs R c k s' f → Runs bs R 0 0 s0 f) hw.len (by omega) rfl (by have := hB.len; omega) ⟨s, D1, g1', Int.le_refl _, hrun⟩ ?_ ?_
  · rintro k h2 J2 hk ⟨s2, D2, g2', hle2, hrun2⟩ hJ2
    have hy : x.ins[k]? = some x.ins[k] := List.getElem?_eq_getElem hk
    have hym : x.ins[k] ∈ x.ins := List.getElem_mem _
    generalize x.ins[k] = y at hy hym
    have hp := hB.ins y hym
    obtain ⟨cv2, mv2, fC2, M2, hm2⟩ := D2.mc
    obtain ⟨_, ⟨u, rfl, hu⟩, hr2⟩ := hw.get k y hy
    refine h_load (insC y u) (insFit y u hu.fit) (fun _ => hr2.le M2.kept.le_nil) ?_
    have hl2 := g2'.lf
    refine h_call0 (s77 (n := R + S) D2 hu g2'.pl hp hn (by omega) (by omega) (by omega)) ?_
    rintro _ h3 ⟨rfl, D3⟩
    refine ⟨[.bool (stepM R y s2).2], ⟨⟨_, rfl⟩, trivial⟩, rfl, h_ite (fun hc => ?_) (fun hc => ?_)⟩
    · replace hc : (!(stepM R y s2).2) = true := hc
      have hf : (stepM R y s2).2 = false := by simpa using hc
      obtain ⟨cv3, mv3, fC3, M3, hm3⟩ := D3.mc
      refine h_load (outC (stepM R y s2).1 cv3) (outC_fit M3.m64 M3.out) (fun _ => M3.outs.add0) ?_
      exact done_out (outC_fit M3.m64 M3.out) rfl (hQ _ h3 _ (hrun2 _ (.stop hx hy (by rw [← hf]))) M3.kept M3.outR)
    · replace hc : (!(stepM R y s2).2) = false := hc
      have ht : (stepM R y s2).2 = true := by simpa using hc
      exact hJ2 _ ⟨_, D3, stepM_good g2', Int.le_trans stepM_left hle2, fun f hf => hrun2 f (.step hx hy (by rw [← ht]) hf)⟩
  · rintro h2 J2 ⟨s2, D2, g2', hle2, hrun2⟩
    obtain ⟨cv2, mv2, fC2, M2, hm2⟩ := D2.mc
    have hr2 : Reads h2 (((vaddr bv).add (c * 5)).add 1) (endC x.en) := (hr.le M2.kept.le_nil).sub fun j z hz => by rw [Nat.add_comm]; simpa using hz
    have hl2 := g2'.lf
    refine ⟨fun _ => ⟨ge0 c, n1, trivial⟩, h_load (endC x.en) (endFit x.en) (fun _ => hr2) (h_call0 (s78 D2 g2'.pl hB.en.1 hB.kd (by omega)) ?_)⟩
    rintro _ h3 ⟨rfl, D3⟩
    obtain ⟨cv3, mv3, fC3, M3, hm3⟩ := D3.mc
    refine ⟨[.int .i64 ((endS x.en s2).2.getD 0), .bool (endS x.en s2).2.isSome], ⟨⟨_, rfl⟩, ⟨_, rfl⟩, trivial⟩, rfl, ?_⟩
    refine again_of (xs := [.int .i64 ((endS x.en s2).2.getD 0), .bool (endS x.en s2).2.isSome]) (J := J) rfl rfl (hJ _ _ ⟨_, _, (endS x.en s2).1, rfl, D3, endS_good g2', fun ho => ?_, fun ho => ?_⟩ ?_)
    · obtain ⟨q, hq⟩ := Option.isSome_iff_exists.1 ho
      have he : endS x.en s2 = ((endS x.en s2).1, some q) := by rw [← hq]
      obtain ⟨e1, e2, e3, e4⟩ := endS_left he
      have hin : inN bs.length q := by
        rcases e3 with rfl | ⟨rfl, k2⟩
        · exact hB.en.2.1 e4
        · exact hB.en.2.2 k2
      refine ⟨q.toNat, by rw [hq]; show q = _; have := hin.1; omega, by have := hin.2; have := hin.1; omega, fun f hf => hrun2 f (.go hx rfl (c := q.toNat) (by rw [he]; congr 2; have := hin.1; omega) hf)⟩
    · have hq : (endS x.en s2).2 = none := by
        cases e : (endS x.en s2).2 with
        | none => rfl
        | some q => rw [e] at ho; cases ho
      exact hrun2 _ (.fin hx rfl (by rw [← hq]))
    · simp only [gv_zero, gv_succ, vb_bool, if_true]
      rw [M1.leftOf, M3.leftOf]
      cases e : (endS x.en s2).2 with
      | none => simp
      | some q =>
        have he : endS x.en s2 = ((endS x.en s2).1, some q) := by rw [← e]
        obtain ⟨e1, e2, _, _⟩ := endS_left he
        simp only [Option.isSome_some, if_true]
        rw [e2]
        omega
end
end Go.Proofs.YtbbicdfipheaeaaDoor
