/-
  A block's copy, in rows of its own. Conditions: as the contract says.
-/
import Derived.Test.YtibdneedfopcoaaR1N
set_option linter.unusedVariables false
set_option linter.unusedSimpArgs false
namespace Go.Proofs.Ytibdneedfopcoaa
open Go

theorem s29 {h : H} {w : Value} {x : Blk} (hw : SlAt 7 InsC h w x.ins) (h1 : x.ins.length ≤ 1000) (h2 : ∀ y ∈ x.ins, y.args.length ≤ 1000) :
    CallsA Try.prog 29 (fun _ => [.agg (w :: endC x.en).toArray]) [] h (Ret fun r h' => KeptH h h' [] ∧ ∃ u fp, r = .agg (u :: endC x.en).toArray ∧ SlF 46 7 InsF h' u x.ins fp ∧ Fresh h fp ∧ fp.Nodup) := by
  refine c29 (G := w :: endC x.en) ⟨hw.fit, endFit x.en⟩ ?_
  have hl := hw.len
  refine h_loop (fun xs h' => ∃ (i : Nat) (u : Value) (fp : List Nat), xs = [.int .i64 (i : Int), u] ∧ i ≤ x.ins.length ∧ KeptH h h' [] ∧ SlF 46 7 InsF h' u (x.ins.take i) fp ∧ Fresh h fp ∧ fp.Nodup)
    (fun xs h' => x.ins.length - (vi (gv xs 0)).toNat) ⟨0, .slice none 0 0, [], rfl, Nat.zero_le _, KeptH.refl _ _, by simpa using SlF.nil, (fun b hb => by cases hb), List.nodup_nil⟩ ?_
  rintro xs h' J hfit ⟨i, u, fp, rfl, hi, hk, hu, hf, hnd⟩ hJ
  refine h_ite (fun hc => ?_) (fun hc => ?_)
  · replace hc : cmpOp .lss (i : Int) ((vlen w : Nat) : Int) = true := hc
    have hc' := hc
    rw [hl, cmp_lss, decide_eq_true_eq] at hc
    have hlt : i < x.ins.length := by omega
    have hy : x.ins[i]? = some x.ins[i] := List.getElem?_eq_getElem hlt
    have hym : x.ins[i] ∈ x.ins := List.getElem_mem _
    have hst : x.ins.take (i + 1) = x.ins.take i ++ [x.ins[i]] := by rw [List.take_add_one, hy]; rfl
    generalize x.ins[i] = y at hy hym hst
    obtain ⟨cs, ⟨q, rfl, hq⟩, hr⟩ := (SlAt.le insC_mono hk.le_nil hw).get i y hy
    have hya := h2 y hym
    refine ⟨fun _ => ⟨?_, hc', trivial⟩, h_load (insC y q) (insFit y q hq.fit) (fun _ => hr) ?_⟩
    · show cmpOp .geq (i : Int) 0 = true
      rw [cmp_geq, decide_eq_true_eq]; omega
    refine ⟨y.args.map (.int .i64), y.args.length, ⟨by simp, by simp [Value.oneCell'], hq.src⟩, ?_⟩
    refine app_rowF (cs := []) (fp := []) (.inl ⟨rfl, rfl, rfl⟩) (by simp) (by rw [zero3]; rfl) ?_ ?_
    · show (0 + y.args.length) * 8 ≤ _; omega
    · intro q' h3 fq k1 k2 k3 k4
      have hlu := hu.live insF_good
      have hu3 := hu.agree insF_good (k3.agree hlu fun b _ => by simp)
      have hfq : ∀ b ∈ fq, h' b = none := by
        rcases k4 with rfl | ⟨b', rfl, hb'⟩
        · exact fun b hb => by cases hb
        · exact fun b hb => by rw [List.mem_singleton] at hb; subst hb; exact hb'
      have hfqn : fq.Nodup := by
        rcases k4 with rfl | ⟨b', rfl, hb'⟩
        · exact List.nodup_nil
        · simp
      refine ⟨insC y q', 1, ⟨rfl, rfl⟩, app_slF insF_good (x := y) (f := fq) (by omega) hu3 rfl ⟨q', rfl, k1⟩ (nodup_app hnd hfqn (fresh_apart hlu hfq)) zero46 ?_ ?_⟩
      · rw [List.length_take]; omega
      · intro u' h4 fp' m1 m2 m3 m4
        have hk4 : KeptH h h4 [] := KeptH.trans_nil (KeptH.trans_nil hk k3 (fun b hb => by cases hb)) m3 hf
        show J [.int .i64 (intOp .add .i64 (i : Int) 1), u'] h4
        rw [int_add_one (n := x.ins.length) hlt (by omega)]
        refine hJ _ _ ⟨i + 1, u', fp', rfl, by omega, hk4, by rw [hst]; exact m1, fun b hb => ?_, m2⟩ ?_
        · rcases m4 b hb with e | e | e
          · exact hf b e
          · exact H.le_none hk.le_nil (hfq b e)
          · exact H.le_none (hk.le_nil.trans (k3.mono (g := []) (fun b hb => by cases hb)).le_nil) e
        · simp only [gv_zero, vi_int]; omega
  · replace hc : cmpOp .lss (i : Int) ((vlen w : Nat) : Int) = false := hc
    rw [hl, cmp_lss, decide_eq_false_iff_not] at hc
    have : i = x.ins.length := by omega
    rw [this, List.take_of_length_le (Nat.le_refl _)] at hu
    exact ⟨rfl, hk, u, fp, rfl, hu, hf, hnd⟩
end Go.Proofs.Ytibdneedfopcoaa
