/-
  run.Do: how a run goes. Conditions: as each contract says.
-/
import Derived.Test.YtbbicdfipheaeaaDoorRnB
set_option linter.unusedVariables false
set_option linter.unusedSimpArgs false
namespace Go.Proofs.YtbbicdfipheaeaaDoor
open Go

theorem endS_0 {e : Fin4} {s : Rs} (hl : s.left = 0) : endS e s = ({ s with how := 3 }, none) := by unfold endS; rw [if_pos hl]
theorem endS_3 {e : Fin4} {s : Rs} (hl : s.left ≠ 0) (k : e.kind = 3) : endS e s = ({ s with left := s.left - 1, how := 1, value := getP s e.a }, none) := by unfold endS; rw [if_neg hl, if_pos k]
theorem endS_b {e : Fin4} {s : Rs} (hl : s.left ≠ 0) (k3 : e.kind ≠ 3) (k : e.kind = 2 ∧ getP s e.a = 0) : endS e s = ({ s with left := s.left - 1 }, some e.el) := by unfold endS; rw [if_neg hl, if_neg k3, if_pos k]
theorem endS_t {e : Fin4} {s : Rs} (hl : s.left ≠ 0) (k3 : e.kind ≠ 3) (k : ¬ (e.kind = 2 ∧ getP s e.a = 0)) : endS e s = ({ s with left := s.left - 1 }, some e.to) := by unfold endS; rw [if_neg hl, if_neg k3, if_neg k]
section
variable {h0 h : H} {b : Nat} {pv : Value} {fP : List Nat} {s : Rs} {R : Int}
theorem s78 (D : Dc h0 h b pv fP R s) {e : Fin4} {n : Nat} (hn : s.places.length = n) (hp : e.kind ≠ 1 → inN n e.a) (h123 : 1 ≤ e.kind ∧ e.kind ≤ 3) (hlf : 0 ≤ s.left ∧ s.left ≤ 10000000) :
    CallsA Tryd.prog 78 (fun _ => [pV b, .agg (endC e).toArray]) [] h (Ret fun r h' => r = .tuple #[.int .i64 ((endS e s).2.getD 0), .bool (endS e s).2.isSome] ∧ Dc h0 h' b pv fP R (endS e s).1) := by
  subst hn
  obtain ⟨cv, mv, fC, M, hm⟩ := D.mc
  refine c78 (G := [pV b, .int .u8 e.kind, .int .i64 e.a, .int .i64 e.to, .int .i64 e.el]) ⟨pV_fit b, ⟨_, rfl⟩, ⟨_, rfl⟩, ⟨_, rfl⟩, ⟨_, rfl⟩, trivial⟩ ?_
  have hpl := M.plen
  refine h_call0 (s80 M hlf) ?_
  rintro _ h1 ⟨rfl, M1⟩
  refine ⟨[.bool (!decide (s.left = 0))], ⟨⟨_, rfl⟩, trivial⟩, rfl, h_ite (fun hc => ?_) (fun hc => ?_)⟩
  · replace hc : (!(!decide (s.left = 0))) = true := hc
    have h0' : s.left = 0 := by simpa using hc
    rw [if_pos h0'] at M1
    rw [endS_0 h0']
    exact ⟨rfl, rfl, .of_left M1 hm⟩
  replace hc : (!(!decide (s.left = 0))) = false := hc
  have hL : s.left ≠ 0 := by simpa using hc
  rw [if_neg hL] at M1
  simp only [List.cons_append, List.nil_append]
  have rp : Reads h1 ((bp b).add 68) [pv] := M1.tail_ (i := 0) rfl
  refine h_ite (fun c3 => ?_) (fun c3 => ?_)
  · replace c3 : cmpOp .eql e.kind 3 = true := c3
    rw [cmp_eql, decide_eq_true_eq] at c3
    have ha := hp (by omega)
    rw [endS_3 hL c3]
    refine ⟨fun _ => ⟨rfl, trivial⟩, h_load [pv] ⟨M.pfit, trivial⟩ (fun _ => rp) ⟨fun _ => needI rfl hpl ha, h_load [.int .i64 (getP s e.a)] ⟨⟨_, rfl⟩, trivial⟩ (fun _ => M1.place ha) ⟨fun _ => ⟨rfl, trivial⟩, ?_⟩⟩⟩
    refine h_store ((bp b).add 0) [.int .i64 1] (by rw [show (0 : Nat) = 0 + 0 from rfl, ← add_add]; rfl) rfl (M1.wr (by simp [outC])) ⟨fun _ => ⟨rfl, trivial⟩, ?_⟩
    have M2 := M1.setHow 1
    refine h_store ((bp b).add 1) [.int .i64 (getP s e.a)] (by rw [show (1 : Nat) = 0 + 1 from rfl, ← add_add]; rfl) rfl (M2.wr (by simp [outC])) ⟨rfl, rfl, .of_left (M2.setValue _) hm⟩
  · replace c3 : cmpOp .eql e.kind 3 = false := c3
    rw [cmp_eql, decide_eq_false_iff_not] at c3
    have c2 : ∀ {G : List Value}, gv G 1 = .int .u8 e.kind → vb ((X.cmp .eql (.var 1) (.lit 2)).den G) = true → e.kind = 2 := fun e1 h => by
      simpa only [X.den, e1, vi_int, vb_bool, cmp_eql, decide_eq_true_eq] using h
    refine ⟨fun _ => ⟨rfl, trivial⟩, h_load [pv] ⟨M.pfit, trivial⟩ (fun _ => rp) ⟨fun c => needI rfl hpl (hp (by rw [c2 rfl c]; omega)), h_load [.int .i64 (getP s e.a)] ⟨⟨_, rfl⟩, trivial⟩ (fun c => M1.place (hp (by rw [c2 rfl c]; omega))) ⟨fun c => M1.place (hp (by rw [c2 rfl c]; omega)), fun _ => rp, ?_⟩⟩⟩
    simp only [List.cons_append, List.nil_append]
    refine h_ite (fun hc => ?_) (fun hc => ?_)
    · replace hc : vb (if cmpOp .eql e.kind 2 = true then Value.bool (cmpOp .eql (getP s e.a) 0) else .bool false) = true := hc
      rw [cmp_eql, cmp_eql] at hc
      have : e.kind = 2 ∧ getP s e.a = 0 := by by_cases q : e.kind = 2 <;> simp [q, vb] at hc <;> exact ⟨q, hc⟩
      rw [endS_b hL c3 this]
      exact ⟨rfl, rfl, .of_left M1 hm⟩
    · replace hc : vb (if cmpOp .eql e.kind 2 = true then Value.bool (cmpOp .eql (getP s e.a) 0) else .bool false) = false := hc
      rw [cmp_eql, cmp_eql] at hc
      have : ¬ (e.kind = 2 ∧ getP s e.a = 0) := fun q => by simp [q.1, q.2, vb] at hc
      rw [endS_t hL c3 this]
      exact ⟨rfl, rfl, .of_left M1 hm⟩
end
/-! ### How a run begins -/
def places0 (n first : Nat) (args : List Int) : List Int := List.replicate first 0 ++ args ++ List.replicate (n - first - args.length) 0
def mem0 (l : List Int) : List Int := l.take 64 ++ List.replicate (64 - l.length) 0
def start (n first : Nat) (args mem ans : List Int) (fuel : Int) : Rs := ⟨0, 0, [], mem0 mem, fuel, places0 n first args, ans⟩
theorem mem0_len (l : List Int) : (mem0 l).length = 64 := by simp [mem0]; omega
theorem places0_len {n first : Nat} {args : List Int} (h : first + args.length ≤ n) : (places0 n first args).length = n := by simp [places0]; omega
/-! ### A run keeps what it needs -/
structure Good (n : Nat) (F : Int) (s : Rs) : Prop where
  pl : s.places.length = n
  lf : 0 ≤ s.left ∧ (s.calls.length : Int) + s.left ≤ F
theorem stepM_good {n : Nat} {F R : Int} {x : Ins} {s : Rs} (g : Good n F s) : Good n F (stepM R x s).1 := by
  obtain ⟨g1, g2, g3⟩ := g
  have sp : ∀ (t : Rs) (i v : Int), t.places.length = n → 0 ≤ t.left → (t.calls.length : Int) + t.left ≤ F → Good n F (setP t i v) := fun t i v a b c => ⟨by simpa [setP] using a, b, c⟩
  unfold stepM
  split
  · exact sp _ _ _ g1 g2 g3
  · split
    · exact sp _ _ _ g1 g2 g3
    · split
      · exact sp _ _ _ g1 g2 g3
      · split
        · exact ⟨g1, g2, g3⟩
        · rename_i hl
          have a : 0 ≤ s.left - 1 := by omega
          split
          · exact sp _ _ _ g1 a (by show (s.calls.length : Int) + (s.left - 1) ≤ F; omega)
          · split
            · split
              · exact ⟨g1, a, by show (s.calls.length : Int) + (s.left - 1) ≤ F; omega⟩
              · exact sp _ _ _ g1 a (by show (s.calls.length : Int) + (s.left - 1) ≤ F; omega)
            · split
              · exact sp _ _ _ g1 a (by show (s.calls.length : Int) + (s.left - 1) ≤ F; omega)
              · split
                · exact ⟨g1, a, by show (s.calls.length : Int) + (s.left - 1) ≤ F; omega⟩
                · split
                  · refine sp _ _ _ g1 a ?_
                    simp only [List.length_append, List.length_cons, List.length_nil]; omega
                  · exact ⟨g1, a, by show (s.calls.length : Int) + (s.left - 1) ≤ F; omega⟩
theorem endS_good {n : Nat} {F : Int} {e : Fin4} {s : Rs} (g : Good n F s) : Good n F (endS e s).1 := by
  obtain ⟨g1, g2, g3⟩ := g
  unfold endS
  split
  · exact ⟨g1, g2, g3⟩
  · have a : 0 ≤ s.left - 1 := by omega
    split
    · exact ⟨g1, a, by show (s.calls.length : Int) + (s.left - 1) ≤ F; omega⟩
    · split
      · exact ⟨g1, a, by show (s.calls.length : Int) + (s.left - 1) ≤ F; omega⟩
      · exact ⟨g1, a, by show (s.calls.length : Int) + (s.left - 1) ≤ F; omega⟩
theorem endS_left {e : Fin4} {s t : Rs} {c : Int} (h : endS e s = (t, some c)) : s.left ≠ 0 ∧ t.left = s.left - 1 ∧ (c = e.to ∨ (c = e.el ∧ e.kind = 2)) ∧ e.kind ≠ 3 := by
  unfold endS at h
  split at h
  · cases h
  · split at h
    · cases h
    · split at h
      · rename_i h1 h2 h3; cases h; exact ⟨h1, rfl, .inr ⟨rfl, h3.1⟩, h2⟩
      · rename_i h1 h2 h3; cases h; exact ⟨h1, rfl, .inl rfl, h2⟩
theorem denL_svs {G xs : List Value} {shs : List Sh} {l : List SV} (hf : FitsL shs xs) (hl : l = Sh.svs G.length shs) : SV.denL (G ++ xs) dE l = xs := by
  rw [hl]; exact (svs_den (E := dE) hf).1
def outSh : List Sh := .int .i64 :: .int .i64 :: .sl :: (List.replicate 64 (.int .i64) ++ [.int .i64])
theorem fits_ints : ∀ (l : List Int) (m : List Value) (t : List Sh), FitsL t m → FitsL (List.replicate l.length (Sh.int .i64) ++ t) (l.map (Value.int .i64) ++ m)
  | [], m, t, h => h
  | x :: l, m, t, h => ⟨⟨_, rfl⟩, fits_ints l m t h⟩
theorem outC_fit {s : Rs} {cv : Value} (hm : s.mem.length = 64) (hc : Fits .sl cv) : FitsL outSh (outC s cv) := by
  refine ⟨⟨_, rfl⟩, ⟨_, rfl⟩, hc, ?_⟩
  have := fits_ints s.mem [.int .i64 s.left] [.int .i64] ⟨⟨_, rfl⟩, trivial⟩
  rw [hm] at this; exact this
/-- The output, handed out. -/
theorem Mc.out {e : TypeId} {tl : List Value} {h0 h : H} {b : Nat} {pv cv : Value} {fP fC : List Nat} {s : Rs} (M : Mc e tl h0 h b pv cv fP fC s) : Fits .sl cv := by obtain ⟨L, fr, _, _, h4, _⟩ := M.cl; exact h4.row0.fit
end Go.Proofs.YtbbicdfipheaeaaDoor
