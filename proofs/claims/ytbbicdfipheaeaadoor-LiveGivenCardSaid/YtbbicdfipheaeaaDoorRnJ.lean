/-
  An input made; the fixed facts. Conditions: as each contract says.
-/
import Derived.Test.YtbbicdfipheaeaaDoorRnI
set_option linter.unusedVariables false
set_option linter.unusedSimpArgs false
namespace Go.Proofs.YtbbicdfipheaeaaDoor
open Go

def inArgs (args : List Int) (p : Nat) : List Int := (List.range p).map fun i => args.getD i i
theorem inArgs_len (args : List Int) (p : Nat) : (inArgs args p).length = p := by simp [inArgs]
theorem inArgs_succ (args : List Int) (p : Nat) : inArgs args (p + 1) = inArgs args p ++ [args.getD p p] := by simp [inArgs, List.range_succ]
def fuelM (fuel : Int) : Int := IntKind.i64.wrap (intOp .rem .u64 (IntKind.u64.wrap fuel) 400)
theorem fuelM_range (fuel : Int) : 0 ≤ fuelM fuel ∧ fuelM fuel < 400 := by
  have h : 0 ≤ IntKind.u64.wrap fuel := by simp [IntKind.wrap, IntKind.bits, IntKind.signed]; omega
  have := tmod_range (a := IntKind.u64.wrap fuel) (n := 400) h (by omega)
  unfold fuelM; simp only [intOp]; rw [wrap_i64 (by omega) (by omega)]; exact this
theorem cut_val {G : List Value} {k m : Nat} (e : vlen (gv G k) = m) : vi ((X.ite (.cmp .lss (.lit 100) (.len k)) (.lit 100) (.len k)).den G) = ((min m 100 : Nat) : Int) := by
  simp only [X.den, e, vi_ite, vi_int, vb_bool, cmp_lss, decide_eq_true_eq]
  split <;> omega
theorem cut_ints {h : H} {v : Value} {l : List Int} (hv : IntsAt h v l) : IntsAt h (sliceV v 0 (min l.length 100) 1) (l.take 100) := by
  have := hv.slice (lo := 0) (hi := min l.length 100) (by omega) (by omega)
  simp only [List.drop_zero, Nat.sub_zero] at this
  rw [show l.take (min l.length 100) = l.take 100 by rw [Nat.min_comm, ← List.take_take, List.take_length]] at this
  exact this
theorem s36 {h : H} {av mv nv : Value} {args mem ans : List Int} {p : Nat} {fuel : Int} (ha : IntsAt h av args) (hm : IntsAt h mv mem) (hn : IntsAt h nv ans) (hp : p ≤ 1000) :
    CallsA Tryd.prog 36 (fun _ => [.agg #[av, mv, nv, .int .i64 fuel], .int .i64 (p : Int)]) [] h (Ret fun r h' => ∃ u m' n', r = .agg #[u, m', n', .int .i64 (fuelM fuel)] ∧ h.le h' ∧ IntsAt h' u (inArgs args p) ∧ IntsAt h' m' (mem.take 100) ∧ IntsAt h' n' (ans.take 100)) := by
  refine c36 (G := [av, mv, nv, .int .i64 fuel, .int .i64 (p : Int)]) ⟨ha.fit, hm.fit, hn.fit, ⟨_, rfl⟩, ⟨_, rfl⟩, trivial⟩ ?_
  have hal := ha.len
  have hml := hm.len
  have hnl := hn.len
  have cap : ∀ {v : Value} {l : List Int}, IntsAt h v l → l.length ≤ vcap v := fun {v l} hv => by
    have hl := hv.len
    obtain ⟨a, n, c, rfl, _, h3⟩ := hv.fit
    simp only [vlen_sl, vcap_sl] at hl ⊢; omega
  have need : ∀ {G : List Value} {k : Nat} {v : Value} {l : List Int}, gv G k = v → IntsAt h v l → needs G [(.cmp .geq (.ite (.cmp .lss (.lit 100) (.len k)) (.lit 100) (.len k)) (.lit 0)), (.cmp .leq (.ite (.cmp .lss (.lit 100) (.len k)) (.lit 100) (.len k)) (.cap k))] := fun {G k v l} e hv => by
    have hc := cut_val (G := G) (k := k) (m := l.length) (by rw [e]; exact hv.len)
    have hcp := cap hv
    have e1 : vb ((X.cmp .geq (.ite (.cmp .lss (.lit 100) (.len k)) (.lit 100) (.len k)) (.lit 0)).den G) = cmpOp .geq (vi ((X.ite (.cmp .lss (.lit 100) (.len k)) (.lit 100) (.len k)).den G)) 0 := rfl
    have e2 : vb ((X.cmp .leq (.ite (.cmp .lss (.lit 100) (.len k)) (.lit 100) (.len k)) (.cap k)).den G) = cmpOp .leq (vi ((X.ite (.cmp .lss (.lit 100) (.len k)) (.lit 100) (.len k)).den G)) (vcap (gv G k) : Nat) := rfl
    refine ⟨?_, ?_, trivial⟩
    · rw [e1, hc]; exact ge0 _
    · rw [e2, hc, e, cmp_leq, decide_eq_true_eq]; omega
  refine ⟨fun _ => need rfl hm, ?_⟩
  intro m' hm'
  replace hm' : m' = sliceV mv 0 (min mem.length 100) 1 := by
    rw [hm']
    show sliceV mv 0 (vi ((X.ite (.cmp .lss (.lit 100) (.len 1)) (.lit 100) (.len 1)).den [av, mv, nv, .int .i64 fuel, .int .i64 (p : Int)])).toNat 1 = _
    rw [cut_val (G := [av, mv, nv, .int .i64 fuel, .int .i64 (p : Int)]) (k := 1) (m := mem.length) hml, Int.toNat_natCast]
  have im := cut_ints hm
  rw [← hm'] at im
  refine ⟨fun _ => need rfl hn, ?_⟩
  intro n' hn'
  replace hn' : n' = sliceV nv 0 (min ans.length 100) 1 := by
    rw [hn']
    show sliceV nv 0 (vi ((X.ite (.cmp .lss (.lit 100) (.len 2)) (.lit 100) (.len 2)).den ([av, mv, nv, .int .i64 fuel, .int .i64 (p : Int)] ++ [m']))).toNat 1 = _
    rw [cut_val (G := [av, mv, nv, .int .i64 fuel, .int .i64 (p : Int)] ++ [m']) (k := 2) (m := ans.length) hnl, Int.toNat_natCast]
  have inn := cut_ints hn
  rw [← hn'] at inn
  simp only [List.cons_append, List.nil_append]
  refine h_loop (fun xs h' => ∃ (i : Nat) (u : Value) (f : List Nat), xs = [.int .i64 (i : Int), u] ∧ i ≤ p ∧ KeptH h h' [] ∧ RowF h' 2 1 u ((inArgs args i).map (.int .i64)) f ∧ Fresh h f)
    (fun xs h' => p - (vi (gv xs 0)).toNat) ⟨0, .slice none 0 0, [], rfl, Nat.zero_le _, KeptH.refl _ _, .inl ⟨rfl, rfl, rfl⟩, (fun c hc => by cases hc)⟩ ?_
  rintro xs h1 J - ⟨i, u, f, rfl, hi, hk1, hu, hf⟩ hJ
  simp only [List.cons_append, List.nil_append]
  have hul := (rowF_ints hu).len
  rw [inArgs_len] at hul
  have step : ∀ {z : Int} {u' : Value} {h2 : H} {f' : List Nat}, z = args.getD i i → i < p → RowF h2 2 1 u' ((inArgs args i).map (.int .i64) ++ [.int .i64 z]) f' → KeptH h1 h2 f → (f' = f ∨ ∃ b, f' = [b] ∧ h1 b = none) → J [.int .i64 (intOp .add .i64 (i : Int) 1), u'] h2 := fun {z u' h2 f'} hz hip k1 k3 k4 => by
    rw [int_add_one (n := p) hip (by omega)]
    refine hJ _ _ ⟨i + 1, u', f', rfl, by omega, hk1.trans_nil k3 hf, ?_, ?_⟩ ?_
    · rw [inArgs_succ, ← hz, List.map_append]; exact k1
    · rcases k4 with rfl | ⟨c, rfl, hc⟩
      · exact hf
      · intro q hq; rw [List.mem_singleton] at hq; subst hq; exact H.le_none hk1.le_nil hc
    · simp only [gv_zero, vi_int]; omega
  refine h_ite (fun hc => ?_) (fun hc => ?_)
  · replace hc : cmpOp .lss (i : Int) (p : Int) = true := hc
    rw [cmp_lss, decide_eq_true_eq] at hc
    refine h_ite (fun hd => ?_) (fun hd => ?_)
    · replace hd : cmpOp .lss (i : Int) ((vlen av : Nat) : Int) = true := hd
      have n1 := hd
      rw [hal, cmp_lss, decide_eq_true_eq] at hd
      have hz : args[i]? = some (args.getD i i) := by rw [List.getD_eq_getElem?_getD, List.getElem?_eq_getElem (by omega)]; rfl
      refine ⟨fun _ => ⟨ge0 i, n1, trivial⟩, h_load [.int .i64 (args.getD i i)] ⟨⟨_, rfl⟩, trivial⟩ (fun _ => (ha.le hk1.le_nil).read hz) ⟨[.int .i64 (args.getD i i)], 1, ⟨rfl, rfl⟩, app_rowF hu rfl (by rw [zeroI64]; rfl) ?_ ?_⟩⟩
      · show (vlen u + 1) * 8 ≤ _; omega
      · intro u' h2 f' k1 k2 k3 k4
        exact step rfl (by omega) k1 k3 k4
    · replace hd : cmpOp .lss (i : Int) ((vlen av : Nat) : Int) = false := hd
      rw [hal, cmp_lss, decide_eq_false_iff_not] at hd
      refine ⟨[.int .i64 (i : Int)], 1, ⟨rfl, rfl⟩, app_rowF hu rfl (by rw [zeroI64]; rfl) ?_ ?_⟩
      · show (vlen u + 1) * 8 ≤ _; omega
      · intro u' h2 f' k1 k2 k3 k4
        exact step (by rw [List.getD_eq_getElem?_getD, List.getElem?_eq_none (by omega)]; rfl) (by omega) k1 k3 k4
  · replace hc : cmpOp .lss (i : Int) (p : Int) = false := hc
    rw [cmp_lss, decide_eq_false_iff_not] at hc
    have hie : i = p := by omega
    subst hie
    exact ⟨rfl, u, m', n', rfl, hk1.le_nil, rowF_ints hu, im.le hk1.le_nil, inn.le hk1.le_nil⟩
end Go.Proofs.YtbbicdfipheaeaaDoor
