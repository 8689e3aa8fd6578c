/-
  The search's walk: what it leaves as the best, and what it costs. Conditions: as each contract says.
-/
import Derived.Test.YtbgfabppmobpgaaDoorR6B
set_option linter.unusedVariables false
set_option linter.unusedSimpArgs false
namespace Go.Proofs.YtbgfabppmobpgaaDoor
open Go

theorem s42 {h : H} {v : Value} {l : List Int} (hv : IntsAt h v l) (hl : l.length ≤ 100000) :
    CallsA Tryd.prog 42 (fun _ => [v]) [] h (Ret fun r h' => KeptH h h' [] ∧ ∃ fp, RowF h' 3 1 r (l.map (.int .i64)) fp ∧ Fresh h fp) := by
  have hvl := hv.len
  refine c42 (G := [v]) ⟨hv.fit, trivial⟩ ?_
  refine h_ite (fun hc => ?_) (fun hc => ?_)
  · replace hc : vnil v = true := hc
    have hw0 : l = [] := by
      obtain ⟨a, n, c, rfl, h2, h3⟩ := hv.fit
      cases a with
      | none => have := (h2 rfl).1; simp only [vlen_sl] at hvl; exact List.eq_nil_of_length_eq_zero (by omega)
      | some a => cases hc
    subst hw0
    exact ⟨rfl, KeptH.refl _ _, [], .inl ⟨rfl, rfl, rfl⟩, fun b hb => absurd hb List.not_mem_nil⟩
  · intro b hb
    have r0 : RowF (h.put b (.cells ([] : List Value).toArray 3 (0, 0))) 3 1 (.slice (some ⟨b, 0, none⟩) 0 0) [] [b] := RowF.new (r := []) (c := 0) rfl rfl (Nat.le_refl _)
    have k0 : KeptH h (h.put b (.cells ([] : List Value).toArray 3 (0, 0))) [] := KeptH.put hb _
    have hv' : IntsAt (h.put b (.cells ([] : List Value).toArray 3 (0, 0))) v l := hv.le (H.le_put hb)
    show holds _ _ _ [v, .slice (some ⟨b, 0, none⟩) 0 0] [] (h.put b (.cells ([] : List Value).toArray 3 (0, 0)))
    generalize h.put b (.cells ([] : List Value).toArray 3 (0, 0)) = g1 at r0 k0 hv'
    have hall := hv'.all
    obtain ⟨a, n, c, rfl, q2, q3⟩ := hv.fit
    simp only [vlen_sl] at hvl
    refine ⟨l.map (.int .i64), l.length, ⟨by simp, (fun z hz => ?_), ?_⟩, ?_⟩
    · obtain ⟨x, _, rfl⟩ := List.mem_map.1 hz; rfl
    · cases a with
      | none => exact ⟨hvl.symm, (q2 rfl).1⟩
      | some a => exact ⟨hvl.symm, hall⟩
    show AppSpec _ _ _ _ _ (.slice (some ⟨b, 0, none⟩) 0 0) _ _ _
    refine app_rowF r0 (by simp) zero_int (by simp only [vlen_sl]; omega) fun v2 h2 f2 m1 m2 m3 m4 => ?_
    have hf2 : Fresh h f2 := fun x hx => by
      rcases m4 with rfl | ⟨b', rfl, hb'⟩
      · rw [List.mem_singleton] at hx; subst hx; exact hb
      · rw [List.mem_singleton] at hx; subst hx; exact H.le_none k0.le_nil hb'
    exact ⟨rfl, KeptH.trans_nil k0 m3 (fun x hx => by rw [List.mem_singleton] at hx; subst hx; exact hb), f2, m1, hf2⟩
/-- What the search has at hand. -/
structure HSt (g h : H) (nv cv nowv bestv : Value) (L : List SP) (cost now best : List Int) (fn fb : List Nat) : Prop where
  le : g.le h
  near : NearAt g nv L
  cost : IntsAt g cv cost
  now : RowF h 3 1 nowv (now.map (.int .i64)) fn
  best : RowF h 3 1 bestv (best.map (.int .i64)) fb
  nf : Fresh g fn
  bf : Fresh g fb
  d : ∀ b ∈ fb, b ∉ fn
section
variable {g h h' : H} {nv cv nowv bestv : Value} {L : List SP} {cost now best : List Int} {fn fb : List Nat}
theorem HSt.grow (K : HSt g h nv cv nowv bestv L cost now best fn fb) (hl : h.le h') : HSt g h' nv cv nowv bestv L cost now best fn fb :=
  ⟨K.le.trans hl, K.near, K.cost, K.now.agree (le_agree' hl K.now.live), K.best.agree (le_agree' hl K.best.live), K.nf, K.bf, K.d⟩
theorem HSt.set (K : HSt g h nv cv nowv bestv L cost now best fn fb) {v : Nat} (hv : v < now.length) (x : Int) :
    Writable h ((vaddr nowv).add (v * 1)) 1 ∧ HSt g (h.sets ((vaddr nowv).add (v * 1)) [.int .i64 x]) nv cv nowv bestv L cost (now.set v x) best fn fb := by
  obtain ⟨w1, w2, w3⟩ := rowF_set (x := .int .i64 x) (i := v) K.now (by simpa using hv)
  rw [Nat.mul_one]
  refine ⟨w1, w3.le K.le K.nf, K.near, K.cost, ?_, K.best.agree (w3.agree K.best.live K.d), K.nf, K.bf, K.d⟩
  rw [show (now.set v x).map (Value.int .i64) = (now.map (Value.int .i64)).set v (.int .i64 x) by rw [List.map_set]]
  exact w2
theorem HSt.ints (K : HSt g h nv cv nowv bestv L cost now best fn fb) : IntsAt h nowv now := rowF_ints K.now
def freeB (p : SP) (now : List Int) (v : Nat) (c : Int) : Bool := !(allS p).any fun n => decide (n < v ∧ gt now n = c)
abbrev hCh (nv cv : Value) (k : Int) (nowv bestv : Value) (S : Int) : List Value := [nv, cv, .int .i64 k, nowv, bestv, .int .i64 S]
theorem hCh_fits {nv cv nowv bestv : Value} {k S : Int} (h1 : Fits .sl nv) (h2 : Fits .sl cv) (h3 : Fits .sl nowv) (h4 : Fits .sl bestv) : FitsL [.sl, .sl, .int .i64, .sl, .sl, .int .i64] (hCh nv cv k nowv bestv S) :=
  ⟨h1, h2, ⟨_, rfl⟩, h3, h4, ⟨_, rfl⟩, trivial⟩
theorem HSt.fits (K : HSt g h nv cv nowv bestv L cost now best fn fb) {k S : Int} : FitsL [.sl, .sl, .int .i64, .sl, .sl, .int .i64] (hCh nv cv k nowv bestv S) := hCh_fits K.near.fit K.cost.fit K.now.row0.fit K.best.row0.fit
theorem s43k {k S c : Int} {v : Nat} (ht : Tab g) (K : HSt g h nv cv nowv bestv L cost now best fn fb) (hv : v < L.length) (hn : v ≤ now.length) (hL : L.length ≤ 100000) :
    CallsA Tryd.prog 43 (fun e => [(e 0).ptr 0, natV v, .int .i64 c]) [hCh nv cv k nowv bestv S] h (RetC fun r cs h' => r = .bool (freeB (nrL L v) now v c) ∧ cs = hCh nv cv k nowv bestv S ∧ h.le h') := by
  refine c43k (G := [nv, cv, .int .i64 k, nowv, bestv, .int .i64 S, natV v, .int .i64 c]) ⟨K.near.fit, K.cost.fit, ⟨_, rfl⟩, K.now.row0.fit, K.best.row0.fit, ⟨_, rfl⟩, ⟨_, rfl⟩, ⟨_, rfl⟩, trivial⟩ ?_
  have hnl := K.near.len
  have hwl := K.ints.len
  obtain ⟨cc, hs, rd⟩ := K.near.get1 (nrL_some hv)
  refine ⟨fun _ => needIx (i := v) (v := nv) rfl rfl hnl hv, h_load [cc] ⟨hs.fit, trivial⟩ (fun _ => rd.le K.le) ?_⟩
  refine h_call0 (sAllS (ht.le K.le) (setC_mono _ _ _ _ K.le hs)) ?_
  rintro av h1 ⟨l1, ho⟩
  refine ⟨[av], ⟨ho.fit, trivial⟩, rfl, ?_⟩
  have hi := ho.ints
  have hal := hi.len
  rw [List.length_map] at hal
  have hal2 : (allS (nrL L v)).length ≤ 4096 := by
    rw [allS_len, ← List.length_range (n := 4096)]; unfold cntP; exact List.length_filter_le _ _
  refine h_range (n := (allS (nrL L v)).length) (fun i h' => h' = h1 ∧ ∀ j y, j < i → (allS (nrL L v))[j]? = some y → decide (y < v ∧ gt now y = c) = false) hal (by omega) rfl (by omega) ⟨rfl, fun j y hj => absurd hj (Nat.not_lt_zero _)⟩ ?_ ?_
  · rintro i h2 J hil ⟨e, hp⟩ hJ
    have e' := e.symm
    subst e'
    have hx : (allS (nrL L v))[i]? = some (allS (nrL L v))[i] := List.getElem?_eq_getElem hil
    generalize (allS (nrL L v))[i] = n at hx
    have hxi : ((allS (nrL L v)).map Int.ofNat)[i]? = some (n : Int) := by rw [List.getElem?_map, hx]; rfl
    refine h_load [natV n] ⟨⟨_, rfl⟩, trivial⟩ (fun _ => hi.read hxi) ⟨fun q => ?_, h_load [.int .i64 (gt now n)] ⟨⟨_, rfl⟩, trivial⟩ (fun q => ?_) (h_ite (fun q => ?_) (fun q => ?_))⟩
    · replace q : cmpOp .lss (n : Int) (v : Int) = true := q
      rw [cmp_lss, decide_eq_true_eq] at q
      exact needIx (i := n) (v := nowv) rfl rfl hwl (by omega)
    · replace q : cmpOp .lss (n : Int) (v : Int) = true := q
      rw [cmp_lss, decide_eq_true_eq] at q
      exact (K.ints.read (gt_some (v := n) (by omega))).le l1
    · refine ⟨_, rfl, ?_, rfl, l1⟩
      simp only [holds, X.den, PE.den, SV.den, SV.denL, NK.val, NK.sv, NK.pub, gv_zero, gv_succ, vi_int, vb_bool, vlen_sl, vaddr_ptr, vb_ite, vi_ite, cmp_eql, cmp_neq, cmp_lss, cmp_leq, cmp_gtr, cmp_geq, List.map_nil, List.map_cons, List.cons_append, List.nil_append, List.flatten_nil, needs, Ret, true_and, and_true, decide_eq_true_eq, forall_const, intOp] at q
      have : freeB (nrL L v) now v c = false := by
        unfold freeB
        rw [any_yes hx (by rw [decide_eq_true_eq]; grind)]; rfl
      rw [this]; rfl
    · refine hJ _ ⟨rfl, none_upto hp hx ?_⟩
      simp only [holds, X.den, PE.den, SV.den, SV.denL, NK.val, NK.sv, NK.pub, gv_zero, gv_succ, vi_int, vb_bool, vlen_sl, vaddr_ptr, vb_ite, vi_ite, cmp_eql, cmp_neq, cmp_lss, cmp_leq, cmp_gtr, cmp_geq, List.map_nil, List.map_cons, List.cons_append, List.nil_append, List.flatten_nil, needs, Ret, true_and, and_true, decide_eq_true_eq, forall_const, intOp] at q
      rw [decide_eq_false_iff_not]; grind
  · rintro h2 J ⟨e, hp⟩
    refine ⟨_, rfl, ?_, rfl, by rw [e]; exact l1⟩
    have : freeB (nrL L v) now v c = true := by
      unfold freeB
      rw [any_no hp]; rfl
    rw [this]; rfl
end
end Go.Proofs.YtbgfabppmobpgaaDoor
