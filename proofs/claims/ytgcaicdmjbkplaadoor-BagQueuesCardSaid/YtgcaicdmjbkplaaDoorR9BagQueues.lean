/-
  The law BagQueues answers true. Conditions: none.
-/
import Derived.Test.YtgcaicdmjbkplaaDoorR9A
import Derived.Test.YtgcaicdmjbkplaaDoorR9Lay
set_option linter.unusedVariables false
set_option linter.unusedSimpArgs false
namespace Go.Proofs.YtgcaicdmjbkplaaDoor
open Go Go.ChangeShapes Go.WideShapes Go.ChangeAt Go.RowKit

theorem take_nilS {h : H} {vr vm : Value} {fp : List Nat} (hq : QRepS h vr vm [] fp) :
    CallsA Tryd.prog 27 (fun e => [(e 0).ptr 0]) [[vr, vm]] h (RetC fun r c h' => r = .tuple #[.string ⟨#[]⟩, .bool false] ∧ c = [vr, vm] ∧ h' = h) := by
  obtain ⟨fr, fm, rfl, hd, hr, hm⟩ := hq
  refine c27k (G := [vr, vm]) ⟨hr.fit, hm.fit, trivial⟩ ?_
  have hl := hr.len
  refine iteT ?_ ⟨_, rfl, rfl, rfl, rfl⟩
  show cmpOp .eql ((vlen vr : Nat) : Int) 0 = true
  rw [hl]; rfl
/-- A queue, and the row that it should be. -/
structure QSt (g h : H) (row qr qm : Value) (l : List ByteArray) (fr fq : List Nat) : Prop where
  le : g.le h
  row : RowG h 9 row (l.map .string) fr
  q : QRepS h qr qm l fq
  rf : Fresh g fr
  qf : Fresh g fq
  d : ∀ b ∈ fr, b ∉ fq
theorem rowG_read {h : H} {row : Value} {l : List ByteArray} {fr : List Nat} (k : RowG h 9 row (l.map .string) fr) {i : Nat} {x : ByteArray} (hx : l[i]? = some x) : Reads h ((vaddr row).add (i * 1)) [.string x] := by
  rw [Nat.mul_one]
  exact k.reads (by rw [List.getElem?_map, hx]; rfl)
set_option maxHeartbeats 1000000 in
theorem s5 {h : H} {av : Value} {A : List (Int × ByteArray × Int)} (ht : Tab h) (hA : SlAt 3 TurnC h av A) :
    CallsA Tryd.prog 5 (fun _ => [av]) [] h (Ret fun r h' => h.le h' ∧ r = .bool true) := by
  refine c5 (G := [av]) ⟨hA.fit, trivial⟩ ?_
  refine h_call0 (s17 ht) ?_
  rintro _ g ⟨lg, rfl⟩
  refine ⟨[.bool true], ⟨⟨_, rfl⟩, trivial⟩, rfl, iteF rfl ?_⟩
  have hal := hA.len
  have hA1 := SlAt.le turnC_mono lg hA
  refine h_loop (fun xs h' => ∃ (row qr qm : Value) (i : Nat) (l : List ByteArray) (fr fq : List Nat), xs = [row, natV i, qr, qm] ∧ i ≤ A.length ∧ i ≤ 201 ∧ l.length ≤ i ∧ QSt g h' row qr qm l fr fq) (fun xs h' => A.length - (vi (gv xs 1)).toNat)
    ⟨_, _, _, 0, [], [], [], rfl, Nat.zero_le _, by omega, Nat.zero_le _, H.le_refl _, RowG.nil, QRepS.nil, fun b hb => absurd hb List.not_mem_nil, fun b hb => absurd hb List.not_mem_nil, fun b hb => absurd hb List.not_mem_nil⟩ ?_
  rintro xs h1 J - ⟨row, qr, qm, i, l, fr, fq, rfl, hi, hi2, hl, Q⟩ hJ
  refine h_ite (fun hc => ?_) (fun hc => ⟨rfl, lg.trans Q.le, rfl⟩)
  replace hc : cmpOp .lss (i : Int) ((vlen av : Nat) : Int) = true := hc
  rw [hal, cmp_lss, decide_eq_true_eq] at hc
  have hil : i < A.length := by omega
  have hx := List.getElem?_eq_getElem hil
  generalize A[i] = t at hx
  obtain ⟨cs, ⟨rfl, hk0⟩, rd⟩ := hA1.get i t hx
  obtain ⟨k, x, w⟩ := t
  simp only at hk0 rd
  refine ⟨fun _ => ⟨ge0 i, by show cmpOp .lss (i : Int) ((vlen av : Nat) : Int) = true; rw [hal]; exact ltN hil, trivial⟩, h_load [.int .u8 k, .string x, .int .i64 w] ⟨⟨_, rfl⟩, ⟨_, rfl⟩, ⟨_, rfl⟩, trivial⟩ (fun _ => rd.le Q.le) (h_ite (fun _ => ⟨rfl, lg.trans Q.le, rfl⟩) (fun hd => ?_))⟩
  simp only [holds, X.den, PE.den, SV.den, SV.denL, NK.val, NK.sv, NK.pub, gv_zero, gv_succ, vi_int, vb_bool, vlen_sl, vaddr_ptr, vb_ite, vi_ite, cmp_eql, cmp_neq, cmp_lss, cmp_leq, cmp_gtr, cmp_geq, List.map_nil, List.map_cons, List.cons_append, List.nil_append, List.flatten_nil, needs, Ret, true_and, and_true, decide_eq_true_eq, forall_const, intOp] at hd
  have hi200 : i ≤ 200 := by grind
  clear hd
  have hiadd : intOp .add .i64 (i : Int) 1 = ((i + 1 : Nat) : Int) := int_add_one (n := 1000) (by omega) (by omega)
  have again : ∀ {h' : H} {row qr qm : Value} {l' : List ByteArray} {fr fq : List Nat}, QSt g h' row qr qm l' fr fq → l'.length ≤ i + 1 → J [row, .int .i64 (intOp .add .i64 (i : Int) 1), qr, qm] h' := fun {h' row qr qm l' fr fq} Q' hl' => by
    rw [hiadd]
    exact hJ _ _ ⟨row, qr, qm, i + 1, l', fr, fq, rfl, by omega, by omega, hl', Q'⟩ (by simp only [gv_zero, gv_succ, vi_int]; omega)
  have hrl : vlen row = l.length := by rw [Q.row.len, List.length_map]
  have fb : ∀ z : Bool, FitsL [.bool] [.bool z] := fun z => ⟨⟨_, rfl⟩, trivial⟩
  have fi : ∀ z : Int, FitsL [.int .i64] [.int .i64 z] := fun z => ⟨⟨_, rfl⟩, trivial⟩
  refine h_ite (fun hd => ?_) (fun hd => ?_)
  · -- one more
    refine h_loop (fun xs h' => ∃ j : Nat, xs = [.bool (decide (x ∈ l.take j)), natV j] ∧ j ≤ l.length ∧ h' = h1) (fun xs h' => l.length - (vi (gv xs 1)).toNat) ⟨0, by show [Value.bool false, .int .i64 0] = _; simp, Nat.zero_le _, rfl⟩ ?_
    rintro xs h2 J2 - ⟨j, rfl, hj, e2⟩ hJ2
    have e2' := e2.symm
    subst e2'
    refine h_ite (fun he => ?_) (fun he => ?_)
    · replace he : cmpOp .lss (j : Int) ((vlen row : Nat) : Int) = true := he
      rw [hrl, cmp_lss, decide_eq_true_eq] at he
      have hjl : j < l.length := by omega
      have hy := List.getElem?_eq_getElem hjl
      generalize l[j] = y at hy
      refine ⟨fun _ => ⟨ge0 j, by show cmpOp .lss (j : Int) ((vlen row : Nat) : Int) = true; rw [hrl]; exact ltN hjl, trivial⟩, h_load [.string y] ⟨⟨_, rfl⟩, trivial⟩ (fun _ => rowG_read Q.row hy) ?_⟩
      show J2 [.bool (vb (if decide (x ∈ l.take j) = true then Value.bool true else .bool (y.toList == x.toList))), .int .i64 (intOp .add .i64 (j : Int) 1)] _
      rw [int_add_one (n := 1000) (by omega) (by omega)]
      refine hJ2 _ _ ⟨j + 1, ?_, by omega, rfl⟩ (by simp only [gv_zero, gv_succ, vi_int]; omega)
      have : vb (if decide (x ∈ l.take j) = true then Value.bool true else .bool (y.toList == x.toList)) = decide (x ∈ l.take (j + 1)) := by
        rw [List.take_add_one, hy, vb_ite, seq_eq]
        by_cases q : x ∈ l.take j
        · simp [q]
        · simp [q]
          by_cases z : y = x
          · simp [z]
          · have : ¬ x = y := fun e => z e.symm
            simp [z, this]
      rw [this]
    · replace he : cmpOp .lss (j : Int) ((vlen row : Nat) : Int) = false := he
      rw [hrl, cmp_lss, decide_eq_false_iff_not] at he
      obtain rfl : j = l.length := by omega
      rw [List.take_length]
      refine h_call1 (s26k (x := x) Q.q (by omega)) ?_
      rintro _ c h3 ⟨rfl, qr', qm', fq', rfl, hq', kq, nq⟩
      have l3 : g.le h3 := kq.le Q.le Q.qf
      have fq3 : Fresh g fq' := fun b hb => (nq b hb).elim (Q.qf b) (H.le_none Q.le)
      have row3 : RowG h3 9 row (l.map .string) fr := Q.row.agree (kq.agree Q.row.live Q.d)
      have d3 : ∀ b ∈ fr, b ∉ fq' := fun b hb hb' => by
        rcases nq b hb' with z | z
        · exact Q.d b hb z
        · have := Q.row.live b hb; rw [z] at this; cases this
      refine ⟨hq'.fits, [.bool (decide (x ∉ l))], fb _, rfl, iteF ?_ ?_⟩
      · show vb (if decide (x ∉ l) = true then Value.bool (decide (x ∈ l)) else .bool (!decide (x ∈ l))) = false
        by_cases q : x ∈ l <;> simp [q]
      refine h_ite (fun q => ?_) (fun q => ?_)
      · replace q : (!decide (x ∈ l)) = true := q
        have hnx : x ∉ l := by simpa using q
        rw [if_neg hnx] at hq'
        refine ⟨[.string x], 1, ⟨rfl, rfl⟩, ?_⟩
        show AppSpec _ _ _ _ _ row _ _ _
        refine app_rowG row3 zero_str (by rw [hrl]; omega) fun row' h4 fr' m1 m2 m3 => ?_
        have l4 : g.le h4 := m2.le l3 Q.rf
        have nr : ∀ b ∈ fr', b ∈ fr ∨ h3 b = none := fun b hb => by
          rcases m3 with rfl | ⟨b', rfl, hb'⟩
          · exact .inl hb
          · rw [List.mem_singleton] at hb; subst hb; exact .inr hb'
        have q4 : QRepS h4 qr' qm' (l ++ [x]) fq' := hq'.agree (m2.agree hq'.live fun b hb hb' => d3 b hb' hb)
        have Q4 : QSt g h4 row' qr' qm' (l ++ [x]) fr' fq' := ⟨l4, by rw [List.map_append]; exact m1, q4, fun b hb => (nr b hb).elim (Q.rf b) (H.le_none l3), fq3, fun b hb hb' => by
          rcases nr b hb with z | z
          · exact d3 b z hb'
          · have := hq'.live b hb'; rw [z] at this; cases this⟩
        have hr4 : vlen row' = (l ++ [x]).length := by rw [Q4.row.len, List.length_map]
        refine h_call1 (s28k Q4.q) ?_
        rintro _ c h5 ⟨rfl, rfl, e5⟩
        have e5' := e5.symm
        subst e5'
        refine ⟨Q4.q.fits, [.int .i64 _], fi _, rfl, iteF ?_ (again Q4 (by simp; omega))⟩
        show cmpOp .neq (((l ++ [x]).length : Nat) : Int) ((vlen row' : Nat) : Int) = false
        rw [hr4, cmp_neq]; simp
      · replace q : (!decide (x ∈ l)) = false := q
        have hnx : x ∈ l := by simpa using q
        rw [if_pos hnx] at hq'
        have Q3 : QSt g h3 row qr' qm' l fr fq' := ⟨l3, row3, hq', Q.rf, fq3, d3⟩
        refine h_call1 (s28k Q3.q) ?_
        rintro _ c h5 ⟨rfl, rfl, e5⟩
        have e5' := e5.symm
        subst e5'
        refine ⟨Q3.q.fits, [.int .i64 _], fi _, rfl, iteF ?_ (again Q3 (by omega))⟩
        show cmpOp .neq ((l.length : Nat) : Int) ((vlen row : Nat) : Int) = false
        rw [hrl, cmp_neq]; simp
  · -- the first one out
    cases l with
    | nil =>
      refine h_call1 (take_nilS Q.q) ?_
      rintro _ c h3 ⟨rfl, rfl, e3⟩
      have e3' := e3.symm
      subst e3'
      have hr0 : vlen row = 0 := hrl
      refine ⟨Q.q.fits, [.string ⟨#[]⟩, .bool false], ⟨⟨_, rfl⟩, ⟨_, rfl⟩, trivial⟩, rfl, fun q => ?_, h_load [.string ⟨#[]⟩] ⟨⟨_, rfl⟩, trivial⟩ (fun q => ?_) (iteF ?_ (iteF rfl ?_))⟩
      · exact absurd (andR q) (by show false ≠ true; simp)
      · exact absurd (andR q) (by show false ≠ true; simp)
      · simp only [X.den, List.cons_append, List.nil_append, gv_zero, gv_succ, vi_int, vb_bool, vb_ite, vs_str, hr0, cmp_gtr]
        simp
      refine h_call1 (s28k Q.q) ?_
      rintro _ c h5 ⟨rfl, rfl, e5⟩
      have e5' := e5.symm
      subst e5'
      refine ⟨Q.q.fits, [.int .i64 _], fi _, rfl, iteF ?_ (again Q (by simp))⟩
      show cmpOp .neq (((([] : List ByteArray).length : Nat)) : Int) ((vlen row : Nat) : Int) = false
      rw [hr0]; rfl
    | cons y l =>
      refine h_call1 (s27k Q.q) ?_
      rintro _ c h3 ⟨rfl, qr', rfl, hq', kq⟩
      have l3 : g.le h3 := kq.le Q.le Q.qf
      have row3 : RowG h3 9 row ((y :: l).map .string) fr := Q.row.agree (kq.agree Q.row.live Q.d)
      have rd3 := rowG_read (i := 0) (x := y) row3 rfl
      have Q3 : QSt g h3 (sliceV row 1 (vlen row) 1) qr' qm l fr fq := ⟨l3, RowG.tail row3, hq', Q.rf, Q.qf, Q.d⟩
      have hrl' : vlen row = l.length + 1 := hrl
      have yes : cmpOp .gtr ((vlen row : Nat) : Int) 0 = true := by rw [hrl', cmp_gtr, decide_eq_true_eq]; omega
      refine ⟨⟨hq'.fits.1, hq'.fits.2.1, trivial⟩, [.string y, .bool true], ⟨⟨_, rfl⟩, ⟨_, rfl⟩, trivial⟩, rfl, fun _ => ⟨rfl, ?_, trivial⟩, h_load [.string y] ⟨⟨_, rfl⟩, trivial⟩ (fun _ => rd3) (iteF ?_ (iteT rfl ⟨fun _ => ⟨rfl, ?_, trivial⟩, ?_⟩))⟩
      · show cmpOp .lss 0 ((vlen row : Nat) : Int) = true
        rw [hrl', cmp_lss, decide_eq_true_eq]; omega
      · simp only [X.den, List.cons_append, List.nil_append, gv_zero, gv_succ, vi_int, vb_bool, vb_ite, vs_str, yes, seq_self]
        simp
      · show cmpOp .leq 1 ((vlen row : Nat) : Int) = true
        rw [hrl', cmp_leq, decide_eq_true_eq]; omega
      intro z hz
      replace hz : z = sliceV row 1 (vlen row) 1 := hz
      rw [← hz] at Q3
      have hzl : vlen z = l.length := by rw [Q3.row.len, List.length_map]
      refine h_call1 (s28k Q3.q) ?_
      rintro _ c h5 ⟨rfl, rfl, e5⟩
      have e5' := e5.symm
      subst e5'
      refine ⟨Q3.q.fits, [.int .i64 _], fi _, rfl, iteF ?_ (again Q3 (by simp at hl; omega))⟩
      show cmpOp .neq ((l.length : Nat) : Int) ((vlen z : Nat) : Int) = false
      rw [hzl, cmp_neq]; simp
namespace bagQueues
theorem own : ownKnob Tryd.prog.godebug = none := by kernel_rfl
set_option maxRecDepth 100000 in
theorem laidOut : laidOutB Tryd.prog = true := by kernel_rfl
set_option maxRecDepth 100000 in
theorem contract (H : Type) (enc : TypeId × Value → H) (W : World) (base : Nat) (args : Array Value) (ds gs : List (DataW H)) (before : List MemPlace)
    (hval : ∀ (j : Nat) t v, Tryd.f5.params[j]? = some t → args[j]? = some v → Value.okWide Tryd.prog W .any base t v)
    (hW : DataW.Whole enc Tryd.prog Tryd.f5.params.toList Rows.bagQueuesSpec.vars false W args.toList ds gs before) (hL : laidMetH Tryd.prog laid1 W) :
    Calls Tryd.prog 5 args W fun e W' => ∃ v, e = .returned v ∧ Rows.bagQueuesSpec.post enc Tryd.prog Tryd.f5 false true false false W args v W' := by
  have hW' := hW
  obtain ⟨p, q, hA, hV, rfl, hfz, hnd⟩ := hW
  rw [Tryd.params5] at hA hval
  obtain ⟨v0, vs0, d0, ds0, p0, q0, hargs, rfl, rfl, h0, r0⟩ := trodAll_cons hA
  obtain ⟨rfl, rfl, rfl⟩ := trodAll_nil r0
  obtain rfl : args = #[v0] := by cases args; simp_all
  obtain ⟨a0, n0, c0, rfl⟩ := okWide_slice Tryd.underlying69 (hval 0 69 v0 rfl rfl)
  obtain ⟨tv, tl, he0, htv⟩ := rd_turns (Rd.of h0)
  obtain rfl : Value.slice a0 n0 c0 = tv := by simpa [Value.cells] using he0
  refine (law_calls (f := 5) (args := [.slice a0 n0 c0]) (s5 (tab_of hL) htv)).mono ?_
  rintro e' W' ⟨rfl, bel⟩
  exact ⟨_, rfl, law_post laidOut hW' rfl (of_decide_eq_true (by kernel_rfl)) rfl Tryd.underlying4 rfl bel⟩
set_option maxRecDepth 100000 in
theorem lifted (os : Os) (started : os.Started) (H : Type) (enc : TypeId × Value → H) :
    ReturnsInHanded {} Tryd.checked os 5 .any (fun w args => (Rows.bagQueuesSpec.pre enc Tryd.prog Tryd.f5 [] false w args ∧ laidMetH Tryd.prog laid1 w) ∧ sizedMet enc Tryd.prog Tryd.f5 (OpenSpec.ofChange Rows.bagQueuesSpec) false w args)
      (Rows.bagQueuesSpec.post enc Tryd.prog Tryd.f5 false true false false) := by
  refine returnsInHanded_of_change_and (C := Tryd.checked) (X := fun w _ => laidMetH Tryd.prog laid1 w) (fun _ _ _ hh h => h.of_heap hh) own started (by kernel_rfl) Tryd.func5
    (ChangeSpec.witness_shaped (enc := enc) (C := Tryd.checked) (os := os) (X := fun w _ => laidMetH Tryd.prog laid1 w) false (World.laidAll Tryd.prog os laid1) #[.slice none 0 0] 8 (World.laidAll_os _ _ _)
      (World.shaped_of_ZipB (by kernel_rfl) (by kernel_rfl)) (by kernel_rfl) (by kernel_rfl) (by kernel_rfl)
      (by rw [MakeChecks.laidMetH_plain _ _ _ (by kernel_rfl)]; exact laidMet_laidAll _ (by kernel_rfl) (by kernel_rfl))) ?_
  intro W base args ds gs before hval hW _ _ hL _
  exact contract H enc W base args ds gs before hval hW hL
set_option maxRecDepth 100000 in
theorem proved : Rows.BagQueuesSaid :=
  OpenClaim.holds_of_wide 5 Tryd.f5 rfl rfl rfl rfl rfl rfl rfl ⟨rfl, rfl, rfl, rfl, rfl⟩ rfl rfl rfl rfl rfl (by kernel_rfl) Tryd.func5 (by kernel_rfl)
    (of_decide_eq_true (by kernel_rfl)) (by unfold Func.isWrapper; first | (rw [if_pos (by decide +kernel)]; kernel_rfl) | (rw [if_neg (by decide +kernel)]; exact ⟨rfl, rfl⟩))
    (fun os started H enc _ => lifted os started H enc)
set_option maxRecDepth 100000 in
theorem card : Rows.BagQueuesCardSaid :=
  Claim7.holds_tied_plain_at .later [] [.data] true (true, "b78b0383410a61afe81fbf0c92c434ccf5e3cb3e73f63a0d871732257097e45a") false proved (fun _ h => by cases h) (by kernel_rfl) (fun _ h => by cases h) bagQueues_row_tie rfl ⟨rfl, rfl⟩ (by kernel_rfl) rfl
    (fun f fn hf hfn => by
      obtain rfl : f = 5 := Option.some.inj ((show Tryd.prog.funcNamed "outworker/outworkerlaw09.BagQueues" = some 5 by kernel_rfl).symm.trans hf) |>.symm
      obtain rfl : fn = Tryd.f5 := (Option.some.inj (Tryd.func5.symm.trans hfn)).symm
      exact ⟨by kernel_rfl, fun j t ht => by
        rw [Tryd.params5] at ht
        have hm : t ∈ [69] := by simpa using Array.mem_of_getElem? ht
        have hall : ([69].all fun u => !Tryd.prog.wantsStandIn u) = true := by kernel_rfl
        exact (show Tryd.prog.wantsStandIn t = false by simpa using List.all_eq_true.1 hall t hm)⟩)
    (by kernel_rfl)
end bagQueues
/-- The row, under a short name, for the claim. -/
theorem bagQueuesHolds : Rows.BagQueuesCardSaid := bagQueues.card
#print axioms bagQueuesHolds
end Go.Proofs.YtgcaicdmjbkplaaDoor
