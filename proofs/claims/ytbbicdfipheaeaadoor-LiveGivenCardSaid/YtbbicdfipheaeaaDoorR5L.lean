/-
  What is needed ahead of an instruction, of a block: sets taken back. Conditions: as each contract says.
-/
import Derived.Test.YtbbicdfipheaeaaDoorR5H
import Derived.Test.YtbbicdfipheaeaaDoorR5Tl
set_option linter.unusedVariables false
set_option linter.unusedSimpArgs false
namespace Go.Proofs.YtbbicdfipheaeaaDoor
open Go

/-! ### A number taken away -/
theorem s70k {h : H} {v : Value} {ws : List Int} {fp : List Nat} {x : Nat} (hs : SetIs h v ws fp) (hx : x < 4096) :
    CallsA Tryd.prog 70 (fun e => [(e 0).ptr 0, .int .i64 (x : Int)]) [[v]] h (RetC fun r c h' => r = .bool (hasW ws x) ∧ ∃ ws', c = [v] ∧ SetIs h' v ws' fp ∧ hasW ws' = lessP (hasW ws) (ofP [x]) ∧ KeptH h h' fp) := by
  have hwd := rowF_words hs.1
  refine c70k (G := [v, .int .i64 (x : Int)]) ⟨hwd.fit, ⟨_, rfl⟩, trivial⟩ ?_
  refine h_call0 (s23 hwd hs.2.1 hx) ?_
  rintro _ h1 ⟨e1, rfl⟩
  have e1' := e1.symm
  subst e1'
  refine ⟨[.bool (hasW ws x)], ⟨⟨_, rfl⟩, trivial⟩, rfl, h_ite (fun hc => ?_) (fun hc => ?_)⟩
  · replace hc : hasW ws x = true := hc
    simp only [List.cons_append, List.nil_append]
    have hlt := hasW_big hc
    have hl := hwd.len
    have hi : ws[x / 64]? = some ws[x / 64] := List.getElem?_eq_getElem (by omega)
    have hm : ws[x / 64] ∈ ws := List.getElem_mem _
    generalize ws[x / 64] = w at hi hm
    have hw0 := hs.2.1 w hm
    obtain ⟨a, rfl⟩ : ∃ a : Nat, w = a := ⟨w.toNat, by omega⟩
    have hp : 2 ^ (x % 64) < 18446744073709551616 := by
      have : 2 ^ (x % 64) < 2 ^ 64 := Nat.pow_lt_pow_right (by omega) (Nat.mod_lt x (by decide : 0 < 64))
      exact this
    obtain ⟨n, q1, q2, q3⟩ := bit_andNot (a := a) (b := 2 ^ (x % 64)) (by omega) hp
    obtain ⟨u1, u2, u3⟩ := word_set hs hi q2
    have nd : ∀ D : List Value, needs (v :: .int .i64 (x : Int) :: D) [(.cmp .geq (.op .quo .i64 (.var 1) (.lit 64)) (.lit 0)), (.cmp .lss (.op .quo .i64 (.var 1) (.lit 64)) (.len 0))] := fun D => by
      simp only [needs, X.den, gv_zero, gv_succ, vi_int, vb_bool, quo_64 hx, hl, cmp_geq, cmp_lss, decide_eq_true_eq, and_true]; omega
    refine ⟨fun _ => nd _, h_load [.int .u64 (a : Int)] ⟨⟨_, rfl⟩, trivial⟩ (fun _ => ?_) ⟨fun _ => ?_, fun _ => nd _, ?_⟩⟩
    · have := hwd.read hi
      simp only [PE.den, X.den, List.cons_append, List.nil_append, gv_zero, gv_succ, vi_int, quo_64 hx, Int.toNat_natCast]; exact this
    · simp only [needs, X.den, gv_zero, gv_succ, List.cons_append, vi_int, vb_bool, rem_64, cmp_geq, decide_eq_true_eq, and_true]; omega
    · refine h_store ((vaddr v).add (x / 64)) [.int .u64 (n : Int)] ?_ ?_ u1 ?_
      · simp only [PE.den, X.den, List.cons_append, List.nil_append, gv_zero, gv_succ, vi_int, quo_64 hx, Int.toNat_natCast, Nat.mul_one]
      · simp only [SV.denL, SV.den, X.den, List.cons_append, List.nil_append, gv_zero, gv_succ, vi_int, rem_64, bit_shl (Nat.mod_lt x (by decide : 0 < 64)), q1]
      · refine ⟨_, rfl, rfl, _, rfl, u2, ?_, u3⟩
        funext y
        rw [hasW_word_set hi]
        unfold lessP ofP
        simp only [List.mem_singleton]
        by_cases e : y / 64 = x / 64
        · rw [if_pos e, q3, Nat.testBit_two_pow]
          have g1 := hasW_word (b := y % 64) hi (Nat.mod_lt _ (by omega))
          rw [show 64 * (x / 64) + y % 64 = y by omega, Int.toNat_natCast] at g1
          rw [← g1]
          congr 2
          exact decide_eq_decide.2 (by omega)
        · rw [if_neg e]
          have : y ≠ x := fun q => e (by rw [q])
          simp [this]
  · replace hc : hasW ws x = false := hc
    refine ⟨_, rfl, rfl, ws, rfl, hs, ?_, KeptH.refl _ _⟩
    funext y
    unfold lessP ofP
    simp only [List.mem_singleton]
    by_cases e : y = x
    · subst e; simp [hc]
    · simp [e]

/-! ### Instructions, taken back -/
theorem uses_len {x : Ins} (h : x.args.length ≤ 10000) : (usesM x).length ≤ 100000 := by
  unfold usesM
  split
  · simp
  · split
    · simp
    · split
      · omega
      · simp
def useP (x : Ins) : SP := fun y => decide ((y : Int) ∈ usesM x)
def givP (x : Ins) : SP := fun y => givesM x.kind && decide (x.d = (y : Int))
def backP (x : Ins) (p : SP) : SP := orP (lessP p (givP x)) (useP x)
def lastP (e : Fin4) : SP := fun y => lastM e && decide (e.a = (y : Int))
def topP (b : Blk) (p : SP) : SP := orP p (lastP b.en)
def passB (b : Blk) (p : SP) : SP := b.ins.foldr backP (topP b p)
/-- Its numbers are small. -/
structure RegI (x : Ins) : Prop where
  uses : ∀ u ∈ usesM x, 0 ≤ u ∧ u < 4096
  gives : givesM x.kind = true → 0 ≤ x.d ∧ x.d < 4096
  args : x.args.length ≤ 10000
structure RegB (b : Blk) : Prop where
  ins : ∀ x ∈ b.ins, RegI x
  last : lastM b.en = true → 0 ≤ b.en.a ∧ b.en.a < 4096
  len : b.ins.length ≤ 100000
def SetQ (h : H) (fp : List Nat) (p : SP) (r : Value) (c : List Value) (h' : H) : Prop := r = .tuple #[] ∧ ∃ v' ws' fp', c = [v'] ∧ SetIs h' v' ws' fp' ∧ hasW ws' = p ∧ KeptH h h' fp ∧ ∀ x ∈ fp', x ∈ fp ∨ h x = none
def putT (u ch n : Nat) : Out :=
  (.loop 0 [(.int .i64 (.lit 0)), (.val ch)] [.int .i64, .sl] 
   (.ite (.cmp .lss (.var n) (.len u))
    (.need (.tt true) [(.cmp .geq (.var n) (.lit 0)), (.cmp .lss (.var n) (.len u))] 
    (.load (.tt true) (.idx (.var u) (.var n) 1) [.int .i64] 
    (.call 55 [(.loc 1000000 0), (.int .i64 (.var (n + 2)))] [1000000] [[(.val (n + 1))]] [[.sl]] [(false, [.bool])] 
    (.again 0 [(.int .i64 (.op .add .i64 (.var n) (.lit 1))), (.val (n + 3))]))))
    (.done (.tup []) [[(.val (n + 1))]])))
theorem putT_holds {G : List Value} {L : Lv} {hb h0 h : H} {u ch n : Nat} {vu v : Value} {ws : List Int} {f0 fp : List Nat} {l : List Int} (hG : G.length = n) (hu : u < n) (hc : ch < n) (eu : gv G u = vu) (ec : gv G ch = v) (hs : SetIs h v ws fp) (hl : IntsAt hb vu l) (hle : hb.le h) (hf : Fresh hb fp)
    (hr : ∀ x ∈ l, 0 ≤ x ∧ x < 4096) (hl2 : l.length ≤ 100000) (k0 : KeptH h0 h f0) (n0 : ∀ x ∈ fp, x ∈ f0 ∨ h0 x = none) :
    holds Tryd.prog (RetC (SetQ h0 f0 (orP (hasW ws) fun y => decide ((y : Int) ∈ l)))) (putT u ch n) G L h := by
  have hvl := hl.len
  refine h_loop (fun xs h' => ∃ (i : Nat) (v' : Value) (ws' : List Int) (fp' : List Nat), xs = [.int .i64 (i : Int), v'] ∧ i ≤ l.length ∧ SetIs h' v' ws' fp' ∧ Base hb h' fp' ∧ KeptH h0 h' f0 ∧ (∀ x ∈ fp', x ∈ f0 ∨ h0 x = none) ∧ ∀ y : Nat, hasW ws' y = (hasW ws y || decide ((y : Int) ∈ l.take i)))
    (fun xs h' => l.length - (vi (gv xs 0)).toNat) ⟨0, v, ws, fp, ?_, Nat.zero_le _, hs, ⟨hle, hf⟩, k0, n0, fun y => by simp⟩ ?_
  · simp only [SV.denL, SV.den, X.den, ec]; rfl
  rintro xs h' J - ⟨i, v', ws', fp', rfl, hi, hs', hB, hk, hn, hw⟩ hJ
  have g1 : ∀ D, gv (G ++ D) u = vu := fun D => by rw [gv_of_lt (by omega), eu]
  have g3 : ∀ D, gv (G ++ D) n = gv D 0 := fun D => gv_eq0 hG
  have g4 : ∀ D j, gv (G ++ D) (n + j) = gv D j := fun D j => gv_eq hG j
  refine h_ite (fun hc => ?_) (fun hc => ?_)
  · simp only [X.den, g1, g3, gv_zero, vi_int, vb_bool, hvl, cmp_lss, decide_eq_true_eq] at hc
    have hil : i < l.length := by omega
    have hx := List.getElem?_eq_getElem hil
    have hxm := List.getElem_mem hil
    generalize l[i] = x at hx hxm
    obtain ⟨x, rfl⟩ : ∃ m : Nat, x = m := ⟨x.toNat, by have := hr x hxm; omega⟩
    have hx4 := hr _ hxm
    refine ⟨fun _ => ?_, h_load [.int .i64 (x : Int)] ⟨⟨_, rfl⟩, trivial⟩ (fun _ => ?_) ?_⟩
    · simp only [needs, X.den, g1, g3, gv_zero, vi_int, vb_bool, hvl, and_true]
      exact ⟨ge0 i, by rw [cmp_lss, decide_eq_true_eq]; exact hc⟩
    · simp only [PE.den, X.den, g1, g3, gv_zero, vi_int, Int.toNat_natCast]; exact (hl.le hB.1).read hx
    simp only [List.append_assoc, List.cons_append, List.nil_append]
    refine h_call1 (Q := fun r c h2 => r = .bool (!hasW ws' x) ∧ ∃ v2 ws2 fp2, c = [v2] ∧ SetIs h2 v2 ws2 fp2 ∧ (∀ y, hasW ws2 y = (hasW ws' y || decide (y = x))) ∧ KeptH h' h2 fp' ∧ ∀ b ∈ fp2, b ∈ fp' ∨ h' b = none) ?_ ?_
    · have := s55k (x := x) hs' (by omega)
      simp only [SV.denL, SV.den, X.den, g4, gv_zero, gv_succ, vi_int]
      exact this
    rintro _ c h2 ⟨rfl, v2, ws2, fp2, rfl, hs2, hw2, hk2, hn2⟩
    refine ⟨⟨hs2.fit, trivial⟩, [.bool (!hasW ws' x)], ⟨⟨_, rfl⟩, trivial⟩, rfl, ?_⟩
    simp only [List.append_assoc, List.cons_append, List.nil_append]
    show J [_, _] h2
    simp only [SV.den, X.den, g3, g4, gv_zero, gv_succ, vi_int, int_add_one (k := i) (n := 1000000) (by omega) (by omega)]
    obtain ⟨q1, q2⟩ := kept_chain hk hn hk2 hn2
    refine hJ _ _ ⟨i + 1, v2, ws2, fp2, rfl, by omega, hs2, hB.step hk2 hn2, q1, q2, fun y => ?_⟩ ?_
    · rw [hw2, hw, List.take_add_one, hx]
      simp only [Option.toList_some, List.mem_append, List.mem_singleton, Bool.decide_or, Bool.or_assoc]
      congr 2
      exact decide_eq_decide.2 (by omega)
    · simp only [gv_zero, vi_int]; omega
  · simp only [X.den, g1, g3, gv_zero, vi_int, vb_bool, hvl, cmp_lss, decide_eq_false_iff_not] at hc
    have : i = l.length := by omega
    subst this
    refine ⟨[v'], ?_, rfl, v', ws', fp', rfl, hs', ?_, hk, hn⟩
    · simp only [List.map_cons, List.map_nil, SV.denL, SV.den, g4, gv_succ, gv_zero]
    · funext y; rw [hw, List.take_length]; rfl
theorem SetQ.mono {h : H} {fp : List Nat} {p q : SP} {r : Value} {c : List Value} {h' : H} (e : p = q) (k : SetQ h fp p r c h') : SetQ h fp q r c h' := e ▸ k
theorem s62k {h : H} {v w : Value} {ws : List Int} {fp : List Nat} {x : Ins} (hs : SetIs h v ws fp) (hx : RegI x) (hw : IntsAt (H.cut h fp) w x.args) :
    CallsA Tryd.prog 62 (fun e => [.agg (insC x w).toArray, (e 0).ptr 0]) [[v]] h (RetC (SetQ h fp (backP x (hasW ws)))) := by
  refine c62k (G := insG x w [v]) (insGFit x w hw.fit ⟨hs.fit, trivial⟩) ?_
  refine h_call0 (s69 x w hw.fit) ?_
  rintro _ h1 ⟨e1, rfl⟩
  have e1' := e1.symm
  subst e1'
  refine ⟨[.int .i64 (if givesM x.kind then x.d else 0), .bool (givesM x.kind)], ⟨⟨_, rfl⟩, ⟨_, rfl⟩, trivial⟩, rfl, h_ite (fun hc => ?_) (fun hc => ?_)⟩
  · replace hc : givesM x.kind = true := hc
    rw [hc]
    obtain ⟨d0, d1⟩ := hx.gives hc
    obtain ⟨d, hd⟩ : ∃ d : Nat, x.d = d := ⟨x.d.toNat, by omega⟩
    simp only [insG, List.cons_append, List.nil_append, if_true, hd]
    refine h_call1 (Q := fun r c h2 => r = .bool (hasW ws d) ∧ ∃ ws', c = [v] ∧ SetIs h2 v ws' fp ∧ hasW ws' = lessP (hasW ws) (ofP [d]) ∧ KeptH h h2 fp) (s70k hs (by omega)) ?_
    rintro _ c h2 ⟨rfl, ws2, rfl, hs2, hw2, hk2⟩
    refine ⟨⟨hs2.fit, trivial⟩, [.bool (hasW ws d)], ⟨⟨_, rfl⟩, trivial⟩, rfl, ?_⟩
    simp only [List.cons_append, List.nil_append]
    have hcl := hk2.le (H.cut_le h fp) (H.cut_fresh h fp)
    have hu := s71 x w (hw.le hcl) hx.args
    rw [show insC x w = [.int .u8 x.kind, .int .u8 x.op, .int .i64 (d : Int), .int .i64 x.a, .int .i64 x.b, .int .i64 x.n, w] by simp only [insC, hd]] at hu
    refine h_call0 hu ?_
    rintro r h3 ⟨l3, ho⟩
    refine ⟨[r], ⟨ho.ints.fit, trivial⟩, rfl, ?_⟩
    simp only [List.cons_append, List.nil_append]
    have hs3 : SetIs h3 v ws2 fp := hs2.agree (le_agree' l3 hs2.live)
    have e : orP (hasW ws2) (fun y => decide ((y : Int) ∈ usesM x)) = backP x (hasW ws) := by
      funext y
      unfold backP orP lessP givP useP
      rw [hw2, hc, hd]
      unfold lessP ofP
      simp only [List.mem_singleton, Bool.true_and]
      congr 3
      exact decide_eq_decide.2 (by omega)
    have := putT_holds (G := [.int .u8 x.kind, .int .u8 x.op, .int .i64 (d : Int), .int .i64 x.a, .int .i64 x.b, .int .i64 x.n, w, v, .int .i64 (d : Int), .bool true, v, .bool (hasW ws d), r]) (L := []) (hb := H.cut h3 fp) (h0 := h) (f0 := fp) (u := 12) (ch := 10) (n := 13) rfl (by omega) (by omega) rfl rfl hs3 (OwnInts.ints (Row.cut ho hs2.live)) (H.cut_le _ _) (H.cut_fresh _ _) hx.uses (uses_len hx.args)
      (hk2.trans (l3.kept.mono fun b hb => by cases hb)) (fun x hx => .inl hx)
    rw [e] at this
    exact this
  · replace hc : givesM x.kind = false := hc
    rw [hc]
    simp only [insG, List.cons_append, List.nil_append]
    refine h_call0 (s71 x w (hw.le (H.cut_le h fp)) hx.args) ?_
    rintro r h3 ⟨l3, ho⟩
    refine ⟨[r], ⟨ho.ints.fit, trivial⟩, rfl, ?_⟩
    simp only [List.cons_append, List.nil_append]
    have hs3 : SetIs h3 v ws fp := hs.agree (le_agree' l3 hs.live)
    have e : orP (hasW ws) (fun y => decide ((y : Int) ∈ usesM x)) = backP x (hasW ws) := by
      funext y
      unfold backP orP lessP givP useP
      rw [hc]
      simp
    have := putT_holds (G := [.int .u8 x.kind, .int .u8 x.op, .int .i64 x.d, .int .i64 x.a, .int .i64 x.b, .int .i64 x.n, w, v, .int .i64 0, .bool false, r]) (L := []) (hb := H.cut h3 fp) (h0 := h) (f0 := fp) (u := 10) (ch := 7) (n := 11) rfl (by omega) (by omega) rfl rfl hs3 (OwnInts.ints (Row.cut ho hs.live)) (H.cut_le _ _) (H.cut_fresh _ _) hx.uses (uses_len hx.args)
      (l3.kept.mono fun b hb => by cases hb) (fun x hx => .inl hx)
    rw [e] at this
    exact this
end Go.Proofs.YtbbicdfipheaeaaDoor
