/-
  A function as bytes: what the program's writer writes. Conditions: as each contract says.
-/
import Derived.Test.YthnoplfjcdkacaaR3A
set_option linter.unusedVariables false
set_option linter.unusedSimpArgs false
namespace Go.Proofs.Ythnoplfjcdkacaa
open Go

/-! ### What is written -/
def encI (x : Ins) : List Int := lebI x.kind ++ (if x.kind = 1 then lebI x.d ++ leb (zig x.n) else if x.kind = 2 ∨ x.kind = 4 ∨ x.kind = 7 ∨ x.kind = 8 then lebI x.d ++ lebI x.a
  else if x.kind = 3 then lebI x.op ++ (lebI x.d ++ (lebI x.a ++ lebI x.b)) else if x.kind = 5 then lebI x.a ++ lebI x.b
  else if x.kind = 6 then lebI x.d ++ (leb (zig x.n) ++ (lebI x.args.length ++ x.args.flatMap lebI)) else [])
def encE (e : Fin4) : List Int := lebI e.kind ++ (if e.kind = 1 then lebI e.to else if e.kind = 2 then lebI e.a ++ (lebI e.to ++ lebI e.el) else lebI e.a)
def encB (b : Blk) : List Int := lebI b.ins.length ++ (b.ins.flatMap encI ++ encE b.en)
def encBs (l : List Blk) : List Int := lebI l.length ++ l.flatMap encB
theorem lebs_len : ∀ l : List Int, (l.flatMap lebI).length ≤ 10 * l.length
  | [] => by simp
  | n :: l => by
    have := lebI_len n
    have := lebs_len l
    simp only [List.flatMap_cons, List.length_append, List.length_cons]; omega
theorem encI_len {x : Ins} (hn : N64 x.n) (ha : x.args.length ≤ 1000) : (encI x).length ≤ 10100 := by
  have h1 := fun n => lebI_len n
  have h2 := leb_len10 (zig_lt hn)
  have h3 := lebs_len x.args
  have a1 := h1 x.kind; have a2 := h1 x.d; have a3 := h1 x.a; have a4 := h1 x.b; have a5 := h1 x.op; have a6 := h1 x.args.length
  unfold encI
  split <;> (try split) <;> (try split) <;> (try split) <;> (try split) <;> simp only [List.length_append, List.length_nil] <;> omega
theorem encE_len (e : Fin4) : (encE e).length ≤ 40 := by
  have a1 := lebI_len e.kind; have a2 := lebI_len e.a; have a3 := lebI_len e.to; have a4 := lebI_len e.el
  unfold encE
  split <;> (try split) <;> simp only [List.length_append] <;> omega
theorem flat_len {α : Type} {f : α → List Int} {k : Nat} : ∀ {l : List α}, (∀ x ∈ l, (f x).length ≤ k) → (l.flatMap f).length ≤ k * l.length
  | [], _ => by simp
  | x :: l, h => by
    have h1 := h x (List.mem_cons_self ..)
    have h2 := flat_len fun y hy => h y (List.mem_cons_of_mem _ hy)
    simp only [List.flatMap_cons, List.length_append, List.length_cons, Nat.mul_add]; omega
/-- Blocks of no great size. -/
def Fine (bs : List Blk) : Prop := bs.length ≤ 16 ∧ ∀ b ∈ bs, b.ins.length ≤ 400 ∧ ∀ x ∈ b.ins, N64 x.n ∧ x.args.length ≤ 3
theorem ins_len {l : List Ins} (h : ∀ x ∈ l, N64 x.n ∧ x.args.length ≤ 3) : (l.flatMap encI).length ≤ 10100 * l.length := flat_len fun x hx => encI_len (h x hx).1 (by have := (h x hx).2; omega)
theorem encB_len {b : Blk} (hl : b.ins.length ≤ 400) (h : ∀ x ∈ b.ins, N64 x.n ∧ x.args.length ≤ 3) : (encB b).length ≤ 4050000 := by
  have h1 := ins_len h
  have h2 := encE_len b.en
  have h3 := lebI_len b.ins.length
  unfold encB
  simp only [List.length_append]; omega
theorem blks_enc_len {l : List Blk} (h : ∀ b ∈ l, b.ins.length ≤ 400 ∧ ∀ x ∈ b.ins, N64 x.n ∧ x.args.length ≤ 3) : (l.flatMap encB).length ≤ 4050000 * l.length := flat_len fun b hb => encB_len (h b hb).1 (h b hb).2
theorem take_flat {α : Type} {f : α → List Int} {l : List α} {i : Nat} {x : α} (hx : l[i]? = some x) : (l.take (i + 1)).flatMap f = (l.take i).flatMap f ++ f x := by
  obtain ⟨h, rfl⟩ := List.getElem?_eq_some_iff.1 hx
  rw [List.take_succ_eq_append_getElem h, List.flatMap_append]; simp

/-! ### The program's writer -/
theorem xor_all {x : Nat} (hx : x < 18446744073709551616) : intOp .xor .u64 (x : Int) 18446744073709551615 = ((18446744073709551615 - x : Nat) : Int) := by
  have e : (BitVec.ofInt 64 (x : Int) ^^^ BitVec.ofInt 64 18446744073709551615).toNat = 18446744073709551615 - x := by
    have h1 : BitVec.ofInt 64 18446744073709551615 = BitVec.allOnes 64 := by decide
    rw [h1, BitVec.xor_allOnes, BitVec.toNat_not]
    have : (BitVec.ofInt 64 (x : Int)).toNat = x := by simp [BitVec.toNat_ofInt]; omega
    rw [this]
  show IntKind.u64.wrap ((BitVec.ofInt 64 (x : Int) ^^^ BitVec.ofInt 64 18446744073709551615).toNat : Int) = _
  rw [e]
  exact u64_id (by omega) (by omega)
theorem xor_zero {x : Nat} (hx : x < 18446744073709551616) : intOp .xor .u64 (x : Int) 0 = (x : Int) := by
  have e : (BitVec.ofInt 64 (x : Int) ^^^ BitVec.ofInt 64 0).toNat = x := by
    have h1 : BitVec.ofInt 64 0 = 0#64 := by decide
    rw [h1, BitVec.xor_zero]
    simp [BitVec.toNat_ofInt]; omega
  show IntKind.u64.wrap ((BitVec.ofInt 64 (x : Int) ^^^ BitVec.ofInt 64 0).toNat : Int) = _
  rw [e]
  exact u64_id (by omega) (by omega)
theorem zig_bits {n : Int} (hn : N64 n) : intOp .xor .u64 (intOp .shl .u64 (IntKind.u64.wrap n) 1) (IntKind.u64.wrap (intOp .shr .i64 n 63)) = ((zig n : Nat) : Int) := by
  obtain ⟨h1, h2⟩ := hn
  have e1 : intOp .shr .i64 n 63 = if n < 0 then -1 else 0 := by
    simp only [intOp, IntKind.bits]
    rw [show min ((63 : Int).toNat) 64 = 63 by decide, show ((2 : Int) ^ 63) = 9223372036854775808 by decide, Int.fdiv_eq_ediv_of_nonneg _ (by omega)]
    split <;> omega
  have e2 : intOp .shl .u64 (IntKind.u64.wrap n) 1 = IntKind.u64.wrap (IntKind.u64.wrap n * 2) := by
    simp only [intOp, IntKind.bits]
    rw [show min ((1 : Int).toNat) 64 = 1 by decide, show ((2 : Int) ^ 1) = 2 by decide]
  rw [e1, e2]
  unfold zig
  by_cases h0 : n < 0
  · rw [if_pos h0, if_pos h0]
    have w1 : IntKind.u64.wrap n = n + 18446744073709551616 := by simp [IntKind.wrap, IntKind.bits, IntKind.signed]; omega
    have w2 : IntKind.u64.wrap (IntKind.u64.wrap n * 2) = (((2 * n + 18446744073709551616).toNat : Nat) : Int) := by
      rw [w1]; simp [IntKind.wrap, IntKind.bits, IntKind.signed]; omega
    have w3 : IntKind.u64.wrap (-1) = 18446744073709551615 := by decide
    rw [w2, w3, xor_all (by omega)]; omega
  · rw [if_neg h0, if_neg h0]
    have w1 : IntKind.u64.wrap n = n := u64_id (by omega) (by omega)
    have w2 : IntKind.u64.wrap (n * 2) = (((2 * n).toNat : Nat) : Int) := by rw [u64_id (by omega) (by omega)]; omega
    have w3 : IntKind.u64.wrap 0 = 0 := by decide
    rw [w1, w2, w3, xor_zero (by omega)]
theorem s76 {h : H} {v : Value} {l : List Int} {n : Int} (hv : BytesAt h v l) (hn : N64 n) (hl : l.length ≤ 100000000000) :
    CallsA Try.prog 76 (fun _ => [v, .int .i64 n]) [] h (Ret fun r h' => h.le h' ∧ OwnB h h' r (l ++ leb (zig n))) := by
  refine c76 (G := [v, .int .i64 n]) ⟨hv.fit, ⟨_, rfl⟩, trivial⟩ ?_
  refine h_call0 (Q := fun r h' => h.le h' ∧ OwnB h h' r (l ++ leb (zig n))) ?_ ?_
  · show CallsA _ _ (fun _ => [v, .int .u64 (intOp .xor .u64 (intOp .shl .u64 (IntKind.u64.wrap n) 1) (IntKind.u64.wrap (intOp .shr .i64 n 63)))]) [] h _
    rw [zig_bits hn]
    exact s55 hv (zig_lt hn) hl
  · rintro r h' ⟨h1, h2⟩
    exact ⟨[r], ⟨h2.at.fit, trivial⟩, rfl, rfl, h1, h2⟩
/-- Numbers, one behind the other. -/
theorem s36k {h0 h : H} {v u : Value} {l ns : List Int} (hle : h0.le h) (o : OwnB h0 h v l) (hn : IntsAt h u ns) (hl : l.length + 10 * ns.length ≤ 100000000000) :
    CallsA Try.prog 36 (fun e => [(e 0).ptr 0, u]) [[v]] h (RetC fun r c h' => h.le h' ∧ r = .tuple #[] ∧ ∃ v', c = [v'] ∧ OwnB h0 h' v' (l ++ ns.flatMap lebI)) := by
  refine c36k (G := [v, u]) ⟨o.at.fit, hn.fit, trivial⟩ ?_
  have hul := hn.len
  refine h_loop (fun xs h' => ∃ (i : Nat) (v' : Value), xs = [.int .i64 (i : Int), v'] ∧ i ≤ ns.length ∧ h.le h' ∧ OwnB h0 h' v' (l ++ (ns.take i).flatMap lebI))
    (fun xs h' => ns.length - (vi (gv xs 0)).toNat) ⟨0, v, rfl, Nat.zero_le _, H.le_refl _, by simpa using o⟩ ?_
  rintro xs h1 J - ⟨i, v', rfl, hi, hl1, o1⟩ hJ
  refine h_ite (fun hc => ⟨fun _ => ?_, ?_⟩) (fun hc => ?_)
  · replace hc : cmpOp .lss (i : Int) ((vlen u : Nat) : Int) = true := hc
    exact ⟨nat_ge0 i, hc, trivial⟩
  · replace hc : cmpOp .lss (i : Int) ((vlen u : Nat) : Int) = true := hc
    rw [hul, cmp_lss, decide_eq_true_eq] at hc
    have hil : i < ns.length := by omega
    have hx : ns[i]? = some ns[i] := List.getElem?_eq_getElem hil
    generalize ns[i] = n at hx
    refine h_load [.int .i64 n] ⟨⟨_, rfl⟩, trivial⟩ (fun _ => (hn.le hl1).read hx) ?_
    have htl : ((ns.take i).flatMap lebI).length ≤ 10 * i := by have := lebs_len (ns.take i); rw [List.length_take] at this; omega
    refine h_call0 (Q := fun r h' => h1.le h' ∧ OwnB h1 h' r (l ++ (ns.take i).flatMap lebI ++ lebI n)) ?_ ?_
    · show CallsA _ _ (fun _ => [v', .int .u64 (IntKind.u64.wrap n)]) [] h1 _
      rw [u64_wrap]
      exact s55 o1.at (u64_lt n) (by simp only [List.length_append]; omega)
    · rintro r h2 ⟨hl2, o2⟩
      refine ⟨[r], ⟨o2.at.fit, trivial⟩, rfl, hJ _ _ ⟨i + 1, r, ?_, by omega, hl1.trans hl2, ?_⟩ ?_⟩
      · show [Value.int .i64 (intOp .add .i64 (i : Int) 1), r] = _
        rw [int_add_one hil (by omega)]
      · rw [take_flat hx, ← List.append_assoc]; exact o2.mono (hle.trans hl1)
      · show ns.length - (intOp .add .i64 (i : Int) 1).toNat < ns.length - ((i : Int)).toNat
        rw [int_add_one hil (by omega)]; omega
  · replace hc : cmpOp .lss (i : Int) ((vlen u : Nat) : Int) = false := hc
    rw [hul, cmp_lss, decide_eq_false_iff_not] at hc
    have : i = ns.length := by omega
    subst this
    rw [List.take_length] at o1
    exact ⟨[v'], rfl, hl1, rfl, v', rfl, o1⟩
section
variable {R : Value → List (List Value) → H → Prop} {G : List Value} {L : Lv} {h0 h : H} {k : Out} {v : Value} {l ns : List Int} {ks : List Nat} {key m n : Nat} {s : SV}
/-- Some numbers written. -/
theorem nums_step {cells : List SV} (hkey : kIdx ks key = 0) (hs : ∀ D, s.den (G ++ D) dE = v) (hm : G.length = m) (hc : SV.denL G dE cells = ns.map (.int .i64)) (hnl : ns.length = n) (hle : h0.le h) (o : OwnB h0 h v l) (hl : l.length + 10 * n ≤ 100000000000)
    (HK : ∀ v0 v' h', h.le h' → OwnB h0 h' v' (l ++ ns.flatMap lebI) → holds Try.prog R k (G ++ [v0, v']) L h') :
    holds Try.prog R (.alloc 3 cells (.lsl n) (.call 36 [(.loc key 0), (.val m)] ks [[s]] [[.sl]] [] k)) G L h := by
  intro b hb
  have hl1 : h.le (h.put b (.cells (SV.denL G dE cells).toArray 3 (0, 0))) := H.le_put hb
  have hn : IntsAt (h.put b (.cells (SV.denL G dE cells).toArray 3 (0, 0))) (.slice (some ⟨b, 0, none⟩) n n) ns := by
    rw [hc, ← hnl]
    have := ints_new (h := h) (b := b) (e := 3) (l := ns) (r := []) (c := ns.length) (Nat.le_refl _)
    rw [List.append_nil] at this; exact this
  have hg : gv (G ++ [NK.val b (.lsl n)]) m = .slice (some ⟨b, 0, none⟩) n n := by rw [← hm]; exact gv_last
  refine h_call1 (Q := fun r c h' => (h.put b (.cells (SV.denL G dE cells).toArray 3 (0, 0))).le h' ∧ r = .tuple #[] ∧ ∃ v', c = [v'] ∧ OwnB h0 h' v' (l ++ ns.flatMap lebI)) ?_ ?_
  · have := s36k (hle.trans hl1) (o.le hl1) hn (by omega)
    simp only [SV.denL, SV.den, hkey, hg, hs]
    exact this
  · rintro r c h' ⟨hl2, rfl, v', rfl, o2⟩
    refine ⟨⟨o2.at.fit, trivial⟩, [], trivial, rfl, ?_⟩
    have := HK (NK.val b (.lsl n)) v' h' (hl1.trans hl2) o2
    simpa [List.append_assoc] using this
/-- A slice of numbers written. -/
theorem nums_sl {u : Value} (hkey : kIdx ks key = 0) (hs : s.den G dE = v) (hu : gv G m = u) (hn : IntsAt h u ns) (hle : h0.le h) (o : OwnB h0 h v l) (hl : l.length + 10 * ns.length ≤ 100000000000)
    (HK : ∀ v' h', h.le h' → OwnB h0 h' v' (l ++ ns.flatMap lebI) → holds Try.prog R k (G ++ [v']) L h') :
    holds Try.prog R (.call 36 [(.loc key 0), (.val m)] ks [[s]] [[.sl]] [] k) G L h := by
  refine h_call1 (Q := fun r c h' => h.le h' ∧ r = .tuple #[] ∧ ∃ v', c = [v'] ∧ OwnB h0 h' v' (l ++ ns.flatMap lebI)) ?_ ?_
  · have := s36k hle o hn hl
    simp only [SV.denL, SV.den, hkey, hu, hs]
    exact this
  · rintro r c h' ⟨hl2, rfl, v', rfl, o2⟩
    exact ⟨⟨o2.at.fit, trivial⟩, [], trivial, rfl, by simpa using HK v' h' hl2 o2⟩
/-- A number that may be below 0 written. -/
theorem int_step {i j : Nat} {n : Int} (hi : gv G i = v) (hj : vi (gv G j) = n) (hn : N64 n) (hle : h0.le h) (o : OwnB h0 h v l) (hl : l.length ≤ 100000000000)
    (HK : ∀ v' h', h.le h' → OwnB h0 h' v' (l ++ leb (zig n)) → holds Try.prog R k (G ++ [v']) L h') :
    holds Try.prog R (.call 76 [(.val i), (.int .i64 (.var j))] [] [] [] [(false, [.sl])] k) G L h := by
  refine h_call0 (Q := fun r h' => h.le h' ∧ OwnB h h' r (l ++ leb (zig n))) ?_ ?_
  · have := s76 o.at hn hl
    simp only [SV.denL, SV.den, X.den, hi, hj]
    exact this
  · rintro r h' ⟨h1, h2⟩
    exact ⟨[r], ⟨h2.at.fit, trivial⟩, rfl, HK r h' h1 (h2.mono hle)⟩
end
theorem lebI_i64 (n : Int) : lebI (IntKind.i64.wrap n) = lebI n := by unfold lebI u64; rw [u64_i64, ← u64_wrap]
/-- An instruction written. -/
theorem s56k {h0 h : H} {v q : Value} {l : List Int} {x : Ins} (hle : h0.le h) (o : OwnB h0 h v l) (hq : IntsAt h q x.args) (hn : N64 x.n) (ha : x.args.length ≤ 3) (hl : l.length ≤ 90000000000) :
    CallsA Try.prog 56 (fun e => [(e 0).ptr 0, .agg (insC x q).toArray]) [[v]] h (RetC fun r c h' => h.le h' ∧ r = .tuple #[] ∧ ∃ v', c = [v'] ∧ OwnB h0 h' v' (l ++ encI x)) := by
  refine c56k (G := v :: insC x q) ⟨o.at.fit, insFit x q hq.fit⟩ ?_
  have fin : ∀ {v' : Value} {h' : H} {l' : List Int}, h.le h' → OwnB h0 h' v' l' → l' = l ++ encI x → RetC (fun r c h' => h.le h' ∧ r = .tuple #[] ∧ ∃ v', c = [v'] ∧ OwnB h0 h' v' (l ++ encI x)) (.tuple #[]) [[v']] h' := fun a b e => ⟨_, rfl, a, rfl, _, rfl, e ▸ b⟩
  have hlen := fun n => lebI_len n
  refine nums_step (ns := [IntKind.i64.wrap x.kind]) rfl (fun D => rfl) rfl rfl rfl hle o (by omega) fun v0 v1 h1 hl1 o1 => ?_
  simp only [List.flatMap_cons, List.flatMap_nil, List.append_nil, lebI_i64] at o1
  simp only [insC, List.cons_append, List.nil_append]
  have hll : (l ++ lebI x.kind).length ≤ 90000000010 := by have := hlen x.kind; simp only [List.length_append]; omega
  have hle1 := hle.trans hl1
  refine h_ite (fun hc => ?_) (fun hc => h_ite (fun hc2 => ?_) (fun hc2 => h_ite (fun hc3 => ?_) (fun hc3 => h_ite (fun hc4 => ?_) (fun hc4 => h_ite (fun hc5 => ?_) (fun hc5 => ?_)))))
  · simp only [holds, X.den, PE.den, SV.den, SV.denL, NK.val, NK.sv, NK.pub, gv_zero, gv_succ, vi_int, vb_bool, vlen_sl, vaddr_ptr, vb_ite, vi_ite, cmp_eql, cmp_neq, cmp_lss, cmp_leq, cmp_gtr, cmp_geq, List.map_nil, List.map_cons, List.cons_append, List.nil_append, List.flatten_nil, needs, Ret, true_and, and_true, decide_eq_true_eq, forall_const, intOp, insC] at hc
    refine nums_step (ns := [x.d]) rfl (fun D => rfl) rfl rfl rfl hle1 o1 (by omega) fun v2 v3 h2 hl2 o2 => ?_
    simp only [List.flatMap_cons, List.flatMap_nil, List.append_nil, List.cons_append, List.nil_append] at o2 ⊢
    refine int_step (n := x.n) rfl rfl hn (hle1.trans hl2) o2 (by have := hlen x.d; simp only [List.length_append] at hll ⊢; omega) fun v4 h3 hl3 o3 => ?_
    refine fin ((hl1.trans hl2).trans hl3) o3 ?_
    unfold encI; rw [if_pos hc]; simp
  · simp only [holds, X.den, PE.den, SV.den, SV.denL, NK.val, NK.sv, NK.pub, gv_zero, gv_succ, vi_int, vb_bool, vlen_sl, vaddr_ptr, vb_ite, vi_ite, cmp_eql, cmp_neq, cmp_lss, cmp_leq, cmp_gtr, cmp_geq, List.map_nil, List.map_cons, List.cons_append, List.nil_append, List.flatten_nil, needs, Ret, true_and, and_true, decide_eq_true_eq, forall_const, intOp, insC] at hc hc2
    refine nums_step (ns := [x.d, x.a]) rfl (fun D => rfl) rfl rfl rfl hle1 o1 (by omega) fun v2 v3 h2 hl2 o2 => ?_
    simp only [List.flatMap_cons, List.flatMap_nil, List.append_nil, List.cons_append, List.nil_append] at o2 ⊢
    refine fin (hl1.trans hl2) o2 ?_
    unfold encI; rw [if_neg (by grind), if_pos (by grind)]; simp
  · simp only [holds, X.den, PE.den, SV.den, SV.denL, NK.val, NK.sv, NK.pub, gv_zero, gv_succ, vi_int, vb_bool, vlen_sl, vaddr_ptr, vb_ite, vi_ite, cmp_eql, cmp_neq, cmp_lss, cmp_leq, cmp_gtr, cmp_geq, List.map_nil, List.map_cons, List.cons_append, List.nil_append, List.flatten_nil, needs, Ret, true_and, and_true, decide_eq_true_eq, forall_const, intOp, insC] at hc hc2 hc3
    refine nums_step (ns := [IntKind.i64.wrap x.op, x.d, x.a, x.b]) rfl (fun D => rfl) rfl rfl rfl hle1 o1 (by omega) fun v2 v3 h2 hl2 o2 => ?_
    simp only [List.flatMap_cons, List.flatMap_nil, List.append_nil, List.cons_append, List.nil_append, lebI_i64] at o2 ⊢
    refine fin (hl1.trans hl2) o2 ?_
    unfold encI; rw [if_neg (by grind), if_neg (by grind), if_pos (by grind)]; simp
  · simp only [holds, X.den, PE.den, SV.den, SV.denL, NK.val, NK.sv, NK.pub, gv_zero, gv_succ, vi_int, vb_bool, vlen_sl, vaddr_ptr, vb_ite, vi_ite, cmp_eql, cmp_neq, cmp_lss, cmp_leq, cmp_gtr, cmp_geq, List.map_nil, List.map_cons, List.cons_append, List.nil_append, List.flatten_nil, needs, Ret, true_and, and_true, decide_eq_true_eq, forall_const, intOp, insC] at hc hc2 hc3 hc4
    refine nums_step (ns := [x.a, x.b]) rfl (fun D => rfl) rfl rfl rfl hle1 o1 (by omega) fun v2 v3 h2 hl2 o2 => ?_
    simp only [List.flatMap_cons, List.flatMap_nil, List.append_nil, List.cons_append, List.nil_append] at o2 ⊢
    refine fin (hl1.trans hl2) o2 ?_
    unfold encI; rw [if_neg (by grind), if_neg (by grind), if_neg (by grind), if_pos (by grind)]; simp
  · simp only [holds, X.den, PE.den, SV.den, SV.denL, NK.val, NK.sv, NK.pub, gv_zero, gv_succ, vi_int, vb_bool, vlen_sl, vaddr_ptr, vb_ite, vi_ite, cmp_eql, cmp_neq, cmp_lss, cmp_leq, cmp_gtr, cmp_geq, List.map_nil, List.map_cons, List.cons_append, List.nil_append, List.flatten_nil, needs, Ret, true_and, and_true, decide_eq_true_eq, forall_const, intOp, insC] at hc hc2 hc3 hc4 hc5
    refine nums_step (ns := [x.d]) rfl (fun D => rfl) rfl rfl rfl hle1 o1 (by omega) fun v2 v3 h2 hl2 o2 => ?_
    simp only [List.flatMap_cons, List.flatMap_nil, List.append_nil, List.cons_append, List.nil_append] at o2 ⊢
    have b1 := hlen x.d
    have b2 := leb_len10 (zig_lt hn)
    have b3 := hlen x.args.length
    have hlx : l.length + (lebI x.kind).length ≤ 90000000010 := by simpa using hll
    refine int_step (n := x.n) rfl rfl hn (hle1.trans hl2) o2 (by simp only [List.length_append]; omega) fun v4 h3 hl3 o3 => ?_
    simp only [List.cons_append, List.nil_append]
    refine nums_step (ns := [(x.args.length : Int)]) rfl (fun D => rfl) rfl (by simp only [SV.denL, SV.den, X.den, gv_zero, gv_succ, hq.len]; rfl) rfl ((hle1.trans hl2).trans hl3) o3 (by simp only [List.length_append]; omega) fun v5 v6 h4 hl4 o4 => ?_
    simp only [List.flatMap_cons, List.flatMap_nil, List.append_nil, List.cons_append, List.nil_append] at o4 ⊢
    refine nums_sl (u := q) rfl rfl rfl (hq.le (((hl1.trans hl2).trans hl3).trans hl4)) (((hle1.trans hl2).trans hl3).trans hl4) o4 (by simp only [List.length_append]; omega) fun v7 h5 hl5 o5 => ?_
    refine fin ((((hl1.trans hl2).trans hl3).trans hl4).trans hl5) o5 ?_
    unfold encI; rw [if_neg (by grind), if_neg (by grind), if_neg (by grind), if_neg (by grind), if_pos (by grind)]; simp
  · simp only [holds, X.den, PE.den, SV.den, SV.denL, NK.val, NK.sv, NK.pub, gv_zero, gv_succ, vi_int, vb_bool, vlen_sl, vaddr_ptr, vb_ite, vi_ite, cmp_eql, cmp_neq, cmp_lss, cmp_leq, cmp_gtr, cmp_geq, List.map_nil, List.map_cons, List.cons_append, List.nil_append, List.flatten_nil, needs, Ret, true_and, and_true, decide_eq_true_eq, forall_const, intOp, insC] at hc hc2 hc3 hc4 hc5
    refine fin hl1 o1 ?_
    unfold encI; rw [if_neg (by grind), if_neg (by grind), if_neg (by grind), if_neg (by grind), if_neg (by grind), List.append_nil]
end Go.Proofs.Ythnoplfjcdkacaa
