/-
  Bytes turned: what Turned leaves. Conditions: as the contract says.
-/
import Derived.Test.YthnoplfjcdkacaaR3H
import Derived.Test.YthnoplfjcdkacaaR3Tm
set_option linter.unusedVariables false
set_option linter.unusedSimpArgs false
namespace Go.Proofs.Ythnoplfjcdkacaa
open Go

theorem wrap_u8_range (n : Int) : 0 ≤ IntKind.u8.wrap n ∧ IntKind.u8.wrap n ≤ 255 := by
  simp [IntKind.wrap, IntKind.bits, IntKind.signed]; omega
theorem xor_u8_range (a b : Int) : 0 ≤ intOp .xor .u8 a b ∧ intOp .xor .u8 a b ≤ 255 := wrap_u8_range _
theorem rem_u64 (c : Int) {n : Nat} (h0 : 0 < n) (h1 : n ≤ 1000000000) : IntKind.i64.wrap (intOp .rem .u64 (IntKind.u64.wrap c) (IntKind.u64.wrap (n : Int))) = ((u64 c % n : Nat) : Int) := by
  have hlt : u64 c % n < n := Nat.mod_lt _ h0
  rw [u64_id (n := (n : Int)) (by omega) (by omega), u64_wrap]
  have : intOp .rem .u64 ((u64 c : Nat) : Int) (n : Int) = ((u64 c % n : Nat) : Int) := by
    simp only [intOp]
    rw [Int.tmod_eq_emod_of_nonneg (by omega)]; rfl
  rw [this, wrap_i64 (by omega) (by omega)]
/-- Bytes in a block of their own, that may have more cells behind. -/
def OwnW (h0 h : H) (v : Value) (l : List Int) : Prop := ((v = .slice none 0 0 ∧ l = []) ∨ ∃ b c r, v = .slice (some ⟨b, 0, none⟩) l.length c ∧ h b = some (.cells (l.map (.int .u8) ++ r).toArray 5 (0, 0)) ∧ l.length ≤ c ∧ h0 b = none) ∧ InB l
theorem OwnB.weak {h0 h : H} {v : Value} {l : List Int} (o : OwnB h0 h v l) : OwnW h0 h v l := by
  obtain ⟨o, hb⟩ := o
  refine ⟨?_, hb⟩
  rcases o with ⟨rfl, e⟩ | ⟨b, n, c, r, rfl, h1, h2, h3, h4, h5⟩
  · exact .inl ⟨rfl, by simpa using e⟩
  · have hn : n = l.length := by simp at h2; exact h2.symm
    subst hn
    exact .inr ⟨b, c, r, rfl, h1, h4, h5⟩
theorem OwnW.at {h0 h : H} {v : Value} {l : List Int} (o : OwnW h0 h v l) : BytesAt h v l := by
  obtain ⟨⟨rfl, rfl⟩ | ⟨b, c, r, rfl, h1, h4, h5⟩, hb⟩ := o
  · exact SlAt.nil
  · refine ⟨⟨_, _, _, rfl, (fun e => by cases e), h4⟩, rfl, fun i x hi => ⟨[.int .u8 x], ⟨rfl, hb x (List.mem_of_getElem? hi)⟩, fun j u hj => ?_⟩⟩
    obtain ⟨rfl, rfl⟩ := get_one hj
    have hlt := (List.getElem?_eq_some_iff.1 hi).1
    rw [vaddr_sl, add_lit, add_lit]
    simp only [H.cell?, h1]
    simp [List.getElem?_append_left (show i < (l.map (Value.int .u8)).length by simpa using hlt), hi]
theorem s24 {h : H} {v av bv : Value} {l al bl : List Int} (hv : BytesAt h v l) (ha : IntsAt h av al) (hb : BytesAt h bv bl) (hl : l.length ≤ 100000000) :
    CallsA Try.prog 24 (fun _ => [v, av, bv]) [] h (Ret fun r h' => h.le h' ∧ ∃ l', BytesAt h' r l' ∧ l'.length ≤ l.length) := by
  refine c24 (G := [v, av, bv]) ⟨hv.fit, ha.fit, hb.fit, trivial⟩ ?_
  have hal := ha.len
  have hbl := hb.len
  refine copy_own hv rfl (by simp) rfl (by omega) fun v0 v1 h1 hl1 o1 => ?_
  simp only [List.cons_append, List.nil_append]
  refine h_loop (fun xs h' => ∃ (i : Nat) (v' : Value) (l' : List Int), xs = [v', .int .i64 (i : Int)] ∧ i ≤ 4 ∧ h.le h' ∧ OwnW h h' v' l' ∧ l'.length ≤ l.length)
    (fun xs h' => 4 - (vi (gv xs 1)).toNat) ⟨0, v1, l, rfl, by omega, hl1, o1.weak, Nat.le_refl _⟩ ?_
  rintro xs h2 J - ⟨i, v', l', rfl, hi, hl2, o, hl'⟩ hJ
  simp only [List.cons_append, List.nil_append]
  have hvl := o.at.len
  have ha2 := ha.le hl2
  have hb2 := hb.le hl2
  refine h_ite (fun hc => ?_) (fun hc => ⟨rfl, hl2, l', o.at, hl'⟩)
  simp only [X.den, gv_zero, gv_succ, vi_int, vb_bool, vb_ite, cmp_lss, cmp_gtr, hal, hbl, hvl] at hc
  simp at hc
  obtain ⟨⟨⟨c1, c2⟩, c3⟩, c4⟩ := hc
  have hpos : 0 < l'.length := by omega
  have hx : al[i]? = some al[i] := List.getElem?_eq_getElem (by omega)
  generalize al[i] = a at hx
  have hy : bl[i]? = some bl[i] := List.getElem?_eq_getElem (by omega)
  generalize bl[i] = bt at hy
  obtain ⟨ry, hy0, hy1⟩ := hb2.read hy
  have n1 : cmpOp .lss (i : Int) ((vlen av : Nat) : Int) = true := by rw [hal, cmp_lss, decide_eq_true_eq]; omega
  have n2 : cmpOp .lss (i : Int) ((vlen bv : Nat) : Int) = true := by rw [hbl, cmp_lss, decide_eq_true_eq]; omega
  obtain ⟨k, hk⟩ : ∃ k, k = u64 a % l'.length := ⟨_, rfl⟩
  have hkl : k < l'.length := by rw [hk]; exact Nat.mod_lt _ hpos
  have kv : IntKind.i64.wrap (intOp .rem .u64 (IntKind.u64.wrap a) (IntKind.u64.wrap ((vlen v' : Nat) : Int))) = (k : Int) := by rw [hvl, hk]; exact rem_u64 a hpos (by omega)
  have nz : cmpOp .neq (IntKind.u64.wrap ((vlen v' : Nat) : Int)) 0 = true := by rw [hvl, u64_id (n := (l'.length : Int)) (by omega) (by omega), cmp_neq, decide_eq_true_eq]; omega
  have hcap : l'.length ≤ vcap v' := by
    obtain ⟨a, n, cc, rfl, _, h3⟩ := o.at.fit
    simp only [vlen_sl] at hvl
    simp only [vcap_sl]; omega
  have nxt : ∀ {w : Value} {h' : H} {m : List Int}, h.le h' → OwnW h h' w m → m.length ≤ l.length → J [w, .int .i64 (intOp .add .i64 (i : Int) 1)] h' := fun {w h' m} g1 g2 g3 => by
    rw [int_add_one (n := 4) (by omega) (by omega)]
    refine hJ _ _ ⟨i + 1, w, m, rfl, by omega, g1, g2, g3⟩ ?_
    show 4 - ((((i + 1 : Nat) : Nat) : Int)).toNat < 4 - ((i : Int)).toNat
    omega
  obtain ⟨⟨-, e0⟩ | ⟨b, c, r, rfl, hbk, hlc, hfr⟩, hbytes⟩ := o
  · rw [e0] at hpos; simp at hpos
  refine ⟨fun _ => ⟨nat_ge0 i, n1, trivial⟩, h_load [.int .i64 a] ⟨⟨_, rfl⟩, trivial⟩ (fun _ => ha2.read hx) ⟨fun _ => ⟨nz, trivial⟩, fun _ => ⟨nat_ge0 i, n2, trivial⟩, h_load [.int .u8 bt] ⟨⟨_, rfl⟩, trivial⟩ (fun _ => ry) ?_⟩⟩
  simp only [List.cons_append, List.nil_append]
  have cellk : ∀ q : Nat, q ≤ l'.length → l'.map (Value.int .u8) ++ r = (l'.take q).map (Value.int .u8) ++ ((l'.drop q).map (Value.int .u8) ++ r) := fun q hq => by
    rw [← List.append_assoc, ← List.map_append, List.take_append_drop]
  refine h_ite (fun hc5 => ?_) (fun hc5 => ?_)
  · refine ⟨fun _ => ⟨?_, ?_, ?_, ?_, trivial⟩, ?_⟩
    · show cmpOp .geq (IntKind.i64.wrap (intOp .rem .u64 (IntKind.u64.wrap a) (IntKind.u64.wrap ((vlen (Value.slice (some ⟨b, 0, none⟩) l'.length c) : Nat) : Int)))) 0 = true
      rw [kv]; exact nat_ge0 k
    · show cmpOp .leq (IntKind.i64.wrap (intOp .rem .u64 (IntKind.u64.wrap a) (IntKind.u64.wrap ((vlen (Value.slice (some ⟨b, 0, none⟩) l'.length c) : Nat) : Int)))) ((vcap (Value.slice (some ⟨b, 0, none⟩) l'.length c) : Nat) : Int) = true
      rw [kv, cmp_leq, decide_eq_true_eq]; omega
    · show cmpOp .geq (IntKind.i64.wrap (intOp .rem .u64 (IntKind.u64.wrap a) (IntKind.u64.wrap ((vlen (Value.slice (some ⟨b, 0, none⟩) l'.length c) : Nat) : Int)))) 0 = true
      rw [kv]; exact nat_ge0 k
    · show cmpOp .leq (IntKind.i64.wrap (intOp .rem .u64 (IntKind.u64.wrap a) (IntKind.u64.wrap ((vlen (Value.slice (some ⟨b, 0, none⟩) l'.length c) : Nat) : Int)))) (IntKind.i64.wrap (intOp .rem .u64 (IntKind.u64.wrap a) (IntKind.u64.wrap ((vlen (Value.slice (some ⟨b, 0, none⟩) l'.length c) : Nat) : Int)))) = true
      rw [cmp_leq, decide_eq_true_eq]; exact Int.le_refl _
    rintro w9 rfl
    have e9 : LF.den [v, av, bv, v0, v1, Value.slice (some ⟨b, 0, none⟩) l'.length c, .int .i64 (i : Int), .int .i64 a, .int .u8 bt] (.slice3 (.val 5) (.conv .i64 (.op .rem .u64 (.conv .u64 (.var 7)) (.conv .u64 (.len 5)))) (.conv .i64 (.op .rem .u64 (.conv .u64 (.var 7)) (.conv .u64 (.len 5))))) = .slice (some ⟨b, 0, none⟩) k k := by
      show Value.slice (some ⟨b, 0, none⟩) (IntKind.i64.wrap (intOp .rem .u64 (IntKind.u64.wrap a) (IntKind.u64.wrap ((vlen (Value.slice (some ⟨b, 0, none⟩) l'.length c) : Nat) : Int)))).toNat (IntKind.i64.wrap (intOp .rem .u64 (IntKind.u64.wrap a) (IntKind.u64.wrap ((vlen (Value.slice (some ⟨b, 0, none⟩) l'.length c) : Nat) : Int)))).toNat = _
      rw [kv, Int.toNat_natCast]
    rw [e9]
    simp only [List.cons_append, List.nil_append]
    have kp : intOp .add .i64 (IntKind.i64.wrap (intOp .rem .u64 (IntKind.u64.wrap a) (IntKind.u64.wrap ((vlen (Value.slice (some ⟨b, 0, none⟩) l'.length c) : Nat) : Int)))) 1 = ((k + 1 : Nat) : Int) := by
      rw [kv]; exact int_add_one (n := 1000000000) (by omega) (by omega)
    refine ⟨fun _ => ⟨?_, ?_, trivial⟩, ?_⟩
    · show cmpOp .geq (intOp .add .i64 (IntKind.i64.wrap (intOp .rem .u64 (IntKind.u64.wrap a) (IntKind.u64.wrap ((vlen (Value.slice (some ⟨b, 0, none⟩) l'.length c) : Nat) : Int)))) 1) 0 = true
      rw [kp]; exact nat_ge0 _
    · show cmpOp .leq (intOp .add .i64 (IntKind.i64.wrap (intOp .rem .u64 (IntKind.u64.wrap a) (IntKind.u64.wrap ((vlen (Value.slice (some ⟨b, 0, none⟩) l'.length c) : Nat) : Int)))) 1) ((l'.length : Nat) : Int) = true
      rw [kp, cmp_leq, decide_eq_true_eq]; omega
    rintro w10 rfl
    have e10 : LF.den [v, av, bv, v0, v1, Value.slice (some ⟨b, 0, none⟩) l'.length c, .int .i64 (i : Int), .int .i64 a, .int .u8 bt, .slice (some ⟨b, 0, none⟩) k k] (.slice (.val 5) (some (.op .add .i64 (.conv .i64 (.op .rem .u64 (.conv .u64 (.var 7)) (.conv .u64 (.len 5)))) (.lit 1))) none 1) = sliceV (.slice (some ⟨b, 0, none⟩) l'.length c) (k + 1) l'.length 1 := by
      show sliceV (.slice (some ⟨b, 0, none⟩) l'.length c) (intOp .add .i64 (IntKind.i64.wrap (intOp .rem .u64 (IntKind.u64.wrap a) (IntKind.u64.wrap ((vlen (Value.slice (some ⟨b, 0, none⟩) l'.length c) : Nat) : Int)))) 1).toNat l'.length 1 = _
      rw [kp, Int.toNat_natCast]
    rw [e10]
    have hall : BytesAt h2 (.slice (some ⟨b, 0, none⟩) l'.length c) l' := OwnW.at (h0 := h) ⟨.inr ⟨b, c, r, rfl, hbk, hlc, hfr⟩, hbytes⟩
    have htl : BytesAt h2 (sliceV (.slice (some ⟨b, 0, none⟩) l'.length c) (k + 1) l'.length 1) (l'.drop (k + 1)) := by
      have := SlAt.slice hall (lo := k + 1) (hi := l'.length) (by omega) (Nat.le_refl _)
      rwa [List.take_of_length_le (by rw [List.length_drop]; omega)] at this
    have hnew : InB (l'.take k ++ l'.drop (k + 1)) := inB_app (fun x hx => hbytes x (List.mem_of_mem_take hx)) (fun x hx => hbytes x (List.mem_of_mem_drop hx))
    have hnl : (l'.take k ++ l'.drop (k + 1)).length ≤ l.length := by simp only [List.length_append, List.length_take, List.length_drop]; omega
    refine ⟨(l'.drop (k + 1)).map (.int .u8), (l'.drop (k + 1)).length, ⟨by simp, fun z hz => by obtain ⟨x, _, rfl⟩ := List.mem_map.1 hz; rfl, ?_⟩, ?_⟩
    · exact htl.src
    · refine ⟨fun hroom => ⟨?_, ?_⟩, fun hgrow => ⟨growslice_fits hgrow (by rw [List.length_drop]; omega), (l'.take k).map (.int .u8), by simp; omega, fun ad e => ?_, fun b' nc hn hnc => ?_⟩⟩
      · have : (l'.drop (k + 1)).length = 0 := by omega
        intro j hj
        simp only [List.length_map] at hj
        omega
      · have h0 : (l'.drop (k + 1)).length = 0 := by omega
        have hd : l'.drop (k + 1) = [] := List.eq_nil_of_length_eq_zero h0
        rw [hd]
        simp only [List.length_nil, Nat.add_zero, List.map_nil, H.sets]
        refine nxt hl2 (m := l'.take k) ⟨.inr ⟨b, k, (l'.drop k).map (Value.int .u8) ++ r, ?_, by rw [hbk, cellk k (by omega)], by rw [List.length_take]; omega, hfr⟩, fun x hx => hbytes x (List.mem_of_mem_take hx)⟩ (by rw [List.length_take]; omega)
        rw [List.length_take, Nat.min_eq_left (by omega)]; rfl
      · cases e
        intro j u hj
        rw [add_lit]
        simp only [H.cell?, hbk]
        rw [cellk k (by omega)]
        generalize (l'.take k).map (Value.int .u8) = A at hj
        generalize (l'.drop k).map (Value.int .u8) ++ r = B
        have hlt := (List.getElem?_eq_some_iff.1 hj).1
        simp [List.getElem?_append_left hlt, hj]
      · have h00 := H.le_none hl2 hn
        refine nxt (hl2.trans (H.le_put hn)) (m := l'.take k ++ l'.drop (k + 1)) ⟨.inr ⟨b', nc, repZ ((zeroCells Try.prog 5).getD []) (nc - (k + (l'.drop (k + 1)).length)), ?_, ?_, ?_, h00⟩, hnew⟩ hnl
        · have : (l'.take k ++ l'.drop (k + 1)).length = k + (l'.drop (k + 1)).length := by rw [List.length_append, List.length_take, Nat.min_eq_left (by omega)]
          rw [this]; rfl
        · rw [List.map_append]; exact H.put_same
        · rw [List.length_append, List.length_take, Nat.min_eq_left (by omega)]; exact hnc
  · have nk : needs [v, av, bv, v0, v1, Value.slice (some ⟨b, 0, none⟩) l'.length c, .int .i64 (i : Int), .int .i64 a, .int .u8 bt] [(.cmp .geq (.conv .i64 (.op .rem .u64 (.conv .u64 (.var 7)) (.conv .u64 (.len 5)))) (.lit 0)), (.cmp .lss (.conv .i64 (.op .rem .u64 (.conv .u64 (.var 7)) (.conv .u64 (.len 5)))) (.len 5))] := by
      refine ⟨?_, ?_, trivial⟩
      · show cmpOp .geq (IntKind.i64.wrap (intOp .rem .u64 (IntKind.u64.wrap a) (IntKind.u64.wrap ((vlen (Value.slice (some ⟨b, 0, none⟩) l'.length c) : Nat) : Int)))) 0 = true
        rw [kv]; exact nat_ge0 k
      · show cmpOp .lss (IntKind.i64.wrap (intOp .rem .u64 (IntKind.u64.wrap a) (IntKind.u64.wrap ((vlen (Value.slice (some ⟨b, 0, none⟩) l'.length c) : Nat) : Int)))) ((l'.length : Nat) : Int) = true
        rw [kv, cmp_lss, decide_eq_true_eq]; omega
    have hk1 : l'[k]? = some l'[k] := List.getElem?_eq_getElem hkl
    generalize l'[k] = old at hk1
    have hall : BytesAt h2 (.slice (some ⟨b, 0, none⟩) l'.length c) l' := OwnW.at (h0 := h) ⟨.inr ⟨b, c, r, rfl, hbk, hlc, hfr⟩, hbytes⟩
    have pe : ∀ D : List Value, PE.den (v :: av :: bv :: v0 :: v1 :: Value.slice (some ⟨b, 0, none⟩) l'.length c :: .int .i64 (i : Int) :: .int .i64 a :: D) (.idx (.var 5) (.conv .i64 (.op .rem .u64 (.conv .u64 (.var 7)) (.conv .u64 (.len 5)))) 1) = (⟨b, 0, none⟩ : Addr).add (k * 1) := fun D => by
      show (⟨b, 0, none⟩ : Addr).add ((IntKind.i64.wrap (intOp .rem .u64 (IntKind.u64.wrap a) (IntKind.u64.wrap ((vlen (Value.slice (some ⟨b, 0, none⟩) l'.length c) : Nat) : Int)))).toNat * 1) = _
      rw [kv, Int.toNat_natCast]
    obtain ⟨ro, -, -⟩ := hall.read hk1
    refine ⟨fun _ => nk, h_load [.int .u8 old] ⟨⟨_, rfl⟩, trivial⟩ (fun _ => by rw [pe]; exact ro) ⟨fun _ => ⟨nat_ge0 i, n2, trivial⟩, h_load [.int .u8 bt] ⟨⟨_, rfl⟩, trivial⟩ (fun _ => ry) ⟨fun _ => ⟨?_, trivial⟩, fun _ => nk, ?_⟩⟩⟩
    · show cmpOp .geq (intOp .rem .u8 bt 9) 0 = true
      have : intOp .rem .u8 bt 9 = bt.tmod 9 := by simp only [intOp]
      rw [this, cmp_geq, decide_eq_true_eq]
      exact Int.tmod_nonneg 9 hy0
    simp only [List.cons_append, List.nil_append]
    obtain ⟨nv, hnv⟩ : ∃ nv, nv = intOp .xor .u8 old (intOp .shl .u8 1 (intOp .rem .u8 bt 9)) := ⟨_, rfl⟩
    have hnr := xor_u8_range old (intOp .shl .u8 1 (intOp .rem .u8 bt 9))
    rw [← hnv] at hnr
    obtain ⟨w1, w2, w3⟩ := sets1 (o := k) (v := .int .u8 nv) hbk (by simp; omega)
    rw [show (⟨b, 0, none⟩ : Addr).add k = (⟨b, 0, none⟩ : Addr).add (k * 1) by rw [Nat.mul_one]] at w1 w2 w3
    refine h_store ((⟨b, 0, none⟩ : Addr).add (k * 1)) [.int .u8 nv] (pe _) (by rw [hnv]; rfl) w1 ?_
    refine nxt (fun x o' ex => ?_) (m := l'.set k nv) ⟨.inr ⟨b, c, r, by rw [List.length_set]; rfl, ?_, by rw [List.length_set]; exact hlc, hfr⟩, fun x hx => ?_⟩ (by rw [List.length_set]; exact hl')
    · rw [w3 x (fun e => by rw [e, hfr] at ex; cases ex)]; exact hl2 _ _ ex
    · rw [w2, List.set_append_left _ _ (by simpa using hkl), ← List.map_set]
    · rcases List.mem_or_eq_of_mem_set hx with q | rfl
      · exact hbytes x q
      · exact hnr
end Go.Proofs.Ythnoplfjcdkacaa
