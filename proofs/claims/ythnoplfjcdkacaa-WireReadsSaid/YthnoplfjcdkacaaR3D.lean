/-
  A function, and code, as bytes: what the document's answer writes, the same. Conditions: as each contract says.
-/
import Derived.Test.YthnoplfjcdkacaaR3C
set_option linter.unusedVariables false
set_option linter.unusedSimpArgs false
namespace Go.Proofs.Ythnoplfjcdkacaa
open Go

section
variable {R : Value → List (List Value) → H → Prop} {G : List Value} {L : Lv} {h0 h : H} {k : Out} {v : Value} {l : List Int} {s : SV} {Z : X} {m : Nat}
/-- A number written. -/
theorem put_step (hs : ∀ E, s.den G E = v) (hX : vi (Z.den G) = (m : Int)) (hm : m < 18446744073709551616) (hle : h0.le h) (hv : BytesAt h v l) (hl : l.length ≤ 100000000000)
    (HK : ∀ r h', h.le h' → OwnB h0 h' r (l ++ leb m) → holds Try.prog R k (G ++ [r]) L h') :
    holds Try.prog R (.call 40 [s, (.int .u64 Z)] [] [] [] [(false, [.sl])] k) G L h := by
  refine h_call0 (Q := fun r h' => h.le h' ∧ OwnB h h' r (l ++ leb m)) ?_ ?_
  · have := s40 hv hm hl
    simp only [SV.denL, SV.den, hs, hX]
    exact this
  · rintro r h' ⟨h1, h2⟩
    exact ⟨[r], ⟨h2.at.fit, trivial⟩, rfl, HK r h' h1 (h2.mono hle)⟩
/-- A machine's number written. -/
theorem put_int {Y : X} {n : Int} (hs : ∀ E, s.den G E = v) (hX : vi (Y.den G) = n) (hle : h0.le h) (hv : BytesAt h v l) (hl : l.length ≤ 100000000000)
    (HK : ∀ r h', h.le h' → OwnB h0 h' r (l ++ lebI n) → holds Try.prog R k (G ++ [r]) L h') :
    holds Try.prog R (.call 40 [s, (.int .u64 (.conv .u64 Y))] [] [] [] [(false, [.sl])] k) G L h :=
  put_step (m := u64 n) hs (by show IntKind.u64.wrap (vi (Y.den G)) = _; rw [hX, u64_wrap]) (u64_lt n) hle hv hl HK
end
/-- A field's number. -/
def putM (x : Ins) (c : Nat) : List Int := if c = 79 then lebI x.op else if c = 68 then lebI x.d else if c = 65 then lebI x.a else if c = 66 then lebI x.b else if c = 78 then leb (zig x.n)
  else lebI x.args.length ++ x.args.flatMap lebI
theorem putM_len {x : Ins} {c : Nat} (hn : N64 x.n) (ha : x.args.length ≤ 3) : (putM x c).length ≤ 40 := by
  have h1 := fun n => lebI_len n
  have h2 := leb_len10 (zig_lt hn)
  have h3 := lebs_len x.args
  have a2 := h1 x.d; have a3 := h1 x.a; have a4 := h1 x.b; have a5 := h1 x.op; have a6 := h1 x.args.length
  unfold putM
  split <;> (try split) <;> (try split) <;> (try split) <;> (try split) <;> (try simp only [List.length_append]) <;> omega
theorem s60 {h : H} {v q : Value} {l : List Int} {x : Ins} {c : Nat} (hv : BytesAt h v l) (hq : IntsAt h q x.args) (hn : N64 x.n) (ha : x.args.length ≤ 3) (hl : l.length ≤ 90000000000) :
    CallsA Try.prog 60 (fun _ => [v, .agg (insC x q).toArray, .int .u8 (c : Int)]) [] h (Ret fun r h' => h.le h' ∧ OwnB h h' r (l ++ putM x c)) := by
  refine c60 (G := v :: insG x q [.int .u8 (c : Int)]) ⟨hv.fit, insGFit x q hq.fit ⟨⟨_, rfl⟩, trivial⟩⟩ ?_
  simp only [insG]
  have hlen := fun n => lebI_len n
  have cc : ∀ m : Nat, cmpOp .eql (c : Int) (m : Int) = decide (c = m) := fun m => by rw [cmp_eql]; exact decide_eq_decide.2 (by omega)
  refine h_ite (fun hc => ?_) (fun hc => h_ite (fun hc2 => ?_) (fun hc2 => h_ite (fun hc3 => ?_) (fun hc3 => h_ite (fun hc4 => ?_) (fun hc4 => h_ite (fun hc5 => ?_) (fun hc5 => ?_)))))
  · replace hc : cmpOp .eql (c : Int) ((79 : Nat) : Int) = true := hc
    rw [cc, decide_eq_true_eq] at hc
    exact put_int (n := x.op) (fun _ => rfl) rfl (H.le_refl _) hv (by omega) fun r h' h1 o => ⟨rfl, h1, by unfold putM; rw [if_pos hc]; exact o⟩
  all_goals (replace hc : cmpOp .eql (c : Int) ((79 : Nat) : Int) = false := hc; rw [cc, decide_eq_false_iff_not] at hc)
  · replace hc2 : cmpOp .eql (c : Int) ((68 : Nat) : Int) = true := hc2
    rw [cc, decide_eq_true_eq] at hc2
    exact put_int (n := x.d) (fun _ => rfl) rfl (H.le_refl _) hv (by omega) fun r h' h1 o => ⟨rfl, h1, by unfold putM; rw [if_neg hc, if_pos hc2]; exact o⟩
  all_goals (replace hc2 : cmpOp .eql (c : Int) ((68 : Nat) : Int) = false := hc2; rw [cc, decide_eq_false_iff_not] at hc2)
  · replace hc3 : cmpOp .eql (c : Int) ((65 : Nat) : Int) = true := hc3
    rw [cc, decide_eq_true_eq] at hc3
    exact put_int (n := x.a) (fun _ => rfl) rfl (H.le_refl _) hv (by omega) fun r h' h1 o => ⟨rfl, h1, by unfold putM; rw [if_neg hc, if_neg hc2, if_pos hc3]; exact o⟩
  all_goals (replace hc3 : cmpOp .eql (c : Int) ((65 : Nat) : Int) = false := hc3; rw [cc, decide_eq_false_iff_not] at hc3)
  · replace hc4 : cmpOp .eql (c : Int) ((66 : Nat) : Int) = true := hc4
    rw [cc, decide_eq_true_eq] at hc4
    exact put_int (n := x.b) (fun _ => rfl) rfl (H.le_refl _) hv (by omega) fun r h' h1 o => ⟨rfl, h1, by unfold putM; rw [if_neg hc, if_neg hc2, if_neg hc3, if_pos hc4]; exact o⟩
  all_goals (replace hc4 : cmpOp .eql (c : Int) ((66 : Nat) : Int) = false := hc4; rw [cc, decide_eq_false_iff_not] at hc4)
  · replace hc5 : cmpOp .eql (c : Int) ((78 : Nat) : Int) = true := hc5
    rw [cc, decide_eq_true_eq] at hc5
    refine h_call0 (s80 hn) ?_
    rintro _ _ ⟨rfl, rfl⟩
    refine ⟨[.int .u64 ((zig x.n : Nat) : Int)], ⟨⟨_, rfl⟩, trivial⟩, rfl, ?_⟩
    simp only [List.cons_append, List.nil_append]
    exact put_step (m := zig x.n) (fun _ => rfl) rfl (zig_lt hn) (H.le_refl _) hv (by omega) fun r h' h1 o => ⟨rfl, h1, by unfold putM; rw [if_neg hc, if_neg hc2, if_neg hc3, if_neg hc4, if_pos hc5]; exact o⟩
  · replace hc5 : cmpOp .eql (c : Int) ((78 : Nat) : Int) = false := hc5
    rw [cc, decide_eq_false_iff_not] at hc5
    have hql := hq.len
    have b1 := hlen x.args.length
    refine put_int (n := (x.args.length : Int)) (fun _ => rfl) (by simp only [X.den, gv_zero, gv_succ, hql]; rfl) (H.le_refl _) hv (by omega) fun r h1 hl1 o1 => ?_
    simp only [List.cons_append, List.nil_append]
    refine h_loop (fun xs h' => ∃ (i : Nat) (v' : Value), xs = [v', .int .i64 (i : Int)] ∧ i ≤ x.args.length ∧ h.le h' ∧ OwnB h h' v' (l ++ lebI x.args.length ++ (x.args.take i).flatMap lebI))
      (fun xs h' => x.args.length - (vi (gv xs 1)).toNat) ⟨0, r, rfl, Nat.zero_le _, hl1, by simpa using o1⟩ ?_
    rintro xs h2 J - ⟨i, v', rfl, hi, hl2, o2⟩ hJ
    simp only [List.cons_append, List.nil_append]
    refine h_ite (fun hc6 => ⟨fun _ => ?_, ?_⟩) (fun hc6 => ?_)
    · replace hc6 : cmpOp .lss (i : Int) ((vlen q : Nat) : Int) = true := hc6
      exact ⟨nat_ge0 i, hc6, trivial⟩
    · replace hc6 : cmpOp .lss (i : Int) ((vlen q : Nat) : Int) = true := hc6
      rw [hql, cmp_lss, decide_eq_true_eq] at hc6
      have hil : i < x.args.length := by omega
      have hx : x.args[i]? = some x.args[i] := List.getElem?_eq_getElem hil
      generalize x.args[i] = n at hx
      refine h_load [.int .i64 n] ⟨⟨_, rfl⟩, trivial⟩ (fun _ => (hq.le hl2).read hx) ?_
      simp only [List.cons_append, List.nil_append]
      have htl : ((x.args.take i).flatMap lebI).length ≤ 10 * i := by have := lebs_len (x.args.take i); rw [List.length_take] at this; omega
      refine put_int (n := n) (fun _ => rfl) rfl hl2 o2.at (by simp only [List.length_append]; omega) fun r2 h3 hl3 o3 => ?_
      refine hJ _ _ ⟨i + 1, r2, ?_, by omega, hl2.trans hl3, ?_⟩ ?_
      · show [r2, Value.int .i64 (intOp .add .i64 (i : Int) 1)] = _
        rw [int_add_one hil (by omega)]
      · rw [take_flat hx, ← List.append_assoc]; exact o3
      · show x.args.length - (intOp .add .i64 (i : Int) 1).toNat < x.args.length - ((i : Int)).toNat
        rw [int_add_one hil (by omega)]; omega
    · replace hc6 : cmpOp .lss (i : Int) ((vlen q : Nat) : Int) = false := hc6
      rw [hql, cmp_lss, decide_eq_false_iff_not] at hc6
      have : i = x.args.length := by omega
      subst this
      rw [List.take_length] at o2
      exact ⟨rfl, hl2, by unfold putM; rw [if_neg hc, if_neg hc2, if_neg hc3, if_neg hc4, if_neg hc5, ← List.append_assoc]; exact o2⟩
/-- An instruction's letters, one behind the other, are what the program writes. -/
theorem letters_enc {x : Ins} {k : Nat} {nm : ByteArray} (hk : x.kind = (k : Int)) (h1 : 1 ≤ k) (hs : namesL[k]? = some nm) : lebI x.kind ++ nm.data.toList.flatMap (fun c => putM x c.toNat) = encI x := by
  have hk9 : k < 9 := (List.getElem?_eq_some_iff.1 hs).1
  have : k = 1 ∨ k = 2 ∨ k = 3 ∨ k = 4 ∨ k = 5 ∨ k = 6 ∨ k = 7 ∨ k = 8 := by omega
  unfold encI
  rw [hk]
  rcases this with rfl | rfl | rfl | rfl | rfl | rfl | rfl | rfl <;> (cases hs; simp [putM])
/-- What is known of an end. -/
theorem s39 {h : H} {v u : Value} {l : List Int} {bs : List Blk} (hv : BytesAt h v l) (hu : BlksAt h u bs) (hg : Good bs) (hnb : NB bs) (hl : l.length ≤ 1000) :
    CallsA Try.prog 39 (fun _ => [v, u]) [] h (Ret fun r h' => h.le h' ∧ OwnB h h' r (l ++ encBs bs)) := by
  refine c39 (G := [v, u]) ⟨hv.fit, hu.fit, trivial⟩ ?_
  have hul := hu.len
  have hlen := fun n => lebI_len n
  obtain ⟨hf1, hf2⟩ := hg.fine hnb
  have bnd : ∀ i, i ≤ bs.length → ((bs.take i).flatMap encB).length ≤ 64800000 := fun i hi => by
    have := blks_enc_len (l := bs.take i) fun b hb => hf2 b (List.mem_of_mem_take hb)
    rw [List.length_take] at this; omega
  have hb0 := hlen (bs.length : Int)
  refine put_int (n := (bs.length : Int)) (fun _ => rfl) (by simp only [X.den, gv_zero, gv_succ, hul]; rfl) (H.le_refl _) hv (by omega) fun r h1 hl1 o1 => ?_
  simp only [List.cons_append, List.nil_append]
  refine h_loop (fun xs h' => ∃ (i : Nat) (v' : Value), xs = [v', .int .i64 (i : Int)] ∧ i ≤ bs.length ∧ h.le h' ∧ OwnB h h' v' (l ++ lebI bs.length ++ (bs.take i).flatMap encB))
    (fun xs h' => bs.length - (vi (gv xs 1)).toNat) ⟨0, r, rfl, Nat.zero_le _, hl1, by simpa using o1⟩ ?_
  rintro xs h2 J - ⟨i, v2, rfl, hi, hl2, o2⟩ hJ
  simp only [List.cons_append, List.nil_append]
  refine h_ite (fun hc => ?_) (fun hc => ?_)
  · have hc0 : cmpOp .lss (i : Int) ((vlen u : Nat) : Int) = true := hc
    replace hc := hc0
    rw [hul, cmp_lss, decide_eq_true_eq] at hc
    have hil : i < bs.length := by omega
    have hb := bnd i hi
    have hy : bs[i]? = some bs[i] := List.getElem?_eq_getElem hil
    have hym : bs[i] ∈ bs := List.getElem_mem _
    generalize bs[i] = y at hy hym
    obtain ⟨cs, ⟨w, rfl, hw⟩, hr⟩ := (SlAt.le blkC_mono hl2 hu).get i y hy
    obtain ⟨hy1, hy2⟩ := hf2 y hym
    obtain ⟨-, gy2, gy3, gy4⟩ := hg.2.2 y hym
    have hwl := hw.len
    have f1 : ∀ {g : H}, h2.le g → Reads g (((vaddr u).add (i * 5)).add 0) [w] := fun hg => (hr.sub fun j z hz => by obtain ⟨rfl, rfl⟩ := get_one hz; rfl).le hg
    have f2 : ∀ {g : H}, h2.le g → Reads g (((vaddr u).add (i * 5)).add 1) (endC y.en) := fun hg => (hr.sub fun j z hz => by rw [Nat.add_comm]; simpa using hz).le hg
    have nd : needs ([v, u, r, v2, Value.int .i64 (i : Int)]) [] := trivial
    refine ⟨fun _ => ⟨nat_ge0 i, hc0, trivial⟩, h_load [w] ⟨hw.fit, trivial⟩ (fun _ => f1 (H.le_refl _)) ?_⟩
    simp only [List.cons_append, List.nil_append]
    refine put_int (n := (y.ins.length : Int)) (fun _ => rfl) (by simp only [X.den, gv_zero, gv_succ, hwl]; rfl) hl2 o2.at (by simp only [List.length_append]; omega) fun v3 h3 hl3 o3 => ?_
    simp only [List.cons_append, List.nil_append]
    refine h_loop (fun xs h' => ∃ (k : Nat) (v' : Value), xs = [v', .int .i64 (k : Int)] ∧ k ≤ y.ins.length ∧ h2.le h' ∧ OwnB h h' v' (l ++ lebI bs.length ++ (bs.take i).flatMap encB ++ lebI y.ins.length ++ (y.ins.take k).flatMap encI))
      (fun xs h' => y.ins.length - (vi (gv xs 1)).toNat) ⟨0, v3, rfl, Nat.zero_le _, hl3, by simpa using o3⟩ ?_
    rintro xs h4 J2 - ⟨k, v4, rfl, hk, hl4, o4⟩ hJ2
    simp only [List.cons_append, List.nil_append]
    have hl24 := hl2.trans hl4
    have bi : ((y.ins.take k).flatMap encI).length ≤ 4040000 := by
      have := ins_len (l := y.ins.take k) fun x hx => hy2 x (List.mem_of_mem_take hx)
      rw [List.length_take] at this; omega
    have b1 := hlen (y.ins.length : Int)
    refine ⟨fun _ => ⟨nat_ge0 i, hc0, trivial⟩, h_load [w] ⟨hw.fit, trivial⟩ (fun _ => f1 hl4) ?_⟩
    simp only [List.cons_append, List.nil_append]
    refine h_ite (fun hc2 => ?_) (fun hc2 => ?_)
    · have hc20 : cmpOp .lss (k : Int) ((vlen w : Nat) : Int) = true := hc2
      replace hc2 := hc20
      rw [hwl, cmp_lss, decide_eq_true_eq] at hc2
      have hkl : k < y.ins.length := by omega
      have hx : y.ins[k]? = some y.ins[k] := List.getElem?_eq_getElem hkl
      have hxm : y.ins[k] ∈ y.ins := List.getElem_mem _
      generalize y.ins[k] = x at hx hxm
      obtain ⟨cs2, ⟨q, rfl, hq⟩, hr2⟩ := (SlAt.le insC_mono hl4 hw).get k x hx
      obtain ⟨hx1, hx2⟩ := hy2 x hxm
      obtain ⟨⟨hk1, hk8⟩, -⟩ := gy2 x hxm
      refine ⟨fun _ => ⟨nat_ge0 i, hc0, trivial⟩, h_load [w] ⟨hw.fit, trivial⟩ (fun _ => f1 hl4) ?_⟩
      simp only [List.cons_append, List.nil_append]
      refine ⟨fun _ => ⟨nat_ge0 k, hc20, trivial⟩, h_load (insC x q) (insFit x q hq.fit) (fun _ => hr2) ?_⟩
      simp only [insC, List.cons_append, List.nil_append]
      have bk := hlen x.kind
      refine put_int (n := x.kind) (fun _ => rfl) rfl hl24 o4.at (by simp only [List.length_append]; omega) fun v5 h5 hl5 o5 => ?_
      simp only [List.cons_append, List.nil_append]
      obtain ⟨kn, hkn⟩ : ∃ kn : Nat, x.kind = (kn : Int) := ⟨x.kind.toNat, by omega⟩
      obtain ⟨nm, hnm⟩ : ∃ nm, namesL[kn]? = some nm := ⟨_, List.getElem?_eq_getElem (show kn < 9 by omega)⟩
      refine h_call0 (Q := fun r h' => h5.le h' ∧ r = .string nm) ?_ ?_
      · show CallsA _ _ (fun _ => [Value.int .u8 x.kind]) [] h5 _
        rw [hkn]
        exact s59 hnm
      rintro _ h6 ⟨hl6, rfl⟩
      refine ⟨[.string nm], ⟨⟨_, rfl⟩, trivial⟩, rfl, ?_⟩
      simp only [List.cons_append, List.nil_append]
      have hsz : nm.size ≤ 4 := by
        have : kn = 0 ∨ kn = 1 ∨ kn = 2 ∨ kn = 3 ∨ kn = 4 ∨ kn = 5 ∨ kn = 6 ∨ kn = 7 ∨ kn = 8 := by omega
        rcases this with rfl | rfl | rfl | rfl | rfl | rfl | rfl | rfl | rfl <;> (cases hnm; decide)
      refine h_loop (fun xs h' => ∃ (j : Nat) (v' : Value), xs = [v', .int .i64 (j : Int)] ∧ j ≤ nm.size ∧ h4.le h' ∧
          OwnB h h' v' (l ++ lebI bs.length ++ (bs.take i).flatMap encB ++ lebI y.ins.length ++ (y.ins.take k).flatMap encI ++ lebI x.kind ++ (nm.data.toList.take j).flatMap (fun c => putM x c.toNat)))
        (fun xs h' => nm.size - (vi (gv xs 1)).toNat) ⟨0, v5, rfl, Nat.zero_le _, hl5.trans hl6, by simpa using o5.le hl6⟩ ?_
      rintro xs h7 J3 - ⟨j, v6, rfl, hj, hl7, o7⟩ hJ3
      simp only [List.cons_append, List.nil_append]
      refine h_ite (fun hc3 => ?_) (fun hc3 => ?_)
      · have hc30 : cmpOp .lss (j : Int) (nm.size : Int) = true := hc3
        replace hc3 := hc30
        rw [cmp_lss, decide_eq_true_eq] at hc3
        have hjl : j < nm.data.toList.length := by have : nm.data.toList.length = nm.size := rfl; omega
        have hc : nm.data.toList[j]? = some nm.data.toList[j] := List.getElem?_eq_getElem hjl
        have hgd : nm.data.getD j 0 = nm.data.toList[j] := by
          rw [Array.getD_eq_getD_getElem?, Array.getElem?_eq_getElem (by simpa using hjl)]; simp
        generalize nm.data.toList[j] = c at hc hgd
        have pl : ((nm.data.toList.take j).flatMap (fun c => putM x c.toNat)).length ≤ 40 * j := by
          have := flat_len (f := fun c : UInt8 => putM x c.toNat) (l := nm.data.toList.take j) (k := 40) fun c _ => putM_len hx1 hx2
          rw [List.length_take] at this
          have : 40 * min j nm.data.toList.length ≤ 40 * j := Nat.mul_le_mul_left _ (Nat.min_le_left _ _)
          omega
        refine ⟨fun _ => ⟨nat_ge0 j, hc30, trivial⟩, h_call0 (Q := fun r h' => h7.le h' ∧ OwnB h7 h' r (l ++ lebI bs.length ++ (bs.take i).flatMap encB ++ lebI y.ins.length ++ (y.ins.take k).flatMap encI ++ lebI x.kind ++ (nm.data.toList.take j).flatMap (fun c => putM x c.toNat) ++ putM x c.toNat)) ?_ ?_⟩
        · show CallsA _ _ (fun _ => [v6, .agg (insC x q).toArray, .int .u8 (((nm.data.getD (Int.toNat (j : Int)) 0).toNat : Nat) : Int)]) [] h7 _
          rw [Int.toNat_natCast, hgd]
          exact s60 o7.at (hq.le hl7) hx1 hx2 (by simp only [List.length_append]; omega)
        · rintro r8 h8 ⟨hl8, o8⟩
          refine ⟨[r8], ⟨o8.at.fit, trivial⟩, rfl, hJ3 _ _ ⟨j + 1, r8, ?_, by omega, hl7.trans hl8, ?_⟩ ?_⟩
          · show [r8, Value.int .i64 (intOp .add .i64 (j : Int) 1)] = _
            rw [int_add_one (n := nm.size) (by omega) (by omega)]
          · rw [take_flat (f := fun c : UInt8 => putM x c.toNat) hc, ← List.append_assoc]; exact o8.mono (hl24.trans hl7)
          · show nm.size - (intOp .add .i64 (j : Int) 1).toNat < nm.size - ((j : Int)).toNat
            rw [int_add_one (n := nm.size) (by omega) (by omega)]; omega
      · replace hc3 : cmpOp .lss (j : Int) (nm.size : Int) = false := hc3
        rw [cmp_lss, decide_eq_false_iff_not] at hc3
        have hje : nm.data.toList.take j = nm.data.toList := List.take_of_length_le (by have : nm.data.toList.length = nm.size := rfl; omega)
        rw [hje] at o7
        refine hJ2 _ _ ⟨k + 1, v6, ?_, by omega, hl4.trans hl7, ?_⟩ ?_
        · show [v6, Value.int .i64 (intOp .add .i64 (k : Int) 1)] = _
          rw [int_add_one hkl (by omega)]
        · rw [take_flat hx, ← List.append_assoc, ← letters_enc hkn (by omega) hnm, ← List.append_assoc]; exact o7
        · show y.ins.length - (intOp .add .i64 (k : Int) 1).toNat < y.ins.length - ((k : Int)).toNat
          rw [int_add_one hkl (by omega)]; omega
    · replace hc2 : cmpOp .lss (k : Int) ((vlen w : Nat) : Int) = false := hc2
      rw [hwl, cmp_lss, decide_eq_false_iff_not] at hc2
      have : k = y.ins.length := by omega
      subst this
      rw [List.take_length] at o4 bi
      refine ⟨fun _ => ⟨nat_ge0 i, hc0, trivial⟩, h_load (endC y.en) (endFit y.en) (fun _ => f2 hl4) ?_⟩
      simp only [endC, List.cons_append, List.nil_append]
      have nxt : ∀ {v' : Value} {h' : H} {l' : List Int}, h4.le h' → OwnB h h' v' l' → l' = l ++ lebI bs.length ++ (bs.take i).flatMap encB ++ encB y → J [v', .int .i64 (intOp .add .i64 (i : Int) 1)] h' := fun {v' h' l'} g1 g2 e => by
        subst e
        rw [int_add_one hil (by omega)]
        refine hJ _ _ ⟨i + 1, v', rfl, by omega, hl24.trans g1, ?_⟩ ?_
        · rw [take_flat hy, ← List.append_assoc]; exact g2
        · show bs.length - ((((i + 1 : Nat) : Nat) : Int)).toNat < bs.length - ((i : Int)).toNat
          omega
      have bk := hlen y.en.kind
      refine put_int (n := y.en.kind) (fun _ => rfl) rfl hl24 o4.at (by simp only [List.length_append]; omega) fun v5 h5 hl5 o5 => ?_
      have hl25 := hl24.trans hl5
      have sz : (l ++ lebI bs.length ++ (bs.take i).flatMap encB ++ lebI y.ins.length ++ y.ins.flatMap encI ++ lebI y.en.kind).length + 30 ≤ 100000000000 := by simp only [List.length_append]; omega
      simp only [List.cons_append, List.nil_append]
      refine h_call0 (s61 y.en) ?_
      rintro _ _ ⟨rfl, rfl⟩
      refine ⟨[.bool (lastM y.en)], ⟨⟨_, rfl⟩, trivial⟩, rfl, ?_⟩
      simp only [List.cons_append, List.nil_append]
      have l1 := hlen y.en.a
      have l2 := hlen y.en.to
      refine h_ite (fun hc3 => ?_) (fun hc3 => ?_)
      · replace hc3 : lastM y.en = true := hc3
        unfold lastM at hc3
        rw [decide_eq_true_eq] at hc3
        refine put_int (n := y.en.a) (fun _ => rfl) rfl hl25 o5.at (by omega) fun v6 h6 hl6 o6 => ?_
        simp only [List.cons_append, List.nil_append]
        refine h_ite (fun hc4 => ?_) (fun hc4 => ?_)
        · replace hc4 : cmpOp .neq y.en.kind 3 = true := hc4
          rw [cmp_neq, decide_eq_true_eq] at hc4
          have k2 : y.en.kind = 2 := by omega
          refine put_int (n := y.en.to) (fun _ => rfl) rfl (hl25.trans hl6) o6.at (by simp only [List.length_append] at sz ⊢; omega) fun v7 h7 hl7 o7 => ?_
          simp only [List.cons_append, List.nil_append]
          refine h_ite (fun hc5 => ?_) (fun hc5 => ?_)
          · refine put_int (n := y.en.el) (fun _ => rfl) rfl ((hl25.trans hl6).trans hl7) o7.at (by simp only [List.length_append] at sz ⊢; omega) fun v8 h8 hl8 o8 => nxt (((hl5.trans hl6).trans hl7).trans hl8) o8 ?_
            unfold encB encE; rw [if_neg (by omega), if_pos k2]; simp [List.append_assoc]
          · replace hc5 : cmpOp .eql y.en.kind 2 = false := hc5
            rw [cmp_eql, decide_eq_false_iff_not] at hc5
            exact absurd k2 hc5
        · replace hc4 : cmpOp .neq y.en.kind 3 = false := hc4
          rw [cmp_neq, decide_eq_false_iff_not, Decidable.not_not] at hc4
          refine h_ite (fun hc5 => ?_) (fun hc5 => ?_)
          · replace hc5 : cmpOp .eql y.en.kind 2 = true := hc5
            rw [cmp_eql, decide_eq_true_eq] at hc5
            omega
          · refine nxt (hl5.trans hl6) o6 ?_
            unfold encB encE; rw [if_neg (by omega), if_neg (by omega)]; simp [List.append_assoc]
      · replace hc3 : lastM y.en = false := hc3
        unfold lastM at hc3
        rw [decide_eq_false_iff_not] at hc3
        have k1 : y.en.kind = 1 := by omega
        refine h_ite (fun hc4 => ?_) (fun hc4 => ?_)
        · refine put_int (n := y.en.to) (fun _ => rfl) rfl hl25 o5.at (by omega) fun v7 h7 hl7 o7 => ?_
          simp only [List.cons_append, List.nil_append]
          refine h_ite (fun hc5 => ?_) (fun hc5 => ?_)
          · replace hc5 : cmpOp .eql y.en.kind 2 = true := hc5
            rw [cmp_eql, decide_eq_true_eq] at hc5
            omega
          · refine nxt (hl5.trans hl7) o7 ?_
            unfold encB encE; rw [if_pos k1]; simp [List.append_assoc]
        · replace hc4 : cmpOp .neq y.en.kind 3 = false := hc4
          rw [cmp_neq, decide_eq_false_iff_not, Decidable.not_not] at hc4
          omega
  · replace hc : cmpOp .lss (i : Int) ((vlen u : Nat) : Int) = false := hc
    rw [hul, cmp_lss, decide_eq_false_iff_not] at hc
    have : i = bs.length := by omega
    subst this
    rw [List.take_length] at o2
    exact ⟨rfl, hl2, by unfold encBs; rw [← List.append_assoc]; exact o2⟩
theorem s16 {h : H} {v : Value} {p n : Int} {bs : List Blk} (hv : BlksAt h v bs) (hg : Good bs) (hb : NB bs) :
    CallsA Try.prog 16 (fun _ => [.agg #[.int .i64 p, .int .i64 n, v]]) [] h (Ret fun r h' => h.le h' ∧ OwnB h h' r (encF p n bs)) := by
  refine c16 (G := [.int .i64 p, .int .i64 n, v]) ⟨⟨_, rfl⟩, ⟨_, rfl⟩, hv.fit, trivial⟩ ?_
  have b1 := lebI_len p
  have b2 := lebI_len n
  refine put_int (v := .slice none 0 0) (l := []) (n := p) (fun _ => rfl) rfl (H.le_refl _) SlAt.nil (by simp) fun v1 h1 hl1 o1 => ?_
  simp only [List.cons_append, List.nil_append] at o1 ⊢
  refine put_int (n := n) (fun _ => rfl) rfl hl1 o1.at (by omega) fun v2 h2 hl2 o2 => ?_
  simp only [List.cons_append, List.nil_append]
  have hl12 := hl1.trans hl2
  refine h_call0 (s39 o2.at (SlAt.le blkC_mono hl12 hv) hg hb (by simp only [List.length_append]; omega)) ?_
  rintro r h3 ⟨hl3, o3⟩
  refine ⟨[r], ⟨o3.at.fit, trivial⟩, rfl, rfl, hl12.trans hl3, ?_⟩
  have e : encF p n bs = lebI p ++ lebI n ++ encBs bs := by unfold encF; rw [List.append_assoc]
  rw [e]; exact o3.mono hl12
theorem s21 {h : H} {v : Value} {p r s : Int} {bs : List Blk} (hv : BlksAt h v bs) (hg : Good bs) (hb : NB bs) :
    CallsA Try.prog 21 (fun _ => [.agg #[.int .i64 p, .int .i64 r, .int .i64 s, v]]) [] h (Ret fun q h' => h.le h' ∧ OwnB h h' q (encC p r s bs)) := by
  refine c21 (G := [.int .i64 p, .int .i64 r, .int .i64 s, v]) ⟨⟨_, rfl⟩, ⟨_, rfl⟩, ⟨_, rfl⟩, hv.fit, trivial⟩ ?_
  have b1 := lebI_len p
  have b2 := lebI_len r
  have b3 := lebI_len s
  refine put_int (v := .slice none 0 0) (l := []) (n := p) (fun _ => rfl) rfl (H.le_refl _) SlAt.nil (by simp) fun v1 h1 hl1 o1 => ?_
  simp only [List.cons_append, List.nil_append] at o1 ⊢
  refine put_int (n := r) (fun _ => rfl) rfl hl1 o1.at (by omega) fun v2 h2 hl2 o2 => ?_
  simp only [List.cons_append, List.nil_append]
  have hl12 := hl1.trans hl2
  refine put_int (n := s) (fun _ => rfl) rfl hl12 o2.at (by simp only [List.length_append]; omega) fun v3 h3 hl3 o3 => ?_
  simp only [List.cons_append, List.nil_append]
  have hl13 := hl12.trans hl3
  refine h_call0 (s39 o3.at (SlAt.le blkC_mono hl13 hv) hg hb (by simp only [List.length_append]; omega)) ?_
  rintro q h4 ⟨hl4, o4⟩
  refine ⟨[q], ⟨o4.at.fit, trivial⟩, rfl, rfl, hl13.trans hl4, ?_⟩
  have e : encC p r s bs = lebI p ++ lebI r ++ lebI s ++ encBs bs := by unfold encC; simp only [List.append_assoc]
  rw [e]; exact o4.mono hl13
end Go.Proofs.Ythnoplfjcdkacaa
