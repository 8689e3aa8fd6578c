/-
  The law MachSlots answers true. Conditions: none.
-/
import Derived.Test.YtibdneedfopcoaaR1Mm
import Derived.Test.YtibdneedfopcoaaR1Rd
import Derived.Test.YtibdneedfopcoaaRows
set_option linter.unusedVariables false
set_option linter.unusedSimpArgs false
namespace Go.Proofs.Ytibdneedfopcoaa
open Go Go.ChangeShapes Go.WideShapes Go.ChangeAt Go.RowKit

def slotI (fill : Bool) (reg slot : Int) : Ins := ⟨if fill then 8 else 7, 0, if fill then reg else slot, if fill then slot else reg, 0, 0, []⟩
def wantM (reg slot r s : Int) : Int := if reg < 0 ∨ r ≤ reg then 23 else if slot < 0 ∨ s ≤ slot then 24 else 0
theorem slot_m (fill : Bool) (reg slot r s : Int) : mofM (slotI fill reg slot) r s = wantM reg slot r s := by
  unfold mofM slotI wantM
  cases fill <;> simp <;> grind
theorem want_val {G : List Value} {reg slot r s : Int} (e6 : gv G 6 = .int .i64 reg) (e7 : gv G 7 = .int .i64 slot) (e11 : gv G 11 = .int .i64 r) (e12 : gv G 12 = .int .i64 s) (e17 : gv G 17 = .int .i64 (wantM reg slot r s)) (e18 : gv G 18 = .int .i64 0) (e19 : gv G 19 = .int .i64 0) :
    vb ((X.and (.cmp .eql (.var 17) (.ite (.ite (.cmp .lss (.var 6) (.lit 0)) (.tt true) (.cmp .geq (.var 6) (.var 11))) (.lit 23) (.ite (.ite (.cmp .lss (.var 7) (.lit 0)) (.tt true) (.cmp .geq (.var 7) (.var 12))) (.lit 24) (.lit 0)))) (.and (.cmp .eql (.var 18) (.lit 0)) (.cmp .eql (.var 19) (.lit 0)))).den G) = true := by
  simp only [X.den, e6, e7, e11, e12, e17, e18, e19, vi_int, vb_bool, vi_ite, vb_ite, cmp_lss, cmp_geq, cmp_eql, wantM, Bool.and_eq_true, decide_eq_true_eq, and_true]
  grind (splits := 60)
theorem s12 {h : H} {vs : Value} {p0 p1 p2 rg sl reg slot : Int} {fill : Bool} {l : List Int} (hs : BytesAt h vs l) (h0 : 0 ≤ p0) (h1 : 0 ≤ p1) (h2 : 0 ≤ p2) (hr : 0 ≤ rg ∧ rg ≤ 255) (hsl : 0 ≤ sl ∧ sl ≤ 255) :
    CallsA Try.prog 12 (fun _ => [.agg #[.int .u8 p0, .int .u8 p1, .int .u8 p2, vs], .int .u8 rg, .int .u8 sl, .int .i64 reg, .int .i64 slot, .bool fill]) [] h (Ret fun r h' => h.le h' ∧ r = .bool true) := by
  refine c12 (G := [.int .u8 p0, .int .u8 p1, .int .u8 p2, vs, .int .u8 rg, .int .u8 sl, .int .i64 reg, .int .i64 slot, .bool fill]) ⟨⟨_, rfl⟩, ⟨_, rfl⟩, ⟨_, rfl⟩, hs.fit, ⟨_, rfl⟩, ⟨_, rfl⟩, ⟨_, rfl⟩, ⟨_, rfl⟩, ⟨_, rfl⟩, trivial⟩ ?_
  have a := madeP_range h0
  have hN := madeN_range h2
  have hR := mR_range hr.1
  have hS := mS_range a hsl.1
  refine h_call0 s32 ?_
  rintro _ h3 ⟨hl3, rfl⟩
  refine ⟨[.bool true], ⟨⟨_, rfl⟩, trivial⟩, rfl, h_ite (fun hc => by cases hc) (fun _ => h_call0 (s33 (p0 := p0) (p1 := p1) (p2 := p2) (rg := rg) (sl := sl) (ml := []) (hs.le hl3) SlAt.nil h0 h1 h2 hr hsl) ?_)⟩
  rintro _ h4 ⟨u, bs, fp, rfl, M, -⟩
  have hck := M.check a hR hS hN
  generalize madeP p0 = p at *
  generalize mR rg = R at *
  generalize mS p sl = S at *
  generalize madeN p2 = N at *
  have hl4 := hl3.trans M.kept.le_nil
  have hul := M.own.len (by omega)
  have hlen := M.len
  refine ⟨[.int .i64 p, .int .i64 R, .int .i64 S, u], ⟨⟨_, rfl⟩, ⟨_, rfl⟩, ⟨_, rfl⟩, M.own.at.fit, trivial⟩, rfl, ?_⟩
  simp only [List.cons_append, List.nil_append]
  have n1 : cmpOp .lss 0 ((vlen u : Nat) : Int) = true := by rw [hul, cmp_lss, decide_eq_true_eq]; omega
  have hx : bs[0]? = some bs[0] := List.getElem?_eq_getElem (by omega)
  have hxm : bs[0] ∈ bs := List.getElem_mem _
  generalize bs[0] = x at hx hxm
  obtain ⟨k1, k2, k3⟩ := M.ok x hxm
  obtain ⟨c, f, L1, L2, fr, K⟩ := M.own.lens hx
  obtain ⟨w, rfl, hw⟩ := K.rep
  have hwl := hw.len (by omega)
  have hwfit := (SlF.at (sz := 7) (Rep := InsC) (Nat.zero_lt_succ 6) insF_at hw).fit
  have hwr : Reads h4 (((vaddr u).add (0 * 5)).add 0) [w] := by rw [add_add]; exact K.reads fun j u hj => by obtain ⟨rfl, rfl⟩ := get_one hj; rfl
  have hfn := K.nodup_in M.nd
  obtain ⟨Lw, frw, hins, hf, hrow, helts⟩ := hw
  have hLl : Lw.length = x.ins.length := by rw [hins, List.length_map]
  refine ⟨fun _ => ⟨rfl, n1, trivial⟩, h_load [w] ⟨hwfit, trivial⟩ (fun _ => hwr) ?_⟩
  intro b0 hb0
  have hcs : SV.denL ([.int .u8 p0, .int .u8 p1, .int .u8 p2, vs, .int .u8 rg, .int .u8 sl, .int .i64 reg, .int .i64 slot, .bool fill, .bool true, .int .i64 p, .int .i64 R, .int .i64 S, u] ++ [w]) dE
      [(.int .u8 (.ite (.var 8) (.lit 8) (.lit 7))), (.int .u8 (.lit 0)), (.int .i64 (.ite (.var 8) (.var 6) (.var 7))), (.int .i64 (.ite (.var 8) (.var 7) (.var 6))), (.int .i64 (.lit 0)), (.int .i64 (.lit 0)), (.cst (.slice none 0 0))] = insC (slotI fill reg slot) (.slice none 0 0) := by
    cases fill <;> rfl
  simp only [List.cons_append, List.nil_append] at hcs ⊢
  rw [hcs]
  have k0 : KeptH h4 (h4.put b0 (.cells (insC (slotI fill reg slot) (.slice none 0 0)).toArray 46 (0, 0))) [] := KeptH.put hb0 _
  have r0 : RowF (h4.put b0 (.cells (insC (slotI fill reg slot) (.slice none 0 0)).toArray 46 (0, 0))) 46 7 (.slice (some ⟨b0, 0, none⟩) 1 1) (insC (slotI fill reg slot) (.slice none 0 0)) [b0] := by
    have := RowF.new (h := h4) (e := 46) (sz := 7) (b := b0) (n := 1) (c := 1) (cs := insC (slotI fill reg slot) (.slice none 0 0)) (r := []) rfl rfl (Nat.le_refl _)
    rw [List.append_nil] at this; exact this
  have fr0 : Fresh h4 [b0] := fun q hq => by rw [List.mem_singleton] at hq; subst hq; exact hb0
  refine ⟨fun _ => hwr.le k0.le_nil, cellsE Lw, x.ins.length, src_ok (v := w) rfl (SlSrc.le k0.le_nil (by have := src_all hrow; rw [hwl] at this; exact this)) (by rw [cellsE_length helts, hLl]) (cells_all helts), ?_⟩
  refine app_rowF r0 (by rw [cellsE_length helts, hLl]) zero46' (by show (1 + x.ins.length) * 64 ≤ _; omega) fun w' h5 f1 m1 m2 m3 m4 => ?_
  have hk5 : KeptH h4 h5 [] := KeptH.trans_nil k0 m3 fr0
  have fr1 : Fresh h4 f1 := by
    rcases m4 with rfl | ⟨b', rfl, hb'⟩
    · exact fr0
    · intro q hq
      rw [List.mem_singleton] at hq; subst hq
      exact H.le_none k0.le_nil hb'
  have hf1n : f1.Nodup := by rcases m4 with rfl | ⟨b', rfl, hb'⟩ <;> simp
  have hlive := helts.live insF_good
  have hnw : (fpE Lw).Nodup := by rw [hf] at hfn; exact (List.nodup_append.1 hfn).2.1
  have he3 : EltsF 7 InsF h5 Lw := helts.agree insF_good (hk5.agree hlive fun b _ => by simp)
  have hSl : SlF 46 7 InsF h5 w' (slotI fill reg slot :: x.ins) (f1 ++ fpE Lw) := by
    refine ⟨⟨insC (slotI fill reg slot) (.slice none 0 0), slotI fill reg slot, []⟩ :: Lw, f1, by rw [hins]; simp, by rw [fpE_cons, List.nil_append], by rw [cellsE_cons]; exact m1, fun t ht => ?_⟩
    rcases List.mem_cons.1 ht with rfl | q
    · exact ⟨rfl, _, rfl, .inl ⟨rfl, rfl, rfl⟩⟩
    · exact he3 t q
  have hff : ∀ b ∈ f1 ++ fpE Lw, b ∈ f ∨ h4 b = none := fun b hb => by
    rcases List.mem_append.1 hb with q | q
    · exact .inr (fr1 b q)
    · left; rw [hf]; exact List.mem_append_right _ q
  have hnn : (f1 ++ fpE Lw).Nodup := nodup_app hf1n hnw fun b hb hb' => by
    have := hlive b hb'; rw [fr1 b hb] at this; cases this
  obtain ⟨z1, fq, z2, z3, z4, z5⟩ := blk_ins M.nd K (hk5.mono fun b hb => by cases hb) hSl hff hnn
  refine ⟨fun _ => ⟨rfl, n1, trivial⟩, h_store ((vaddr u).add (0 * 5 + 0)) [w'] (by rw [← add_add]; rfl) rfl z1 ?_⟩
  have hk6 := KeptH.trans_nil M.kept z4 M.fresh
  simp only [List.cons_append, List.nil_append]
  refine h_call0 (Q := fun q h' => h.le h' ∧ q = faultV (wantM reg slot R S, 0, 0)) ?_ ?_
  · have := s34 p R S u _ (OwnBlks.at z2)
    refine this.mono fun q cs h' ⟨e1, e2, e3⟩ => ⟨e1, (hl3.trans hk6.le_nil).trans e2, ?_⟩
    rw [e3]
    congr 1
    have hbs : ∃ bt, bs = x :: bt := by
      cases bs with
      | nil => simp at hx
      | cons b bt => simp at hx; exact ⟨bt, by rw [hx]⟩
    obtain ⟨bt, rfl⟩ := hbs
    simp only [List.set_cons_zero]
    simp only [List.length_cons] at hlen
    have hrest : ∀ j, blkF (fun x => mofM x R S) (fun e => mapE (endM e R ((bt.length + 1 : Nat) : Int) 21)) 400 j bt = (0, 0, 0) := fun j => blkF_ok fun b hb => by
      obtain ⟨q1, q2, q3⟩ := M.ok b (by simp [hb])
      rw [← hlen] at q3
      exact ⟨by omega, fun y hy => (q2 y hy).1, by rw [q3]; rfl⟩
    have hi : insF (fun x => mofM x R S) 0 (slotI fill reg slot :: x.ins) = if wantM reg slot R S ≠ 0 then some (0, wantM reg slot R S) else none := by
      simp only [insF, slot_m]
      rw [insF_ok fun y hy => (k2 y hy).1]
    unfold mcheckM
    rw [if_neg (by simp only [List.length_cons]; omega)]
    simp only [blkF, List.length_cons]
    rw [if_neg (by omega), hi]
    rw [← hlen] at k3
    by_cases hw0 : wantM reg slot R S = 0
    · rw [if_neg (by simpa using hw0)]
      rw [k3, hw0]
      have : mapE 0 = 0 := rfl
      simp only [this]
      have := hrest 1
      simp only [ne_eq, not_true_eq_false, if_false]
      exact this
    · rw [if_pos hw0]; rfl
  rintro _ h6 ⟨hl6, rfl⟩
  refine ⟨faultG (wantM reg slot R S, 0, 0), faultG_fit _, rfl, rfl, hl6, ?_⟩
  exact congrArg Value.bool (want_val (reg := reg) (slot := slot) (r := R) (s := S) rfl rfl rfl rfl rfl rfl rfl)
namespace machSlots
theorem own : ownKnob Try.prog.godebug = none := by kernel_rfl
theorem laidOut : laidOutB Try.prog = true := by kernel_rfl
theorem contract (H : Type) (enc : TypeId × Value → H) (W : World) (base : Nat) (args : Array Value) (ds gs : List (DataW H)) (before : List MemPlace)
    (hval : ∀ (j : Nat) t v, Try.f12.params[j]? = some t → args[j]? = some v → Value.okWide Try.prog W .any base t v)
    (hW : DataW.Whole enc Try.prog Try.f12.params.toList Rows.machSlotsSpec.vars false W args.toList ds gs before) :
    Calls Try.prog 12 args W fun e W' => ∃ v, e = .returned v ∧ Rows.machSlotsSpec.post enc Try.prog Try.f12 false true false false W args v W' := by
  have hW' := hW
  obtain ⟨p, q, hA, hV, rfl, hfz, hnd⟩ := hW
  rw [Try.params12] at hA hval
  obtain ⟨v0, vs0, d0, ds0, p0, q0, hargs, rfl, rfl, h0, r0⟩ := trodAll_cons hA
  obtain ⟨v1, vs1, d1, ds1, p1, q1, rfl, rfl, rfl, h1, r1⟩ := trodAll_cons r0
  obtain ⟨v2, vs2, d2, ds2, p2, q2, rfl, rfl, rfl, h2, r2⟩ := trodAll_cons r1
  obtain ⟨v3, vs3, d3, ds3, p3, q3, rfl, rfl, rfl, h3, r3⟩ := trodAll_cons r2
  obtain ⟨v4, vs4, d4, ds4, p4, q4, rfl, rfl, rfl, h4, r4⟩ := trodAll_cons r3
  obtain ⟨v5, vs5, d5, ds5, p5, q5, rfl, rfl, rfl, h5, r5⟩ := trodAll_cons r4
  obtain ⟨rfl, rfl, rfl⟩ := trodAll_nil r5
  obtain rfl : args = #[v0, v1, v2, v3, v4, v5] := by cases args; simp_all
  obtain ⟨cs0, rfl, -⟩ := okWide_struct Try.underlying27 (hval 0 27 v0 rfl rfl)
  obtain ⟨p0, p1, p2, vs, l, he0, g0, g1, g2, hs⟩ := rd_spec (Rd.of h0)
  obtain rfl : cs0 = ([Value.int .u8 p0, .int .u8 p1, .int .u8 p2, vs]).toArray := by rw [← he0]; simp [Value.cells]
  obtain ⟨rg, rfl, -, -, wf1⟩ := open_int Try.underlying5 (hval 1 5 v1 rfl rfl) h1
  obtain ⟨sl, rfl, -, -, wf2⟩ := open_int Try.underlying5 (hval 2 5 v2 rfl rfl) h2
  obtain ⟨reg, rfl, -, -, wf3⟩ := open_int Try.underlying3 (hval 3 3 v3 rfl rfl) h3
  obtain ⟨slot, rfl, -, -, wf4⟩ := open_int Try.underlying3 (hval 4 3 v4 rfl rfl) h4
  obtain ⟨fill, rfl, -⟩ := open_bool Try.underlying4 (hval 5 4 v5 rfl rfl) h5
  refine (law_calls (f := 12) (args := [.agg ([Value.int .u8 p0, .int .u8 p1, .int .u8 p2, vs]).toArray, .int .u8 rg, .int .u8 sl, .int .i64 reg, .int .i64 slot, .bool fill]) (s12 hs g0 g1 g2 (u8r wf1) (u8r wf2))).mono ?_
  rintro e' W' ⟨rfl, bel⟩
  exact ⟨_, rfl, law_post laidOut hW' rfl (of_decide_eq_true (by kernel_rfl)) rfl Try.underlying4 rfl bel⟩
set_option maxRecDepth 100000 in
theorem lifted (os : Os) (started : os.Started) (H : Type) (enc : TypeId × Value → H) :
    ReturnsInHanded {} Try.checked os 12 .any (Rows.machSlotsSpec.pre6 enc Try.prog Try.f12 Rows.machSlotsRow.domain false) (Rows.machSlotsSpec.post enc Try.prog Try.f12 false true false false) := by
  refine returnsInHanded_of_change (C := Try.checked) own started (by kernel_rfl) Try.func12
    (ChangeSpec.witness6 (enc := enc) (C := Try.checked) false ⟨#[], #[.agg #[.int .u8 0, .int .u8 0, .int .u8 0, .slice none 0 0], .int .u8 0, .int .u8 0, .int .i64 0, .int .i64 0, .bool false], []⟩ 8 (by kernel_rfl) (by kernel_rfl) (by kernel_rfl) (by kernel_rfl)) ?_
  intro W base args ds gs before hval hW _ _
  exact contract H enc W base args ds gs before hval hW
theorem proved : Rows.MachSlotsSaid :=
  OpenClaim.holds_of_wide 12 Try.f12 rfl rfl rfl rfl rfl rfl rfl ⟨rfl, rfl, rfl, rfl, rfl⟩ rfl rfl rfl rfl rfl (by kernel_rfl) Try.func12 (by kernel_rfl)
    (of_decide_eq_true (by kernel_rfl)) (by unfold Func.isWrapper; first | (rw [if_pos (by decide +kernel)]; kernel_rfl) | (rw [if_neg (by decide +kernel)]; exact ⟨rfl, rfl⟩))
    (fun os started H enc _ => lifted os started H enc)
end machSlots
/-- The row, under a short name, for the claim. -/
theorem machSlotsHolds : Rows.MachSlotsSaid := machSlots.proved
#print axioms machSlotsHolds
end Go.Proofs.Ytibdneedfopcoaa
