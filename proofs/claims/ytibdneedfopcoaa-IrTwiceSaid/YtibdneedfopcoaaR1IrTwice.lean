/-
  The law IrTwice answers true. Conditions: none.
-/
import Derived.Test.YtibdneedfopcoaaR1V
import Derived.Test.YtibdneedfopcoaaR1Rd
import Derived.Test.YtibdneedfopcoaaRows
set_option linter.unusedVariables false
set_option linter.unusedSimpArgs false
namespace Go.Proofs.Ytibdneedfopcoaa
open Go Go.ChangeShapes Go.WideShapes Go.ChangeAt Go.RowKit

/-- A part of an own row, put behind it once more: as it reads. -/
theorem app_copy {α : Type} {e : TypeId} {sz bytes i : Nat} {R : RepF α} {Rep : H → List Value → α → Prop} {h : H} {v : Value} {l : List α} {fp : List Nat} {x : α} {z : List Value} (hR : GoodF R)
    (hRep : ∀ {h : H} {cs : List Value} {x : α} {fp : List Nat}, R h cs x fp → Rep h cs x) (hs : 0 < sz) (k : SlF e sz R h v l fp) (hnd : fp.Nodup) (hi : l[i]? = some x) (hz : z.length = sz)
    (hb : (l.length + 1) * bytes ≤ 140737488355328) :
    ∃ c, c.length = sz ∧ Rep h c x ∧ Reads h ((vaddr v).add (i * sz)) c ∧ ∀ K : Value → H → Prop, (∀ v' h', SlAt sz Rep h' v' (l ++ [x]) → KeptH h h' fp → K v' h') → AppSpec h e sz bytes z v c 1 K := by
  have hlen := k.len hs
  obtain ⟨L, fr, rfl, rfl, h4, h5⟩ := k
  obtain ⟨L1, t, L2, rfl, h1, rfl⟩ := split_at hi
  have ht := h5 t (by simp)
  refine ⟨t.cs, ht.1, hRep ht.2, h4.row0.reads fun j u hj => ?_, fun K HK => ?_⟩
  · have hl1 : (cellsE L1).length = i * sz := by rw [← h1]; exact cellsE_length fun t ht => h5 t (by simp [ht])
    rw [cellsE_append, cellsE_cons, List.getElem?_append_right (by omega), hl1, Nat.add_sub_cancel_left, List.getElem?_append_left (List.getElem?_eq_some_iff.1 hj).1]
    exact hj
  · refine app_rowF h4 (by rw [ht.1, Nat.one_mul]) hz (by rw [hlen]; exact hb) fun v' h' fr' k1 k2 k3 k4 => ?_
    obtain ⟨n1, n2, n3⟩ := List.nodup_append.1 hnd
    have ha : Agree h h' (fpE (L1 ++ t :: L2)) := k3.agree (h5.live hR) fun b hb hf => n3 b hf b hb rfl
    have h5' := h5.agree hR ha
    have hw : SlF e sz (fun h cs x _ => Rep h cs x) h' v' ((L1 ++ t :: L2 ++ [t]).map El.x) (fr' ++ fpE (L1 ++ t :: L2 ++ [t])) := by
      refine ⟨L1 ++ t :: L2 ++ [t], fr', rfl, rfl, ?_, fun s hs' => ?_⟩
      · rw [cellsE_append (L1 ++ t :: L2)]
        have : cellsE [t] = t.cs := by simp [cellsE]
        rw [this]; exact k1
      · have : s ∈ L1 ++ t :: L2 := by
          rcases List.mem_append.1 hs' with q | q
          · exact q
          · rw [List.mem_singleton] at q; subst q; simp
        exact ⟨(h5' s this).1, hRep (h5' s this).2⟩
    have := SlF.at hs (Rep := Rep) (fun q => q) hw
    refine HK v' h' (by simpa using this) (k3.mono fun b hb => List.mem_append_left _ hb)
theorem s7 {h : H} {v : Value} {l : List Int} {p0 p1 p2 : Int} (hv : BytesAt h v l) (h0 : 0 ≤ p0) (h1 : 0 ≤ p1) (h2 : 0 ≤ p2) :
    CallsA Try.prog 7 (fun _ => [.agg #[.int .u8 p0, .int .u8 p1, .int .u8 p2, v]]) [] h (Ret fun r h' => h.le h' ∧ r = .bool true) := by
  refine c7 (G := [.int .u8 p0, .int .u8 p1, .int .u8 p2, v]) ⟨⟨_, rfl⟩, ⟨_, rfl⟩, ⟨_, rfl⟩, hv.fit, trivial⟩ ?_
  have hb := hv.inB
  have a := madeP_range h0
  have b := madeV_range h0 h1
  have c := madeN_range h2
  have hBl := madeB_len (p0 := p0) (p1 := p1) (l := l) h2
  refine h_call0 s13 ?_
  rintro r h1' ⟨hl1, rfl⟩
  refine ⟨[.bool true], ⟨⟨_, rfl⟩, trivial⟩, rfl, h_ite (fun hc => by cases hc) (fun _ => h_call0 (s15 (p0 := p0) (p1 := p1) (p2 := p2) (hv.le hl1) h0 h1 h2) ?_)⟩
  rintro r h3 ⟨hk3, u, fp, rfl, hu, hf, hnd⟩
  have hl3 := hl1.trans hk3.le_nil
  have hul := hu.len (by omega)
  refine ⟨[.int .i64 (madeP p0), .int .i64 (madeV p0 p1), u], ⟨⟨_, rfl⟩, ⟨_, rfl⟩, hu.at.fit, trivial⟩, rfl, ⟨fun _ => ⟨rfl, ?_, trivial⟩, ?_⟩⟩
  · show decide ((0 : Int) < (vlen u : Nat)) = true
    rw [hul]; simp; omega
  have hx : (madeB p0 p1 p2 l)[0]? = some (madeB p0 p1 p2 l)[0] := List.getElem?_eq_getElem (by omega)
  have hmem : (madeB p0 p1 p2 l)[0] ∈ madeB p0 p1 p2 l := List.getElem_mem _
  generalize (madeB p0 p1 p2 l)[0] = x at hx hmem
  obtain ⟨cs, c1, ⟨w, rfl, hw⟩, c3, c4⟩ := app_copy blkF_good blkF_at (bytes := 56) (by omega) hu hnd hx zero41 (by omega)
  refine h_load (w :: endC x.en) ⟨hw.fit, endFit x.en⟩ (fun _ => c3) ⟨w :: endC x.en, 1, ⟨rfl, rfl⟩, c4 _ fun v' h4 k1 k2 => ?_⟩
  have hl4 : h.le h4 := k2.le hl3 (fun b hb => H.le_none hl1 (hf b hb))
  have hV1 : intOp .add .i64 (madeV p0 p1) 1 = madeV p0 p1 + 1 := by simp only [intOp]; rw [wrap_i64 (by omega) (by omega)]
  refine h_call0 (Q := fun r h' => h4.le h' ∧ r = faultV (0, 0, 0)) ?_ ?_
  · have := s16 (h := h4) (madeP p0) (intOp .add .i64 (madeV p0 p1) 1) v' _ k1
    rw [hV1, made_ok (w := madeV p0 p1 + 1) h0 h1 h2 hb (by omega) (by omega) ?_ ?_ ?_] at this
    · rw [← hV1] at this; exact this
    · intro y hy
      rcases List.mem_append.1 hy with q | q
      · exact q
      · rw [List.mem_singleton] at q; rw [q]; exact hmem
    · simp; omega
    · simp; omega
  rintro r h5 ⟨hl5, rfl⟩
  have hl5' := hl4.trans hl5
  refine ⟨[.int .i64 0, .int .i64 0, .int .i64 0], ⟨⟨_, rfl⟩, ⟨_, rfl⟩, ⟨_, rfl⟩, trivial⟩, rfl, h_ite (fun _ => ?_) (fun hc => by cases hc)⟩
  refine h_call0 (s15 (p0 := p0) (p1 := p1) (p2 := p2) (hv.le hl5') h0 h1 h2) ?_
  rintro r h6 ⟨hk6, u6, fp6, rfl, hu6, hf6, hnd6⟩
  refine ⟨[.int .i64 (madeP p0), .int .i64 (madeV p0 p1), u6], ⟨⟨_, rfl⟩, ⟨_, rfl⟩, hu6.at.fit, trivial⟩, rfl, ?_⟩
  refine h_call0 (s16 (madeP p0) (madeV p0 p1) u6 _ hu6.at) ?_
  rintro r h7 ⟨hl7, rfl⟩
  rw [made_ok (w := madeV p0 p1) h0 h1 h2 hb (Int.le_refl _) (by omega) (fun y hy => hy) (by omega) (by omega)]
  refine ⟨[.int .i64 0, .int .i64 0, .int .i64 0], ⟨⟨_, rfl⟩, ⟨_, rfl⟩, ⟨_, rfl⟩, trivial⟩, rfl, rfl, (hl5'.trans hk6.le_nil).trans hl7, rfl⟩
namespace irTwice
theorem own : ownKnob Try.prog.godebug = none := by kernel_rfl
theorem laidOut : laidOutB Try.prog = true := by kernel_rfl
theorem contract (H : Type) (enc : TypeId × Value → H) (W : World) (base : Nat) (args : Array Value) (ds gs : List (DataW H)) (before : List MemPlace)
    (hval : ∀ (j : Nat) t v, Try.f7.params[j]? = some t → args[j]? = some v → Value.okWide Try.prog W .any base t v)
    (hW : DataW.Whole enc Try.prog Try.f7.params.toList Rows.irTwiceSpec.vars false W args.toList ds gs before) :
    Calls Try.prog 7 args W fun e W' => ∃ v, e = .returned v ∧ Rows.irTwiceSpec.post enc Try.prog Try.f7 false true false false W args v W' := by
  have hW' := hW
  obtain ⟨p, q, hA, hV, rfl, hfz, hnd⟩ := hW
  rw [Try.params7] at hA hval
  obtain ⟨v0, vs0, d0, ds0, p0, q0, hargs, rfl, rfl, h0, r0⟩ := trodAll_cons hA
  obtain ⟨rfl, rfl, rfl⟩ := trodAll_nil r0
  obtain rfl : args = #[v0] := by cases args; simp_all
  obtain ⟨cs0, rfl, -⟩ := okWide_struct Try.underlying27 (hval 0 27 v0 rfl rfl)
  obtain ⟨p0, p1, p2, v, l, he0, g0, g1, g2, hv⟩ := rd_spec (Rd.of h0)
  obtain rfl : cs0 = ([Value.int .u8 p0, .int .u8 p1, .int .u8 p2, v]).toArray := by rw [← he0]; simp [Value.cells]
  refine (law_calls (f := 7) (args := [.agg ([Value.int .u8 p0, .int .u8 p1, .int .u8 p2, v]).toArray]) (s7 hv g0 g1 g2)).mono ?_
  rintro e' W' ⟨rfl, bel⟩
  exact ⟨_, rfl, law_post laidOut hW' rfl (of_decide_eq_true (by kernel_rfl)) rfl Try.underlying4 rfl bel⟩
set_option maxRecDepth 100000 in
theorem lifted (os : Os) (started : os.Started) (H : Type) (enc : TypeId × Value → H) :
    ReturnsInHanded {} Try.checked os 7 .any (Rows.irTwiceSpec.pre6 enc Try.prog Try.f7 Rows.irTwiceRow.domain false) (Rows.irTwiceSpec.post enc Try.prog Try.f7 false true false false) := by
  refine returnsInHanded_of_change (C := Try.checked) own started (by kernel_rfl) Try.func7
    (ChangeSpec.witness6 (enc := enc) (C := Try.checked) false ⟨#[], #[.agg #[.int .u8 0, .int .u8 0, .int .u8 0, .slice none 0 0]], []⟩ 8 (by kernel_rfl) (by kernel_rfl) (by kernel_rfl) (by kernel_rfl)) ?_
  intro W base args ds gs before hval hW _ _
  exact contract H enc W base args ds gs before hval hW
theorem proved : Rows.IrTwiceSaid :=
  OpenClaim.holds_of_wide 7 Try.f7 rfl rfl rfl rfl rfl rfl rfl ⟨rfl, rfl, rfl, rfl, rfl⟩ rfl rfl rfl rfl rfl (by kernel_rfl) Try.func7 (by kernel_rfl)
    (of_decide_eq_true (by kernel_rfl)) (by unfold Func.isWrapper; first | (rw [if_pos (by decide +kernel)]; kernel_rfl) | (rw [if_neg (by decide +kernel)]; exact ⟨rfl, rfl⟩))
    (fun os started H enc _ => lifted os started H enc)
end irTwice
/-- The row, under a short name, for the claim. -/
theorem irTwiceHolds : Rows.IrTwiceSaid := irTwice.proved
#print axioms irTwiceHolds
end Go.Proofs.Ytibdneedfopcoaa
