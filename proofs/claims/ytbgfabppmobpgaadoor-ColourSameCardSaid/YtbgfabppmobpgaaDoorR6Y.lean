/-
  Two vregs of a move that are one. Conditions: as each contract says.
-/
import Derived.Test.YtbgfabppmobpgaaDoorR6X
set_option linter.unusedVariables false
set_option linter.unusedSimpArgs false
namespace Go.Proofs.YtbgfabppmobpgaaDoor
open Go

theorem sHas {h : H} {c : Value} {p : SP} {x : Nat} (hs : SetC h [c] p) (hx : x < 4096) : CallsA Tryd.prog 44 (fun _ => [.agg #[c], natV x]) [] h (Ret fun r h' => h' = h ∧ r = .bool (p x)) := by
  obtain ⟨v, ws, e, h1, h2, h3, rfl⟩ := hs
  obtain rfl : c = v := by simpa using e
  exact s44 h1 h2 hx
theorem Row.to {h0 h hb : H} {e : TypeId} {sz : Nat} {v : Value} {cs : List Value} (k : Row h0 h e sz v cs) (hh : ∀ b o, h b = some o → h0 b = none → hb b = some o) : Row h0 hb e sz v cs := by
  rcases k with k | ⟨b, n, c, r, rfl, h1, h2, h3, h4, h5⟩
  · exact .inl k
  · exact .inr ⟨b, n, c, r, rfl, hh b _ h1 h5, h2, h3, h4, h5⟩
section
variable {g h h' : H} {bw k N : Nat} {fv : Value} {firm : List Bool} {w : CW} {V : WV} {F : Nat → List Nat}
theorem WO.del (K : WO g h bw k fv firm w V F) (hz : Szs N w) {d r : List (Nat × Nat)} {m : Nat × Nat} (e : w.moves = d ++ m :: r) :
    CallsA Tryd.prog 50 (fun _ => [V.moves, natV d.length, .int .i64 (intOp .add .i64 (d.length : Int) 1)]) [] h (Ret fun q h' => RowF h' 41 2 q (edC (d ++ r)) (F 3) ∧ KeptH h h' (F 3)) := by
  have k := K.moves
  have hl := hz.2
  rw [e] at k hl
  exact s50 k hl
theorem WO.leftC (K : WO g h bw k fv firm w V F) : SetC h [V.left] w.left := setF_at K.left
theorem WO.nrC (K : WO g h bw k fv firm w V F) {v : Nat} (hv : v < w.near.length) : ∃ c, SetC h [c] (w.nr v) ∧ Reads h ((vaddr V.near).add (v * 1)) [c] := K.near_at.get1 (K.nr_get hv)
theorem WO.nl (K : WO g h bw k fv firm w V F) : vlen V.near = w.near.length := K.near_at.len
theorem WO.fitN (K : WO g h bw k fv firm w V F) : FitsL [.sl] [V.near] := ⟨K.near_at.fit, trivial⟩
/-- One is put into another's set. -/
theorem WO.putNear (K : WO g h bw k fv firm w V F) {a x : Nat} (ha : a < w.near.length) (hx : x < 4096) :
    CallsA Tryd.prog 32 (fun _ => [.pointer (some ((vaddr V.near).add (a * 1))), natV x]) [] h (Ret fun r h' => (∃ b, r = .bool b) ∧ ∃ F', WO g h' bw k fv firm { w with near := w.near.set a (insP (nrL w.near a) x) } V F') := by
  have hp := s32p (x := x) K.near K.nnd (K.nr_get ha) hx
  refine hp.mono ?_
  rintro r cs h' ⟨rfl, rfl, f', q1, q2, q3, q4⟩
  exact ⟨rfl, ⟨_, rfl⟩, _, K.setNear q3 q1 q2 q4⟩
theorem coal_drop {d r : List (Nat × Nat)} {m : Nat × Nat} (h : w.drops firm (w.of m.1) (w.of m.2) = true) : w.coal k firm d (m :: r) = some { w with moves := d ++ r } := by rw [CW.coal, if_pos h]
theorem foldl_snoc {α β : Type} {f : β → α → β} {l : List α} {i : Nat} {x : α} {z : β} (hx : l[i]? = some x) : (l.take (i + 1)).foldl f z = f ((l.take i).foldl f z) x := by
  rw [List.take_add_one, hx, List.foldl_append]; rfl
theorem filter_snoc {α : Type} {p : α → Bool} {l : List α} {i : Nat} {x : α} (hx : l[i]? = some x) : ((l.take (i + 1)).filter p).length = ((l.take i).filter p).length + if p x = true then 1 else 0 := by
  rw [List.take_add_one, hx, List.filter_append, List.length_append]
  congr 1
  by_cases h : p x = true
  · simp [h]
  · simp [h]
theorem link_len (a : Nat) : ∀ (l : List Nat) (L : List SP), (l.foldl (linkL a) L).length = L.length
  | [], L => rfl
  | v :: l, L => by rw [List.foldl_cons, link_len a l, linkL_len]
theorem s34 (ht : Tab g) (K : WO g h bw k fv firm w V F) (C : CInv N w) (hz : Szs N w) (hfl : firm.length = N) :
    CallsA Tryd.prog 34 (fun _ => [pW bw]) [] h (Ret fun r h' => (∃ w', w.coal k firm [] w.moves = some w' ∧ r = .bool true ∧ WOx g h' bw k fv firm w') ∨ w.coal k firm [] w.moves = none ∧ r = .bool false ∧ WOx g h' bw k fv firm w) := by
  refine c34 (G := [pW bw]) ⟨⟨_, rfl⟩, trivial⟩ ?_
  have hvl := rowF_elen K.moves
  refine h_load [V.moves] ⟨K.mvAt.fit, trivial⟩ (fun _ => K.rd (j := 3) rfl) ?_
  simp only [List.cons_append, List.nil_append]
  refine h_loop (fun xs h' => ∃ d r, xs = [natV d.length] ∧ w.moves = d ++ r ∧ h.le h' ∧ w.coal k firm [] w.moves = w.coal k firm d r) (fun xs h' => w.moves.length - (vi (gv xs 0)).toNat) ⟨[], w.moves, rfl, rfl, H.le_refl _, rfl⟩ ?_
  rintro xs h1 J - ⟨d, r, rfl, em, l1, ec⟩ hJ
  simp only [List.cons_append, List.nil_append]
  have K1 := K.grow l1
  have hml := hz.2
  have emL : w.moves.length = d.length + r.length := by rw [em, List.length_append]
  rw [ec]
  refine h_ite (fun hc => ?_) (fun hc => ?_)
  · replace hc : cmpOp .lss (d.length : Int) ((vlen V.moves : Nat) : Int) = true := hc
    rw [hvl, cmp_lss, decide_eq_true_eq] at hc
    obtain ⟨m, r, rfl⟩ : ∃ m r', r = m :: r' := by
      cases r with
      | nil => simp at emL; omega
      | cons m r => exact ⟨m, r, rfl⟩
    have hat : w.moves[d.length]? = some m := by rw [em, List.getElem?_append_right (Nat.le_refl _), Nat.sub_self]; rfl
    have hrd := K1.mvAt.read (i := d.length) (e := ((m.1 : Int), (m.2 : Int))) (by unfold edI; rw [List.getElem?_map, hat]; rfl)
    obtain ⟨hm1, hm2⟩ := C.mv m (List.mem_of_getElem? hat)
    refine ⟨fun _ => needIx (i := d.length) (v := V.moves) rfl rfl hvl (by omega), h_load [natV m.1, natV m.2] ⟨⟨_, rfl⟩, ⟨_, rfl⟩, trivial⟩ (fun _ => hrd) ?_⟩
    simp only [List.cons_append, List.nil_append]
    refine h_call0 (s49 K1 C hm1) ?_
    rintro _ h2 ⟨e2, rfl⟩
    have e2' := e2.symm
    subst e2'
    refine ⟨[natV (w.of m.1)], ⟨⟨_, rfl⟩, trivial⟩, rfl, ?_⟩
    simp only [List.cons_append, List.nil_append]
    refine h_call0 (s49 K1 C hm2) ?_
    rintro _ h2 ⟨e2, rfl⟩
    have e2' := e2.symm
    subst e2'
    refine ⟨[natV (w.of m.2)], ⟨⟨_, rfl⟩, trivial⟩, rfl, ?_⟩
    simp only [List.cons_append, List.nil_append]
    obtain ⟨a, ea⟩ : ∃ a, a = w.of m.1 := ⟨_, rfl⟩
    obtain ⟨b, eb⟩ : ∃ b, b = w.of m.2 := ⟨_, rfl⟩
    have haN : a < N := by rw [ea]; exact C.of_lt hm1
    have hbN : b < N := by rw [eb]; exact C.of_lt hm2
    have han : a < w.near.length := by rw [C.ln]; exact haN
    have hbn : b < w.near.length := by rw [C.ln]; exact hbN
    have ha4 : a < 4096 := Nat.lt_of_lt_of_le haN C.hN
    have hb4 : b < 4096 := Nat.lt_of_lt_of_le hbN C.hN
    have haf : a < firm.length := by rw [hfl]; exact haN
    have hbf : b < firm.length := by rw [hfl]; exact hbN
    have hfvl : vlen fv = firm.length := (SlAt.le boolC_mono K1.wf.le K1.frm).len
    have ffv : FitsL [.sl] [fv] := ⟨(SlAt.le boolC_mono K1.wf.le K1.frm).fit, trivial⟩
    rw [← ea, ← eb]
    have hdr : w.drops firm a b = true → w.coal k firm d (m :: r) = some { w with moves := d ++ r } := fun q => coal_drop (by rw [← ea, ← eb]; exact q)
    have hcs : w.coal k firm d (m :: r) = if w.drops firm a b = true then some { w with moves := d ++ r } else if w.great k a b < k then some (w.merge a b (d ++ r)) else w.coal k firm (d ++ [m]) r := by rw [CW.coal, ea, eb]
    have drp : ∀ {h2 : H} {q : Value}, WO g h2 bw k fv firm w V F → RowF h2 41 2 q (edC (d ++ r)) (F 3) → True := fun _ _ => trivial
    by_cases hab : a = b
    · have hg : (!cmpOp .eql (a : Int) (b : Int)) = false := by rw [hab, cmp_eql]; simp
      refine h_loadN [V.near] K1.fitN hg (h_needN hg ?_)
      simp only [List.cons_append, List.nil_append]
      refine h_loadN [.slice none 0 0] ⟨fits_nil, trivial⟩ hg ?_
      simp only [List.cons_append, List.nil_append]
      refine h_ite (fun hc => absurd (hg.symm.trans hc) (by simp)) (fun hc => ?_)
      have hq : w.drops firm a b = true := by unfold CW.drops; rw [decide_eq_true hab]; rfl
      refine h_load [V.moves] ⟨K1.mvAt.fit, trivial⟩ (fun _ => K1.rd (j := 3) rfl) ?_
      simp only [List.cons_append, List.nil_append]
      refine h_call0 (K1.del hz em) ?_
      rintro q h3 ⟨m1, m2⟩
      obtain ⟨c1, c2⟩ := K1.setMoves (v' := q) m2 m1 fun z hz => .inl hz
      exact ⟨[q], ⟨m1.row0.fit, trivial⟩, rfl, h_store (Addr.add ⟨bw, 0, none⟩ 3) [q] rfl rfl c1 ⟨rfl, .inl ⟨_, hdr hq, rfl, c2⟩⟩⟩
    have hg : (!cmpOp .eql (a : Int) (b : Int)) = true := by
      rw [cmp_eql, decide_eq_false (by omega)]; rfl
    obtain ⟨ca, hca, rca⟩ := K1.nrC han
    refine h_load [V.near] K1.fitN (fun _ => K1.rd (j := 2) rfl) (h_need (needIx (i := a) (v := V.near) rfl rfl K1.nl han) ?_)
    simp only [List.cons_append, List.nil_append]
    refine h_load [ca] ⟨hca.fit, trivial⟩ (fun _ => rca) ?_
    simp only [List.cons_append, List.nil_append]
    refine h_ite (fun _ => ?_) (fun hc => absurd (hg.symm.trans hc) (by simp))
    refine h_call0 (sHas hca hb4) ?_
    rintro _ h2 ⟨e2, rfl⟩
    have e2' := e2.symm
    subst e2'
    obtain ⟨x1, ex1⟩ : ∃ x1, x1 = w.nr a b := ⟨_, rfl⟩
    obtain ⟨fa, efa⟩ : ∃ fa, fa = firm.getD a false := ⟨_, rfl⟩
    obtain ⟨fb, efb⟩ : ∃ fb, fb = firm.getD b false := ⟨_, rfl⟩
    obtain ⟨la, ela⟩ : ∃ la, la = w.left a := ⟨_, rfl⟩
    obtain ⟨lb, elb⟩ : ∃ lb, lb = w.left b := ⟨_, rfl⟩
    have hdv : w.drops firm a b = (x1 || fa || fb || !la || !lb) := by
      unfold CW.drops; rw [decide_eq_false hab, ex1, efa, efb, ela, elb, Bool.false_or]
    have rA : Reads h1 ((vaddr fv).add (a * 1)) [.bool fa] := by rw [efa]; exact K1.rdB haf
    have rB : Reads h1 ((vaddr fv).add (b * 1)) [.bool fb] := by rw [efb]; exact K1.rdB hbf
    rw [← ex1]
    refine ⟨[.bool x1], ⟨⟨_, rfl⟩, trivial⟩, rfl, ?_⟩
    simp only [List.cons_append, List.nil_append]
    refine h_load [fv] ffv (fun _ => K1.rdF) (h_need (needIx (i := a) (v := fv) rfl rfl hfvl haf) ?_)
    simp only [List.cons_append, List.nil_append]
    refine h_load [.bool fa] ⟨⟨_, rfl⟩, trivial⟩ (fun _ => rA) ?_
    simp only [List.cons_append, List.nil_append]
    refine h_load [fv] ffv (fun _ => K1.rdF) (h_need (needIx (i := b) (v := fv) rfl rfl hfvl hbf) ?_)
    simp only [List.cons_append, List.nil_append]
    refine h_load [.bool fb] ⟨⟨_, rfl⟩, trivial⟩ (fun _ => rB) ?_
    simp only [List.cons_append, List.nil_append]
    refine h_load [V.left] ⟨K1.leftC.fit, trivial⟩ (fun _ => K1.rd (j := 5) rfl) ?_
    simp only [List.cons_append, List.nil_append]
    refine And.symm ⟨fun hc => ?_, fun hc => ?_⟩
    · have hc' : (x1 || fa || fb) = true := by cases x1 <;> cases fa <;> cases fb <;> first | rfl | exact Bool.noConfusion (show (false : Bool) = true from hc) | exact Bool.noConfusion (show (true : Bool) = false from hc)
      have hq : w.drops firm a b = true := by rw [hdv, hc']; rfl
      refine h_load [V.moves] ⟨K1.mvAt.fit, trivial⟩ (fun _ => K1.rd (j := 3) rfl) ?_
      simp only [List.cons_append, List.nil_append]
      refine h_call0 (K1.del hz em) ?_
      rintro q h3 ⟨m1, m2⟩
      obtain ⟨c1, c2⟩ := K1.setMoves (v' := q) m2 m1 fun z hz => .inl hz
      exact ⟨[q], ⟨m1.row0.fit, trivial⟩, rfl, h_store (Addr.add ⟨bw, 0, none⟩ 3) [q] rfl rfl c1 ⟨rfl, .inl ⟨_, hdr hq, rfl, c2⟩⟩⟩
    have hc' : (x1 || fa || fb) = false := by cases x1 <;> cases fa <;> cases fb <;> first | rfl | exact Bool.noConfusion (show (false : Bool) = true from hc) | exact Bool.noConfusion (show (true : Bool) = false from hc)
    clear hc
    refine h_call0 (sHas K1.leftC ha4) ?_
    rintro _ h2 ⟨e2, rfl⟩
    have e2' := e2.symm
    subst e2'
    rw [← ela]
    refine ⟨[.bool la], ⟨⟨_, rfl⟩, trivial⟩, rfl, ?_⟩
    simp only [List.cons_append, List.nil_append]
    refine h_load [V.left] ⟨K1.leftC.fit, trivial⟩ (fun _ => K1.rd (j := 5) rfl) ?_
    simp only [List.cons_append, List.nil_append]
    refine And.symm ⟨fun hla => ?_, fun hla => ?_⟩
    · replace hla : la = false := hla
      have hq : w.drops firm a b = true := by rw [hdv, hc', hla]; rfl
      refine h_load [V.moves] ⟨K1.mvAt.fit, trivial⟩ (fun _ => K1.rd (j := 3) rfl) ?_
      simp only [List.cons_append, List.nil_append]
      refine h_call0 (K1.del hz em) ?_
      rintro q h3 ⟨m1, m2⟩
      obtain ⟨c1, c2⟩ := K1.setMoves (v' := q) m2 m1 fun z hz => .inl hz
      exact ⟨[q], ⟨m1.row0.fit, trivial⟩, rfl, h_store (Addr.add ⟨bw, 0, none⟩ 3) [q] rfl rfl c1 ⟨rfl, .inl ⟨_, hdr hq, rfl, c2⟩⟩⟩
    replace hla : la = true := hla
    refine h_call0 (sHas K1.leftC hb4) ?_
    rintro _ h2 ⟨e2, rfl⟩
    have e2' := e2.symm
    subst e2'
    rw [← elb]
    refine ⟨[.bool lb], ⟨⟨_, rfl⟩, trivial⟩, rfl, ?_⟩
    simp only [List.cons_append, List.nil_append]
    refine h_ite (fun hlb => ?_) (fun hlb => ?_)
    · replace hlb : (!lb) = true := hlb
      have hq : w.drops firm a b = true := by rw [hdv, hc', hla]; simpa using hlb
      refine h_load [V.moves] ⟨K1.mvAt.fit, trivial⟩ (fun _ => K1.rd (j := 3) rfl) ?_
      simp only [List.cons_append, List.nil_append]
      refine h_call0 (K1.del hz em) ?_
      rintro q h3 ⟨m1, m2⟩
      obtain ⟨c1, c2⟩ := K1.setMoves (v' := q) m2 m1 fun z hz => .inl hz
      exact ⟨[q], ⟨m1.row0.fit, trivial⟩, rfl, h_store (Addr.add ⟨bw, 0, none⟩ 3) [q] rfl rfl c1 ⟨rfl, .inl ⟨_, hdr hq, rfl, c2⟩⟩⟩
    replace hlb : (!lb) = false := hlb
    have hnd : ¬ w.drops firm a b = true := by rw [hdv, hc', hla, Bool.false_or, hlb]; simp
    rw [if_neg hnd] at hcs
    clear hdr hdv drp
    -- both
    refine h_load [V.near] K1.fitN (fun _ => K1.rd (j := 2) rfl) (h_need (needIx (i := a) (v := V.near) rfl rfl K1.nl han) ?_)
    simp only [List.cons_append, List.nil_append]
    refine h_load [ca] ⟨hca.fit, trivial⟩ (fun _ => rca) ?_
    simp only [List.cons_append, List.nil_append]
    obtain ⟨ca', wa, eca, wa1, wa2, wa3, wa4⟩ := hca
    obtain rfl : ca = ca' := by simpa using eca
    refine h_call0 (s51 wa1 wa2 wa3) ?_
    rintro _ h2 ⟨hk2, v2, f2, rfl, hs2, hf2⟩
    refine ⟨[v2], ⟨hs2.fit, trivial⟩, rfl, ?_⟩
    simp only [List.cons_append, List.nil_append]
    have l2 := hk2.le_nil
    have K2 := K1.grow l2
    obtain ⟨cb, hcb, rcb⟩ := K2.nrC hbn
    refine h_load [V.near] K2.fitN (fun _ => K2.rd (j := 2) rfl) (h_need (needIx (i := b) (v := V.near) rfl rfl K2.nl hbn) ?_)
    simp only [List.cons_append, List.nil_append]
    refine h_load [cb] ⟨hcb.fit, trivial⟩ (fun _ => rcb) ?_
    simp only [List.cons_append, List.nil_append]
    obtain ⟨cb', wb, ecb, wb1, wb2, wb3, wb4⟩ := hcb
    obtain rfl : cb = cb' := by simpa using ecb
    refine h_call1 (s52k (Tab.le K2.wf.le ht) hs2 wb1 wb2 wb3) ?_
    rintro _ c3 h3 ⟨rfl, v3, ws3, f3, rfl, hs3, hp3, hk3, hf3⟩
    refine ⟨⟨hs3.fit, trivial⟩, [.bool _], ⟨⟨_, rfl⟩, trivial⟩, rfl, ?_⟩
    simp only [List.cons_append, List.nil_append]
    have l3 : h1.le h3 := (KeptH.trans_nil hk2 hk3 hf2).le_nil
    have hfr3 : Fresh h1 f3 := fun z q => (hf3 z q).elim (hf2 z) fun q => H.le_none l2 q
    have K3 := K1.grow l3
    obtain ⟨vo, wo, eo, ho1, ho2⟩ := K3.left
    obtain rfl : V.left = vo := by simpa using eo
    have hwo := rowF_words ho1.1
    have hdis : ∀ z ∈ F 5, z ∉ f3 := fun z q q' => by
      have := K1.wf.lv 5 z q
      rw [hfr3 z q'] at this; cases this
    refine h_load [V.left] ⟨hwo.fit, trivial⟩ (fun _ => K3.rd (j := 5) rfl) ?_
    simp only [List.cons_append, List.nil_append]
    refine h_call1 (s53k hs3 hwo ho1.2.1 ho1.2.2 fun h4 hk4 => rowF_words (ho1.agree (hk4.agree ho1.live hdis)).1) ?_
    rintro _ c4 h4 ⟨rfl, rfl, hs4, hk4⟩
    refine ⟨⟨hs4.fit, trivial⟩, [], trivial, rfl, ?_⟩
    simp only [List.cons_append, List.nil_append]
    have l4 : h1.le h4 := (KeptH.trans_nil l3.kept hk4 hfr3).le_nil
    have K4 := K1.grow l4
    have hboth : hasW (meetW ws3 wo) = w.both a b := by
      rw [hasW_meet]
      funext y
      unfold meetP CW.both
      rw [hp3, wa4, wb4, ho2]
    refine h_call0 (sAllS (Tab.le K4.wf.le ht) (setF_at (fp := f3) ⟨v3, _, rfl, hs4, hboth⟩)) ?_
    rintro vl h5 ⟨l5, hall⟩
    have hil := hall.ints.len
    rw [List.length_map] at hil
    have hA := hall.ints
    refine ⟨[vl], ⟨hA.fit, trivial⟩, rfl, ?_⟩
    simp only [List.cons_append, List.nil_append]
    have hlen := allS_le (w.both a b)
    obtain ⟨B, hB⟩ : ∃ B, B = allS (w.both a b) := ⟨_, rfl⟩
    have hBN : ∀ x ∈ B, x < N := fun x hx => by
      rw [hB] at hx
      have := (mem_allS.1 hx).2
      unfold CW.both at this
      rw [Bool.and_eq_true] at this
      exact C.leftN x this.2
    rw [← hB] at hil hA hlen
    refine h_loop (fun xs h' => ∃ j, xs = [natV ((B.take j).filter fun v => decide (k ≤ w.deg v)).length, natV j] ∧ j ≤ B.length ∧ h5.le h') (fun xs h' => B.length - (vi (gv xs 1)).toNat) ⟨0, rfl, Nat.zero_le _, H.le_refl _⟩ ?_
    rintro xs h6 J2 - ⟨j, rfl, hj, l6⟩ hJ2
    simp only [List.cons_append, List.nil_append]
    have K6 := K4.grow (l5.trans l6)
    refine h_ite (fun hc => ?_) (fun hc => ?_)
    · replace hc : cmpOp .lss (j : Int) ((vlen vl : Nat) : Int) = true := hc
      rw [hil, cmp_lss, decide_eq_true_eq] at hc
      have hjl : j < B.length := by omega
      obtain ⟨x, hx, hxm, hxI⟩ := at_nat hjl
      refine h_need (needIx (i := j) (v := vl) rfl rfl hil hjl) (h_load [natV x] ⟨⟨_, rfl⟩, trivial⟩ (fun _ => (hA.le l6).read hxI) ?_)
      simp only [List.cons_append, List.nil_append]
      refine h_load [natV k] ⟨⟨_, rfl⟩, trivial⟩ (fun _ => K6.rd (j := 0) rfl) ?_
      simp only [List.cons_append, List.nil_append]
      refine h_call0 (s46 K6 C (hBN x hxm)) ?_
      rintro _ h7 ⟨l7, rfl⟩
      refine ⟨[natV (w.deg x)], ⟨⟨_, rfl⟩, trivial⟩, rfl, h_still ((K6.grow l7).rd (j := 0) rfl) ?_⟩
      obtain ⟨c, hcc⟩ : ∃ c, c = ((B.take j).filter fun v => decide (k ≤ w.deg v)).length := ⟨_, rfl⟩
      have hcl : c ≤ 4096 := by
        rw [hcc]
        have := List.length_filter_le (fun v => decide (k ≤ w.deg v)) (B.take j)
        rw [List.length_take] at this; omega
      rw [← hcc]
      show J2 [.int .i64 (vi (if cmpOp .geq ((w.deg x : Nat) : Int) (k : Int) = true then Value.int .i64 (intOp .add .i64 (c : Int) 1) else .int .i64 (c : Int))), .int .i64 (intOp .add .i64 (j : Int) 1)] _
      rw [int_add_one (n := 1000000) (by omega) (by omega), int_add_one (n := 1000000) (by omega) (by omega), cmp_geq]
      refine hJ2 _ _ ⟨j + 1, ?_, by omega, l6.trans l7⟩ (by simp only [gv_zero, gv_succ, vi_int]; omega)
      rw [filter_snoc hx, ← hcc]
      by_cases hkd : k ≤ w.deg x
      · rw [if_pos (by rw [decide_eq_true_eq]; omega), if_pos (decide_eq_true hkd)]; rfl
      · rw [if_neg (by rw [decide_eq_true_eq]; omega), if_neg (by rw [decide_eq_true_eq]; exact hkd)]; rfl
    replace hc : cmpOp .lss (j : Int) ((vlen vl : Nat) : Int) = false := hc
    rw [hil, cmp_lss, decide_eq_false_iff_not] at hc
    obtain rfl : j = B.length := by omega
    rw [List.take_length]
    have hgr : (B.filter fun v => decide (k ≤ w.deg v)).length = w.great k a b := by rw [hB]; rfl
    rw [hgr]
    clear hc
    refine h_load [natV k] ⟨⟨_, rfl⟩, trivial⟩ (fun _ => K6.rd (j := 0) rfl) ?_
    simp only [List.cons_append, List.nil_append]
    refine h_ite (fun hc => ?_) (fun hc => ?_)
    · replace hc : cmpOp .geq ((w.great k a b : Nat) : Int) (k : Int) = true := hc
      rw [cmp_geq, decide_eq_true_eq] at hc
      show J [.int .i64 (intOp .add .i64 (d.length : Int) 1)] _
      rw [int_add_one (n := 2000000) (by omega) (by omega)]
      refine hJ _ _ ⟨d ++ [m], r, by rw [List.length_append]; rfl, by rw [em]; simp, l1.trans (l4.trans (l5.trans l6)), ?_⟩ (by simp only [gv_zero, vi_int]; omega)
      rw [ec, hcs, if_neg (by omega)]
    replace hc : cmpOp .geq ((w.great k a b : Nat) : Int) (k : Int) = false := hc
    rw [cmp_geq, decide_eq_false_iff_not] at hc
    rw [if_pos (by omega)] at hcs
    clear hc hgr
    -- the merge
    refine h_load [V.moves] ⟨K6.mvAt.fit, trivial⟩ (fun _ => K6.rd (j := 3) rfl) ?_
    simp only [List.cons_append, List.nil_append]
    refine h_call0 (K6.del hz em) ?_
    rintro q h7 ⟨m1, m2⟩
    obtain ⟨c1, V7, F7, K7⟩ := K6.setMoves (v' := q) m2 m1 fun z hz => .inl hz
    refine ⟨[q], ⟨m1.row0.fit, trivial⟩, rfl, h_store (Addr.add ⟨bw, 0, none⟩ 3) [q] rfl rfl c1 ?_⟩
    simp only [List.cons_append, List.nil_append]
    generalize h7.sets (Addr.add ⟨bw, 0, none⟩ 3) [q] = h8 at K7
    have hbst : b < w.st.length := by rw [C.len]; exact hbN
    refine h_load [V7.st] ⟨K7.fitS, trivial⟩ (fun _ => K7.rd (j := 4) rfl) (h_need (needIx (i := b) (v := V7.st) rfl rfl K7.st_len hbst) ?_)
    simp only [List.cons_append, List.nil_append]
    obtain ⟨s1, K8⟩ := K7.setSt (b := b) (a := a) hbst
    refine h_store ((vaddr V7.st).add b) [natV a] (by show (vaddr V7.st).add (b * 1) = _; rw [Nat.mul_one]) rfl s1 ?_
    generalize h8.sets ((vaddr V7.st).add b) [natV a] = h9 at K8
    refine h_call0 (K8.cutLeft hb4) ?_
    rintro _ h10 ⟨rfl, V9, F9, K9⟩
    refine ⟨[.bool _], ⟨⟨_, rfl⟩, trivial⟩, rfl, ?_⟩
    simp only [List.cons_append, List.nil_append]
    obtain ⟨cb2, hcb2', rcb2⟩ := K9.nrC hbn
    have hcb2 : SetC h10 [cb2] (w.nr b) := hcb2'
    clear hcb2'
    refine h_load [V9.near] K9.fitN (fun _ => K9.rd (j := 2) rfl) (h_need (needIx (i := b) (v := V9.near) rfl rfl K9.nl hbn) ?_)
    simp only [List.cons_append, List.nil_append]
    refine h_load [cb2] ⟨hcb2.fit, trivial⟩ (fun _ => rcb2) ?_
    simp only [List.cons_append, List.nil_append]
    refine h_call0 (sAllS (Tab.le K9.wf.le ht) hcb2) ?_
    rintro vl2 h11 ⟨l11, hall2⟩
    have hil2 := hall2.ints.len
    rw [List.length_map] at hil2
    refine ⟨[vl2], ⟨hall2.ints.fit, trivial⟩, rfl, ?_⟩
    simp only [List.cons_append, List.nil_append]
    have K11 := K9.grow l11
    obtain ⟨hb, Kb, gb1, gb2, gb3⟩ := K11.base
    have hA2 : IntsAt hb vl2 ((allS (w.nr b)).map Int.ofNat) := OwnInts.ints (Row.to hall2 fun z o q1 q2 => gb3 z o q1 fun i q3 => by
      have := K9.wf.lv i z q3
      rw [q2] at this; cases this)
    have hlen2 := allS_le (w.nr b)
    refine h_loop (fun xs h' => ∃ j F', xs = [natV j] ∧ j ≤ (allS (w.nr b)).length ∧ WO hb h' bw k fv firm { w with near := ((allS (w.nr b)).take j).foldl (linkL a) w.near, moves := d ++ r, st := w.st.set b a, left := cutP w.left b } V9 F') (fun xs h' => (allS (w.nr b)).length - (vi (gv xs 0)).toNat) ⟨0, F9, rfl, Nat.zero_le _, Kb⟩ ?_
    rintro xs h12 J3 - ⟨j, F', rfl, hj, K12⟩ hJ3
    simp only [List.cons_append, List.nil_append]
    have hLl := link_len a ((allS (w.nr b)).take j) w.near
    refine h_ite (fun hc => ?_) (fun hc => ?_)
    · replace hc : cmpOp .lss (j : Int) ((vlen vl2 : Nat) : Int) = true := hc
      rw [hil2, cmp_lss, decide_eq_true_eq] at hc
      have hjl : j < (allS (w.nr b)).length := by omega
      obtain ⟨x, hx, hxm, hxI⟩ := at_nat hjl
      have hxn := (C.bnd _ _ (mem_allS.1 hxm).2).2
      have hx4 := (mem_allS.1 hxm).1
      have hfs := foldl_snoc (f := linkL a) (z := w.near) hx
      generalize ((allS (w.nr b)).take j).foldl (linkL a) w.near = L at K12 hLl hfs
      have haL : a < L.length := by rw [hLl]; exact han
      have hxL : x < L.length := by rw [hLl, C.ln]; exact hxn
      refine h_need (needIx (i := j) (v := vl2) rfl rfl hil2 hjl) (h_load [natV x] ⟨⟨_, rfl⟩, trivial⟩ (fun _ => (hA2.le K12.wf.le).read hxI) ?_)
      simp only [List.cons_append, List.nil_append]
      refine h_load [V9.near] K12.fitN (fun _ => K12.rd (j := 2) rfl) (h_need (needIx (i := a) (v := V9.near) rfl rfl K12.nl haL) ?_)
      simp only [List.cons_append, List.nil_append]
      refine h_call0 (K12.putNear haL hx4) ?_
      rintro _ h13 ⟨⟨b1, rfl⟩, F13, K13⟩
      refine ⟨[.bool b1], ⟨⟨_, rfl⟩, trivial⟩, rfl, ?_⟩
      simp only [List.cons_append, List.nil_append]
      have hxL2 : x < (L.set a (insP (nrL L a) x)).length := by rw [List.length_set]; exact hxL
      refine h_load [V9.near] K13.fitN (fun _ => K13.rd (j := 2) rfl) (h_need (needIx (i := x) (v := V9.near) rfl rfl K13.nl hxL2) ?_)
      simp only [List.cons_append, List.nil_append]
      refine h_call0 (K13.putNear hxL2 ha4) ?_
      rintro _ h14 ⟨⟨b2, rfl⟩, F14, K14⟩
      refine ⟨[.bool b2], ⟨⟨_, rfl⟩, trivial⟩, rfl, ?_⟩
      show J3 [.int .i64 (intOp .add .i64 (j : Int) 1)] _
      rw [int_add_one (n := 1000000) (by omega) (by omega)]
      refine hJ3 _ _ ⟨j + 1, F14, rfl, by omega, ?_⟩ (by simp only [gv_zero, vi_int]; omega)
      rw [hfs]
      exact K14
    replace hc : cmpOp .lss (j : Int) ((vlen vl2 : Nat) : Int) = false := hc
    rw [hil2, cmp_lss, decide_eq_false_iff_not] at hc
    obtain rfl : j = (allS (w.nr b)).length := by omega
    rw [List.take_length] at K12
    exact ⟨rfl, .inl ⟨w.merge a b (d ++ r), hcs, rfl, V9, F', K12.sub gb1 K.frm⟩⟩
  · replace hc : cmpOp .lss (d.length : Int) ((vlen V.moves : Nat) : Int) = false := hc
    rw [hvl, cmp_lss, decide_eq_false_iff_not] at hc
    obtain rfl : r = [] := List.eq_nil_of_length_eq_zero (by omega)
    exact ⟨rfl, .inr ⟨rfl, rfl, V, F, K1⟩⟩
end
end Go.Proofs.YtbgfabppmobpgaaDoor
