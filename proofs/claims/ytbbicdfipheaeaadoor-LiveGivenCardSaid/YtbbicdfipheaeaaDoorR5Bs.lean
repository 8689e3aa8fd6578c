/-
  A worklist of facts: what flow's Solve computes. Conditions: as the contract says (what is handed in does as it is told to).
-/
import Derived.Test.YtbbicdfipheaeaaDoorR5B
set_option linter.unusedVariables false
set_option linter.unusedSimpArgs false
namespace Go.Proofs.YtbbicdfipheaeaaDoor
open Go

set_option maxRecDepth 4000 in
theorem s15 {A : Type} {F : FlowS A} {e : TypeId} {RF : RepF A} {h : H} {vF vFi vJ vP : Value} (hG : F.Good) (C : FlowC (fun c => .agg #[c]) .sl F e RF h vF vFi vJ vP) (hN : F.N ≤ 1000) {z0 : A}
    (hz : ∀ {h1 : H} {b : Nat}, h1 b = none → SlF e 1 RF (h1.put b (.cells (repZ ((zeroCells Tryd.prog 39).getD []) F.N).toArray 39 (0, 0))) (.slice (some ⟨b, 0, none⟩) F.N F.N) (List.replicate F.N z0) [b]) :
    CallsA Tryd.prog 15 (fun _ => [.agg #[.int .i64 (F.N : Int), vF, vFi, vJ, vP]]) [] h (Ret fun r h' => h.le h' ∧ ∃ l fp, Solved F l ∧ SlF e 1 RF h' r l fp ∧ Fresh h fp ∧ fp.Nodup) := by
  obtain ⟨f1, f2, f3, f4, -⟩ := C.fits
  refine c15 (G := [.int .i64 (F.N : Int), vF, vFi, vJ, vP]) ⟨⟨_, rfl⟩, f1, f2, f3, f4, trivial⟩ ?_
  have hR := C.good
  refine ⟨by show (0 : Int) ≤ (F.N : Int); omega, by show (F.N : Int) * 24 ≤ 281474976710656; omega, fun ba hba => ?_⟩
  show holds _ _ _ [.int .i64 (F.N : Int), vF, vFi, vJ, vP, .slice (some ⟨ba, 0, none⟩) (Int.toNat (F.N : Int)) (Int.toNat (F.N : Int))] [] (h.put ba (.cells (repZ ((zeroCells Tryd.prog 39).getD []) (Int.toNat (F.N : Int))).toArray 39 (0, 0)))
  rw [Int.toNat_natCast]
  have ha0 := hz hba
  have hl1 : h.le (h.put ba (.cells (repZ ((zeroCells Tryd.prog 39).getD []) F.N).toArray 39 (0, 0))) := H.le_put hba
  generalize h.put ba (.cells (repZ ((zeroCells Tryd.prog 39).getD []) F.N).toArray 39 (0, 0)) = g1 at ha0 hl1
  refine ⟨by show (0 : Int) ≤ (F.N : Int); omega, by show (F.N : Int) * 24 ≤ 281474976710656; omega, fun bt hbt => ?_⟩
  show holds _ _ _ [.int .i64 (F.N : Int), vF, vFi, vJ, vP, .slice (some ⟨ba, 0, none⟩) F.N F.N, .slice (some ⟨bt, 0, none⟩) (Int.toNat (F.N : Int)) (Int.toNat (F.N : Int))] [] (g1.put bt (.cells (repZ ((zeroCells Tryd.prog 47).getD []) (Int.toNat (F.N : Int))).toArray 47 (0, 0)))
  rw [Int.toNat_natCast]
  have ht0 := mk_rows (n := F.N) hbt
  have hl2 : g1.le (g1.put bt (.cells (repZ ((zeroCells Tryd.prog 47).getD []) F.N).toArray 47 (0, 0))) := H.le_put hbt
  generalize g1.put bt (.cells (repZ ((zeroCells Tryd.prog 47).getD []) F.N).toArray 47 (0, 0)) = g2 at ht0 hl2
  obtain ⟨va, hva⟩ : ∃ va, va = Value.slice (some ⟨ba, 0, none⟩) F.N F.N := ⟨_, rfl⟩
  obtain ⟨vt, hvt⟩ : ∃ vt, vt = Value.slice (some ⟨bt, 0, none⟩) F.N F.N := ⟨_, rfl⟩
  have hvl : vlen va = F.N := by rw [hva]; rfl
  have htl : vlen vt = F.N := by rw [hvt]; rfl
  rw [← hva] at ha0 ⊢
  rw [← hvt] at ht0 ⊢
  have hne : ba ≠ bt := fun q => by
    have := ha0.live hR ba (by simp)
    rw [q, hbt] at this; cases this
  have K0 : FS e RF h g2 va vt (.slice none 0 0) (.map none) (List.replicate F.N z0) (List.replicate F.N []) [] [ba] [bt] [] :=
    ⟨hl1.trans hl2, ha0.agree hR (hl2.kept.agree (ha0.live hR) fun b _ => by simp), by simp, (fun b hb => by rw [List.mem_singleton] at hb; subst hb; exact hba), ht0, by simp, (fun b hb => by rw [List.mem_singleton] at hb; subst hb; exact H.le_none hl1 hbt), QRep.nil, (fun b hb => by cases hb),
      (fun b hb hb' => by rw [List.mem_singleton] at hb hb'; subst hb; exact hne hb'), (fun b _ hb' => by cases hb'), fun b _ hb' => by cases hb'⟩
  refine h_loop (fun xs h' => ∃ (i : Nat) (vr vm : Value) (T : List (List Nat)) (fA fT fQ : List Nat), xs = [natV i, vr, vm] ∧ i ≤ F.N ∧ ToI F i 0 T ∧ FS e RF h h' va vt vr vm ((List.range F.N).map fun m => if m < i then F.first m else z0) T (List.range i) fA fT fQ)
    (fun xs h' => F.N - (vi (gv xs 0)).toNat) ⟨0, .slice none 0 0, .map none, List.replicate F.N [], [ba], [bt], [], rfl, Nat.zero_le _, ⟨by simp, fun {a D} h => ?_⟩, ?_⟩ ?_
  · rw [List.getElem?_replicate] at h
    split at h
    · cases h; exact ⟨fun n => by simp, by simp⟩
    · cases h
  · have : ((List.range F.N).map fun m => if m < 0 then F.first m else z0) = List.replicate F.N z0 := by
      apply List.ext_getElem?
      intro i
      rw [List.getElem?_map, List.getElem?_replicate]
      by_cases hi : i < F.N
      · rw [List.getElem?_range hi, if_pos hi]; rfl
      · rw [List.getElem?_eq_none (by simpa using hi), if_neg hi]; rfl
    rw [this]; exact K0
  rintro xs g3 J - ⟨i, vr, vm, T, fA, fT, fQ, rfl, hi, hT, K⟩ hJ
  simp only [List.cons_append, List.nil_append]
  have hql : ∀ {i : Nat}, i ≤ F.N → ((List.range i).map Int.ofNat).length ≤ 1000000 := fun {i} h => by simp; omega
  refine h_ite (fun hc => ?_) (fun hc => ?_)
  · replace hc : cmpOp .lss (i : Int) (F.N : Int) = true := hc
    rw [cmp_lss, decide_eq_true_eq] at hc
    have hiN : i < F.N := by omega
    refine h_callv (C.first K.le hiN) ?_
    rintro v g4 ⟨hl4, c, f, hv4, hc4, hf4, hn4⟩
    refine ⟨[c], ⟨C.shape hc4, trivial⟩, hv4, ?_⟩
    simp only [List.cons_append, List.nil_append]
    have K4 := K.grow hR hl4
    have nda : ∀ D : List Value, needs (.int .i64 (F.N : Int) :: vF :: vFi :: vJ :: vP :: va :: vt :: natV i :: D) [(.cmp .geq (.var 7) (.lit 0)), (.cmp .lss (.var 7) (.len 5))] := fun D => by
      refine ⟨ge0 i, ?_, trivial⟩
      show cmpOp .lss (i : Int) ((vlen va : Nat) : Int) = true
      rw [hvl]; exact ltN hiN
    have hget : ((List.range F.N).map fun m => if m < i then F.first m else z0)[i]? = some z0 := by
      rw [List.getElem?_map, List.getElem?_range hiN]; simp
    have hset : ((List.range F.N).map fun m => if m < i then F.first m else z0).set i (F.first i) = (List.range F.N).map fun m => if m < i + 1 then F.first m else z0 := by
      apply List.ext_getElem?
      intro p
      rw [List.getElem?_set, List.length_map, List.length_range, List.getElem?_map, List.getElem?_map]
      by_cases hp : p < F.N
      · rw [List.getElem?_range hp]
        by_cases q : i = p
        · subst q; rw [if_pos rfl, if_pos hp]; simp
        · rw [if_neg q]
          simp only [Option.map_some, Option.some.injEq]
          have : (p < i) = (p < i + 1) := by rw [eq_iff_iff]; omega
          simp only [this]
      · rw [List.getElem?_eq_none (l := List.range F.N) (by simpa using hp)]
        rw [if_neg (by omega)]; rfl
    obtain ⟨w1, fA', w2, w3, w4, w5⟩ := K4.a.put1 hR K4.an hget hc4 (fun b hb hb' => by have := hf4 b hb; have q := K.a.live hR b hb'; rw [this] at q; cases q) hn4
    refine ⟨fun _ => nda _, h_store ((vaddr va).add (i * 1)) [c] rfl (rfl) w1 ?_⟩
    have K5 := K.setA hR ((hl4.kept.mono (by simp)).trans w5) w2 w3 (fun b hb => (w4 b hb).elim .inl fun q => .inr (hf4 b q))
    generalize g4.sets ((vaddr va).add (i * 1)) [c] = g5 at w2 w5 K5
    rw [hset] at w2 K5
    have hput : (if i ∈ List.range i then List.range i else List.range i ++ [i]) = List.range (i + 1) := by rw [if_neg (by simp), List.range_succ]
    refine h_call1 (Q := fun r c h' => r = .bool (decide ((i : Int) ∉ (List.range i).map Int.ofNat)) ∧ ∃ vr' vm' fp', c = [vr', vm'] ∧ QRep h' vr' vm' ((List.range (i + 1)).map Int.ofNat) fp' ∧ KeptH g5 h' fQ ∧ ∀ b ∈ fp', b ∈ fQ ∨ g5 b = none) ?_ ?_
    · have := s50k (x := (i : Int)) K5.q (hql hi)
      rw [put_ofNat, hput] at this
      exact this
    rintro _ _ g6 ⟨rfl, vr', vm', fQ', rfl, hq6, hk6, hf6⟩
    have K6 := K5.setQ hR hk6 hq6 hf6
    refine ⟨K6.q.fits, [.bool (decide ((i : Int) ∉ (List.range i).map Int.ofNat))], ⟨⟨_, rfl⟩, trivial⟩, rfl, ?_⟩
    simp only [List.cons_append, List.nil_append]
    refine h_callv (C.frm K6.le hiN) ?_
    rintro v7 g7 ⟨hl7, hv7, hlen7⟩
    refine ⟨[v7], ⟨hv7.ints.fit, trivial⟩, rfl, ?_⟩
    simp only [List.cons_append, List.nil_append]
    have K7 := K6.grow hR hl7
    have h7l : vlen v7 = (F.frm i).length := by have := hv7.ints.len; rwa [List.length_map] at this
    obtain ⟨hb, hbd⟩ : ∃ hb, hb = H.cut g7 fT := ⟨_, rfl⟩
    have hbg : hb.le g7 := by rw [hbd]; exact H.cut_le _ _
    have hbf : Fresh hb fT := by rw [hbd]; exact H.cut_fresh _ _
    have hb7 : IntsAt hb v7 ((F.frm i).map Int.ofNat) := by rw [hbd]; exact OwnInts.ints (Row.cut hv7 (K6.t.live intF_good))
    refine h_loop (fun xs h' => ∃ (j : Nat) (T' : List (List Nat)) (fT' : List Nat), xs = [natV j] ∧ j ≤ (F.frm i).length ∧ ToI F i j T' ∧ FS e RF h h' va vt vr' vm' ((List.range F.N).map fun m => if m < i + 1 then F.first m else z0) T' (List.range (i + 1)) fA' fT' fQ' ∧ hb.le h' ∧ Fresh hb fT')
      (fun xs h' => (F.frm i).length - (vi (gv xs 0)).toNat) ⟨0, T, fT, rfl, Nat.zero_le _, hT, K7, hbg, hbf⟩ ?_
    rintro xs g8 J8 - ⟨j, T', fT', rfl, hj, hT', K8, hb8, hf8⟩ hJ8
    simp only [List.cons_append, List.nil_append]
    refine h_ite (fun hc8 => ?_) (fun hc8 => ?_)
    · replace hc8 : cmpOp .lss (j : Int) ((vlen v7 : Nat) : Int) = true := hc8
      have hc8' := hc8
      rw [h7l, cmp_lss, decide_eq_true_eq] at hc8
      have hjl : j < (F.frm i).length := by omega
      have hx : (F.frm i)[j]? = some (F.frm i)[j] := List.getElem?_eq_getElem hjl
      have hxm : (F.frm i)[j] ∈ F.frm i := List.getElem_mem _
      generalize (F.frm i)[j] = a at hx hxm
      have haN := hG.frm_lt hiN hxm
      have hxi : ((F.frm i).map Int.ofNat)[j]? = some (a : Int) := by rw [List.getElem?_map, hx]; rfl
      have hD : T'[a]? = some T'[a]! := by
        have : a < T'.length := by rw [hT'.1]; exact haN
        rw [List.getElem?_eq_getElem this]; simp [this]
      generalize T'[a]! = D at hD
      have hDl := (hT'.2 hD).2
      have nda2 : ∀ D : List Value, gv D 16 = natV a → gv D 6 = vt → needs D [(.cmp .geq (.var 16) (.lit 0)), (.cmp .lss (.var 16) (.len 6))] := fun D e1 e2 => by
        simp only [needs, X.den, e1, e2, htl, vb_bool, vi_int, and_true]
        exact ⟨ge0 a, ltN haN⟩
      obtain ⟨u, hu1, hu2, hu3⟩ := to_app (i := i) K8.t K8.tn hD (by clear hT' hT; omega)
      refine ⟨fun _ => ⟨ge0 j, hc8', trivial⟩, h_load [natV a] ⟨⟨_, rfl⟩, trivial⟩ (fun _ => (hb7.le hb8).read hxi) ⟨fun _ => nda2 _ rfl rfl, h_load [u] ⟨hu1, trivial⟩ (fun _ => hu2) ?_⟩⟩
      simp only [List.cons_append, List.nil_append]
      refine ⟨[natV i], 1, ⟨rfl, rfl⟩, ?_⟩
      refine hu3 _ fun u' h9 fT9 m1 m2 m3 m4 m5 => ?_
      refine ⟨fun _ => nda2 _ rfl rfl, h_store ((vaddr vt).add (a * 1)) [u'] rfl rfl m1 ?_⟩
      have K9 := K8.setT hR m4 m2 m3 m5
      show J8 [.int .i64 (intOp .add .i64 (j : Int) 1)] _
      rw [int_add_one (n := 1000) (by omega) (by omega)]
      refine hJ8 _ _ ⟨j + 1, _, _, rfl, by omega, hT'.put hx hD, K9, m4.le hb8 hf8, fun b hb' => (m5 b hb').elim (hf8 b) (H.le_none hb8)⟩ ?_
      simp only [gv_zero, vi_int]; omega
    · replace hc8 : cmpOp .lss (j : Int) ((vlen v7 : Nat) : Int) = false := hc8
      rw [h7l, cmp_lss, decide_eq_false_iff_not] at hc8
      have hje : j = (F.frm i).length := by omega
      subst hje
      show J [.int .i64 (intOp .add .i64 (i : Int) 1), vr', vm'] g8
      rw [int_add_one (n := 1000) (by omega) (by omega)]
      refine hJ _ _ ⟨i + 1, vr', vm', T', fA', fT', fQ', rfl, by omega, hT'.next hlen7, K8⟩ ?_
      simp only [gv_zero, vi_int]; omega
  · replace hc : cmpOp .lss (i : Int) (F.N : Int) = false := hc
    rw [cmp_lss, decide_eq_false_iff_not] at hc
    have hie : i = F.N := by omega
    subst hie
    have hall : ((List.range F.N).map fun m => if m < F.N then F.first m else z0) = (List.range F.N).map F.first := by
      apply List.map_congr_left
      intro m hm
      rw [if_pos (List.mem_range.1 hm)]
    rw [hall] at K
    have hTo : ∀ {b D}, T[b]? = some D → ∀ n, n ∈ D ↔ n < F.N ∧ b ∈ F.frm n := fun h n => by
      rw [(hT.2 h).1]; simp
    refine h_loopM (fun n xs h' => ∃ (l : List A) (q : List Nat) (vr vm : Value) (fA fQ : List Nat), xs = [vr, vm] ∧ FS e RF h h' va vt vr vm l T q fA fT fQ ∧ Round F l q ∧ n = 2 * potS F.pot l + q.length) _ ⟨_, _, vr, vm, fA, fQ, rfl, K, Round.begin hG, rfl⟩ ?_
    rintro n xs g4 J4 - ⟨l, q, vr4, vm4, fA4, fQ4, rfl, K4, hRd, hn⟩ hJ4
    simp only [List.cons_append, List.nil_append]
    refine h_call1 (Q := fun r c h' => r = .int .i64 ((q.map Int.ofNat).length : Int) ∧ c = [vr4, vm4] ∧ h' = g4) ?_ ?_
    · exact s51k K4.q
    rintro _ _ g5 ⟨rfl, rfl, e5⟩
    have e5' := e5.symm
    subst e5'
    refine ⟨K4.q.fits, [.int .i64 ((q.map Int.ofNat).length : Int)], ⟨⟨_, rfl⟩, trivial⟩, rfl, ?_⟩
    simp only [List.cons_append, List.nil_append]
    refine h_ite (fun hc5 => ?_) (fun hc5 => ?_)
    · replace hc5 : cmpOp .gtr ((q.map Int.ofNat).length : Int) 0 = true := hc5
      rw [cmp_gtr, decide_eq_true_eq, List.length_map] at hc5
      obtain ⟨b, q', rfl⟩ : ∃ b q', q = b :: q' := by
        cases q with
        | nil => simp at hc5
        | cons b q' => exact ⟨b, q', rfl⟩
      have hbN := hRd.lt b (List.mem_cons_self ..)
      refine h_call1 (Q := fun r c h' => r = .tuple #[natV b, .bool true] ∧ ∃ vr', c = [vr', vm4] ∧ QRep h' vr' vm4 (q'.map Int.ofNat) fQ4 ∧ KeptH g4 h' fQ4) ?_ ?_
      · exact s52k (x := (b : Int)) (l := q'.map Int.ofNat) K4.q
      rintro _ _ g6 ⟨rfl, vr6, rfl, hq6, hk6⟩
      have K6 := K4.setQ hR hk6 hq6 fun b hb => .inl hb
      refine ⟨K6.q.fits, [natV b, .bool true], ⟨⟨_, rfl⟩, ⟨_, rfl⟩, trivial⟩, rfl, ?_⟩
      simp only [List.cons_append, List.nil_append]
      have hlt : b < l.length := by rw [hRd.len]; exact hbN
      have hbl := List.getElem?_eq_getElem hlt
      generalize l[b] = z at hbl
      have hW := hRd.take (D := T[b]!) hG hbl
      have hTb : T[b]? = some T[b]! := by
        have : b < T.length := by rw [hT.1]; exact hbN
        rw [List.getElem?_eq_getElem this]; simp [this]
      generalize T[b]! = D at hTb hW
      obtain ⟨c, f, r1, r2, r3⟩ := K6.a.get1 hbl
      have ndb : ∀ D : List Value, gv D 17 = natV b → gv D 5 = va → needs D [(.cmp .geq (.var 17) (.lit 0)), (.cmp .lss (.var 17) (.len 5))] := fun D e1 e2 => by
        simp only [needs, X.den, e1, e2, hvl, vb_bool, vi_int, and_true]
        exact ⟨ge0 b, ltN hbN⟩
      have ndb6 : ∀ D : List Value, gv D 17 = natV b → gv D 6 = vt → needs D [(.cmp .geq (.var 17) (.lit 0)), (.cmp .lss (.var 17) (.len 6))] := fun D e1 e2 => by
        simp only [needs, X.den, e1, e2, htl, vb_bool, vi_int, and_true]
        exact ⟨ge0 b, ltN hbN⟩
      refine ⟨fun _ => ndb _ rfl rfl, h_load [c] ⟨C.shape r1, trivial⟩ (fun _ => r2) ?_⟩
      simp only [List.cons_append, List.nil_append]
      refine (fun rest => ⟨rest, fun _ => r2, rest⟩) ?_
      have hpass := C.pass K6.le hbN (hRd.ok hbl) r1
      refine h_callv (Q := fun v h' => g6.le h' ∧ ∃ c' f', v = (fun c => .agg #[c]) c' ∧ RF h' [c'] (F.pass b z) f' ∧ Fresh g6 f' ∧ f'.Nodup) ?_ ?_
      · exact hpass
      rintro v g7 ⟨hl7, co, fo, hv7, hco, hfo, hno⟩
      refine ⟨[co], ⟨C.shape hco, trivial⟩, hv7, ?_⟩
      simp only [List.cons_append, List.nil_append]
      have K7 := K6.grow hR hl7
      have oA : ∀ x ∈ fo, x ∉ fA4 := fun x hx hx' => by have := K6.a.live hR x hx'; rw [hfo x hx] at this; cases this
      have oQ : ∀ x ∈ fo, x ∉ fQ4 := fun x hx hx' => by have := K6.q.live x hx'; rw [hfo x hx] at this; cases this
      obtain ⟨u, fu, t1, t2, t3⟩ := K7.t.get1 hTb
      obtain ⟨u', eu, t4⟩ := t1
      obtain rfl : u = u' := by simpa using eu
      refine ⟨fun _ => ndb6 _ rfl rfl, h_load [u] ⟨t4.row0.fit, trivial⟩ (fun _ => t2) ?_⟩
      simp only [List.cons_append, List.nil_append]
      obtain ⟨hb, hbd⟩ : ∃ hb, hb = H.cut g7 (fA4 ++ fQ4) := ⟨_, rfl⟩
      have hbg : hb.le g7 := by rw [hbd]; exact H.cut_le _ _
      have hfr := H.cut_fresh g7 (fA4 ++ fQ4)
      rw [← hbd] at hfr
      have hbA : Fresh hb fA4 := fun x hx => hfr x (List.mem_append_left _ hx)
      have hbQ : Fresh hb fQ4 := fun x hx => hfr x (List.mem_append_right _ hx)
      have hbu : IntsAt hb u (D.map Int.ofNat) := by
        refine ints_of_nats (e := 3) (fp := fu) (t4.agree ?_)
        rw [hbd]
        exact cut_agree fun x hx hx' => by
          rcases List.mem_append.1 hx' with q | q
          · exact K7.d1 x q (t3 x hx)
          · exact K7.d3 x (t3 x hx) q
      have hbo : RF hb [co] (F.pass b z) fo := by
        rw [hbd]
        exact hR.agree (cut_agree fun x hx hx' => by
          rcases List.mem_append.1 hx' with q | q
          · exact oA x hx q
          · exact oQ x hx q) hco
      have hul : vlen u = D.length := by have := hbu.len; rwa [List.length_map] at this
      have hDl := (hT.2 hTb).2
      refine h_loop (fun xs h' => ∃ (j : Nat) (l5 : List A) (q5 : List Nat) (vr5 vm5 : Value) (fA5 fQ5 : List Nat), xs = [natV j, vr5, vm5] ∧ j ≤ D.length ∧ FS e RF h h' va vt vr5 vm5 l5 T q5 fA5 fT fQ5 ∧ Within F b z D j l5 q5 ∧ 2 * potS F.pot l5 + q5.length < n ∧ hb.le h' ∧ Fresh hb fA5 ∧ Fresh hb fQ5)
        (fun xs h' => D.length - (vi (gv xs 0)).toNat) ⟨0, l, q', vr6, vm4, fA4, fQ4, rfl, Nat.zero_le _, K7, hW, by rw [hn]; simp, hbg, hbA, hbQ⟩ ?_
      rintro xs g8 J8 - ⟨j, l5, q5, vr5, vm5, fA5, fQ5, rfl, hj, K8, hW8, hm8, hb8, hA8, hQ8⟩ hJ8
      simp only [List.cons_append, List.nil_append]
      refine h_ite (fun hc8 => ?_) (fun hc8 => ?_)
      · replace hc8 : cmpOp .lss (j : Int) ((vlen u : Nat) : Int) = true := hc8
        have hc8' := hc8
        rw [hul, cmp_lss, decide_eq_true_eq] at hc8
        have hjl : j < D.length := by omega
        have hx : D[j]? = some D[j] := List.getElem?_eq_getElem hjl
        have hxm : D[j] ∈ D := List.getElem_mem _
        generalize D[j] = m at hx hxm
        obtain ⟨hmN, hmf⟩ := (hTo hTb m).1 hxm
        have hxi : (D.map Int.ofNat)[j]? = some (m : Int) := by rw [List.getElem?_map, hx]; rfl
        have hlm : m < l5.length := by rw [hW8.len]; exact hmN
        have hml := List.getElem?_eq_getElem hlm
        generalize l5[m] = x at hml
        have ndm : ∀ D : List Value, gv D 25 = natV m → gv D 5 = va → needs D [(.cmp .geq (.var 25) (.lit 0)), (.cmp .lss (.var 25) (.len 5))] := fun D e1 e2 => by
          simp only [needs, X.den, e1, e2, hvl, vb_bool, vi_int, and_true]
          exact ⟨ge0 m, ltN hmN⟩
        refine ⟨fun _ => ⟨ge0 j, hc8', trivial⟩, h_load [natV m] ⟨⟨_, rfl⟩, trivial⟩ (fun _ => (hbu.le hb8).read hxi) ⟨fun _ => ndm _ rfl rfl, ?_⟩⟩
        simp only [List.cons_append, List.nil_append]
        have ho8 : RF g8 [co] (F.pass b z) fo := hR.agree (le_agree' hb8 (hR.live hbo)) hbo
        have hjoin := C.join K8.le K8.a K8.an K8.af hml hmN hmf (hW8.ok hml) hW8.zok ho8 (fun y hy hy' => by have := hR.live hbo y hy; rw [hA8 y hy'] at this; cases this)
        refine h_callv (Q := fun v h' => v = .bool (F.chg x (F.pass b z)) ∧ ∃ fp', SlF e 1 RF h' va (l5.set m (F.join x (F.pass b z))) fp' ∧ fp'.Nodup ∧ KeptH g8 h' fA5 ∧ ∀ b ∈ fp', b ∈ fA5 ∨ g8 b = none) ?_ ?_
        · exact hjoin
        rintro _ g9 ⟨rfl, fA9, j1, j2, j3, j4⟩
        refine ⟨[.bool (F.chg x (F.pass b z))], ⟨⟨_, rfl⟩, trivial⟩, rfl, ?_⟩
        simp only [List.cons_append, List.nil_append]
        have K9 := K8.setA hR j3 j1 j2 j4
        have hb9 := j3.le hb8 hA8
        have hA9 : Fresh hb fA9 := fun y hy => (j4 y hy).elim (hA8 y) (H.le_none hb8)
        have nxt : intOp .add .i64 (j : Int) 1 = ((j + 1 : Nat) : Int) := int_add_one (n := 10000000) (by omega) (by omega)
        refine h_ite (fun hc9 => ?_) (fun hc9 => ?_)
        · replace hc9 : F.chg x (F.pass b z) = true := hc9
          obtain ⟨p1, p2⟩ := hW8.put hG hx hmN hmf hml hc9
          have hq5 := nodup_len hW8.nd hW8.lt
          refine h_call1 (Q := fun r c h' => r = .bool (decide ((m : Int) ∉ q5.map Int.ofNat)) ∧ ∃ vr' vm' fp', c = [vr', vm'] ∧ QRep h' vr' vm' ((if m ∈ q5 then q5 else q5 ++ [m]).map Int.ofNat) fp' ∧ KeptH g9 h' fQ5 ∧ ∀ b ∈ fp', b ∈ fQ5 ∨ g9 b = none) ?_ ?_
          · have := s50k (x := (m : Int)) K9.q (by rw [List.length_map]; omega)
            rw [put_ofNat] at this
            exact this
          rintro _ _ g10 ⟨rfl, vr', vm', fQ', rfl, hq10, hk10, hf10⟩
          have K10 := K9.setQ hR hk10 hq10 hf10
          refine ⟨K10.q.fits, [.bool (decide ((m : Int) ∉ q5.map Int.ofNat))], ⟨⟨_, rfl⟩, trivial⟩, rfl, ?_⟩
          show J8 [.int .i64 (intOp .add .i64 (j : Int) 1), vr', vm'] g10
          rw [nxt]
          refine hJ8 _ _ ⟨j + 1, _, _, vr', vm', fA9, fQ', rfl, by omega, K10, p1, ?_, hk10.le hb9 hQ8, ?_, fun y hy => (hf10 y hy).elim (hQ8 y) (H.le_none hb9)⟩ ?_
          · have : (if m ∈ q5 then q5 else q5 ++ [m]).length ≤ q5.length + 1 := by split <;> simp
            omega
          · exact hA9
          · simp only [gv_zero, vi_int]; omega
        · replace hc9 : F.chg x (F.pass b z) = false := hc9
          rw [hG.same hmN hmf (hW8.ok hml) hW8.zok hc9, set_same hml] at K9
          show J8 [.int .i64 (intOp .add .i64 (j : Int) 1), vr5, vm5] g9
          rw [nxt]
          refine hJ8 _ _ ⟨j + 1, l5, q5, vr5, vm5, fA9, fQ5, rfl, by omega, K9, hW8.skip hG hx hmN hmf hml hc9, hm8, hb9, hA9, hQ8⟩ ?_
          simp only [gv_zero, vi_int]; omega
      · replace hc8 : cmpOp .lss (j : Int) ((vlen u : Nat) : Int) = false := hc8
        rw [hul, cmp_lss, decide_eq_false_iff_not] at hc8
        have hje : j = D.length := by omega
        subst hje
        show J4 [vr5, vm5] g8
        exact hJ4 _ _ _ ⟨l5, q5, vr5, vm5, fA5, fQ5, rfl, K8, hW8.done fun n h1 h2 => (hTo hTb n).2 ⟨h1, h2⟩, rfl⟩ hm8
    · replace hc5 : cmpOp .gtr ((q.map Int.ofNat).length : Int) 0 = false := hc5
      rw [cmp_gtr, decide_eq_false_iff_not, List.length_map] at hc5
      have hq0 : q = [] := List.eq_nil_of_length_eq_zero (by omega)
      subst hq0
      exact ⟨rfl, K4.le, l, fA4, hRd.solved, K4.a, K4.af, K4.an⟩
end Go.Proofs.YtbbicdfipheaeaaDoor
