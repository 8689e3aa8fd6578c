/-
  Sets as facts: what they hold, put into, joined, made less, where they lie in a row. Conditions: as each contract says.
-/
import Derived.Test.YtbgfabppmobpgaaDoorR5S
import Derived.Test.YtbgfabppmobpgaaDoorR5B
set_option linter.unusedVariables false
set_option linter.unusedSimpArgs false
namespace Go.Proofs.YtbgfabppmobpgaaDoor
open Go

abbrev SP := Nat → Bool
def SetF : RepF SP := fun h cs p fp => ∃ v ws, cs = [v] ∧ SetIs h v ws fp ∧ hasW ws = p
theorem setF_good : GoodF SetF := ⟨fun ha ⟨v, ws, h1, h2, h3⟩ => ⟨v, ws, h1, h2.agree ha, h3⟩, fun ⟨v, ws, h1, h2, h3⟩ => h2.live⟩
def insP (p : SP) (x : Nat) : SP := fun y => p y || decide (y = x)
def orP (p q : SP) : SP := fun y => p y || q y
def lessP (p q : SP) : SP := fun y => p y && !q y
@[irreducible] def cntP (p : SP) : Nat := ((List.range 4096).filter p).length
def Bnd (p : SP) : Prop := ∀ y, p y = true → y < 4096
theorem SetIs.bnd {h : H} {v : Value} {ws : List Int} {fp : List Nat} (k : SetIs h v ws fp) : Bnd (hasW ws) := fun y hy => by
  have := hasW_big hy
  have := k.2.2
  omega
theorem SetIs.nodup {h : H} {v : Value} {ws : List Int} {fp : List Nat} (k : SetIs h v ws fp) : fp.Nodup := rowF_nodup k.1
theorem SetF.bnd {h : H} {cs : List Value} {p : SP} {fp : List Nat} : SetF h cs p fp → Bnd p := fun ⟨v, ws, h1, h2, h3⟩ => by subst h3; exact h2.bnd
theorem SetF.fit1 {h : H} {c : Value} {p : SP} {fp : List Nat} : SetF h [c] p fp → Fits .sl c := fun ⟨v, ws, e, k, _⟩ => by
  obtain rfl : c = v := by simpa using e
  exact k.fit
theorem allW_cnt {ws : List Int} (hl : ws.length ≤ 64) : (allW ws).length = cntP (hasW ws) := by
  unfold allW cntP
  rw [filter_skip (a := 64 * ws.length) (b := 4096) (by omega) fun y h1 h2 => ?_]
  cases e : hasW ws y with
  | false => rfl
  | true => have := hasW_big e; omega
theorem filter_both (p : Nat → Bool) : ∀ l : List Nat, (l.filter p).length + (l.filter fun x => !p x).length = l.length
  | [] => rfl
  | a :: l => by
    have := filter_both p l
    cases h : p a <;> simp [h] <;> omega
theorem cnt_cu (p : SP) : cntP p + cu 4096 p = 4096 := by
  have := filter_both p (List.range 4096)
  rw [List.length_range] at this
  unfold cntP cu
  exact this
theorem or_same {p q : SP} (hq : Bnd q) (h : cntP (orP p q) ≤ cntP p) : orP p q = p := by
  funext y
  cases hp : p y with
  | true => simp [orP, hp]
  | false =>
    cases hqy : q y with
    | false => simp [orP, hp, hqy]
    | true =>
      have h1 := cu_lt (n := 4096) (x := y) (p := p) (q := orP p q) (hq y hqy) hp (by simp [orP, hqy]) (fun z hz => by simp [orP, hz])
      have h2 := cnt_cu p
      have h3 := cnt_cu (orP p q)
      omega
theorem ins_same {p : SP} {x : Nat} (h : p x = true) : insP p x = p := by
  funext y
  unfold insP
  by_cases e : y = x
  · subst e; simp [h]
  · simp [e]
theorem mem_ins {p : SP} {l : List Nat} {x : Nat} (y : Nat) : insP (fun y => p y || decide (y ∈ l)) x y = (p y || decide (y ∈ l ++ [x])) := by
  unfold insP
  simp only [List.mem_append, List.mem_singleton, Bool.decide_or, Bool.or_assoc]

/-! ### A part of a row, changed -/
section
variable {α : Type} {e : TypeId} {R : RepF α} {h : H} {v : Value} {l : List α} {fp : List Nat} {i : Nat} {x : α} {c : List Value} {f : List Nat} {L1 L2 : List (El α)} {fr : List Nat}
theorem Lens.sub (K : Lens e 1 R h v l fp i x c f L1 L2 fr) : ∀ b ∈ f, b ∈ fp := fun b hb => by rw [K.foot]; simp [hb]
theorem lens_foot {f' : List Nat} (K : Lens e 1 R h v l fp i x c f L1 L2 fr) (hf : ∀ b ∈ f', b ∈ f ∨ h b = none) : ∀ b ∈ fr ++ (fpE L1 ++ (f' ++ fpE L2)), b ∈ fp ∨ h b = none := fun z hz => by
  simp only [List.mem_append] at hz
  rw [K.foot]; simp only [List.mem_append]
  rcases hz with q | q | q | q
  · exact .inl (.inl q)
  · exact .inl (.inr (.inl q))
  · rcases hf z q with q | q
    · exact .inl (.inr (.inr (.inl q)))
    · exact .inr q
  · exact .inl (.inr (.inr (.inr q)))
theorem Lens.put1 (hR : GoodF R) (K : Lens e 1 R h v l fp i x c f L1 L2 fr) (hnd : fp.Nodup) {h1 : H} (hk : KeptH h h1 f) {c' : Value} {x' : α} {f' : List Nat} (hx : R h1 [c'] x' f') (hf : ∀ b ∈ f', b ∈ f ∨ h b = none) (hn : f'.Nodup) :
    Writable h1 ((vaddr v).add (i * 1)) 1 ∧ ∃ fp' L1' L2' fr', Lens e 1 R (h1.sets ((vaddr v).add (i * 1)) [c']) v (l.set i x') fp' i x' [c'] f' L1' L2' fr' ∧ SlF e 1 R (h1.sets ((vaddr v).add (i * 1)) [c']) v (l.set i x') fp' ∧ fp'.Nodup ∧ KeptH h (h1.sets ((vaddr v).add (i * 1)) [c']) fp ∧ (∀ b ∈ fp', b ∈ fp ∨ h b = none) ∧ R (h1.sets ((vaddr v).add (i * 1)) [c']) [c'] x' f' := by
  obtain ⟨c0, rfl⟩ : ∃ c0, c = [c0] := List.length_eq_one_iff.1 K.len
  obtain ⟨w1, w2, w3⟩ := K.upd hR hnd hk (o := 0) (N := [c']) (A := []) (B := [c0]) (C := []) rfl rfl rfl (by simp)
  rw [Nat.add_zero] at w1 w2 w3
  have hfr : ∀ z ∈ f', z ∉ fr := fun z hz hz' => by
    rcases hf z hz with q | q
    · exact K.apart hnd z q hz'
    · have := K.row.live z hz'; rw [q] at this; cases this
  have hx' : R (h1.sets ((vaddr v).add (i * 1)) [c']) ([] ++ [c'] ++ []) x' f' := hR.agree (fun z hz => w2 z (hfr z hz)) hx
  have hs := w3 _ _ hx'
  have hilt : i < l.length := by rw [K.list, List.length_append, List.length_map, K.at_]; simp
  have hnew := K.nodup hR hnd hf hn
  -- the part, seen again
  have ar : Agree h (h1.sets ((vaddr v).add (i * 1)) [c']) (fpE L1) := fun z hz => by
    have hz1 : z ∉ fr := fun q => by rw [K.foot] at hnd; exact (List.nodup_append.1 hnd).2.2 z q z (by simp [hz]) rfl
    have hz2 : z ∉ f := fun q => by rw [K.foot] at hnd; exact (List.nodup_append.1 (List.nodup_append.1 hnd).2.1).2.2 z hz z (by simp [q]) rfl
    rw [w2 z hz1, hk z hz2 (K.e1.live hR z hz)]
  have ar2 : Agree h (h1.sets ((vaddr v).add (i * 1)) [c']) (fpE L2) := fun z hz => by
    have hz1 : z ∉ fr := fun q => by rw [K.foot] at hnd; exact (List.nodup_append.1 hnd).2.2 z q z (by simp [hz]) rfl
    have hz2 : z ∉ f := fun q => by rw [K.foot] at hnd; exact (List.nodup_append.1 (List.nodup_append.1 (List.nodup_append.1 hnd).2.1).2.1).2.2 z q z hz rfl
    rw [w2 z hz1, hk z hz2 (K.e2.live hR z hz)]
  have hlist : l.set i x' = L1.map El.x ++ x' :: L2.map El.x := by
    rw [K.list, List.set_append_right _ _ (by rw [List.length_map, K.at_]; omega), List.length_map, K.at_, Nat.sub_self]; rfl
  have hrow : RowF h1 e 1 v ((cellsE L1 ++ []) ++ [c0] ++ ([] ++ cellsE L2)) fr := by
    have hd : ∀ b ∈ fr, b ∉ f := fun b hb hf => K.apart hnd b hf hb
    have := K.row.agree (hk.agree K.row.live hd)
    simpa [List.append_assoc] using this
  obtain ⟨s1, s2⟩ := set_rowF (N := [c']) hrow rfl (by simp)
  have hA : (cellsE L1 ++ []).length = i * 1 := by rw [List.append_nil, K.pre]
  rw [hA] at s1
  refine ⟨w1, fr ++ (fpE L1 ++ (f' ++ fpE L2)), L1, L2, fr, ⟨hlist, rfl, K.at_, by simpa [List.append_assoc] using s1, rfl, hx', K.e1.agree hR ar, K.e2.agree hR ar2⟩, hs, hnew, fun z hz hzs => ?_, lens_foot K hf, hx'⟩
  have hzf : z ∉ f := fun q => hz (K.sub z q)
  have hzr : z ∉ fr := fun q => hz (by rw [K.foot]; simp [q])
  rw [w2 z hzr]; exact hk z hzf hzs
theorem Lens.in1 (hR : GoodF R) (K : Lens e 1 R h v l fp i x c f L1 L2 fr) (hnd : fp.Nodup) {h1 : H} (hk : KeptH h h1 f) {x' : α} {f' : List Nat} (hx : R h1 c x' f') (hf : ∀ b ∈ f', b ∈ f ∨ h b = none) (hn : f'.Nodup) :
    ∃ fp', SlF e 1 R h1 v (l.set i x') fp' ∧ fp'.Nodup ∧ KeptH h h1 fp ∧ ∀ b ∈ fp', b ∈ fp ∨ h b = none := by
  obtain ⟨k1, k2, -⟩ := K.inner hR hnd hk hx hf hn
  exact ⟨_, k1, k2, hk.mono K.sub, lens_foot K hf⟩
end
theorem addr_zero (a : Addr) (i : Nat) : (a.add i).add 0 = a.add i := by rw [add_add]; rfl

/-! ### Put, where the set lies in a row -/
section
variable {e : TypeId} {h : H} {va : Value} {l : List SP} {fp : List Nat} {i x : Nat} {p : SP}
/-- A word of a set's own, set. -/
theorem word_set {h : H} {v : Value} {W : List Int} {f : List Nat} {n : Nat} {x : Nat} {w : Int} (hs : SetIs h v W f) (hi : W[x / 64]? = some w) (hn : n < 18446744073709551616) :
    Writable h ((vaddr v).add (x / 64)) 1 ∧ SetIs (h.sets ((vaddr v).add (x / 64)) [.int .u64 (n : Int)]) v (W.set (x / 64) (n : Int)) f ∧ KeptH h (h.sets ((vaddr v).add (x / 64)) [.int .u64 (n : Int)]) f := by
  obtain ⟨r3, w3, l3⟩ := hs
  have hlt := (List.getElem?_eq_some_iff.1 hi).1
  have hl3 := (rowF_words r3).len
  have hsp : W.map (Value.int .u64) = (W.take (x / 64)).map (.int .u64) ++ [.int .u64 w] ++ (W.drop (x / 64 + 1)).map (.int .u64) := by
    obtain ⟨hlt', rfl⟩ := List.getElem?_eq_some_iff.1 hi
    conv => lhs; rw [← List.take_append_drop (x / 64) W, List.drop_eq_getElem_cons hlt']
    simp only [List.map_append, List.map_cons, List.append_assoc, List.cons_append, List.nil_append]
  have hsp' : (W.set (x / 64) (n : Int)).map (Value.int .u64) = (W.take (x / 64)).map (.int .u64) ++ [.int .u64 (n : Int)] ++ (W.drop (x / 64 + 1)).map (.int .u64) := by
    rw [List.set_eq_take_append_cons_drop, if_pos hlt]
    simp only [List.map_append, List.map_cons, List.append_assoc, List.cons_append, List.nil_append]
  have hal : ((W.take (x / 64)).map (Value.int .u64)).length = x / 64 := by simp; omega
  have r3' := r3
  rw [hsp] at r3'
  obtain ⟨s1, s2⟩ := set_rowF (N := [Value.int .u64 (n : Int)]) r3' rfl (by simp)
  rw [hal, ← hsp'] at s1
  rw [hal] at s2
  refine ⟨?_, ⟨s1, fun w' hw' => ?_, by rw [List.length_set]; exact l3⟩, fun b hb _ => s2 b hb⟩
  · refine r3'.row0.writable ?_
    have e1' := r3'.row0.len
    obtain ⟨aa, nn, cc, e0, _, e3'⟩ := r3'.row0.fit
    rw [e0] at hl3 ⊢
    simp only [vlen_sl] at hl3
    simp only [vcap_sl]
    omega
  · rcases List.mem_or_eq_of_mem_set hw' with q | q
    · exact w3 w' q
    · subst q; omega
theorem s32p (k : SlF e 1 SetF h va l fp) (hnd : fp.Nodup) (hi : l[i]? = some p) (hx : x < 4096) :
    CallsA Tryd.prog 32 (fun _ => [.pointer (some ((vaddr va).add (i * 1))), .int .i64 (x : Int)]) [] h (Ret fun r h' => r = .bool (!p x) ∧ ∃ fp', SlF e 1 SetF h' va (l.set i (insP p x)) fp' ∧ fp'.Nodup ∧ KeptH h h' fp ∧ ∀ b ∈ fp', b ∈ fp ∨ h b = none) := by
  refine c32 (G := [.pointer (some ((vaddr va).add (i * 1))), .int .i64 (x : Int)]) ⟨⟨_, rfl⟩, ⟨_, rfl⟩, trivial⟩ ?_
  obtain ⟨c, f, L1, L2, fr, K⟩ := k.lens hi
  obtain ⟨v, ws, rfl, hs, hp⟩ := K.rep
  have hwd := rowF_words hs.1
  have rd : Reads h ((vaddr va).add (i * 1)) [v] := K.reads (o := 0) fun k z hk => by obtain ⟨rfl, rfl⟩ := get_one hk; rfl
  refine h_load [v] ⟨hwd.fit, trivial⟩ (fun _ => rd) (h_ite (fun _ => ?_) (fun hc => ?_))
  · refine h_call0 (s44 hwd hs.2.1 hx) ?_
    rintro _ h1 ⟨e1, rfl⟩
    have e1' := e1.symm
    subst e1'
    refine ⟨[.bool (hasW ws x)], ⟨⟨_, rfl⟩, trivial⟩, rfl, h_ite (fun hc => ?_) (fun hc => ?_)⟩
    · replace hc : hasW ws x = true := hc
      rw [hp] at hc
      refine ⟨rfl, by rw [hc]; rfl, fp, ?_, hnd, KeptH.refl _ _, fun b hb => .inl hb⟩
      rw [ins_same hc, set_same hi]; exact k
    · replace hc : hasW ws x = false := hc
      simp only [List.cons_append, List.nil_append]
      refine h_loopM (fun n xs h' => ∃ v3 ws3 f3 fp3 L1 L2 fr, xs = [] ∧ Lens e 1 SetF h' va l fp3 i p [v3] f3 L1 L2 fr ∧ SetIs h' v3 ws3 f3 ∧ hasW ws3 = p ∧ SlF e 1 SetF h' va l fp3 ∧ fp3.Nodup ∧ KeptH h h' fp ∧ (∀ b ∈ fp3, b ∈ fp ∨ h b = none) ∧ n = 100 - ws3.length) _
        ⟨v, ws, f, fp, L1, L2, fr, rfl, K, hs, hp, k, hnd, KeptH.refl _ _, fun b hb => .inl hb, rfl⟩ ?_
      rintro n xs h' J - ⟨v3, ws3, f3, fp3, L1, L2, fr, rfl, K3, hs3, hp3, k3, hnd3, kk3, ff3, hn3⟩ hJ
      have hwd3 := rowF_words hs3.1
      have hl3 := hwd3.len
      have rd3 : Reads h' (((vaddr va).add (i * 1)).add 0) [v3] := by
        rw [addr_zero]
        exact K3.reads (o := 0) fun k z hk => by obtain ⟨rfl, rfl⟩ := get_one hk; rfl
      refine h_load [v3] ⟨hwd3.fit, trivial⟩ (fun _ => rd3) (h_ite (fun hc2 => ?_) (fun hc2 => ?_))
      · simp only [X.den, List.cons_append, List.nil_append, List.append_nil, gv_zero, gv_succ, vi_int, vb_bool, quo_64 hx, hl3, cmp_leq, decide_eq_true_eq] at hc2
        refine h_load [v3] ⟨hwd3.fit, trivial⟩ (fun _ => rd3) ⟨[.int .u64 0], 1, ⟨rfl, rfl⟩, ?_⟩
        show AppSpec _ _ _ _ _ v3 _ _ _
        refine app_rowF hs3.1 rfl (by rw [zero_u64]; rfl) (by rw [hl3]; omega) fun v' h4 f4 m1 m2 m3 m4 => ?_
        have m4' : ∀ b ∈ f4, b ∈ f3 ∨ h' b = none := fun b hb => by
          rcases m4 with rfl | ⟨b', rfl, hb'⟩
          · exact .inl hb
          · rw [List.mem_singleton] at hb; subst hb; exact .inr hb'
        have hs4 : SetIs h4 v' (ws3 ++ [0]) f4 := ⟨by rw [List.map_append]; exact m1, fun w hw' => by
          rcases List.mem_append.1 hw' with q | q
          · exact hs3.2.1 w q
          · simp at q; omega, by simp; omega⟩
        have hp4 : hasW (ws3 ++ [0]) = p := by rw [← hp3]; funext y; exact hasW_pad ws3 1 y
        obtain ⟨w1, fp5, L1', L2', fr', w2, w3, w4, w5, w6, w7⟩ := K3.put1 setF_good hnd3 m3 (c' := v') (x' := p) ⟨v', _, rfl, hs4, hp4⟩ m4' hs4.nodup
        rw [set_same hi] at w2 w3
        refine h_store ((vaddr va).add (i * 1)) [v'] (addr_zero _ _) rfl w1 ?_
        obtain ⟨v8, ws8, e8, hs8, hp8⟩ := w7
        obtain rfl : v' = v8 := by simpa using e8
        obtain ⟨q1, q2⟩ := kept_chain kk3 ff3 w5 w6
        have hlen8 : ws8.length = ws3.length + 1 := by
          have a1 := (rowF_words hs8.1).len
          have a2 := (rowF_words hs4.1).len
          rw [List.length_append] at a2
          simp at a2; omega
        refine hJ (100 - ws8.length) _ _ ⟨v', ws8, f4, fp5, L1', L2', fr', rfl, w2, hs8, hp8, w3, w4, q1, q2, rfl⟩ (by rw [hn3, hlen8]; omega)
      · simp only [X.den, List.cons_append, List.nil_append, List.append_nil, gv_zero, gv_succ, vi_int, vb_bool, quo_64 hx, hl3, cmp_leq, decide_eq_false_iff_not] at hc2
        have hlt : x / 64 < ws3.length := by omega
        have hiw : ws3[x / 64]? = some ws3[x / 64] := List.getElem?_eq_getElem hlt
        have hm : ws3[x / 64] ∈ ws3 := List.getElem_mem _
        generalize ws3[x / 64] = w at hiw hm
        obtain ⟨n', e1, e2, e3⟩ := bit_set (hs3.2.1 w hm) (Nat.mod_lt x (by decide : 0 < 64))
        obtain ⟨u1, u2, u3⟩ := word_set hs3 hiw e2
        have nd : ∀ D : List Value, needs (.pointer (some ((vaddr va).add (i * 1))) :: .int .i64 (x : Int) :: v :: .bool (hasW ws x) :: v3 :: v3 :: D) [(.cmp .geq (.op .quo .i64 (.var 1) (.lit 64)) (.lit 0)), (.cmp .lss (.op .quo .i64 (.var 1) (.lit 64)) (.len 5))] := fun D => by
          simp only [needs, X.den, gv_zero, gv_succ, vi_int, vb_bool, quo_64 hx, hl3, cmp_geq, cmp_lss, decide_eq_true_eq, and_true]; omega
        refine h_load [v3] ⟨hwd3.fit, trivial⟩ (fun _ => rd3) ⟨fun _ => nd _, h_load [.int .u64 w] ⟨⟨_, rfl⟩, trivial⟩ (fun _ => ?_) ⟨fun _ => ?_, fun _ => nd _, ?_⟩⟩
        · have := hwd3.read hiw
          simp only [PE.den, X.den, List.cons_append, List.nil_append, List.append_nil, gv_zero, gv_succ, vi_int, quo_64 hx, Int.toNat_natCast]; exact this
        · simp only [needs, X.den, gv_zero, gv_succ, List.cons_append, List.nil_append, List.append_nil, vi_int, vb_bool, rem_64, cmp_geq, decide_eq_true_eq, and_true]; omega
        · refine h_store ((vaddr v3).add (x / 64)) [.int .u64 (n' : Int)] ?_ ?_ u1 ?_
          · simp only [PE.den, X.den, List.cons_append, List.nil_append, List.append_nil, gv_zero, gv_succ, vi_int, quo_64 hx, Int.toNat_natCast, Nat.mul_one]
          · simp only [SV.denL, SV.den, X.den, List.cons_append, List.nil_append, List.append_nil, gv_zero, gv_succ, vi_int, rem_64, e1]
          · obtain ⟨fp5, w2, w4, w5, w6⟩ := K3.in1 setF_good hnd3 u3 (x' := insP p x) ⟨v3, _, rfl, u2, by rw [← hp3]; funext y; exact hasW_set hiw e3 y⟩ (fun b hb => .inl hb) u2.nodup
            obtain ⟨q1, q2⟩ := kept_chain kk3 ff3 w5 w6
            exact ⟨rfl, by rw [← hp, hc]; rfl, fp5, w2, w4, q1, q2⟩
  · simp only [X.den, List.cons_append, List.nil_append, gv_zero, gv_succ, vi_int, vb_ite, vb_bool, cmp_lss, cmp_geq, decide_eq_true_eq] at hc
    rw [if_neg (by omega)] at hc
    simp at hc
    omega
/-! ### Join, where the set lies in a row -/
theorem s52p (ht : Tab h) (k : SlF e 1 SetF h va l fp) (hnd : fp.Nodup) (hi : l[i]? = some p) {o : Value} {q : SP} {fo : List Nat} (ho : SetF h [o] q fo) (hd : ∀ b ∈ fo, b ∉ fp) :
    CallsA Tryd.prog 52 (fun _ => [.pointer (some ((vaddr va).add (i * 1))), .agg #[o]]) [] h (Ret fun r h' => r = .bool (decide (cntP p < cntP (orP p q))) ∧ ∃ fp', SlF e 1 SetF h' va (l.set i (orP p q)) fp' ∧ fp'.Nodup ∧ KeptH h h' fp ∧ ∀ b ∈ fp', b ∈ fp ∨ h b = none) := by
  obtain ⟨o', wo, eo, hso, hqo⟩ := ho
  obtain rfl : o = o' := by simpa using eo
  have hwo := rowF_words hso.1
  refine c52 (G := [.pointer (some ((vaddr va).add (i * 1))), o]) ⟨⟨_, rfl⟩, hwo.fit, trivial⟩ ?_
  obtain ⟨c, f, L1, L2, fr, K⟩ := k.lens hi
  obtain ⟨v, ws, rfl, hs, hp⟩ := K.rep
  have hwd := rowF_words hs.1
  have rd : Reads h ((vaddr va).add (i * 1)) [v] := K.reads (o := 0) fun k z hk => by obtain ⟨rfl, rfl⟩ := get_one hk; rfl
  refine h_load [v] ⟨hwd.fit, trivial⟩ (fun _ => rd) ?_
  simp only [List.cons_append, List.nil_append]
  refine h_call0 (s61 hwd hs.2.1 hs.2.2) ?_
  rintro _ g1 ⟨e1, rfl⟩
  have e1' := e1.symm
  subst e1'
  rw [allW_cnt hs.2.2, hp]
  refine ⟨[.int .i64 (cntP p : Int)], ⟨⟨_, rfl⟩, trivial⟩, rfl, ?_⟩
  simp only [List.cons_append, List.nil_append]
  refine h_call0 (s45 ht hwo hso.2.1 hso.2.2) ?_
  rintro vl g2 ⟨hl2, hall⟩
  have hil := hall.ints.len
  rw [List.length_map] at hil
  refine ⟨[vl], ⟨hall.ints.fit, trivial⟩, rfl, ?_⟩
  simp only [List.cons_append, List.nil_append]
  have k2 := k.agree setF_good (le_agree' hl2 (k.live setF_good))
  obtain ⟨hb, hbd⟩ : ∃ hb, hb = H.cut g2 fp := ⟨_, rfl⟩
  have hbl : hb.le g2 := by rw [hbd]; exact H.cut_le _ _
  have hfb : Fresh hb fp := by rw [hbd]; exact H.cut_fresh _ _
  have hA : IntsAt hb vl ((allW wo).map Int.ofNat) := by rw [hbd]; exact OwnInts.ints (Row.cut hall (k.live setF_good))
  have hal : (allW wo).length ≤ 4096 := by
    unfold allW
    have := List.length_filter_le (hasW wo) (List.range (64 * wo.length))
    rw [List.length_range] at this
    have := hso.2.2
    omega
  refine h_loop (fun xs h5 => ∃ (j : Nat) (f5 : List Nat), xs = [.int .i64 (j : Int)] ∧ j ≤ (allW wo).length ∧ SlF e 1 SetF h5 va (l.set i fun y => p y || decide (y ∈ (allW wo).take j)) f5 ∧ f5.Nodup ∧ KeptH g2 h5 fp ∧ (∀ x ∈ f5, x ∈ fp ∨ g2 x = none))
    (fun xs h' => ((allW wo).length - vi (gv xs 0)).toNat) ⟨0, fp, rfl, by omega, ?_, hnd, KeptH.refl _ _, fun x hx => .inl hx⟩ ?_
  · have : (fun y => p y || decide (y ∈ (allW wo).take 0)) = p := by funext y; simp
    rw [this, set_same hi]; exact k2
  rintro xs h5 J - ⟨j, f5, rfl, hj, k5, hnd5, hk5, hn5⟩ hJ
  simp only [List.cons_append, List.nil_append]
  have hb5 : hb.le h5 := hk5.le hbl hfb
  have hlt := (List.getElem?_eq_some_iff.1 hi).1
  have hi5 : (l.set i fun y => p y || decide (y ∈ (allW wo).take j))[i]? = some fun y => p y || decide (y ∈ (allW wo).take j) := List.getElem?_set_self hlt
  refine h_ite (fun hc => ?_) (fun hc => ?_)
  · replace hc : cmpOp .lss (j : Int) ((vlen vl : Nat) : Int) = true := hc
    rw [hil, cmp_lss, decide_eq_true_eq] at hc
    have hil' : j < (allW wo).length := by omega
    have hx : (allW wo)[j]? = some (allW wo)[j] := List.getElem?_eq_getElem hil'
    have hxm : (allW wo)[j] ∈ allW wo := List.getElem_mem _
    generalize (allW wo)[j] = x at hx hxm
    have hx4 := hso.bnd x (mem_allW.1 hxm)
    have hxI : ((allW wo).map Int.ofNat)[j]? = some (x : Int) := by rw [List.getElem?_map, hx]; rfl
    refine ⟨fun _ => ⟨ge0 j, by show cmpOp .lss (j : Int) ((vlen vl : Nat) : Int) = true; rw [hil]; exact ltN hil', trivial⟩, h_load [.int .i64 (x : Int)] ⟨⟨_, rfl⟩, trivial⟩ (fun _ => (hA.le hb5).read hxI) ?_⟩
    simp only [List.cons_append, List.nil_append]
    refine h_call0 (s32p (x := x) k5 hnd5 hi5 hx4) ?_
    rintro _ h6 ⟨rfl, f6, k6, hnd6, hk6, hn6⟩
    refine ⟨[.bool (!(p x || decide (x ∈ (allW wo).take j)))], ⟨⟨_, rfl⟩, trivial⟩, rfl, ?_⟩
    obtain ⟨q1, q2⟩ := kept_chain hk5 hn5 hk6 hn6
    show J [.int .i64 (intOp .add .i64 (j : Int) 1)] h6
    rw [int_add_one (n := 5000) (by omega) (by omega)]
    refine hJ _ _ ⟨j + 1, f6, rfl, by omega, ?_, hnd6, q1, q2⟩ ?_
    · have : insP (fun y => p y || decide (y ∈ (allW wo).take j)) x = fun y => p y || decide (y ∈ (allW wo).take (j + 1)) := by
        funext y
        rw [mem_ins, List.take_add_one, hx]; rfl
      rw [this, List.set_set] at k6
      exact k6
    · simp only [gv_zero, vi_int]; omega
  · replace hc : cmpOp .lss (j : Int) ((vlen vl : Nat) : Int) = false := hc
    rw [hil, cmp_lss, decide_eq_false_iff_not] at hc
    have hie : j = (allW wo).length := by omega
    have hfin : (fun y => p y || decide (y ∈ (allW wo).take j)) = orP p q := by
      funext y
      rw [hie, List.take_length]
      unfold orP
      congr 1
      rw [← hqo]
      cases e : hasW wo y with
      | true => simpa using mem_allW.2 e
      | false =>
        have : y ∉ allW wo := fun q => by rw [mem_allW.1 q] at e; cases e
        simpa using this
    rw [hfin] at k5 hi5
    obtain ⟨c6, fc6, ⟨v6, ws6, e6, hs6, hp6⟩, rd6, -⟩ := k5.get1 hi5
    obtain rfl : c6 = v6 := by simpa using e6
    have hwd6 := rowF_words hs6.1
    refine h_load [c6] ⟨hwd6.fit, trivial⟩ (fun _ => rd6) ?_
    simp only [List.cons_append, List.nil_append]
    refine h_call0 (s61 hwd6 hs6.2.1 hs6.2.2) ?_
    rintro _ g7 ⟨e7, rfl⟩
    have e7' := e7.symm
    subst e7'
    rw [allW_cnt hs6.2.2, hp6]
    refine ⟨[.int .i64 (cntP (orP p q) : Int)], ⟨⟨_, rfl⟩, trivial⟩, rfl, ?_⟩
    obtain ⟨q1, q2⟩ := kept_chain (f := fp) (f1 := fp) (hl2.kept.mono (by simp)) (fun b hb => .inl hb) hk5 hn5
    refine ⟨rfl, ?_, f5, k5, hnd5, q1, q2⟩
    show Value.bool (cmpOp .gtr (cntP (orP p q) : Int) (cntP p : Int)) = _
    rw [cmp_gtr]
    congr 1
    exact decide_eq_decide.2 (by omega)
end
end Go.Proofs.YtbgfabppmobpgaaDoor
