/-
  A chunk lent out of an object; sets met, put into and cut where they lie in an object. Conditions: as each contract says.
-/
import Derived.Test.YtbgfabppmobpgaaDoorR6B
import Derived.Test.YtbgfabppmobpgaaDoorR6C
import Derived.Test.YtbgfabppmobpgaaDoorR6Tc
set_option linter.unusedVariables false
set_option linter.unusedSimpArgs false
namespace Go.Proofs.YtbgfabppmobpgaaDoor
open Go

/-- A call with a pointer into an object at hand, where a contract says what is done with a chunk. -/
theorem CallsA.lend {P : Program} {f : FuncId} {rest A C M : List Value} {h : H} {b : Nat} {e : TypeId} {k : Nat} {R : Value → List (List Value) → H → Prop} (hA : A.length = k) (hb : h b = some (.cells (A ++ M ++ C).toArray e (0, 0)))
    (HC : CallsA P f (fun e => (e 0).ptr 0 :: rest) [M] (H.cut h [b]) R) : CallsA P f (fun _ => .pointer (some ⟨b, k, none⟩) :: rest) [] h (fun r cs h' => cs = [] ∧ ∃ M' h1, M'.length = M.length ∧ R r [M'] h1 ∧ h1 b = none ∧ h' = h1.put b (.cells (A ++ M' ++ C).toArray e (0, 0))) := by
  subst hA
  intro w El hl hch hn hp hs
  obtain rfl : El = [] := List.eq_nil_of_length_eq_zero hl
  obtain ⟨c, hc⟩ : ∃ c : CE, c = ⟨b, A, C, e, (0, 0)⟩ := ⟨_, rfl⟩
  have hcut : ∀ z o, H.cut h [b] z = some o → z ≠ b ∧ h z = some o := fun z o q => by
    unfold H.cut at q
    split at q
    · cases q
    · rename_i hz; exact ⟨fun e => hz (by rw [e]; simp), q⟩
  have hfree : ∀ n, c.free n := fun n i hi => by rw [hc]; simp
  have hptr : c.ptr 0 = .pointer (some ⟨b, A.length, none⟩) := by rw [hc]; simp [CE.ptr, CE.at]
  have := HC w [c] rfl (fun i d l h1 h2 => by
      cases i with
      | zero =>
        simp at h1 h2; subst h1; subst h2
        refine ⟨hfree _, ?_⟩
        rw [hc]; exact hs _ _ hb
      | succ i => simp at h1) (fun d hd => by rw [List.mem_singleton] at hd; subst hd; rw [hc]; simp [H.cut]) (by simp) (fun z o q => hs _ _ (hcut z o q).2)
  simp only [List.getD_cons_zero, hptr] at this
  refine this.mono ?_
  rintro e' w' ⟨v, cs', h', he, hR, hlen, hch', hfrm, hsub, hnone⟩
  obtain ⟨M', rfl⟩ : ∃ M', cs' = [M'] := by
    cases cs' with
    | nil => simp at hlen
    | cons a t => cases t with
      | nil => exact ⟨a, rfl⟩
      | cons d u => simp at hlen
  simp only [List.map_cons, List.map_nil, List.cons.injEq, and_true] at hlen
  obtain ⟨hf2, hh2⟩ := hch' 0 c M' rfl rfl
  have hb0 : h' b = none := by have := hnone c (by simp); rw [hc] at this; exact this
  refine ⟨v, [], h'.put b (.cells (A ++ M' ++ C).toArray e (0, 0)), he, ⟨rfl, M', h', hlen, hR, hb0, rfl⟩, rfl, fun i d l h1 h2 => by simp at h1, ?_, ?_, fun d hd => by cases hd⟩
  · refine ⟨hfrm.size, hfrm.os, hfrm.tape, hfrm.out, fun z h1 h2 h3 => ?_⟩
    have hzb : z ≠ b := fun q => by rw [q] at h2; have h2' : h b = none := h2; rw [hb] at h2'; cases h2'
    have h2' : h z = none := h2
    obtain ⟨q1, q2⟩ := hfrm.keep z h1 (by show H.cut h [b] z = none; unfold H.cut; split <;> simp_all) (fun ⟨d, hd, hd2⟩ => hzb (by rw [List.mem_singleton] at hd; subst hd; rw [hc] at hd2; exact hd2.symm))
    exact ⟨q1, by rw [H.put_other hzb]; exact q2⟩
  · intro z o q
    by_cases hz : z = b
    · subst hz
      rw [H.put_same] at q
      cases q
      rw [hc] at hh2; exact hh2
    · rw [H.put_other hz] at q; exact hsub z o q
theorem mask_and {a b : Nat} (ha : a < 18446744073709551616) (hb : b < 18446744073709551616) : intOp .and .u64 (a : Int) (b : Int) = ((a &&& b : Nat) : Int) ∧ a &&& b < 18446744073709551616 := by
  have hlt : a &&& b < 2 ^ 64 := Nat.and_lt_two_pow a hb
  exact ⟨bit_and ha hb, hlt⟩
def meetP (p q : SP) : SP := fun y => p y && q y
/-- What meeting makes of words. -/
def meetW (ws vs : List Int) : List Int := (List.range ws.length).map fun i => if i < vs.length then (((ws.getD i 0).toNat &&& (vs.getD i 0).toNat : Nat) : Int) else (0 : Int)
theorem meetW_len (ws vs : List Int) : (meetW ws vs).length = ws.length := by simp [meetW]
theorem meetW_at {ws vs : List Int} {i : Nat} (hi : i < ws.length) : (meetW ws vs)[i]? = some (if i < vs.length then (((ws.getD i 0).toNat &&& (vs.getD i 0).toNat : Nat) : Int) else (0 : Int)) := by
  unfold meetW; rw [List.getElem?_map, List.getElem?_range hi]; rfl
theorem hasW_meet (ws vs : List Int) : hasW (meetW ws vs) = meetP (hasW ws) (hasW vs) := by
  funext x
  unfold meetP hasW
  by_cases hi : x / 64 < ws.length
  · have e : (meetW ws vs).getD (x / 64) 0 = if x / 64 < vs.length then (((ws.getD (x / 64) 0).toNat &&& (vs.getD (x / 64) 0).toNat : Nat) : Int) else (0 : Int) := by
      rw [List.getD_eq_getElem?_getD, meetW_at hi]; rfl
    rw [e]
    by_cases hv : x / 64 < vs.length
    · rw [if_pos hv, Int.toNat_natCast, Nat.testBit_and]
    · rw [if_neg hv, List.getD_eq_getElem?_getD (l := vs), List.getElem?_eq_none (by omega)]; simp
  · rw [List.getD_eq_getElem?_getD, List.getElem?_eq_none (by rw [meetW_len]; omega), List.getD_eq_getElem?_getD (l := ws), List.getElem?_eq_none (by omega)]; simp
section
variable {h : H} {v o : Value} {ws wo : List Int} {fp : List Nat}
theorem s53k (hs : SetIs h v ws fp) (ho : WordsAt h o wo) (hwo : InW wo) (hlo : wo.length ≤ 64) (hd : ∀ h', KeptH h h' fp → WordsAt h' o wo) :
    CallsA Tryd.prog 53 (fun e => [(e 0).ptr 0, .agg #[o]]) [[v]] h (RetC fun r c h' => r = .tuple #[] ∧ c = [v] ∧ SetIs h' v (meetW ws wo) fp ∧ KeptH h h' fp) := by
  have hwd := rowF_words hs.1
  refine c53k (G := [v, o]) ⟨hwd.fit, ho.fit, trivial⟩ ?_
  have hvl := hwd.len
  have hol := ho.len
  have hl64 := hs.2.2
  refine h_loop (fun xs h' => ∃ i : Nat, xs = [natV i] ∧ i ≤ ws.length ∧ SetIs h' v ((meetW ws wo).take i ++ ws.drop i) fp ∧ KeptH h h' fp) (fun xs h' => ws.length - (vi (gv xs 0)).toNat) ⟨0, rfl, Nat.zero_le _, by simpa using hs, KeptH.refl _ _⟩ ?_
  rintro xs h1 J - ⟨i, rfl, hi, k1, q1⟩ hJ
  refine h_ite (fun hc => ?_) (fun hc => ?_)
  · replace hc : cmpOp .lss (i : Int) ((vlen v : Nat) : Int) = true := hc
    rw [hvl, cmp_lss, decide_eq_true_eq] at hc
    have hil : i < ws.length := by omega
    have hx : ws[i]? = some (ws.getD i 0) := by rw [List.getD_eq_getElem?_getD, List.getElem?_eq_getElem hil]; rfl
    have hcur : ((meetW ws wo).take i ++ ws.drop i)[i]? = some (ws.getD i 0) := by
      rw [List.getElem?_append_right (by rw [List.length_take, meetW_len]; omega), List.length_take, meetW_len, Nat.min_eq_left (by omega), Nat.sub_self, List.getElem?_drop, Nat.add_zero]; exact hx
    have hst : ∀ y : Nat, (((meetW ws wo).take i ++ ws.drop i).set i (y : Int)) = (meetW ws wo).take i ++ (y : Int) :: ws.drop (i + 1) := fun y => by
      rw [List.set_append_right _ _ (by rw [List.length_take, meetW_len]; omega), List.length_take, meetW_len, Nat.min_eq_left (by omega), Nat.sub_self, List.drop_eq_getElem_cons hil]; rfl
    have hnext : ∀ y : Nat, (meetW ws wo)[i]? = some (y : Int) → (((meetW ws wo).take i ++ ws.drop i).set i (y : Int)) = (meetW ws wo).take (i + 1) ++ ws.drop (i + 1) := fun y hy => by
      rw [hst, List.take_add_one, hy]; simp
    have again : ∀ {h2 : H} {y : Nat}, (meetW ws wo)[i]? = some (y : Int) → SetIs h2 v (((meetW ws wo).take i ++ ws.drop i).set i (y : Int)) fp → KeptH h1 h2 fp → J [.int .i64 (intOp .add .i64 (i : Int) 1)] h2 := fun {h2 y} hy k2 q2 => by
      rw [int_add_one (n := 1000) (by omega) (by omega)]
      exact hJ _ _ ⟨i + 1, rfl, by omega, by rw [← hnext y hy]; exact k2, q1.trans q2⟩ (by simp only [gv_zero, vi_int]; omega)
    have hxm : ws.getD i 0 ∈ ws := List.mem_of_getElem? hx
    have hxb := hs.2.1 _ hxm
    have nI : ∀ {D : List Value}, gv D 2 = natV i → gv D 0 = v → needs D [(.cmp .geq (.var 2) (.lit 0)), (.cmp .lss (.var 2) (.len 0))] := fun e1 e2 => needIx e1 e2 hvl hil
    have hwd1 := rowF_words k1.1
    have hmw := meetW_at (ws := ws) (vs := wo) hil
    refine h_ite (fun hd2 => ?_) (fun hd2 => ?_)
    · replace hd2 : cmpOp .lss (i : Int) ((vlen o : Nat) : Int) = true := hd2
      rw [hol, cmp_lss, decide_eq_true_eq] at hd2
      have hio : i < wo.length := by omega
      have hy : wo[i]? = some (wo.getD i 0) := by rw [List.getD_eq_getElem?_getD, List.getElem?_eq_getElem hio]; rfl
      have hyb := hwo _ (List.mem_of_getElem? hy)
      rw [if_pos hio] at hmw
      generalize ws.getD i 0 = a at *
      generalize wo.getD i 0 = c at *
      obtain ⟨a, rfl⟩ : ∃ n : Nat, a = n := ⟨a.toNat, by omega⟩
      obtain ⟨c, rfl⟩ : ∃ n : Nat, c = n := ⟨c.toNat, by omega⟩
      simp only [Int.toNat_natCast] at hmw
      obtain ⟨m1, m2⟩ := mask_and (a := a) (b := c) (by omega) (by omega)
      obtain ⟨u1, u2, u3⟩ := word_set (x := 64 * i) (n := a &&& c) k1 (by rw [Nat.mul_div_cancel_left i (by omega)]; exact hcur) m2
      rw [Nat.mul_div_cancel_left i (by omega : 0 < 64)] at u1 u2 u3
      refine ⟨fun _ => nI rfl rfl, h_load [.int .u64 (a : Int)] ⟨⟨_, rfl⟩, trivial⟩ (fun _ => WordsAt.read hwd1 hcur) ⟨fun _ => needIx (i := i) (v := o) rfl rfl hol hio, h_load [.int .u64 (c : Int)] ⟨⟨_, rfl⟩, trivial⟩ (fun _ => WordsAt.read (hd h1 q1) hy) ⟨fun _ => nI rfl rfl, ?_⟩⟩⟩
      refine h_store ((vaddr v).add i) [.int .u64 ((a &&& c : Nat) : Int)] (by show (vaddr v).add (i * 1) = _; rw [Nat.mul_one]) (by show [Value.int .u64 (intOp .and .u64 (a : Int) (c : Int))] = _; rw [m1]) u1 ?_
      exact again hmw u2 u3
    · replace hd2 : cmpOp .lss (i : Int) ((vlen o : Nat) : Int) = false := hd2
      rw [hol, cmp_lss, decide_eq_false_iff_not] at hd2
      rw [if_neg (by omega)] at hmw
      obtain ⟨u1, u2, u3⟩ := word_set (x := 64 * i) (n := 0) k1 (by rw [Nat.mul_div_cancel_left i (by omega)]; exact hcur) (by omega)
      rw [Nat.mul_div_cancel_left i (by omega : 0 < 64)] at u1 u2 u3
      refine ⟨fun _ => nI rfl rfl, ?_⟩
      refine h_store ((vaddr v).add i) [.int .u64 0] (by show (vaddr v).add (i * 1) = _; rw [Nat.mul_one]) rfl u1 ?_
      exact again (y := 0) hmw u2 u3
  · replace hc : cmpOp .lss (i : Int) ((vlen v : Nat) : Int) = false := hc
    rw [hvl, cmp_lss, decide_eq_false_iff_not] at hc
    obtain rfl : i = ws.length := by omega
    refine ⟨_, rfl, rfl, rfl, ?_, q1⟩
    rw [List.drop_length, List.append_nil, List.take_of_length_le (by rw [meetW_len]; exact Nat.le_refl _)] at k1
    exact k1
end
end Go.Proofs.YtbgfabppmobpgaaDoor
