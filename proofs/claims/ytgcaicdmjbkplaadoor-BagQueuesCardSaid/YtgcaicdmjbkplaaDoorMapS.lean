/-
  Maps from strings to 'true' (sets of keys), and queues of strings. Conditions: none (definitions and plain lemmas); the contracts': as each says.
-/
import Derived.Test.YtgcaicdmjbkplaaDoorR4Q
import Derived.Test.YtgcaicdmjbkplaaDoorR9Tr
set_option linter.unusedVariables false
set_option linter.unusedSimpArgs false
namespace Go.Proofs.YtgcaicdmjbkplaaDoor
open Go

instance decBytes : DecidableEq ByteArray := fun a b => if h : a.data = b.data then isTrue (by cases a; cases b; simp_all) else isFalse (fun e => h (by rw [e]))
def memB (x : ByteArray) : (l : List ByteArray) → Decidable (x ∈ l)
  | [] => isFalse (by simp)
  | a :: l => if h : x = a then isTrue (by simp [h]) else match memB x l with
    | isTrue h' => isTrue (List.mem_cons_of_mem _ h')
    | isFalse h' => isFalse (by simp [h, h'])
instance decMemB (x : ByteArray) (l : List ByteArray) : Decidable (x ∈ l) := memB x l
/-! ### Maps whose keys are these numbers, each with 'true' -/
def KeyMapS (h : H) (m : Value) (l : List ByteArray) (fm : List Nat) : Prop :=
  (m = .map none ∧ l = [] ∧ fm = []) ∨
  ∃ r es clock, m = .map (some r) ∧ fm = [r] ∧ h r = some (.map es clock) ∧ es.toList.map (·.key) = l.map (.string) ∧ (∀ e ∈ es.toList, e.val = .bool true ∧ e.born < clock) ∧ l.Nodup
theorem KeyMapS.nil {h : H} : KeyMapS h (.map none) [] [] := .inl ⟨rfl, rfl, rfl⟩
theorem KeyMapS.fit {h : H} {m : Value} {l : List ByteArray} {fm : List Nat} (H : KeyMapS h m l fm) : Fits .map m := by
  rcases H with ⟨rfl, rfl, rfl⟩ | ⟨r, es, clock, rfl, rfl, h1, h2, h3, h4⟩
  · exact ⟨_, rfl⟩
  · exact ⟨_, rfl⟩
theorem KeyMapS.agree {h h' : H} {m : Value} {l : List ByteArray} {fm : List Nat} (ha : Agree h h' fm) (H : KeyMapS h m l fm) : KeyMapS h' m l fm := by
  rcases H with ⟨rfl, rfl, rfl⟩ | ⟨r, es, clock, rfl, rfl, h1, h2, h3, h4⟩
  · exact .inl ⟨rfl, rfl, rfl⟩
  · exact .inr ⟨r, es, clock, rfl, rfl, by rw [ha r (List.mem_singleton.2 rfl)]; exact h1, h2, h3, h4⟩
theorem KeyMapS.live {h : H} {m : Value} {l : List ByteArray} {fm : List Nat} (H : KeyMapS h m l fm) : Live h fm := by
  rcases H with ⟨rfl, rfl, rfl⟩ | ⟨r, es, clock, rfl, rfl, h1, h2, h3, h4⟩
  · intro b hb; cases hb
  · intro b' hb; rw [List.mem_singleton] at hb; subst hb; rw [h1]; rfl
theorem KeyMapS.nodup {h : H} {m : Value} {l : List ByteArray} {fm : List Nat} (H : KeyMapS h m l fm) : l.Nodup := by
  rcases H with ⟨rfl, rfl, rfl⟩ | ⟨r, es, clock, rfl, rfl, h1, h2, h3, h4⟩
  · exact List.nodup_nil
  · exact h4
theorem keys_findS {es : Array MapEntry} {l : List ByteArray} (hk : es.toList.map (·.key) = l.map (.string)) (x : ByteArray) :
    (x ∉ l ∧ Instr.findNow .string (.string x) es.toList 0 = some none) ∨ ∃ j e, l[j]? = some x ∧ es[j]? = some e ∧ e.key = .string x ∧ Instr.findNow .string (.string x) es.toList 0 = some (some (j, e.val)) := by
  have hks : ∀ y ∈ es.toList, MapKept.IsKey .string y.key := fun y hy => by
    have : y.key ∈ l.map (.string) := by rw [← hk]; exact List.mem_map.2 ⟨y, hy, rfl⟩
    obtain ⟨n, _, e⟩ := List.mem_map.1 this
    rw [← e]; trivial
  rcases MapKept.findNow_spec (d := .string) (k := .string x) trivial es.toList 0 hks with ⟨h1, h2⟩ | ⟨j, e, h1, h2, h3⟩
  · refine .inl ⟨fun hx => ?_, h1⟩
    have : (Value.string x) ∈ es.toList.map (·.key) := by rw [hk]; exact List.mem_map.2 ⟨x, hx, rfl⟩
    obtain ⟨e, he, e2⟩ := List.mem_map.1 this
    exact h2 e he e2
  · refine .inr ⟨j, e, ?_, by simpa using h2, h3, by simpa using h1⟩
    have e1 : (es.toList.map (·.key))[j]? = some (.string x) := by rw [List.getElem?_map, h2]; simp [h3]
    rw [hk, List.getElem?_map] at e1
    cases hj : l[j]? with
    | none => rw [hj] at e1; cases e1
    | some n => rw [hj] at e1; simp at e1; rw [e1]
theorem KeyMapS.look {h : H} {m : Value} {l : List ByteArray} {fm : List Nat} (H : KeyMapS h m l fm) (x : ByteArray) {K : Value → Bool → Prop} (hK : K (.bool (decide (x ∈ l))) (decide (x ∈ l))) :
    LookSpec h .string .bool (.bool false) m (.string x) K := by
  rcases H with ⟨rfl, rfl, rfl⟩ | ⟨r, es, clock, rfl, rfl, h1, h2, h3, h4⟩
  · exact ⟨⟨_, rfl⟩, by simpa using hK⟩
  · rcases keys_findS h2 x with ⟨k1, k2⟩ | ⟨j, e, k1, k2, k3, k4⟩
    · exact ⟨es, clock, none, h1, k2, ⟨_, rfl⟩, by simpa [k1] using hK⟩
    · have hm : x ∈ l := List.mem_of_getElem? k1
      have hv := (h3 e (by rw [Array.mem_toList_iff, Array.mem_iff_getElem?]; exact ⟨j, k2⟩)).1
      refine ⟨es, clock, some (j, e.val), h1, k4, ?_⟩
      show Fits .bool e.val ∧ K e.val true
      rw [hv]
      exact ⟨⟨_, rfl⟩, by simpa [hm] using hK⟩
theorem KeyMapS.upd {h : H} {m : Value} {l : List ByteArray} {fm : List Nat} (HM : KeyMapS h m l fm) {x : ByteArray} (hx : x ∉ l) (hm : m ≠ .map none) {K : H → Prop}
    (hK : ∀ h', KeyMapS h' m (l ++ [x]) fm → KeptH h h' fm → K h') : UpdSpec h .string m (.string x) (.bool true) K := by
  rcases HM with ⟨rfl, rfl, rfl⟩ | ⟨r, es, clock, rfl, rfl, h1, h2, h3, h4⟩
  · exact absurd rfl hm
  · rcases keys_findS h2 x with ⟨k1, k2⟩ | ⟨j, e, k1, k2, k3, k4⟩
    · refine ⟨es, clock, none, h1, k2, hK _ (.inr ⟨r, _, _, rfl, rfl, H.put_same, ?_, fun e he => ?_, ?_⟩) keptH_put⟩
      · simp [h2]
      · simp only [Array.toList_push, List.mem_append, List.mem_singleton] at he
        rcases he with he | rfl
        · exact ⟨(h3 e he).1, Nat.lt_succ_of_lt (h3 e he).2⟩
        · exact ⟨rfl, Nat.lt_succ_self _⟩
      · exact List.nodup_append.2 ⟨h4, by simp, fun a ha b hb e => by simp at hb; subst hb; subst e; exact hx ha⟩
    · exact absurd (List.mem_of_getElem? k1) hx
theorem KeyMapS.del {h : H} {m : Value} {l : List ByteArray} {fm : List Nat} {x : ByteArray} (HM : KeyMapS h m (x :: l) fm) {K : H → Prop}
    (hK : ∀ h', KeyMapS h' m l fm → KeptH h h' fm → K h') : DelSpec h .string m (.string x) K := by
  rcases HM with ⟨rfl, h0, rfl⟩ | ⟨r, es, clock, rfl, rfl, h1, h2, h3, h4⟩
  · cases h0
  · rcases keys_findS h2 x with ⟨k1, k2⟩ | ⟨j, e, k1, k2, k3, k4⟩
    · exact absurd (List.mem_cons_self ..) k1
    · have hj : j = 0 := by
        cases j with
        | zero => rfl
        | succ j =>
          simp only [List.getElem?_cons_succ] at k1
          exact absurd (List.mem_of_getElem? k1) (List.nodup_cons.1 h4).1
      subst hj
      refine ⟨es, clock, some (0, e.val), h1, k4, hK _ (.inr ⟨r, _, clock, rfl, rfl, H.put_same, ?_, fun e' he => ?_, (List.nodup_cons.1 h4).2⟩) keptH_put⟩
      · have hes : es.toList.map (·.key) = .string x :: l.map (.string) := h2
        have : (es.eraseIdxIfInBounds 0).toList = es.toList.tail := by
          unfold Array.eraseIdxIfInBounds
          split
          · simp [Array.toList_eraseIdx]
          · rename_i hn
            have : es.toList = [] := List.eq_nil_of_length_eq_zero (by simpa using hn)
            rw [this]; rfl
        rw [this, List.map_tail, hes]; rfl
      · have hs : (es.eraseIdxIfInBounds 0).toList.Sublist es.toList := by
          unfold Array.eraseIdxIfInBounds
          split
          · simp only [Array.toList_eraseIdx]; exact List.eraseIdx_sublist _ _
          · exact List.Sublist.refl _
        exact h3 e' (hs.subset he)
/-- An entry laid open for a key that isn't there, then set. -/
theorem KeyMapS.ment {h : H} {m : Value} {l : List ByteArray} {fm : List Nat} (HM : KeyMapS h m l fm) {x : ByteArray} (hx : x ∉ l) (hm : m ≠ .map none) {K : Value → Nat → Go.Proofs.YtgcaicdmjbkplaaDoor.H → Prop}
    (hK : ∀ (h1 : Go.Proofs.YtgcaicdmjbkplaaDoor.H) (n : Nat), KeptH h h1 fm → (∀ {K' : Go.Proofs.YtgcaicdmjbkplaaDoor.H → Prop}, (∀ h', KeyMapS h' m (l ++ [x]) fm → KeptH h h' fm → K' h') → EntSpec h1 m (.int .i64 (n : Int)) (.bool true) K') → K (.bool false) n h1) :
    MentSpec h .string .bool (.bool false) m (.string x) K := by
  rcases HM with ⟨rfl, rfl, rfl⟩ | ⟨r, es, clock, rfl, rfl, h1, h2, h3, h4⟩
  · exact absurd rfl hm
  · rcases keys_findS h2 x with ⟨k1, k2⟩ | ⟨j, e, k1, k2, k3, k4⟩
    · refine ⟨es, clock, none, h1, k2, ⟨_, rfl⟩, hK _ _ keptH_put fun {K'} hK' => ?_⟩
      refine ⟨_, _, es.size, H.put_same, ?_, hK' _ (.inr ⟨r, _, clock + 1, rfl, rfl, H.put_same, ?_, fun e he => ?_, ?_⟩) (KeptH.trans keptH_put keptH_put)⟩
      · simp only [vi_int]
        rw [Array.findIdx?_push]
        have : es.findIdx? (fun e => (e.born : Int) == (clock : Int)) = none := by
          rw [Array.findIdx?_eq_none_iff]
          intro e he
          have := (h3 e (by simpa using he)).2
          simp; omega
        rw [this]; simp
      · have : ((es.push { key := .string x, val := .bool false, born := clock }).modify es.size fun e => { e with val := .bool true }).toList = es.toList ++ [{ key := .string x, val := .bool true, born := clock }] := by
          apply List.ext_getElem?
          intro i
          rw [Array.getElem?_toList, Array.getElem?_modify, Array.getElem?_push]
          by_cases hi : i = es.size
          · subst hi; simp
          · rw [if_neg (fun e => hi e.symm), if_neg hi]
            by_cases hl : i < es.size
            · rw [List.getElem?_append_left (by simpa using hl)]; simp
            · rw [List.getElem?_append_right (by simp; omega)]
              have : i - es.toList.length ≠ 0 := by simp; omega
              rw [Array.getElem?_eq_none (by omega)]
              rw [List.getElem?_eq_none (by simp; omega)]
        rw [this]; simp [h2]
      · have : ((es.push { key := .string x, val := .bool false, born := clock }).modify es.size fun e => { e with val := .bool true }).toList = es.toList ++ [{ key := .string x, val := .bool true, born := clock }] := by
          apply List.ext_getElem?
          intro i
          rw [Array.getElem?_toList, Array.getElem?_modify, Array.getElem?_push]
          by_cases hi : i = es.size
          · subst hi; simp
          · rw [if_neg (fun e => hi e.symm), if_neg hi]
            by_cases hl : i < es.size
            · rw [List.getElem?_append_left (by simpa using hl)]; simp
            · rw [List.getElem?_append_right (by simp; omega)]
              rw [Array.getElem?_eq_none (by omega)]
              rw [List.getElem?_eq_none (by simp; omega)]
        rw [this] at he
        rcases List.mem_append.1 he with he | he
        · exact ⟨(h3 e he).1, Nat.lt_succ_of_lt (h3 e he).2⟩
        · rw [List.mem_singleton] at he; subst he
          exact ⟨rfl, Nat.lt_succ_self _⟩
      · exact List.nodup_append.2 ⟨h4, by simp, fun a ha b hb e => by simp at hb; subst hb; subst e; exact hx ha⟩
    · exact absurd (List.mem_of_getElem? k1) hx

/-! ### Queues of strings -/
def QRepS (h : H) (vr vm : Value) (l : List ByteArray) (fp : List Nat) : Prop := ∃ fr fm, fp = fr ++ fm ∧ (∀ b ∈ fr, b ∉ fm) ∧ RowG h 9 vr (l.map (.string)) fr ∧ KeyMapS h vm l fm
theorem QRepS.agree {h h' : H} {vr vm : Value} {l : List ByteArray} {fp : List Nat} (ha : Agree h h' fp) : QRepS h vr vm l fp → QRepS h' vr vm l fp := fun ⟨fr, fm, e, hd, h1, h2⟩ =>
  ⟨fr, fm, e, hd, h1.agree fun b hb => ha b (by rw [e]; simp [hb]), h2.agree fun b hb => ha b (by rw [e]; simp [hb])⟩
theorem QRepS.live {h : H} {vr vm : Value} {l : List ByteArray} {fp : List Nat} : QRepS h vr vm l fp → Live h fp := fun ⟨fr, fm, e, hd, h1, h2⟩ b hb => by
  rw [e] at hb
  rcases List.mem_append.1 hb with q | q
  · exact h1.live b q
  · exact h2.live b q
theorem QRepS.fits {h : H} {vr vm : Value} {l : List ByteArray} {fp : List Nat} : QRepS h vr vm l fp → FitsL [.sl, .map] [vr, vm] := fun ⟨fr, fm, e, hd, h1, h2⟩ => ⟨h1.fit, h2.fit, trivial⟩
theorem QRepS.nil {h : H} : QRepS h (.slice none 0 0) (.map none) [] [] := ⟨[], [], rfl, by simp, RowG.nil, KeyMapS.nil⟩
theorem zero_str : ((zeroCells Tryd.prog 9).getD []).length = 1 := by kernel_rfl
theorem s26k {h : H} {vr vm : Value} {l : List ByteArray} {fp : List Nat} {x : ByteArray} (hq : QRepS h vr vm l fp) (hl : l.length ≤ 1000000) :
    CallsA Tryd.prog 26 (fun e => [(e 0).ptr 0, .string x]) [[vr, vm]] h (RetC fun r c h' => r = .bool (decide (x ∉ l)) ∧ ∃ vr' vm' fp', c = [vr', vm'] ∧ QRepS h' vr' vm' (if x ∈ l then l else l ++ [x]) fp' ∧ KeptH h h' fp ∧ ∀ b ∈ fp', b ∈ fp ∨ h b = none) := by
  obtain ⟨fr, fm, rfl, hd, hr, hm⟩ := hq
  refine c26k (G := [vr, vm, .string x]) ⟨hr.fit, hm.fit, ⟨_, rfl⟩, trivial⟩ ?_
  refine hm.look x ?_
  refine h_ite (fun hc => ?_) (fun hc => ?_)
  · replace hc : decide (x ∈ l) = true := hc
    rw [decide_eq_true_eq] at hc
    exact ⟨_, rfl, by simp [hc]; rfl, vr, vm, fr ++ fm, rfl, by rw [if_pos hc]; exact ⟨fr, fm, rfl, hd, hr, hm⟩, KeptH.refl _ _, fun b hb => .inl hb⟩
  · replace hc : decide (x ∈ l) = false := hc
    rw [decide_eq_false_iff_not] at hc
    -- what is left, once there is a map
    have go : ∀ {h1 : H} {m : Value} {f1 : List Nat} {G : List Value} {i : Nat} (km : KeyMapS h1 m l f1) (hne : m ≠ .map none) (k1 : KeptH h h1 []) (hf1 : ∀ b ∈ f1, b ∈ fm ∨ h b = none) (e0 : gv G 0 = vr) (e2 : gv G 2 = .string x) (ei : gv G i = m) (hi : i < G.length) (hG : 3 ≤ G.length),
        holds Tryd.prog (RetC fun r c h' => r = .bool (decide (x ∉ l)) ∧ ∃ vr' vm' fp', c = [vr', vm'] ∧ QRepS h' vr' vm' (if x ∈ l then l else l ++ [x]) fp' ∧ KeptH h h' (fr ++ fm) ∧ ∀ b ∈ fp', b ∈ fr ++ fm ∨ h b = none)
          (.app 9 1 16 (.val 0) (.cells [(.str (.var 2))] 1) (.ment .string .bool (.bool false) (.val i) (.str (.var 2)) (.ents (.val i) (.int .i64 (.var (G.length + 2))) (.bool (.tt true)) (.done (.bool (.tt true)) [[(.val G.length), (.val i)]])))) G [] h1 := by
      intro h1 m f1 G i km hne k1 hf1 e0 e2 ei hi hG
      have hr1 : RowG h1 9 vr (l.map (.string)) fr := hr.agree (k1.agree hr.live fun b _ => by simp)
      refine ⟨[.string x], 1, ⟨by simp only [SV.denL, SV.den, X.den, e2, vs_str], rfl⟩, ?_⟩
      show AppSpec _ _ _ _ _ (gv G 0) _ _ _
      rw [e0]
      have hlen := hr.len
      refine app_rowG hr1 zero_str (by rw [hlen]; simp; omega) fun v' h2 f2 m1 m2 m3 => ?_
      have m3' : ∀ b ∈ f2, b ∈ fr ∨ h1 b = none := fun b hb => by
        rcases m3 with rfl | ⟨b', rfl, hb'⟩
        · exact .inl hb
        · rw [List.mem_singleton] at hb; subst hb; exact .inr hb'
      have hlive1 := km.live
      have dis : ∀ b ∈ f1, b ∉ fr := fun b hb hb' => by
        rcases hf1 b hb with q | q
        · exact hd b hb' q
        · have := hr.live b hb'; rw [q] at this; cases this
      have km2 : KeyMapS h2 m l f1 := km.agree (m2.agree hlive1 dis)
      have dis2 : ∀ b ∈ f2, b ∉ f1 := fun b hb hb' => by
        rcases m3' b hb with q | q
        · exact dis b hb' q
        · have := hlive1 b hb'; rw [q] at this; cases this
      have ev : gv (G ++ [v']) i = m := by rw [gv_of_lt hi]; exact ei
      have ev2 : gv (G ++ [v']) 2 = .string x := by rw [gv_of_lt (by omega)]; exact e2
      show MentSpec _ _ _ _ (gv (G ++ [v']) i) (.string (vs (gv (G ++ [v']) 2))) _
      rw [ev, ev2]
      refine km2.ment hc hne fun h3 n k3 hes => ?_
      have ev3 : gv (G ++ [v'] ++ [.bool false, .int .i64 (n : Int)]) i = m := by rw [gv_of_lt (by simp; omega)]; exact ev
      have ev4 : gv (G ++ [v'] ++ [.bool false, .int .i64 (n : Int)]) (G.length + 2) = .int .i64 (n : Int) := gv_at (j := 1) (by simp)
      show EntSpec _ (gv (G ++ [v'] ++ [.bool false, .int .i64 (n : Int)]) i) (.int .i64 (vi (gv (G ++ [v'] ++ [.bool false, .int .i64 (n : Int)]) (G.length + 2)))) (.bool true) _
      rw [ev3, ev4]
      refine hes fun h4 km4 k4 => ?_
      have ev5 : gv (G ++ [v'] ++ [.bool false, .int .i64 (n : Int)]) G.length = v' := by rw [gv_of_lt (by simp)]; exact gv_last
      refine ⟨_, rfl, by simp [hc]; rfl, v', m, f2 ++ f1, ?_, ?_, ?_, ?_⟩
      · show [gv (G ++ [v'] ++ [.bool false, .int .i64 (n : Int)]) G.length, gv (G ++ [v'] ++ [.bool false, .int .i64 (n : Int)]) i] = _
        rw [ev5, ev3]
      · rw [if_neg hc]
        refine ⟨f2, f1, rfl, dis2, ?_, km4⟩
        have := m1.agree (k4.agree m1.live dis2)
        rw [List.map_append]; exact this
      · have c1 : KeptH h h2 (fr ++ fm) := (kept_chain (f := fr ++ fm) (f1 := fr ++ fm) (k1.mono (by simp)) (fun b hb => .inl hb) (m2.mono (by simp_all)) (fun b hb => .inl hb) (f2 := fr ++ fm)).1
        intro b hb hs
        have e := c1 b hb hs
        rw [k4 b (fun hb' => by
          rcases hf1 b hb' with q | q
          · exact hb (by simp [q])
          · rw [q] at hs; cases hs) (by rw [e]; exact hs), e]
      · intro b hb
        rcases List.mem_append.1 hb with q | q
        · rcases m3' b q with q | q
          · exact .inl (by simp [q])
          · exact .inr (H.le_none k1.le_nil q)
        · rcases hf1 b q with q | q
          · exact .inl (by simp [q])
          · exact .inr q
    refine h_ite (fun hn => ?_) (fun hn => ?_)
    · intro b hb
      have hmn : vm = .map none := by
        replace hn : vnil vm = true := hn
        obtain ⟨r, rfl⟩ := hm.fit
        cases r with
        | none => rfl
        | some r => cases hn
      have hl0 : l = [] := by
        rcases hm with ⟨_, h2, _⟩ | ⟨r, es, clock, h0, _⟩
        · exact h2
        · rw [hmn] at h0; cases h0
      refine go (h1 := h.put b (.map #[] 0)) (m := .map (some b)) (f1 := [b]) (i := 5) (.inr ⟨b, #[], 0, rfl, rfl, H.put_same, by rw [hl0]; rfl, fun e he => by simp at he, by rw [hl0]; exact List.nodup_nil⟩) (by simp) (KeptH.put hb _) (fun b' hb' => by rw [List.mem_singleton] at hb'; subst hb'; exact .inr hb) rfl rfl rfl (by simp) (by simp)
    · refine go (h1 := h) (m := vm) (f1 := fm) (i := 1) hm (fun e => ?_) (KeptH.refl _ _) (fun b hb => .inl hb) rfl rfl rfl (by simp) (by simp)
      replace hn : vnil vm = false := hn
      rw [e] at hn; cases hn
theorem s28k {h : H} {vr vm : Value} {l : List ByteArray} {fp : List Nat} (hq : QRepS h vr vm l fp) :
    CallsA Tryd.prog 28 (fun e => [(e 0).ptr 0]) [[vr, vm]] h (RetC fun r c h' => r = .int .i64 (l.length : Int) ∧ c = [vr, vm] ∧ h' = h) := by
  obtain ⟨fr, fm, rfl, hd, hr, hm⟩ := hq
  refine c28k (G := [vr, vm]) ⟨hr.fit, hm.fit, trivial⟩ ?_
  have := hr.len
  refine ⟨_, rfl, ?_, rfl, rfl⟩
  simp only [SV.den, X.den, gv_zero, vi_int, this, List.length_map]
theorem s27k {h : H} {vr vm : Value} {x : ByteArray} {l : List ByteArray} {fp : List Nat} (hq : QRepS h vr vm (x :: l) fp) :
    CallsA Tryd.prog 27 (fun e => [(e 0).ptr 0]) [[vr, vm]] h (RetC fun r c h' => r = .tuple #[.string x, .bool true] ∧ ∃ vr', c = [vr', vm] ∧ QRepS h' vr' vm l fp ∧ KeptH h h' fp) := by
  obtain ⟨fr, fm, rfl, hd, hr, hm⟩ := hq
  refine c27k (G := [vr, vm]) ⟨hr.fit, hm.fit, trivial⟩ ?_
  have hl := hr.len
  simp only [List.length_map, List.length_cons] at hl
  refine h_ite (fun hc => ?_) (fun hc => ?_)
  · simp only [X.den, gv_zero, vi_int, vb_bool, cmp_eql, hl, decide_eq_true_eq] at hc; omega
  · refine ⟨fun _ => ⟨rfl, ?_, trivial⟩, h_load [.string x] ⟨⟨_, rfl⟩, trivial⟩ (fun _ => ?_) ⟨fun _ => ⟨rfl, ?_, trivial⟩, ?_⟩⟩
    · simp only [X.den, gv_zero, vi_int, vb_bool, cmp_lss, hl, decide_eq_true_eq]; omega
    · have := hr.reads (i := 0) (x := .string x) rfl
      exact this
    · simp only [X.den, List.cons_append, gv_zero, vi_int, vb_bool, cmp_leq, hl, decide_eq_true_eq]; omega
    · intro z hz
      have hz' : z = sliceV vr 1 (vlen vr) 1 := hz
      subst hz'
      refine hm.del fun h' km k => ?_
      have ht : RowG h' 9 (sliceV vr 1 (vlen vr) 1) (l.map (.string)) fr := (RowG.tail hr).agree (k.agree hr.live hd)
      exact ⟨_, rfl, rfl, _, rfl, ⟨fr, fm, rfl, hd, ht, km⟩, k.mono (by simp_all)⟩
end Go.Proofs.YtgcaicdmjbkplaaDoor
