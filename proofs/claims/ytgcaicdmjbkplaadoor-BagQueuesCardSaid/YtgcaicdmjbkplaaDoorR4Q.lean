/-
  Queues, which blocks follow, rows. Conditions: as each contract says.
-/
import Derived.Test.YtgcaicdmjbkplaaDoorMr
import Derived.Test.YtgcaicdmjbkplaaDoorMapL
set_option linter.unusedVariables false
set_option linter.unusedSimpArgs false
namespace Go.Proofs.YtgcaicdmjbkplaaDoor
open Go

theorem H.le.kept {h h' : H} (hl : h.le h') : KeptH h h' [] := fun b _ hb => by
  obtain ⟨o, ho⟩ := Option.isSome_iff_exists.1 hb
  rw [hl b o ho, ho]
theorem kept_chain {h h1 h2 : H} {f f1 f2 : List Nat} (a : KeptH h h1 f) (a' : ∀ b ∈ f1, b ∈ f ∨ h b = none) (b : KeptH h1 h2 f1) (b' : ∀ x ∈ f2, x ∈ f1 ∨ h1 x = none) : KeptH h h2 f ∧ ∀ x ∈ f2, x ∈ f ∨ h x = none := by
  constructor
  · intro x hx hs
    have e := a x hx hs
    rw [b x (fun hf => by
      rcases a' x hf with q | q
      · exact hx q
      · rw [q] at hs; cases hs) (by rw [e]; exact hs), e]
  · intro x hx
    rcases b' x hx with q | q
    · exact a' x q
    · by_cases hf : x ∈ f
      · exact .inl hf
      · right
        cases e : h x with
        | none => rfl
        | some o =>
          have := a x hf (by rw [e]; rfl)
          rw [q, e] at this; cases this

/-! ### Queues -/
def QRep (h : H) (vr vm : Value) (l : List Int) (fp : List Nat) : Prop := ∃ fr fm, fp = fr ++ fm ∧ (∀ b ∈ fr, b ∉ fm) ∧ RowG h 3 vr (l.map (.int .i64)) fr ∧ KeyMap h vm l fm
theorem QRep.agree {h h' : H} {vr vm : Value} {l : List Int} {fp : List Nat} (ha : Agree h h' fp) : QRep h vr vm l fp → QRep h' vr vm l fp := fun ⟨fr, fm, e, hd, h1, h2⟩ =>
  ⟨fr, fm, e, hd, h1.agree fun b hb => ha b (by rw [e]; simp [hb]), h2.agree fun b hb => ha b (by rw [e]; simp [hb])⟩
theorem QRep.live {h : H} {vr vm : Value} {l : List Int} {fp : List Nat} : QRep h vr vm l fp → Live h fp := fun ⟨fr, fm, e, hd, h1, h2⟩ b hb => by
  rw [e] at hb
  rcases List.mem_append.1 hb with q | q
  · exact h1.live b q
  · exact h2.live b q
theorem QRep.fits {h : H} {vr vm : Value} {l : List Int} {fp : List Nat} : QRep h vr vm l fp → FitsL [.sl, .map] [vr, vm] := fun ⟨fr, fm, e, hd, h1, h2⟩ => ⟨h1.fit, h2.fit, trivial⟩
theorem QRep.nil {h : H} : QRep h (.slice none 0 0) (.map none) [] [] := ⟨[], [], rfl, by simp, RowG.nil, KeyMap.nil⟩
theorem zero_int : ((zeroCells Tryd.prog 3).getD []).length = 1 := by kernel_rfl
theorem s46k {h : H} {vr vm : Value} {l : List Int} {fp : List Nat} {x : Int} (hq : QRep h vr vm l fp) (hl : l.length ≤ 1000000) :
    CallsA Tryd.prog 46 (fun e => [(e 0).ptr 0, .int .i64 x]) [[vr, vm]] h (RetC fun r c h' => r = .bool (decide (x ∉ l)) ∧ ∃ vr' vm' fp', c = [vr', vm'] ∧ QRep h' vr' vm' (if x ∈ l then l else l ++ [x]) fp' ∧ KeptH h h' fp ∧ ∀ b ∈ fp', b ∈ fp ∨ h b = none) := by
  obtain ⟨fr, fm, rfl, hd, hr, hm⟩ := hq
  refine c46k (G := [vr, vm, .int .i64 x]) ⟨hr.fit, hm.fit, ⟨_, rfl⟩, trivial⟩ ?_
  refine hm.look x ?_
  refine h_ite (fun hc => ?_) (fun hc => ?_)
  · replace hc : decide (x ∈ l) = true := hc
    rw [decide_eq_true_eq] at hc
    exact ⟨_, rfl, by simp [hc]; rfl, vr, vm, fr ++ fm, rfl, by rw [if_pos hc]; exact ⟨fr, fm, rfl, hd, hr, hm⟩, KeptH.refl _ _, fun b hb => .inl hb⟩
  · replace hc : decide (x ∈ l) = false := hc
    rw [decide_eq_false_iff_not] at hc
    -- what is left, once there is a map
    have go : ∀ {h1 : H} {m : Value} {f1 : List Nat} {G : List Value} {i : Nat} (km : KeyMap h1 m l f1) (hne : m ≠ .map none) (k1 : KeptH h h1 []) (hf1 : ∀ b ∈ f1, b ∈ fm ∨ h b = none) (e0 : gv G 0 = vr) (e2 : gv G 2 = .int .i64 x) (ei : gv G i = m) (hi : i < G.length) (hG : 3 ≤ G.length),
        holds Tryd.prog (RetC fun r c h' => r = .bool (decide (x ∉ l)) ∧ ∃ vr' vm' fp', c = [vr', vm'] ∧ QRep h' vr' vm' (if x ∈ l then l else l ++ [x]) fp' ∧ KeptH h h' (fr ++ fm) ∧ ∀ b ∈ fp', b ∈ fr ++ fm ∨ h b = none)
          (.app 3 1 8 (.val 0) (.cells [(.int .i64 (.var 2))] 1) (.ment (.int .i64) .bool (.bool false) (.val i) (.int .i64 (.var 2)) (.ents (.val i) (.int .i64 (.var (G.length + 2))) (.bool (.tt true)) (.done (.bool (.tt true)) [[(.val G.length), (.val i)]])))) G [] h1 := by
      intro h1 m f1 G i km hne k1 hf1 e0 e2 ei hi hG
      have hr1 : RowG h1 3 vr (l.map (.int .i64)) fr := hr.agree (k1.agree hr.live fun b _ => by simp)
      refine ⟨[.int .i64 x], 1, ⟨by simp only [SV.denL, SV.den, X.den, e2, vi_int], rfl⟩, ?_⟩
      show AppSpec _ _ _ _ _ (gv G 0) _ _ _
      rw [e0]
      have hlen := hr.len
      refine app_rowG hr1 zero_int (by rw [hlen]; simp; omega) fun v' h2 f2 m1 m2 m3 => ?_
      have m3' : ∀ b ∈ f2, b ∈ fr ∨ h1 b = none := fun b hb => by
        rcases m3 with rfl | ⟨b', rfl, hb'⟩
        · exact .inl hb
        · rw [List.mem_singleton] at hb; subst hb; exact .inr hb'
      have hlive1 := km.live
      have dis : ∀ b ∈ f1, b ∉ fr := fun b hb hb' => by
        rcases hf1 b hb with q | q
        · exact hd b hb' q
        · have := hr.live b hb'; rw [q] at this; cases this
      have km2 : KeyMap h2 m l f1 := km.agree (m2.agree hlive1 dis)
      have dis2 : ∀ b ∈ f2, b ∉ f1 := fun b hb hb' => by
        rcases m3' b hb with q | q
        · exact dis b hb' q
        · have := hlive1 b hb'; rw [q] at this; cases this
      have ev : gv (G ++ [v']) i = m := by rw [gv_of_lt hi]; exact ei
      have ev2 : gv (G ++ [v']) 2 = .int .i64 x := by rw [gv_of_lt (by omega)]; exact e2
      show MentSpec _ _ _ _ (gv (G ++ [v']) i) (.int .i64 (vi (gv (G ++ [v']) 2))) _
      rw [ev, ev2]
      refine km2.ment hc hne fun h3 n k3 hes => ?_
      have ev3 : gv (G ++ [v'] ++ [.bool false, .int .i64 (n : Int)]) i = m := by rw [gv_of_lt (by simp; omega)]; exact ev
      have ev4 : gv (G ++ [v'] ++ [.bool false, .int .i64 (n : Int)]) (G.length + 2) = .int .i64 (n : Int) := gv_at (j := 1) (by simp)
      show EntSpec _ (gv (G ++ [v'] ++ [.bool false, .int .i64 (n : Int)]) i) (.int .i64 (vi (gv (G ++ [v'] ++ [.bool false, .int .i64 (n : Int)]) (G.length + 2)))) (.bool true) _
      rw [ev3, ev4]
      refine hes fun h4 km4 k4 => ?_
      have ev5 : gv (G ++ [v'] ++ [.bool false, .int .i64 (n : Int)]) G.length = v' := by rw [gv_of_lt (by simp)]; exact gv_last
      refine ⟨_, rfl, by simp [hc]; rfl, v', m, f2 ++ f1, ?_, ?_, ?_, ?_⟩
      · show [gv (G ++ [v'] ++ [.bool false, .int .i64 (n : Int)]) G.length, gv (G ++ [v'] ++ [.bool false, .int .i64 (n : Int)]) i] = _
        rw [ev5, ev3]
      · rw [if_neg hc]
        refine ⟨f2, f1, rfl, dis2, ?_, km4⟩
        have := m1.agree (k4.agree m1.live dis2)
        rw [List.map_append]; exact this
      · have c1 : KeptH h h2 (fr ++ fm) := (kept_chain (f := fr ++ fm) (f1 := fr ++ fm) (k1.mono (by simp)) (fun b hb => .inl hb) (m2.mono (by simp_all)) (fun b hb => .inl hb) (f2 := fr ++ fm)).1
        intro b hb hs
        have e := c1 b hb hs
        rw [k4 b (fun hb' => by
          rcases hf1 b hb' with q | q
          · exact hb (by simp [q])
          · rw [q] at hs; cases hs) (by rw [e]; exact hs), e]
      · intro b hb
        rcases List.mem_append.1 hb with q | q
        · rcases m3' b q with q | q
          · exact .inl (by simp [q])
          · exact .inr (H.le_none k1.le_nil q)
        · rcases hf1 b q with q | q
          · exact .inl (by simp [q])
          · exact .inr q
    refine h_ite (fun hn => ?_) (fun hn => ?_)
    · intro b hb
      have hmn : vm = .map none := by
        replace hn : vnil vm = true := hn
        obtain ⟨r, rfl⟩ := hm.fit
        cases r with
        | none => rfl
        | some r => cases hn
      have hl0 : l = [] := by
        rcases hm with ⟨_, h2, _⟩ | ⟨r, es, clock, h0, _⟩
        · exact h2
        · rw [hmn] at h0; cases h0
      refine go (h1 := h.put b (.map #[] 0)) (m := .map (some b)) (f1 := [b]) (i := 5) (.inr ⟨b, #[], 0, rfl, rfl, H.put_same, by rw [hl0]; rfl, fun e he => by simp at he, by rw [hl0]; exact List.nodup_nil⟩) (by simp) (KeptH.put hb _) (fun b' hb' => by rw [List.mem_singleton] at hb'; subst hb'; exact .inr hb) rfl rfl rfl (by simp) (by simp)
    · refine go (h1 := h) (m := vm) (f1 := fm) (i := 1) hm (fun e => ?_) (KeptH.refl _ _) (fun b hb => .inl hb) rfl rfl rfl (by simp) (by simp)
      replace hn : vnil vm = false := hn
      rw [e] at hn; cases hn
theorem s47k {h : H} {vr vm : Value} {l : List Int} {fp : List Nat} (hq : QRep h vr vm l fp) :
    CallsA Tryd.prog 47 (fun e => [(e 0).ptr 0]) [[vr, vm]] h (RetC fun r c h' => r = .int .i64 (l.length : Int) ∧ c = [vr, vm] ∧ h' = h) := by
  obtain ⟨fr, fm, rfl, hd, hr, hm⟩ := hq
  refine c47k (G := [vr, vm]) ⟨hr.fit, hm.fit, trivial⟩ ?_
  have := hr.len
  refine ⟨_, rfl, ?_, rfl, rfl⟩
  simp only [SV.den, X.den, gv_zero, vi_int, this, List.length_map]
theorem s48k {h : H} {vr vm : Value} {x : Int} {l : List Int} {fp : List Nat} (hq : QRep h vr vm (x :: l) fp) :
    CallsA Tryd.prog 48 (fun e => [(e 0).ptr 0]) [[vr, vm]] h (RetC fun r c h' => r = .tuple #[.int .i64 x, .bool true] ∧ ∃ vr', c = [vr', vm] ∧ QRep h' vr' vm l fp ∧ KeptH h h' fp) := by
  obtain ⟨fr, fm, rfl, hd, hr, hm⟩ := hq
  refine c48k (G := [vr, vm]) ⟨hr.fit, hm.fit, trivial⟩ ?_
  have hl := hr.len
  simp only [List.length_map, List.length_cons] at hl
  refine h_ite (fun hc => ?_) (fun hc => ?_)
  · simp only [X.den, gv_zero, vi_int, vb_bool, cmp_eql, hl, decide_eq_true_eq] at hc; omega
  · refine ⟨fun _ => ⟨rfl, ?_, trivial⟩, h_load [.int .i64 x] ⟨⟨_, rfl⟩, trivial⟩ (fun _ => ?_) ⟨fun _ => ⟨rfl, ?_, trivial⟩, ?_⟩⟩
    · simp only [X.den, gv_zero, vi_int, vb_bool, cmp_lss, hl, decide_eq_true_eq]; omega
    · have := hr.reads (i := 0) (x := .int .i64 x) rfl
      exact this
    · simp only [X.den, List.cons_append, gv_zero, vi_int, vb_bool, cmp_leq, hl, decide_eq_true_eq]; omega
    · intro z hz
      have hz' : z = sliceV vr 1 (vlen vr) 1 := hz
      subst hz'
      refine hm.del fun h' km k => ?_
      have ht : RowG h' 3 (sliceV vr 1 (vlen vr) 1) (l.map (.int .i64)) fr := (RowG.tail hr).agree (k.agree hr.live hd)
      exact ⟨_, rfl, rfl, _, rfl, ⟨fr, fm, rfl, hd, ht, km⟩, k.mono (by simp_all)⟩
def nextL (e : Fin4) : List Int := if e.kind = 1 ∨ (e.kind = 2 ∧ e.to = e.el) then [e.to] else if e.kind = 2 then [e.to, e.el] else []
theorem own_two {h : H} {b : Nat} {x y : Int} (hb : h b = none) : OwnInts h (h.put b (.cells ([Value.int .i64 x, .int .i64 y]).toArray 3 (0, 0))) (.slice (some ⟨b, 0, none⟩) 2 2) [x, y] := own_new (l := [x, y]) hb
theorem own_one {h : H} {b : Nat} {x : Int} (hb : h b = none) : OwnInts h (h.put b (.cells ([Value.int .i64 x]).toArray 3 (0, 0))) (.slice (some ⟨b, 0, none⟩) 1 1) [x] := own_new (l := [x]) hb
theorem s49 {h : H} (e : Fin4) : CallsA Tryd.prog 49 (fun _ => [.agg (endC e).toArray]) [] h (Ret fun r h' => h.le h' ∧ OwnInts h h' r (nextL e)) := by
  refine c49 (G := endC e) ⟨⟨_, rfl⟩, ⟨_, rfl⟩, ⟨_, rfl⟩, ⟨_, rfl⟩, trivial⟩ ?_
  refine h_ite (fun hc => ?_) (fun hc => h_ite (fun hc2 => ?_) (fun hc2 => ?_))
  · simp only [X.den, endC, gv_zero, gv_succ, vi_int, vb_ite, vb_bool, cmp_eql, decide_eq_true_eq] at hc
    have hk : e.kind = 1 ∨ (e.kind = 2 ∧ e.to = e.el) := by grind
    intro b hb
    exact ⟨rfl, H.le_put hb, by unfold nextL; rw [if_pos hk]; exact own_one hb⟩
  · simp only [X.den, endC, gv_zero, gv_succ, vi_int, vb_ite, vb_bool, cmp_eql, decide_eq_true_eq] at hc hc2
    have hk : ¬ (e.kind = 1 ∨ (e.kind = 2 ∧ e.to = e.el)) := by grind
    intro b hb
    exact ⟨rfl, H.le_put hb, by unfold nextL; rw [if_neg hk, if_pos hc2]; exact own_two hb⟩
  · simp only [X.den, endC, gv_zero, gv_succ, vi_int, vb_ite, vb_bool, cmp_eql, decide_eq_true_eq, decide_eq_false_iff_not] at hc hc2
    have hk : ¬ (e.kind = 1 ∨ (e.kind = 2 ∧ e.to = e.el)) := by grind
    exact ⟨rfl, H.le_refl _, by unfold nextL; rw [if_neg hk, if_neg hc2]; exact .inl ⟨rfl, rfl⟩⟩
/-- A loop whose measure speaks of what the invariant names. -/
theorem h_loopM {P : Program} {R : Value → List (List Value) → H → Prop} {G : List Value} {L : Lv} {h : H} {lvl : Nat} {ini : List SV} {shs : List Sh} {body : Out} (I : Nat → List Value → H → Prop) (n0 : Nat) (h0 : I n0 (SV.denL G dE ini) h)
    (hs : ∀ n xs h' J, FitsL shs xs → I n xs h' → (∀ m ys h'', I m ys h'' → m < n → J ys h'') → holds P R body (G ++ xs) (List.take lvl L ++ [J]) h') : holds P R (.loop lvl ini shs body) G L h := by
  classical
  have hmin : ∀ xs h', (∃ n, I n xs h') → ∃ n, I n xs h' ∧ ∀ m, I m xs h' → n ≤ m := fun xs h' ⟨n, hn⟩ => by
    induction n using Nat.strongRecOn with
    | _ n ih =>
      by_cases hq : ∃ m, m < n ∧ I m xs h'
      · obtain ⟨m, hm, hI⟩ := hq; exact ih m hm hI
      · exact ⟨n, hn, fun m hm => Nat.le_of_not_lt fun hl => hq ⟨m, hl, hm⟩⟩
  let μ : List Value → H → Nat := fun xs h' => if hq : ∃ n, I n xs h' then Classical.choose (hmin xs h' hq) else 0
  refine h_loop (fun xs h' => ∃ n, I n xs h') μ ⟨n0, h0⟩ ?_
  intro xs h' J hf hI hJ
  have hμ : μ xs h' = Classical.choose (hmin xs h' hI) := dif_pos hI
  obtain ⟨k1, k2⟩ := Classical.choose_spec (hmin xs h' hI)
  refine hs _ xs h' J hf k1 fun m ys h'' hm hlt => hJ ys h'' ⟨m, hm⟩ ?_
  have hq : ∃ n, I n ys h'' := ⟨m, hm⟩
  have hμ2 : μ ys h'' = Classical.choose (hmin ys h'' hq) := dif_pos hq
  have := (Classical.choose_spec (hmin ys h'' hq)).2 m hm
  rw [hμ, hμ2]; omega

def nextN (B : List Blk) (k : Nat) : List Nat := match B[k]? with | some b => (nextL b.en).map Int.toNat | none => []
def OkB (B : List Blk) : Prop := ∀ b ∈ B, ∀ n ∈ nextL b.en, 0 ≤ n ∧ n < (B.length : Int)
theorem nextN_at {B : List Blk} {k : Nat} {b : Blk} (h : B[k]? = some b) : nextN B k = (nextL b.en).map Int.toNat := by unfold nextN; rw [h]
theorem nextN_lt {B : List Blk} (hB : OkB B) {k n : Nat} (h : n ∈ nextN B k) : n < B.length := by
  unfold nextN at h
  split at h
  · rename_i b hb
    obtain ⟨m, hm, rfl⟩ := List.mem_map.1 h
    have := hB b (List.mem_of_getElem? hb) m hm
    omega
  · cases h
inductive Rch (B : List Blk) : Nat → Prop
  | zero : Rch B 0
  | step {k n : Nat} : Rch B k → n ∈ nextN B k → Rch B n
/-- How many numbers below n are not there. -/
def cu (n : Nat) (p : Nat → Bool) : Nat := ((List.range n).filter fun x => !p x).length
theorem cu_le {n : Nat} {p q : Nat → Bool} (h : ∀ x, p x = true → q x = true) : cu n q ≤ cu n p := by
  unfold cu
  have : ((List.range n).filter fun x => !q x) = (((List.range n).filter fun x => !p x).filter fun x => !q x) := by
    rw [List.filter_filter]
    apply List.filter_congr
    intro x _
    cases hp : p x with
    | false => simp
    | true => simp [h x hp]
  rw [this]; exact List.length_filter_le _ _
theorem cu_lt {n x : Nat} {p q : Nat → Bool} (hx : x < n) (hp : p x = false) (hq : q x = true) (h : ∀ y, p y = true → q y = true) : cu n q < cu n p := by
  unfold cu
  have : ((List.range n).filter fun x => !q x) = (((List.range n).filter fun x => !p x).filter fun x => !q x) := by
    rw [List.filter_filter]
    apply List.filter_congr
    intro x _
    cases hp : p x with
    | false => simp
    | true => simp [h x hp]
  rw [this, List.length_filter_lt_length_iff_exists]
  exact ⟨x, List.mem_filter.2 ⟨List.mem_range.2 hx, by simp [hp]⟩, by simp [hq]⟩
theorem blks_get {h : H} {v : Value} {B : List Blk} (hv : BlksAt h v B) {k : Nat} {b : Blk} (hk : B[k]? = some b) : Reads h ((vaddr v).add (k * 5 + 1)) (endC b.en) := by
  obtain ⟨cs, ⟨w, rfl, hw⟩, hr⟩ := hv.get k b hk
  intro i u hi
  have := hr (i + 1) u (by simpa using hi)
  rw [add_add] at this ⊢
  rw [show k * 5 + 1 + i = k * 5 + (i + 1) by omega]; exact this
theorem ge0 (n : Nat) : cmpOp .geq (n : Int) 0 = true := by rw [cmp_geq, decide_eq_true_eq]; omega
theorem ltN {n m : Nat} (h : n < m) : cmpOp .lss (n : Int) (m : Int) = true := by rw [cmp_lss, decide_eq_true_eq]; omega
/-- Some memory, but for these blocks. -/
def H.cut (g : H) (f : List Nat) : H := fun b => if b ∈ f then none else g b
theorem H.cut_le (g : H) (f : List Nat) : (H.cut g f).le g := fun b o e => by
  unfold H.cut at e; split at e
  · cases e
  · exact e
theorem H.cut_fresh (g : H) (f : List Nat) : Fresh (H.cut g f) f := fun b hb => by unfold H.cut; rw [if_pos hb]
theorem H.le_cut {h g : H} {f : List Nat} (hl : h.le g) (hf : Fresh h f) : h.le (H.cut g f) := fun b o e => by
  unfold H.cut
  rw [if_neg (fun hb => by rw [hf b hb] at e; cases e)]; exact hl b o e
theorem Row.cut {h0 h : H} {e : TypeId} {sz : Nat} {v : Value} {cs : List Value} {f : List Nat} (k : Row h0 h e sz v cs) (hl : Live h0 f) : Row h0 (H.cut h f) e sz v cs := by
  rcases k with ⟨rfl, rfl⟩ | ⟨b, n, c, r, rfl, h1, h2, h3, h4, h5⟩
  · exact .inl ⟨rfl, rfl⟩
  · refine .inr ⟨b, n, c, r, rfl, ?_, h2, h3, h4, h5⟩
    unfold H.cut
    rw [if_neg (fun hb => by have := hl b hb; rw [h5] at this; cases this)]; exact h1
theorem agree_of {h h' : H} {f g : List Nat} (k : KeptH h h' f) (hl : Live h g) (hd : ∀ b ∈ g, b ∉ f) : Agree h h' g := k.agree hl hd
theorem cu_le_n (n : Nat) (p : Nat → Bool) : cu n p ≤ n := by
  unfold cu
  have := List.length_filter_le (fun x => !p x) (List.range n)
  rwa [List.length_range] at this
abbrev natV (n : Nat) : Value := .int .i64 (n : Int)
theorem len_of_rowF {h : H} {e : TypeId} {v : Value} {cs : List Value} {fp : List Nat} (k : RowF h e 1 v cs fp) : vlen v = cs.length := by have := k.row0.len; omega
theorem rowF_set {h : H} {e : TypeId} {v x : Value} {cs : List Value} {fp : List Nat} {i : Nat} (k : RowF h e 1 v cs fp) (hi : i < cs.length) :
    Writable h ((vaddr v).add i) 1 ∧ RowF (h.sets ((vaddr v).add i) [x]) e 1 v (cs.set i x) fp ∧ KeptH h (h.sets ((vaddr v).add i) [x]) fp := by
  have hsp : cs = cs.take i ++ [cs[i]] ++ cs.drop (i + 1) := by
    conv => lhs; rw [← List.take_append_drop i cs, List.drop_eq_getElem_cons hi]
    simp only [List.append_assoc, List.cons_append, List.nil_append]
  have hsp' : cs.set i x = cs.take i ++ [x] ++ cs.drop (i + 1) := by
    rw [List.set_eq_take_append_cons_drop, if_pos hi]; simp only [List.append_assoc, List.cons_append, List.nil_append]
  have hal : (cs.take i).length = i := by rw [List.length_take]; omega
  have hl := len_of_rowF k
  obtain ⟨aa, nn, cc, e0, _, e3⟩ := k.row0.fit
  have k' := k
  rw [hsp] at k'
  obtain ⟨s1, s2⟩ := set_rowF (N := [x]) k' rfl (by simp)
  rw [hal] at s1 s2
  refine ⟨?_, by rw [hsp']; exact s1, fun b hb _ => s2 b hb⟩
  refine k.row0.writable ?_
  rw [e0] at hl ⊢
  simp only [vlen_sl] at hl
  simp only [vcap_sl]; omega
theorem rowF_read {h : H} {e : TypeId} {v : Value} {cs : List Value} {fp : List Nat} {i : Nat} (k : RowF h e 1 v cs fp) {x : Value} (hi : cs[i]? = some x) : Reads h ((vaddr v).add (i * 1)) [x] := by
  rw [Nat.mul_one]
  exact k.row0.reads fun j u hj => by obtain ⟨rfl, rfl⟩ := get_one hj; exact hi
theorem ints_of_nats {h : H} {e : TypeId} {v : Value} {l : List Nat} {fp : List Nat} (k : RowF h e 1 v (l.map natV) fp) : IntsAt h v (l.map Int.ofNat) := by
  refine rowF_ints (e := e) (fp := fp) ?_
  rw [List.map_map]; exact k
theorem natV_at {O : List Nat} {i : Nat} (hi : i < O.length) : ∃ y : Nat, O[i]? = some y ∧ (O.map natV).getD i undef = natV y := by
  refine ⟨O[i], List.getElem?_eq_getElem hi, ?_⟩
  rw [List.getD_eq_getElem?_getD, List.getElem?_map, List.getElem?_eq_getElem hi]; rfl
theorem zero_bool : (zeroCells Tryd.prog 4).getD [] = [.bool false] := by kernel_rfl
theorem repZ_bool (n : Nat) : repZ [Value.bool false] n = (List.replicate n false).map .bool := by
  apply List.ext_getElem?
  intro i
  unfold repZ
  simp only [List.length_cons, List.length_nil, Nat.zero_add, Nat.mul_one, Nat.mod_one, List.getElem?_map, List.getElem?_replicate]
  by_cases hi : i < n
  · rw [List.getElem?_range hi, if_pos hi]; rfl
  · rw [List.getElem?_eq_none (by simpa using hi), if_neg hi]; rfl
theorem mk_bools {h : H} {b n : Nat} (hb : h b = none) : RowF (h.put b (.cells (repZ ((zeroCells Tryd.prog 4).getD []) n).toArray 4 (0, 0))) 4 1 (.slice (some ⟨b, 0, none⟩) n n) ((List.replicate n false).map .bool) [b] := by
  rw [zero_bool, repZ_bool]
  have := RowF.new (h := h) (e := 4) (sz := 1) (b := b) (n := n) (c := n) (cs := (List.replicate n false).map Value.bool) (r := []) (by simp) (by simp) (Nat.le_refl _)
  rwa [List.append_nil] at this
theorem mem_next {B : List Blk} (hB : OkB B) {k n : Nat} {b : Blk} (hb : B[k]? = some b) : ((n : Int) ∈ nextL b.en ↔ n ∈ nextN B k) := by
  rw [nextN_at hb, List.mem_map]
  constructor
  · intro h; exact ⟨_, h, by simp⟩
  · rintro ⟨m, hm, e⟩
    have := hB b (List.mem_of_getElem? hb) m hm
    have : m = (n : Int) := by omega
    rw [← this]; exact hm
def aheadM (B : List Blk) (n : Nat) : List Nat := (List.range B.length).filter fun b => decide (n ∈ nextN B b)
def aheadI (B : List Blk) (n i : Nat) : List Nat := (List.range i).filter fun b => decide (n ∈ nextN B b)
theorem aheadI_succ (B : List Blk) (n i : Nat) : aheadI B n (i + 1) = aheadI B n i ++ if n ∈ nextN B i then [i] else [] := by
  unfold aheadI
  rw [List.range_succ, List.filter_append]
  congr 1
  by_cases h : n ∈ nextN B i <;> simp [h]
theorem aheadI_len (B : List Blk) (n i : Nat) : (aheadI B n i).length ≤ i := by
  unfold aheadI
  have := List.length_filter_le (fun b => decide (n ∈ nextN B b)) (List.range i)
  rwa [List.length_range] at this
def IntF : RepF (List Nat) := fun h cs l fp => ∃ u, cs = [u] ∧ RowF h 3 1 u (l.map natV) fp
theorem intF_good : GoodF IntF := ⟨fun ha ⟨u, h1, h2⟩ => ⟨u, h1, h2.agree ha⟩, fun ⟨u, h1, h2⟩ => h2.live⟩
def IntsC (h : H) (cs : List Value) (l : List Nat) : Prop := ∃ u, cs = [u] ∧ IntsAt h u (l.map Int.ofNat)
theorem intsC_mono : Mono IntsC := fun _ _ _ _ hl ⟨u, h1, h2⟩ => ⟨u, h1, h2.le hl⟩
theorem intF_at {h : H} {cs : List Value} {l : List Nat} {fp : List Nat} (k : IntF h cs l fp) : IntsC h cs l := by
  obtain ⟨u, h1, h2⟩ := k; exact ⟨u, h1, ints_of_nats h2⟩
theorem rowF_nodup {h : H} {e : TypeId} {sz : Nat} {v : Value} {cs : List Value} {fp : List Nat} (k : RowF h e sz v cs fp) : fp.Nodup := by
  rcases k with ⟨_, _, rfl⟩ | ⟨b, _, _, _, _, _, _, _, _, rfl⟩ <;> simp
theorem zero_sl : (zeroCells Tryd.prog 64).getD [] = [.slice none 0 0] := by kernel_rfl
theorem repZ_sl (n : Nat) : repZ [Value.slice none 0 0] n = List.replicate n (.slice none 0 0) := by
  apply List.ext_getElem?
  intro i
  unfold repZ
  simp only [List.length_cons, List.length_nil, Nat.zero_add, Nat.mul_one, Nat.mod_one, List.getElem?_map, List.getElem?_replicate]
  by_cases hi : i < n
  · rw [List.getElem?_range hi, if_pos hi]; rfl
  · rw [List.getElem?_eq_none (by simpa using hi), if_neg hi]; rfl
theorem mk_rows {h : H} {b n : Nat} (hb : h b = none) : SlF 64 1 IntF (h.put b (.cells (repZ ((zeroCells Tryd.prog 64).getD []) n).toArray 64 (0, 0))) (.slice (some ⟨b, 0, none⟩) n n) (List.replicate n ([] : List Nat)) [b] := by
  rw [zero_sl, repZ_sl]
  have hr := RowF.new (h := h) (e := 64) (sz := 1) (b := b) (n := n) (c := n) (cs := List.replicate n (Value.slice none 0 0)) (r := []) (by simp) (by simp) (Nat.le_refl _)
  rw [List.append_nil] at hr
  have e1 : cellsE (List.replicate n (⟨[.slice none 0 0], [], []⟩ : El (List Nat))) = List.replicate n (.slice none 0 0) := by
    unfold cellsE
    induction n with
    | zero => rfl
    | succ n ih => rw [List.replicate_succ, List.flatMap_cons, List.replicate_succ, ← ih]; · rfl
                   · have := RowF.new (h := h) (e := 64) (sz := 1) (b := b) (n := n) (c := n) (cs := List.replicate n (Value.slice none 0 0)) (r := []) (by simp) (by simp) (Nat.le_refl _)
                     rwa [List.append_nil] at this
  have e2 : fpE (List.replicate n (⟨[.slice none 0 0], [], []⟩ : El (List Nat))) = [] := by
    unfold fpE
    rw [List.flatMap_eq_nil_iff]
    intro x hx
    rw [(List.mem_replicate.1 hx).2]
  refine ⟨List.replicate n ⟨[.slice none 0 0], [], []⟩, [b], by simp, by rw [e2]; rfl, by rw [e1]; exact hr, fun t ht => ?_⟩
  rw [(List.mem_replicate.1 ht).2]
  exact ⟨rfl, _, rfl, .inl ⟨rfl, rfl, rfl⟩⟩
/-- After so many of a block's followers. -/
def aheadJ (B : List Blk) (i j n : Nat) : List Nat := aheadI B n i ++ if n ∈ (nextN B i).take j then [i] else []
theorem next_nodup (B : List Blk) (hB : OkB B) (k : Nat) : (nextN B k).Nodup := by
  unfold nextN
  split
  · rename_i b hb
    have hr := hB b (List.mem_of_getElem? hb)
    unfold nextL at hr ⊢
    split
    · simp
    · rename_i h1
      split
      · rename_i h2
        rw [if_neg h1, if_pos h2] at hr
        have r1 := hr b.en.to (by simp)
        have r2 := hr b.en.el (by simp)
        have : b.en.to ≠ b.en.el := fun e => h1 (.inr ⟨h2, e⟩)
        simp; omega
      · simp
  · simp
theorem iteT {P : Program} {R : Value → List (List Value) → H → Prop} {G : List Value} {L : Lv} {h : H} {c : X} {a b : Out} (hc : vb (c.den G) = true) (ha : holds P R a G L h) : holds P R (.ite c a b) G L h := ⟨fun _ => ha, fun h => absurd (hc.symm.trans h) (by simp)⟩
theorem iteF {P : Program} {R : Value → List (List Value) → H → Prop} {G : List Value} {L : Lv} {h : H} {c : X} {a b : Out} (hc : vb (c.den G) = false) (hb : holds P R b G L h) : holds P R (.ite c a b) G L h := ⟨fun h => absurd (hc.symm.trans h) (by simp), fun _ => hb⟩
theorem made_B {p0 p1 p2 : Int} {l : List Int} (h0 : 0 ≤ p0) (h1 : 0 ≤ p1) (h2 : 0 ≤ p2) (hl : InB l) : OkB (madeB p0 p1 p2 l) ∧ 1 ≤ (madeB p0 p1 p2 l).length ∧ (madeB p0 p1 p2 l).length ≤ 7 := by
  have hN := madeN_range h2
  have hV := madeV_range h0 h1
  have hBl := madeB_len (p0 := p0) (p1 := p1) (l := l) h2
  refine ⟨fun b hb n hn => ?_, by omega, by omega⟩
  have hb' := hb
  unfold madeB at hb'
  obtain ⟨-, -, he⟩ := blksM_ok (v := madeV p0 p1) (w := madeV p0 p1) (n := madeN p2) (m := madeN p2) (l := l) (by omega) (Int.le_refl _) (by omega) (Int.le_refl _) hl _ b hb'
  rw [hBl]
  unfold endM at he
  unfold nextL at hn
  grind (splits := 60)
end Go.Proofs.YtgcaicdmjbkplaaDoor
