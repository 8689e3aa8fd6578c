/-
  What FlowMore solves for, twice; what comes with more. Conditions: as each contract says.
-/
import Derived.Test.YtbbicdfipheaeaaDoorR5J
import Derived.Test.YtbbicdfipheaeaaDoorR5Tg
set_option linter.unusedVariables false
set_option linter.unusedSimpArgs false
namespace Go.Proofs.YtbbicdfipheaeaaDoor
open Go

theorem BytesAt.alls {h : H} {v : Value} {l : List Int} (H : BytesAt h v l) : Reads h (vaddr v) (l.map (.int .u8)) := by
  intro i w hi
  rw [List.getElem?_map, Option.map_eq_some_iff] at hi
  obtain ⟨x, hx, rfl⟩ := hi
  have := (H.read hx).1 0 _ rfl
  rw [add_add] at this; simpa using this
theorem BytesAt.srcs {h : H} {v : Value} {l : List Int} (H : BytesAt h v l) : SlSrc h (l.map (.int .u8)) l.length v := by
  have h1 := H.alls
  have h2 := H.len
  obtain ⟨a, n, c, rfl, h3, h4⟩ := H.fit
  cases a with
  | none => exact ⟨h2.symm, (h3 rfl).1⟩
  | some b => exact ⟨h2.symm, h1⟩
theorem rowF_bytes8 {h : H} {e : TypeId} {u : Value} {l : List Int} {fp : List Nat} (k : RowF h e 1 u (l.map (.int .u8)) fp) (hl : InB l) : BytesAt h u l := by
  refine ⟨k.row0.fit, by have := k.row0.len; simp at this; exact this.symm, fun i x hi => ⟨_, ⟨rfl, hl x (List.mem_of_getElem? hi)⟩, k.row0.reads fun j u hj => ?_⟩⟩
  cases j with
  | zero => simp at hj; subst hj; simp [hi]
  | succ j => simp at hj
theorem MarkR.grow {N : Nat} {A A' : List Int} {T T' : List (List Nat)} (K : MarkR N A T) (K' : MarkR N (A ++ A') T') {b n : Nat} (h : n ∈ rowAt T b) : n ∈ rowAt T' b := by
  have hb : b < N := by
    rcases Nat.lt_or_ge b N with q | q
    · exact q
    · unfold rowAt at h
      rw [List.getD_eq_getElem?_getD, List.getElem?_eq_none (by rw [K.len]; exact q)] at h
      cases h
  have h1 := K.smallT.get hb
  have h2 := K'.smallT.get hb
  obtain ⟨k, a, p1, p2, p3, p4⟩ := (K.mem h1 n).1 h
  have hlt := (List.getElem?_eq_some_iff.1 p2).1
  exact (K'.mem h2 n).2 ⟨k, a, p1, by rw [List.getElem?_append_left hlt]; exact p2, p3, p4⟩
theorem MarkR.same {N : Nat} {A : List Int} {T T' : List (List Nat)} (K : MarkR N A T) (K' : MarkR N A T') {b n : Nat} : n ∈ rowAt T b ↔ n ∈ rowAt T' b := by
  rcases Nat.lt_or_ge b N with hb | q
  · rw [K.mem (K.smallT.get hb) n, K'.mem (K'.smallT.get hb) n]
  · unfold rowAt
    rw [List.getD_eq_getElem?_getD, List.getElem?_eq_none (by rw [K.len]; exact q), List.getD_eq_getElem?_getD, List.getElem?_eq_none (by rw [K'.len]; exact q)]
theorem Der.grow {B : List Blk} {back : Bool} {S S' M M' : List (List Nat)} {n b : Nat} (hM : ∀ b, n ∈ rowAt M b → n ∈ rowAt M' b) (hS : ∀ b, n ∈ rowAt S' b → n ∈ rowAt S b) (h : Der B back S M n b) : Der B back S' M' n b := by
  induction h with
  | new hb ha hm => exact .new hb ha (hM _ hm)
  | on hb ha _ hs ih => exact .on hb ha ih fun q => hs (hS _ q)
theorem s26 {h : H} {u va vc : Value} {p1 p2 p3 : Addr} {B : List Blk} {A C : List Int} {back : Bool} (ht : Tab h) (hr1 : Reads h p1 [u]) (hr2 : Reads h p2 [vc]) (hr3 : Reads h p3 [.bool back]) (hu : BlksAt h u B) (hB : OkB B) (hB1 : 1 ≤ B.length) (hB2 : B.length ≤ 90)
    (hA : BytesAt h va A) (hA2 : A.length ≤ 9223372036854775807) (hC : BytesAt h vc C) (hC2 : C.length ≤ 9223372036854775807) :
    CallsA Tryd.prog 26 (fun _ => [va, .pointer (some p1), .pointer (some p2), .pointer (some p3)]) [] h (Ret fun r h' => h.le h' ∧ ∃ M S L fp, MarkR B.length A M ∧ MarkR B.length C S ∧ Solved (flS B back (fun _ _ => false) S M) L ∧ SlF 39 1 SetF h' r L fp ∧ Fresh h fp ∧ fp.Nodup) := by
  refine c26 (G := [va, .pointer (some p1), .pointer (some p2), .pointer (some p3)]) ⟨hA.fit, ⟨_, rfl⟩, ⟨_, rfl⟩, ⟨_, rfl⟩, trivial⟩ ?_
  have hul := hu.len
  refine h_load [u] ⟨hu.fit, trivial⟩ (fun _ => hr1) (h_load [vc] ⟨hC.fit, trivial⟩ (fun _ => hr2) ?_)
  simp only [List.cons_append, List.nil_append]
  refine h_call0 (s13 (N := B.length) hu.fit hul hB1 (by omega) hA hA2 hC hC2) ?_
  rintro _ g3 ⟨hl3, vm, vl, M, S, rfl, hM, hS, kM, kS⟩
  refine ⟨[vm, vl], ⟨kM.fit, kS.fit, trivial⟩, rfl, ?_⟩
  simp only [List.cons_append, List.nil_append]
  intro b1 hb1 b2 hb2
  obtain ⟨w1, w2, l4, r1, r2⟩ := vars2 (e := 30) (z := .slice none 0 0) (x := vm) (y := vl) hb1 hb2 rfl
  refine h_store ⟨b1, 0, none⟩ [vm] rfl rfl w1 (h_store ⟨b2, 0, none⟩ [vl] rfl rfl w2 ?_)
  show holds _ _ _ [va, .pointer (some p1), .pointer (some p2), .pointer (some p3), u, vc, vm, vl, .pointer (some ⟨b1, 0, none⟩), .pointer (some ⟨b2, 0, none⟩)] _ (((((g3.put b1 (.cells #[Value.slice none 0 0] 30)).put b2 (.cells #[Value.slice none 0 0] 30)).sets ⟨b1, 0, none⟩ [vm]).sets ⟨b2, 0, none⟩ [vl]))
  generalize ((((g3.put b1 (.cells #[Value.slice none 0 0] 30)).put b2 (.cells #[Value.slice none 0 0] 30)).sets ⟨b1, 0, none⟩ [vm]).sets ⟨b2, 0, none⟩ [vl]) = g4 at l4 r1 r2 ⊢
  have hle4 := hl3.trans l4
  have hu4 := SlAt.le blkC_mono hle4 hu
  refine h_load [u] ⟨hu.fit, trivial⟩ (fun _ => hr1.le hle4) (h_load [u] ⟨hu.fit, trivial⟩ (fun _ => hr1.le hle4) (h_load [.bool back] ⟨⟨_, rfl⟩, trivial⟩ (fun _ => hr3.le hle4) ?_))
  simp only [List.cons_append, List.nil_append]
  refine h_call0 (s14 back hu4) ?_
  rintro _ g5 ⟨l5, ad, rfl, rd⟩
  refine ⟨[aheadV back ad], ⟨.inr ⟨_, _, _, rfl⟩, trivial⟩, rfl, ?_⟩
  simp only [List.cons_append, List.nil_append]
  have hle5 := hle4.trans l5
  have htg := ht.le hle5
  have hu5 := SlAt.le blkC_mono l5 hu4
  have hSs := hS.smallT
  have hMs := hM.smallT
  have rm := r1.le l5
  have rl := r2.le l5
  have kS5 := MarkAt.le (l4.trans l5) kS
  have kM5 := MarkAt.le (l4.trans l5) kM
  have hfst : ∀ {h' b}, g5.le h' → b < B.length → CallsA Tryd.prog 27 (fun _ => [natV b]) [] h' (Ret fun v h2 => h'.le h2 ∧ ∃ c f, v = .agg #[c] ∧ SetF h2 [c] (fun _ => false) f ∧ Fresh h' f ∧ f.Nodup) := fun {h' b} hl hb =>
    c27 (G := [natV b]) ⟨⟨_, rfl⟩, trivial⟩ ⟨rfl, H.le_refl _, _, [], rfl, setF_nil, (fun z hz => by cases hz), List.nodup_nil⟩
  have hps : ∀ {h' b p c f}, g5.le h' → b < B.length → SetF h' [c] p f → CallsA Tryd.prog 28 (fun _ => [natV b, .agg #[c], .pointer (some ⟨b2, 0, none⟩), .pointer (some ⟨b1, 0, none⟩)]) [] h' (Ret fun v h2 => h'.le h2 ∧ ∃ c' f', v = .agg #[c'] ∧ SetF h2 [c'] (passP S M b p) f' ∧ Fresh h' f' ∧ f'.Nodup) := fun {h' b p c f} hl hb hp =>
    s28 (htg.le hl) hb hSs hMs (rl.le hl) (rm.le hl) (MarkAt.le hl kS5) (MarkAt.le hl kM5) hp
  have hsolve : CallsA Tryd.prog 15 (fun _ => [.agg #[.int .i64 ((vlen u : Nat) : Int), aheadV back ad, .func (.func 27) #[] #[], .func (.func 17) #[] #[], .func (.func 28) #[] #[.pointer (some ⟨b2, 0, none⟩), .pointer (some ⟨b1, 0, none⟩)]]]) [] g5
      (Ret fun r h' => g5.le h' ∧ ∃ l fp, Solved (flS B back (fun _ _ => false) S M) l ∧ SlF 39 1 SetF h' r l fp ∧ Fresh g5 fp ∧ fp.Nodup) := by
    rw [hul]
    exact s15 (F := flS B back (fun _ _ => false) S M) (flS_good hB (fun {b} _ y hy => by cases hy) hMs)
      (flS_C htg rd hu5 hB (by omega) hSs hMs rl rm kS5 kM5 (.inr ⟨_, _, _, rfl⟩) (fun {h' b} hl hb => .of (enter (by decide)) (hfst hl hb)) (by decide) hps) (by show B.length ≤ 1000; omega) (z0 := fun _ => false) (fun _ => zero_set)
  refine ⟨fun _ => hr1.le hle5, h_call0 hsolve ?_⟩
  rintro vg g6 ⟨l6, L, fg, hsol, hgot, hfg, hng⟩
  have hgfit : Fits .sl vg := by obtain ⟨L, fr, _, _, h4, _⟩ := hgot; exact h4.row0.fit
  refine ⟨[vg], ⟨hgfit, trivial⟩, rfl, fun _ => (hr1.le hle5).le l6, rfl, hle5.trans l6, M, S, L, fg, hM, hS, hsol, hgot, fun z hz => H.le_none hle5 (hfg z hz), hng⟩
end Go.Proofs.YtbbicdfipheaeaaDoor
