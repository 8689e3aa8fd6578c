/-
  Rows of sets while a law asks about them: joined without change, read. Conditions: as each lemma says.
-/
import Derived.Test.YtbbicdfipheaeaaDoorR5H
set_option linter.unusedVariables false
set_option linter.unusedSimpArgs false
namespace Go.Proofs.YtbbicdfipheaeaaDoor
open Go

theorem bytes_cap {h : H} {v : Value} {l : List Int} (k : BytesAt h v l) (hc : vcap v ≤ maxLen) : l.length ≤ 9223372036854775807 := by
  have e := k.len
  obtain ⟨a, n, c, rfl, _, hn⟩ := k.fit
  simp only [vlen_sl, vcap_sl] at e hc
  have : maxLen = 9223372036854775807 := rfl
  omega
/-- A row of sets, all of its own since g. -/
def SetsSt (g h : H) (v : Value) (L : List SP) : Prop := ∃ fp, SlF 39 1 SetF h v L fp ∧ fp.Nodup ∧ g.le h ∧ Fresh g fp
section
variable {g h h' : H} {v : Value} {L : List SP}
theorem SetsSt.le (K : SetsSt g h v L) : g.le h := by obtain ⟨fp, _, _, k, _⟩ := K; exact k
theorem SetsSt.grow (K : SetsSt g h v L) (hl : h.le h') : SetsSt g h' v L := by
  obtain ⟨fp, k, hn, hg, hf⟩ := K
  exact ⟨fp, k.agree setF_good (le_agree' hl (k.live setF_good)), hn, hg.trans hl, hf⟩
theorem SetsSt.weak {g0 : H} (hl : g0.le g) (K : SetsSt g h v L) : SetsSt g0 h v L := by
  obtain ⟨fp, k, hn, hg, hf⟩ := K
  exact ⟨fp, k, hn, hl.trans hg, fun b hb => H.le_none hl (hf b hb)⟩
/-- A new row beside it, in memory that stays. -/
theorem SetsSt.beside {u : Value} {l : List Int} (K : SetsSt g h v L) (hl : h.le h') (hu : OwnInts h h' u l) : ∃ g1, g.le g1 ∧ IntsAt g1 u l ∧ SetsSt g1 h' v L := by
  obtain ⟨fp, k, hn, hg, hf⟩ := K
  refine ⟨H.cut h' fp, H.le_cut (hg.trans hl) hf, OwnInts.ints (Row.cut hu (k.live setF_good)), fp, k.agree setF_good (le_agree' hl (k.live setF_good)), hn, H.cut_le _ _, H.cut_fresh _ _⟩
theorem SetsSt.read (K : SetsSt g h v L) {i : Nat} {p : SP} (hi : L[i]? = some p) : ∃ c f, SetF h [c] p f ∧ Fits .sl c ∧ Reads h ((vaddr v).add (i * 1)) [c] := by
  obtain ⟨fp, k, hn, hg, hf⟩ := K
  obtain ⟨c, f, h1, h2, _⟩ := k.get1 hi
  refine ⟨c, f, h1, ?_, h2⟩
  obtain ⟨v, ws, e, k, _⟩ := h1
  obtain rfl : c = v := by simpa using e
  exact k.fit
/-- Joined with a set that it has: nothing is changed. -/
theorem SetsSt.join {h0 : H} {i : Nat} {p q : SP} {o : Value} {fo : List Nat} (ht : Tab h) (K : SetsSt g h0 v L) (hl : h0.le h) (hi : L[i]? = some p) (ho : SetF h [o] q fo) (hd : ∀ fp, Live h0 fp → Fresh g fp → ∀ b ∈ fo, b ∉ fp) (hle : ∀ y, q y = true → p y = true) :
    CallsA Tryd.prog 17 (fun _ => [.pointer (some ((vaddr v).add (i * 1))), .agg #[o]]) [] h (Ret fun r h' => r = .bool false ∧ SetsSt g h' v L) := by
  obtain ⟨fp, k, hn, hg, hf⟩ := K
  have k' := k.agree setF_good (le_agree' hl (k.live setF_good))
  have e : orP p q = p := by
    funext y
    unfold orP
    cases hp : p y with
    | true => rfl
    | false =>
      cases hq : q y with
      | false => rfl
      | true => rw [hle y hq] at hp; cases hp
  refine (s17p ht k' hn hi ho (hd fp (k.live setF_good) hf)).mono ?_
  rintro r cs h' ⟨hcs, rfl, fp', k1, k2, k3, k4⟩
  rw [e, set_same hi] at k1
  refine ⟨hcs, ?_, fp', k1, k2, k3.le (hg.trans hl) hf, fun b hb => (k4 b hb).elim (hf b) (H.le_none (hg.trans hl))⟩
  rw [e]
  simp
end
section
variable {h : H} {N b : Nat} {p : SP} {c vl vm : Value} {f : List Nat} {al am : Addr} {S M : List (List Nat)}
theorem s24 (hb : b < N) (hS : SmallT N S) (rl : Reads h al [vl]) (kl : MarkAt h vl S) :
    CallsA Tryd.prog 24 (fun _ => [natV b, .pointer (some al)]) [] h (Ret fun v h2 => h.le h2 ∧ ∃ c f, v = .agg #[c] ∧ SetF h2 [c] (ofP (rowAt S b)) f ∧ Fresh h f ∧ f.Nodup) := by
  have hD := hS.get hb
  have hll : vlen vl = N := by rw [kl.len, hS.1]
  obtain ⟨u, hu, ru⟩ := kl.row hD
  refine c24 (G := [natV b, .pointer (some al)]) ⟨⟨_, rfl⟩, ⟨_, rfl⟩, trivial⟩ (h_load [vl] ⟨kl.fit, trivial⟩ (fun _ => rl) ⟨fun _ => ?_, h_load [u] ⟨hu.fit, trivial⟩ (fun _ => ru) ?_⟩)
  · refine ⟨ge0 b, ?_, trivial⟩
    show cmpOp .lss (b : Int) ((vlen vl : Nat) : Int) = true
    rw [hll]; exact ltN hb
  refine h_call0 (s21g hu (hS.2 hD).1 (hS.2 hD).2) ?_
  rintro _ h2 ⟨l2, o, wo, fo, rfl, hso, hwo, hfo⟩
  exact ⟨[o], ⟨hso.fit, trivial⟩, rfl, rfl, l2, o, fo, rfl, ⟨o, wo, rfl, hso, hwo⟩, hfo, hso.nodup⟩
theorem s18 (ht : Tab h) (hb : b < N) (hS : SmallT N S) (hM : SmallT N M) (rl : Reads h al [vl]) (rm : Reads h am [vm]) (kl : MarkAt h vl S) (km : MarkAt h vm M) (hp : SetF h [c] p f) :
    CallsA Tryd.prog 18 (fun _ => [natV b, .agg #[c], .pointer (some al), .pointer (some am)]) [] h (Ret fun v h' => h.le h' ∧ ∃ c' f', v = .agg #[c'] ∧ SetF h' [c'] (passP S M b p) f' ∧ Fresh h f' ∧ f'.Nodup) :=
  c18 (G := [natV b, c, .pointer (some al), .pointer (some am)]) ⟨⟨_, rfl⟩, hp.fit1, ⟨_, rfl⟩, ⟨_, rfl⟩, trivial⟩ (pass_holds ht hb hS hM rl rm kl km hp)
theorem s25 (ht : Tab h) (hb : b < N) (hS : SmallT N S) (hM : SmallT N M) (rl : Reads h al [vl]) (rm : Reads h am [vm]) (kl : MarkAt h vl S) (km : MarkAt h vm M) (hp : SetF h [c] p f) :
    CallsA Tryd.prog 25 (fun _ => [natV b, .agg #[c], .pointer (some al), .pointer (some am)]) [] h (Ret fun v h' => h.le h' ∧ ∃ c' f', v = .agg #[c'] ∧ SetF h' [c'] (passP S M b p) f' ∧ Fresh h f' ∧ f'.Nodup) :=
  c25 (G := [natV b, c, .pointer (some al), .pointer (some am)]) ⟨⟨_, rfl⟩, hp.fit1, ⟨_, rfl⟩, ⟨_, rfl⟩, trivial⟩ (pass_holds ht hb hS hM rl rm kl km hp)
theorem s28 (ht : Tab h) (hb : b < N) (hS : SmallT N S) (hM : SmallT N M) (rl : Reads h al [vl]) (rm : Reads h am [vm]) (kl : MarkAt h vl S) (km : MarkAt h vm M) (hp : SetF h [c] p f) :
    CallsA Tryd.prog 28 (fun _ => [natV b, .agg #[c], .pointer (some al), .pointer (some am)]) [] h (Ret fun v h' => h.le h' ∧ ∃ c' f', v = .agg #[c'] ∧ SetF h' [c'] (passP S M b p) f' ∧ Fresh h f' ∧ f'.Nodup) :=
  c28 (G := [natV b, c, .pointer (some al), .pointer (some am)]) ⟨⟨_, rfl⟩, hp.fit1, ⟨_, rfl⟩, ⟨_, rfl⟩, trivial⟩ (pass_holds ht hb hS hM rl rm kl km hp)
end
end Go.Proofs.YtbbicdfipheaeaaDoor
