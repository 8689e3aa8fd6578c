/-
  Turn: something of blocks is turned in place. Conditions: as the contract says.
-/
import Derived.Test.YtibdneedfopcoaaR1N
import Derived.Test.YtibdneedfopcoaaLens
set_option linter.unusedVariables false
set_option linter.unusedSimpArgs false
namespace Go.Proofs.Ytibdneedfopcoaa
open Go

def Small (bs : List Blk) : Prop := bs.length ≤ 1000 ∧ ∀ b ∈ bs, b.ins.length ≤ 1000 ∧ ∀ x ∈ b.ins, x.args.length ≤ 1000
def IX : X := .op .rem .i64 (.conv .i64 (.var 1)) (.len 0)
def AX : X := .op .rem .i64 (.conv .i64 (.var 2)) (.op .add .i64 (.len 5) (.lit 1))
theorem ix_val {b : Int} {m : Nat} (hb : 0 ≤ b ∧ b ≤ 255) (hm : 0 < m) : ∃ i : Nat, i < m ∧ ∀ G : List Value, vlen (gv G 0) = m → gv G 1 = .int .u8 b → vi (IX.den G) = (i : Int) := by
  have := tmod_range (a := b) (n := m) hb.1 (by omega)
  refine ⟨(b.tmod m).toNat, by omega, fun G h1 h2 => ?_⟩
  simp only [IX, X.den, h1, h2, vi_int, intOp]
  rw [wrap_i64 (by omega) (by omega)]; omega
theorem ax_val {b : Int} {m : Nat} (hb : 0 ≤ b ∧ b ≤ 255) (hm : m ≤ 1000) : ∃ i : Nat, i < m + 1 ∧ ∀ G : List Value, vlen (gv G 5) = m → gv G 2 = .int .u8 b → vi (AX.den G) = (i : Int) := by
  have := tmod_range (a := b) (n := ((m : Int) + 1)) hb.1 (by omega)
  refine ⟨(b.tmod ((m : Int) + 1)).toNat, by omega, fun G h1 h2 => ?_⟩
  simp only [AX, X.den, h1, h2, vi_int, intOp]
  rw [wrap_i64 (n := b) (by omega) (by omega), wrap_i64 (by omega) (by omega)]; omega
theorem pe0 {G : List Value} {v : Value} {i o : Nat} (e0 : gv G 0 = v) (hx : vi (IX.den G) = (i : Int)) : PE.den G (.fld (.idx (.var 0) IX 5) o) = (vaddr v).add (i * 5 + o) := by
  simp only [PE.den, e0, hx, Int.toNat_natCast, add_add]
theorem pe1 {G : List Value} {v : Value} {i o : Nat} (e0 : gv G 0 = v) (hx : vi (IX.den G) = (i : Int)) : PE.den G (.fld (.fld (.idx (.var 0) IX 5) 1) o) = (vaddr v).add (i * 5 + (1 + o)) := by
  simp only [PE.den, e0, hx, Int.toNat_natCast, add_add, Nat.add_assoc]
theorem pe7 {G : List Value} {v : Value} {i o : Nat} (e0 : gv G 7 = v) (hx : vi (AX.den G) = (i : Int)) : PE.den G (.fld (.idx (.var 7) AX 7) o) = (vaddr v).add (i * 7 + o) := by
  simp only [PE.den, e0, hx, Int.toNat_natCast, add_add]
/-- As many blocks, each of as many instructions. -/
def Sized (bs bs' : List Blk) : Prop := bs'.map (fun b => b.ins.length) = bs.map (fun b => b.ins.length)
theorem Sized.set {bs : List Blk} {i : Nat} {x x' : Blk} (hx : bs[i]? = some x) (he : x'.ins.length = x.ins.length) : Sized bs (bs.set i x') := by
  unfold Sized
  refine List.ext_getElem? fun k => ?_
  rw [List.getElem?_map, List.getElem?_map, List.getElem?_set]
  by_cases h : i = k
  · subst h
    obtain ⟨hlt, rfl⟩ := List.getElem?_eq_some_iff.1 hx
    simp [hlt, he]
  · simp [h]
theorem Sized.mem {bs bs' : List Blk} (h : Sized bs bs') {b : Blk} (hb : b ∈ bs') : ∃ c ∈ bs, b.ins.length = c.ins.length := by
  have : b.ins.length ∈ bs'.map (fun b => b.ins.length) := List.mem_map_of_mem hb
  rw [h] at this
  obtain ⟨c, hc, e⟩ := List.mem_map.1 this
  exact ⟨c, hc, e.symm⟩
theorem Sized.length {bs bs' : List Blk} (h : Sized bs bs') : bs'.length = bs.length := by
  have := congrArg List.length h; simpa using this
theorem Lens.get_ {α : Type} {e : TypeId} {sz : Nat} {R : RepF α} {h : H} {v : Value} {l : List α} {fp : List Nat} {i : Nat} {x : α} {c : List Value} {f : List Nat} {L1 L2 : List (El α)} {fr : List Nat} (K : Lens e sz R h v l fp i x c f L1 L2 fr) : l[i]? = some x := by
  rw [K.list, List.getElem?_append_right (by rw [List.length_map, K.at_]; omega), List.length_map, K.at_, Nat.sub_self]; rfl
/-- What Turn leaves. -/
def TurnB (h : H) (v : Value) (fp : List Nat) (bs : List Blk) : Value → List (List Value) → H → Prop := Ret fun r h' => r = .tuple #[] ∧ ∃ bs' fp', OwnBlks h' v bs' fp' ∧ fp'.Nodup ∧ KeptH h h' fp ∧ (∀ b ∈ fp', b ∈ fp ∨ h b = none) ∧ Sized bs bs'
def TurnR (h : H) (v : Value) (fp : List Nat) : Value → List (List Value) → H → Prop := Ret fun r h' => r = .tuple #[] ∧ ∃ bs' fp', OwnBlks h' v bs' fp' ∧ fp'.Nodup ∧ KeptH h h' fp ∧ ∀ b ∈ fp', b ∈ fp ∨ h b = none
section
variable {h : H} {v : Value} {bs : List Blk} {fp : List Nat} {i : Nat} {x : Blk} {c : List Value} {f : List Nat} {L1 L2 : List (El Blk)} {fr : List Nat}
/-- The end's field is set. -/
theorem turn_end (hnd : fp.Nodup) (K : Lens 41 5 BlkF h v bs fp i x c f L1 L2 fr) {o : Nat} {w0 w : Value} {A C : List Value} {en : Fin4} (h1 : endC x.en = A ++ [w0] ++ C) (ho : A.length = o) (h2 : A ++ [w] ++ C = endC en) :
    Writable h ((vaddr v).add (i * 5 + (1 + o))) [w].length ∧ TurnB h v fp bs (.tuple #[]) [] (h.sets ((vaddr v).add (i * 5 + (1 + o))) [w]) := by
  obtain ⟨u, hu, hs⟩ := K.rep
  have hk := K.store blkF_good hnd (o := 1 + o) (N := [w]) (A := u :: A) (B := [w0]) (C := C) (by rw [hu, h1]; simp) (by simp [ho]; omega) rfl (by simp)
  obtain ⟨k1, k2, k3⟩ := hk
  refine ⟨k1, rfl, rfl, bs.set i ⟨x.ins, en⟩, fp, k3 _ fun ⟨u', e1, e2⟩ => ?_, hnd, fun b hb _ => k2 b fun hr => hb (by rw [K.foot]; simp [hr]), (fun b hb => .inl hb), Sized.set K.get_ rfl⟩
  have : u = u' := by rw [hu] at e1; simp only [List.cons.injEq] at e1; exact e1.1
  exact ⟨u, by rw [← h2]; simp, by rw [this]; exact e2⟩
/-- An instruction's field is set. -/
theorem turn_ins (hnd : fp.Nodup) (K : Lens 41 5 BlkF h v bs fp i x c f L1 L2 fr) {u : Value} (hu : c = u :: endC x.en) (hfn : f.Nodup) {a : Nat} {y : Ins} {c2 : List Value} {f2 : List Nat} {M1 M2 : List (El Ins)} {fr2 : List Nat}
    (K2 : Lens 46 7 InsF h u x.ins f a y c2 f2 M1 M2 fr2) {o : Nat} {w0 w : Value} {A C : List Value} {y' : Ins} {q : Value} (hq : c2 = insC y q) (h1 : insC y q = A ++ [w0] ++ C) (ho : A.length = o) (h2 : A ++ [w] ++ C = insC y' q) (hargs : y'.args = y.args) :
    Writable h ((vaddr u).add (a * 7 + o)) [w].length ∧ TurnB h v fp bs (.tuple #[]) [] (h.sets ((vaddr u).add (a * 7 + o)) [w]) := by
  obtain ⟨k1, k2, k3⟩ := K2.store insF_good hfn (o := o) (N := [w]) (A := A) (B := [w0]) (C := C) (by rw [hq, h1]) ho rfl (by simp)
  have hs := k3 y' fun ⟨q', e1, e2⟩ => by
    have : q = q' := by rw [hq] at e1; simp only [insC, List.cons.injEq] at e1; exact e1.2.2.2.2.2.2.1
    exact ⟨q, h2, by rw [hargs, this]; exact e2⟩
  have hk : KeptH h (h.sets ((vaddr u).add (a * 7 + o)) [w]) f := fun b hb _ => k2 b fun hr => hb (by rw [K2.foot]; simp [hr])
  obtain ⟨m1, m2, _⟩ := K.inner blkF_good hnd hk (x' := ⟨x.ins.set a y', x.en⟩) (f' := f) ⟨u, by rw [hu], hs⟩ (fun b hb => .inl hb) hfn
  refine ⟨k1, rfl, rfl, _, _, m1, m2, hk.mono fun b hb => by rw [K.foot]; simp [hb], fun b hb => .inl ?_, Sized.set K.get_ (by simp)⟩
  rw [K.foot]; exact hb
end
theorem s18b {h : H} {v : Value} {bs : List Blk} {fp : List Nat} (k : OwnBlks h v bs fp) (hnd : fp.Nodup) (hs : Small bs) {b kk fd n : Int} (hb : 0 ≤ b ∧ b ≤ 255) (hk : 0 ≤ kk ∧ kk ≤ 255) :
    CallsA Try.prog 18 (fun _ => [v, .int .u8 b, .int .u8 kk, .int .u8 fd, .int .i64 n]) [] h (TurnB h v fp bs) := by
  refine c18 (G := [v, .int .u8 b, .int .u8 kk, .int .u8 fd, .int .i64 n]) ⟨k.at.fit, ⟨_, rfl⟩, ⟨_, rfl⟩, ⟨_, rfl⟩, ⟨_, rfl⟩, trivial⟩ ?_
  have hul := k.len (by omega)
  refine h_ite (fun hc => ⟨rfl, rfl, bs, fp, k, hnd, KeptH.refl _ _, (fun b hb => .inl hb), rfl⟩) (fun hc => ?_)
  replace hc : cmpOp .eql ((vlen v : Nat) : Int) 0 = false := hc
  rw [hul, cmp_eql, decide_eq_false_iff_not] at hc
  obtain ⟨i, hi, hix0⟩ := ix_val (m := bs.length) hb (by omega)
  have hix : ∀ tl : List Value, vi (IX.den (v :: .int .u8 b :: tl)) = (i : Int) := fun tl => hix0 _ hul rfl
  have hx : bs[i]? = some bs[i] := List.getElem?_eq_getElem hi
  have hmem : bs[i] ∈ bs := List.getElem_mem _
  generalize bs[i] = x at hx hmem
  obtain ⟨hx1, hx2⟩ := hs.2 x hmem
  obtain ⟨c, f, L1, L2, fr, K⟩ := k.lens hx
  obtain ⟨w, rfl, hw⟩ := K.rep
  have hwl := hw.len (by omega)
  have hfn : f.Nodup := by
    have := hnd; rw [K.foot] at this
    exact (List.nodup_append.1 (List.nodup_append.1 (List.nodup_append.1 this).2.1).2.1).1
  have hwr : Reads h ((vaddr v).add (i * 5 + 0)) [w] := K.reads fun j u hj => by obtain ⟨rfl, rfl⟩ := get_one hj; rfl
  have hwfit := (SlF.at (sz := 7) (Rep := InsC) (Nat.zero_lt_succ 6) insF_at hw).fit
  obtain ⟨a, ha, hax0⟩ := ax_val (m := x.ins.length) hk hx1
  have hax : ∀ (z1 z2 : Value) (tl : List Value), vi (AX.den (v :: .int .u8 b :: .int .u8 kk :: z1 :: z2 :: w :: tl)) = (a : Int) := fun z1 z2 tl => hax0 _ hwl rfl
  have rd0 : ∀ tl : List Value, Reads h (PE.den (v :: .int .u8 b :: tl) (.fld (.idx (.var 0) IX 5) 0)) [w] := fun tl => by rw [pe0 (v := v) rfl (hix tl)]; exact hwr
  refine ⟨fun _ => ⟨?_, trivial⟩, fun _ => ⟨?_, ?_, trivial⟩, h_load [w] ⟨hwfit, trivial⟩ (fun _ => rd0 _)
    ⟨fun _ => ⟨?_, trivial⟩, h_load [w] ⟨hwfit, trivial⟩ (fun _ => rd0 _) (h_ite (fun hc2 => ?_) (fun hc2 => ?_))⟩⟩
  · show cmpOp .neq ((vlen v : Nat) : Int) 0 = true
    rw [hul, cmp_neq, decide_eq_true_eq]; exact hc
  · show cmpOp .geq (vi (IX.den [v, .int .u8 b, .int .u8 kk, .int .u8 fd, .int .i64 n])) 0 = true
    rw [hix, cmp_geq, decide_eq_true_eq]; omega
  · show cmpOp .lss (vi (IX.den [v, .int .u8 b, .int .u8 kk, .int .u8 fd, .int .i64 n])) ((vlen v : Nat) : Int) = true
    rw [hix, hul, cmp_lss, decide_eq_true_eq]; omega
  · show cmpOp .neq (intOp .add .i64 ((vlen w : Nat) : Int) 1) 0 = true
    rw [hwl, cmp_neq, decide_eq_true_eq]
    simp only [intOp]; rw [wrap_i64 (by omega) (by omega)]; omega
  · refine h_ite (fun _ => ?_) (fun _ => h_ite (fun _ => ?_) (fun _ => h_ite (fun _ => ?_) (fun _ => ?_)))
    · refine h_store ((vaddr v).add (i * 5 + (1 + 0))) [.int .u8 (IntKind.u8.wrap n)] (pe1 rfl (hix _)) rfl ?_ ?_
      · exact (turn_end hnd K (o := 0) (w := .int .u8 (IntKind.u8.wrap n)) (A := []) (C := [.int .i64 x.en.a, .int .i64 x.en.to, .int .i64 x.en.el]) (en := ⟨IntKind.u8.wrap n, x.en.a, x.en.to, x.en.el⟩) rfl rfl rfl).1
      · exact (turn_end hnd K (o := 0) (w := .int .u8 (IntKind.u8.wrap n)) (A := []) (C := [.int .i64 x.en.a, .int .i64 x.en.to, .int .i64 x.en.el]) (en := ⟨IntKind.u8.wrap n, x.en.a, x.en.to, x.en.el⟩) rfl rfl rfl).2
    · refine h_store ((vaddr v).add (i * 5 + (1 + 1))) [.int .i64 n] (pe1 rfl (hix _)) rfl ?_ ?_
      · exact (turn_end hnd K (o := 1) (w := .int .i64 n) (A := [.int .u8 x.en.kind]) (C := [.int .i64 x.en.to, .int .i64 x.en.el]) (en := ⟨x.en.kind, n, x.en.to, x.en.el⟩) rfl rfl rfl).1
      · exact (turn_end hnd K (o := 1) (w := .int .i64 n) (A := [.int .u8 x.en.kind]) (C := [.int .i64 x.en.to, .int .i64 x.en.el]) (en := ⟨x.en.kind, n, x.en.to, x.en.el⟩) rfl rfl rfl).2
    · refine h_store ((vaddr v).add (i * 5 + (1 + 2))) [.int .i64 n] (pe1 rfl (hix _)) rfl ?_ ?_
      · exact (turn_end hnd K (o := 2) (w := .int .i64 n) (A := [.int .u8 x.en.kind, .int .i64 x.en.a]) (C := [.int .i64 x.en.el]) (en := ⟨x.en.kind, x.en.a, n, x.en.el⟩) rfl rfl rfl).1
      · exact (turn_end hnd K (o := 2) (w := .int .i64 n) (A := [.int .u8 x.en.kind, .int .i64 x.en.a]) (C := [.int .i64 x.en.el]) (en := ⟨x.en.kind, x.en.a, n, x.en.el⟩) rfl rfl rfl).2
    · refine h_store ((vaddr v).add (i * 5 + (1 + 3))) [.int .i64 n] (pe1 rfl (hix _)) rfl ?_ ?_
      · exact (turn_end hnd K (o := 3) (w := .int .i64 n) (A := [.int .u8 x.en.kind, .int .i64 x.en.a, .int .i64 x.en.to]) (C := []) (en := ⟨x.en.kind, x.en.a, x.en.to, n⟩) rfl rfl rfl).1
      · exact (turn_end hnd K (o := 3) (w := .int .i64 n) (A := [.int .u8 x.en.kind, .int .i64 x.en.a, .int .i64 x.en.to]) (C := []) (en := ⟨x.en.kind, x.en.a, x.en.to, n⟩) rfl rfl rfl).2
  · replace hc2 : cmpOp .eql (vi (AX.den [v, .int .u8 b, .int .u8 kk, .int .u8 fd, .int .i64 n, w, w])) ((vlen w : Nat) : Int) = false := hc2
    rw [hax, hwl, cmp_eql, decide_eq_false_iff_not] at hc2
    have ha2 : a < x.ins.length := by omega
    have hy : x.ins[a]? = some x.ins[a] := List.getElem?_eq_getElem ha2
    have hym : x.ins[a] ∈ x.ins := List.getElem_mem _
    generalize x.ins[a] = y at hy hym
    have hy1 := hx2 y hym
    obtain ⟨c2, f2, M1, M2, fr2, K2⟩ := hw.lens hy
    obtain ⟨q, rfl, hq⟩ := K2.rep
    have hql := (rowF_ints hq).len
    refine h_load [w] ⟨hwfit, trivial⟩ (fun _ => rd0 _) ⟨fun _ => ⟨?_, ?_, trivial⟩, ?_⟩
    · show cmpOp .geq (vi (AX.den [v, .int .u8 b, .int .u8 kk, .int .u8 fd, .int .i64 n, w, w, w])) 0 = true
      rw [hax, cmp_geq, decide_eq_true_eq]; omega
    · show cmpOp .lss (vi (AX.den [v, .int .u8 b, .int .u8 kk, .int .u8 fd, .int .i64 n, w, w, w])) ((vlen w : Nat) : Int) = true
      rw [hax, hwl, cmp_lss, decide_eq_true_eq]; omega
    have hqr : Reads h ((vaddr w).add (a * 7 + 6)) [q] := K2.reads fun j u hj => by obtain ⟨rfl, rfl⟩ := get_one hj; rfl
    have hqfit := (rowF_ints hq).fit
    have rd7 : ∀ (z1 z2 z3 : Value) (tl : List Value), Reads h (PE.den (v :: .int .u8 b :: .int .u8 kk :: z1 :: z2 :: w :: z3 :: w :: tl) (.fld (.idx (.var 7) AX 7) 6)) [q] := fun z1 z2 z3 tl => by rw [pe7 (v := w) rfl (hax _ _ _)]; exact hqr
    refine h_ite (fun _ => ?_) (fun _ => h_ite (fun _ => ?_) (fun _ => h_ite (fun _ => ?_) (fun _ => h_ite (fun _ => ?_) (fun _ => h_ite (fun _ => ?_) (fun _ => h_ite (fun _ => ?_) (fun _ => h_ite (fun _ => ?_) (fun _ => ?_)))))))
    · refine h_store ((vaddr w).add (a * 7 + 0)) [.int .u8 (IntKind.u8.wrap n)] (pe7 rfl (hax _ _ _)) rfl ?_ ?_
      · exact (turn_ins hnd K rfl hfn K2 (o := 0) (w := .int .u8 (IntKind.u8.wrap n)) (A := []) (C := [.int .u8 y.op, .int .i64 y.d, .int .i64 y.a, .int .i64 y.b, .int .i64 y.n, q]) (y' := ⟨IntKind.u8.wrap n, y.op, y.d, y.a, y.b, y.n, y.args⟩) rfl rfl rfl rfl rfl).1
      · exact (turn_ins hnd K rfl hfn K2 (o := 0) (w := .int .u8 (IntKind.u8.wrap n)) (A := []) (C := [.int .u8 y.op, .int .i64 y.d, .int .i64 y.a, .int .i64 y.b, .int .i64 y.n, q]) (y' := ⟨IntKind.u8.wrap n, y.op, y.d, y.a, y.b, y.n, y.args⟩) rfl rfl rfl rfl rfl).2
    · refine h_store ((vaddr w).add (a * 7 + 1)) [.int .u8 (IntKind.u8.wrap n)] (pe7 rfl (hax _ _ _)) rfl ?_ ?_
      · exact (turn_ins hnd K rfl hfn K2 (o := 1) (w := .int .u8 (IntKind.u8.wrap n)) (A := [.int .u8 y.kind]) (C := [.int .i64 y.d, .int .i64 y.a, .int .i64 y.b, .int .i64 y.n, q]) (y' := ⟨y.kind, IntKind.u8.wrap n, y.d, y.a, y.b, y.n, y.args⟩) rfl rfl rfl rfl rfl).1
      · exact (turn_ins hnd K rfl hfn K2 (o := 1) (w := .int .u8 (IntKind.u8.wrap n)) (A := [.int .u8 y.kind]) (C := [.int .i64 y.d, .int .i64 y.a, .int .i64 y.b, .int .i64 y.n, q]) (y' := ⟨y.kind, IntKind.u8.wrap n, y.d, y.a, y.b, y.n, y.args⟩) rfl rfl rfl rfl rfl).2
    · refine h_store ((vaddr w).add (a * 7 + 2)) [.int .i64 n] (pe7 rfl (hax _ _ _)) rfl ?_ ?_
      · exact (turn_ins hnd K rfl hfn K2 (o := 2) (w := .int .i64 n) (A := [.int .u8 y.kind, .int .u8 y.op]) (C := [.int .i64 y.a, .int .i64 y.b, .int .i64 y.n, q]) (y' := ⟨y.kind, y.op, n, y.a, y.b, y.n, y.args⟩) rfl rfl rfl rfl rfl).1
      · exact (turn_ins hnd K rfl hfn K2 (o := 2) (w := .int .i64 n) (A := [.int .u8 y.kind, .int .u8 y.op]) (C := [.int .i64 y.a, .int .i64 y.b, .int .i64 y.n, q]) (y' := ⟨y.kind, y.op, n, y.a, y.b, y.n, y.args⟩) rfl rfl rfl rfl rfl).2
    · refine h_store ((vaddr w).add (a * 7 + 3)) [.int .i64 n] (pe7 rfl (hax _ _ _)) rfl ?_ ?_
      · exact (turn_ins hnd K rfl hfn K2 (o := 3) (w := .int .i64 n) (A := [.int .u8 y.kind, .int .u8 y.op, .int .i64 y.d]) (C := [.int .i64 y.b, .int .i64 y.n, q]) (y' := ⟨y.kind, y.op, y.d, n, y.b, y.n, y.args⟩) rfl rfl rfl rfl rfl).1
      · exact (turn_ins hnd K rfl hfn K2 (o := 3) (w := .int .i64 n) (A := [.int .u8 y.kind, .int .u8 y.op, .int .i64 y.d]) (C := [.int .i64 y.b, .int .i64 y.n, q]) (y' := ⟨y.kind, y.op, y.d, n, y.b, y.n, y.args⟩) rfl rfl rfl rfl rfl).2
    · refine h_store ((vaddr w).add (a * 7 + 4)) [.int .i64 n] (pe7 rfl (hax _ _ _)) rfl ?_ ?_
      · exact (turn_ins hnd K rfl hfn K2 (o := 4) (w := .int .i64 n) (A := [.int .u8 y.kind, .int .u8 y.op, .int .i64 y.d, .int .i64 y.a]) (C := [.int .i64 y.n, q]) (y' := ⟨y.kind, y.op, y.d, y.a, n, y.n, y.args⟩) rfl rfl rfl rfl rfl).1
      · exact (turn_ins hnd K rfl hfn K2 (o := 4) (w := .int .i64 n) (A := [.int .u8 y.kind, .int .u8 y.op, .int .i64 y.d, .int .i64 y.a]) (C := [.int .i64 y.n, q]) (y' := ⟨y.kind, y.op, y.d, y.a, n, y.n, y.args⟩) rfl rfl rfl rfl rfl).2
    · refine h_store ((vaddr w).add (a * 7 + 5)) [.int .i64 n] (pe7 rfl (hax _ _ _)) rfl ?_ ?_
      · exact (turn_ins hnd K rfl hfn K2 (o := 5) (w := .int .i64 n) (A := [.int .u8 y.kind, .int .u8 y.op, .int .i64 y.d, .int .i64 y.a, .int .i64 y.b]) (C := [q]) (y' := ⟨y.kind, y.op, y.d, y.a, y.b, n, y.args⟩) rfl rfl rfl rfl rfl).1
      · exact (turn_ins hnd K rfl hfn K2 (o := 5) (w := .int .i64 n) (A := [.int .u8 y.kind, .int .u8 y.op, .int .i64 y.d, .int .i64 y.a, .int .i64 y.b]) (C := [q]) (y' := ⟨y.kind, y.op, y.d, y.a, y.b, n, y.args⟩) rfl rfl rfl rfl rfl).2
    · refine h_load [q] ⟨hqfit, trivial⟩ (fun _ => rd7 _ _ _ _) ⟨[.int .i64 n], 1, ⟨rfl, rfl⟩, app_rowF hq rfl (by rw [zero3]; rfl) ?_ ?_⟩
      · show (vlen q + 1) * 8 ≤ _
        rw [hql]; omega
      · intro q' h1 fq k1 k2 k3 k4
        have hfq : ∀ b ∈ fq, b ∈ f2 ∨ h b = none := by
          rcases k4 with rfl | ⟨b', rfl, hb'⟩
          · exact fun b hb => .inl hb
          · exact fun b hb => by rw [List.mem_singleton] at hb; subst hb; exact .inr hb'
        have hf2n : f2.Nodup := by
          have := hfn; rw [K2.foot] at this
          exact (List.nodup_append.1 (List.nodup_append.1 (List.nodup_append.1 this).2.1).2.1).1
        have hfqn : fq.Nodup := by
          rcases k4 with rfl | ⟨b', rfl, hb'⟩
          · exact hf2n
          · simp
        obtain ⟨m1, m2, m3⟩ := K2.upd insF_good hfn k3 (o := 6) (N := [q']) (A := [.int .u8 y.kind, .int .u8 y.op, .int .i64 y.d, .int .i64 y.a, .int .i64 y.b, .int .i64 y.n]) (B := [q]) (C := []) rfl rfl rfl (by simp)
        refine h_store ((vaddr w).add (a * 7 + 6)) [q'] (pe7 rfl (hax _ _ _)) rfl m1 ?_
        have hag : Agree h1 (h1.sets ((vaddr w).add (a * 7 + 6)) [q']) fq := fun b hb => m2 b fun hr => by
          rcases hfq b hb with e | e
          · exact K2.apart hfn b e hr
          · have := K2.row.live b hr; rw [e] at this; cases this
        have hs2 := m3 ⟨y.kind, y.op, y.d, y.a, y.b, y.n, y.args ++ [n]⟩ fq ⟨q', rfl, by rw [List.map_append]; exact k1.agree hag⟩
        have hnd2 := K2.nodup insF_good hfn hfq hfqn
        have hk2 : KeptH h (h1.sets ((vaddr w).add (a * 7 + 6)) [q']) f := fun b hb hl => by
          rw [m2 b fun hr => hb (by rw [K2.foot]; simp [hr])]
          exact k3 b (fun hr => hb (by rw [K2.foot]; simp [hr])) hl
        have hff : ∀ b ∈ fr2 ++ (fpE M1 ++ (fq ++ fpE M2)), b ∈ f ∨ h b = none := fun b hb => by
          rw [K2.foot]
          simp only [List.mem_append] at hb ⊢
          rcases hb with hb | hb | hb | hb
          · exact .inl (.inl hb)
          · exact .inl (.inr (.inl hb))
          · rcases hfq b hb with e | e
            · exact .inl (.inr (.inr (.inl e)))
            · exact .inr e
          · exact .inl (.inr (.inr (.inr hb)))
        obtain ⟨j1, j2, _⟩ := K.inner blkF_good hnd hk2 (x' := ⟨x.ins.set a ⟨y.kind, y.op, y.d, y.a, y.b, y.n, y.args ++ [n]⟩, x.en⟩) ⟨w, rfl, hs2⟩ hff hnd2
        refine ⟨rfl, rfl, _, _, j1, j2, hk2.mono fun b hb => by rw [K.foot]; simp [hb], fun b hb => ?_, Sized.set K.get_ (by simp)⟩
        rw [K.foot]
        simp only [List.mem_append] at hb ⊢
        rcases hb with hb | hb | hb | hb
        · exact .inl (.inl hb)
        · exact .inl (.inr (.inl hb))
        · rcases hff b (by simpa using hb) with e | e
          · exact .inl (.inr (.inr (.inl e)))
          · exact .inr e
        · exact .inl (.inr (.inr (.inr hb)))
    · refine h_load [q] ⟨hqfit, trivial⟩ (fun _ => rd7 _ _ _ _) (h_ite (fun hc3 => ?_) (fun _ => ⟨rfl, rfl, bs, fp, k, hnd, KeptH.refl _ _, (fun b hb => .inl hb), rfl⟩))
      replace hc3 : cmpOp .gtr ((vlen q : Nat) : Int) 0 = true := hc3
      have hc3' := hc3
      rw [hql, cmp_gtr, decide_eq_true_eq] at hc3
      obtain ⟨a0, rest, hargs⟩ : ∃ a0 rest, y.args = a0 :: rest := by
        cases e : y.args with
        | nil => rw [e] at hc3; simp at hc3
        | cons a0 rest => exact ⟨a0, rest, rfl⟩
      refine h_load [q] ⟨hqfit, trivial⟩ (fun _ => rd7 _ _ _ _) ⟨fun _ => ⟨rfl, ?_, trivial⟩, ?_⟩
      · show cmpOp .lss 0 ((vlen q : Nat) : Int) = true
        rw [hql, cmp_lss, decide_eq_true_eq]; exact hc3
      have hq' : RowF h 3 1 q ([] ++ [Value.int .i64 a0] ++ rest.map (.int .i64)) f2 := by have := hq; rw [hargs] at this; exact this
      obtain ⟨m1, m2⟩ := set_rowF (N := [Value.int .i64 n]) hq' rfl (by simp)
      have hwr2 : Writable h ((vaddr q).add 0) 1 := by
        refine hq'.row0.writable ?_
        have e1 := hq'.row0.len
        obtain ⟨aa, nn, cc, rfl, _, e3⟩ := hqfit
        simp only [List.length_append, List.length_cons, List.length_nil, vlen_sl, vcap_sl] at e1 ⊢
        omega
      refine h_store ((vaddr q).add 0) [.int .i64 n] rfl rfl hwr2 ?_
      have hk1 : KeptH h (h.sets ((vaddr q).add 0) [.int .i64 n]) f2 := fun b hb _ => m2 b hb
      have hf2n : f2.Nodup := by
        have := hfn; rw [K2.foot] at this
        exact (List.nodup_append.1 (List.nodup_append.1 (List.nodup_append.1 this).2.1).2.1).1
      obtain ⟨i1, i2, _⟩ := K2.inner insF_good hfn hk1 (x' := ⟨y.kind, y.op, y.d, y.a, y.b, y.n, n :: rest⟩) (f' := f2) ⟨q, rfl, m1⟩ (fun b hb => .inl hb) hf2n
      have hk2 : KeptH h (h.sets ((vaddr q).add 0) [.int .i64 n]) f := hk1.mono fun b hb => by rw [K2.foot]; simp [hb]
      obtain ⟨j1, j2, _⟩ := K.inner blkF_good hnd hk2 (x' := ⟨x.ins.set a ⟨y.kind, y.op, y.d, y.a, y.b, y.n, n :: rest⟩, x.en⟩) ⟨w, rfl, i1⟩ (fun b hb => .inl (by rw [K2.foot]; exact hb)) i2
      refine ⟨rfl, rfl, _, _, j1, j2, hk2.mono fun b hb => by rw [K.foot]; simp [hb], fun b hb => .inl ?_, Sized.set K.get_ (by simp)⟩
      rw [K.foot, K2.foot]; exact hb
theorem s18 {h : H} {v : Value} {bs : List Blk} {fp : List Nat} (k : OwnBlks h v bs fp) (hnd : fp.Nodup) (hs : Small bs) {b kk fd n : Int} (hb : 0 ≤ b ∧ b ≤ 255) (hk : 0 ≤ kk ∧ kk ≤ 255) :
    CallsA Try.prog 18 (fun _ => [v, .int .u8 b, .int .u8 kk, .int .u8 fd, .int .i64 n]) [] h (TurnR h v fp) :=
  (s18b k hnd hs hb hk).mono fun r cs h' ⟨e, hr, bs', fp', k1, k2, k3, k4, _⟩ => ⟨e, hr, bs', fp', k1, k2, k3, k4⟩
end Go.Proofs.Ytibdneedfopcoaa
