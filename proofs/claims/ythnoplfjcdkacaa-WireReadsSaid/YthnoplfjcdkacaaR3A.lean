/-
  Numbers as bytes: what the program's and the document's Put and Zig compute; rows of bytes. Conditions: as each contract says.
-/
import Derived.Test.YthnoplfjcdkacaaMb
set_option linter.unusedVariables false
set_option linter.unusedSimpArgs false
namespace Go.Proofs.Ythnoplfjcdkacaa
open Go

theorem nat_ge0 (n : Nat) : cmpOp .geq (n : Int) 0 = true := by rw [cmp_geq, decide_eq_true_eq]; omega

/-! ### A number's bytes -/
def leb (n : Nat) : List Int := if n < 128 then [(n : Int)] else ((n % 128 + 128 : Nat) : Int) :: leb (n / 128)
termination_by n
decreasing_by omega
theorem leb_lt {n : Nat} (h : n < 128) : leb n = [(n : Int)] := by rw [leb, if_pos h]
theorem leb_ge {n : Nat} (h : 128 ≤ n) : leb n = ((n % 128 + 128 : Nat) : Int) :: leb (n / 128) := by rw [leb, if_neg (by omega)]
theorem leb_len : ∀ (k n : Nat), n < 128 ^ (k + 1) → (leb n).length ≤ k + 1
  | 0, n, h => by rw [leb_lt (by simpa using h)]; simp
  | k + 1, n, h => by
    by_cases hn : n < 128
    · rw [leb_lt hn]; simp
    · rw [leb_ge (by omega)]
      have := leb_len k (n / 128) (by rw [Nat.div_lt_iff_lt_mul (by omega)]; rw [Nat.pow_succ] at h; exact h)
      simp only [List.length_cons]; omega
theorem leb_len10 {n : Nat} (h : n < 18446744073709551616) : (leb n).length ≤ 10 := leb_len 9 n (Nat.lt_of_lt_of_le h (by decide))
theorem leb_inB : ∀ (n : Nat), ∀ b ∈ leb n, 0 ≤ b ∧ b ≤ 255 := by
  intro n
  induction n using Nat.strongRecOn with
  | _ n ih =>
    intro b hb
    by_cases hn : n < 128
    · rw [leb_lt hn, List.mem_singleton] at hb; omega
    · rw [leb_ge (by omega)] at hb
      rcases List.mem_cons.1 hb with rfl | hb
      · omega
      · exact ih _ (by omega) b hb
/-- A number of the machine, as the wire has it. -/
def u64 (n : Int) : Nat := (IntKind.u64.wrap n).toNat
theorem u64_wrap (n : Int) : IntKind.u64.wrap n = ((u64 n : Nat) : Int) := by
  unfold u64
  simp [IntKind.wrap, IntKind.bits, IntKind.signed]; omega
theorem u64_lt (n : Int) : u64 n < 18446744073709551616 := by
  unfold u64
  simp [IntKind.wrap, IntKind.bits, IntKind.signed]; omega
theorem u64_of {n : Int} (h0 : 0 ≤ n) (h1 : n < 18446744073709551616) : u64 n = n.toNat := by
  unfold u64
  simp [IntKind.wrap, IntKind.bits, IntKind.signed]; omega
theorem u64_i64 (n : Int) : IntKind.u64.wrap (IntKind.i64.wrap n) = ((u64 n : Nat) : Int) := by
  rw [← u64_wrap]
  simp [IntKind.wrap, IntKind.bits, IntKind.signed]
  split <;> omega
theorem u64_id {n : Int} (h0 : 0 ≤ n) (h1 : n < 18446744073709551616) : IntKind.u64.wrap n = n := by rw [u64_wrap, u64_of h0 h1]; omega
def lebI (n : Int) : List Int := leb (u64 n)
theorem lebI_len (n : Int) : (lebI n).length ≤ 10 := leb_len10 (u64_lt n)
theorem lebI_inB (n : Int) : InB (lebI n) := leb_inB _
/-- A number that may be below 0, as one that isn't. -/
def zig (n : Int) : Nat := if n < 0 then (2 * (-(n + 1)) + 1).toNat else (2 * n).toNat
theorem zig_lt {n : Int} (h : N64 n) : zig n < 18446744073709551616 := by obtain ⟨h1, h2⟩ := h; unfold zig; split <;> omega

/-! ### Rows of bytes -/
theorem BytesAt.all {h : H} {v : Value} {l : List Int} (H : BytesAt h v l) : Reads h (vaddr v) (l.map (.int .u8)) := by
  intro i w hi
  rw [List.getElem?_map, Option.map_eq_some_iff] at hi
  obtain ⟨x, hx, rfl⟩ := hi
  have := (H.read hx).1 0 _ rfl
  rw [add_add] at this; simpa using this
theorem BytesAt.src {h : H} {v : Value} {l : List Int} (H : BytesAt h v l) : SlSrc h (l.map (.int .u8)) l.length v := by
  have h1 := H.all
  have h2 := H.len
  obtain ⟨a, n, c, rfl, h3, h4⟩ := H.fit
  cases a with
  | none => exact ⟨h2.symm, (h3 rfl).1⟩
  | some b => exact ⟨h2.symm, h1⟩
theorem BytesAt.bin {h : H} {v : Value} {l : List Int} (H : BytesAt h v l) : BytesIn h v l := by
  have h1 := H.all
  have h2 := H.len
  obtain ⟨a, n, c, rfl, h3, h4⟩ := H.fit
  cases a with
  | none => exact ⟨List.length_eq_zero_iff.1 (by rw [← h2]; exact (h3 rfl).1), (h3 rfl).1⟩
  | some b => exact ⟨h2.symm, h1⟩
def OwnB (h0 h : H) (v : Value) (l : List Int) : Prop := Row h0 h 5 1 v (l.map (.int .u8)) ∧ InB l
theorem OwnB.at {h0 h : H} {v : Value} {l : List Int} (k : OwnB h0 h v l) : BytesAt h v l := by
  obtain ⟨k, hb⟩ := k
  refine ⟨k.fit, by have := k.len; simp at this; exact this.symm, fun i x hi => ⟨[.int .u8 x], ⟨rfl, hb x (List.mem_of_getElem? hi)⟩, k.reads fun j u hj => ?_⟩⟩
  cases j with
  | zero => simp at hj; subst hj; simp [hi]
  | succ j => simp at hj
theorem OwnB.le {h0 h h' : H} {v : Value} {l : List Int} (hl : h.le h') (k : OwnB h0 h v l) : OwnB h0 h' v l := ⟨k.1.le hl, k.2⟩
theorem OwnB.mono {h0 h1 h : H} {v : Value} {l : List Int} (hl : h0.le h1) (k : OwnB h1 h v l) : OwnB h0 h v l := by
  obtain ⟨k, hb⟩ := k
  refine ⟨?_, hb⟩
  rcases k with k | ⟨b, n, c, r, h1, h2, h3, h4, h5, h6⟩
  · exact .inl k
  · exact .inr ⟨b, n, c, r, h1, h2, h3, h4, h5, H.le_none hl h6⟩
theorem OwnB.nil {h0 h : H} : OwnB h0 h (.slice none 0 0) [] := ⟨.inl ⟨rfl, rfl⟩, fun _ h => by cases h⟩
theorem OwnB.len {h0 h : H} {v : Value} {l : List Int} (k : OwnB h0 h v l) : vlen v = l.length := k.at.len
theorem zero1 : (zeroCells Try.prog 5).getD [] = [.int .u8 0] := by kernel_rfl
theorem inB_app {a b : List Int} (ha : InB a) (hb : InB b) : InB (a ++ b) := fun x hx => by
  rcases List.mem_append.1 hx with h | h
  · exact ha x h
  · exact hb x h
/-- Bytes appended to a row of one's own. -/
theorem app_own {h0 h : H} {v : Value} {l k : List Int} {K : Value → H → Prop} {N : List Value} {m : Nat} (o : OwnB h0 h v l) (hle : h0.le h) (hN : N = k.map (.int .u8)) (hm : m = k.length) (hk : InB k) (hsz : l.length + k.length ≤ 140737488355328)
    (HK : ∀ v' h', OwnB h0 h' v' (l ++ k) → h0.le h' → K v' h') : AppSpec h 5 1 1 ((zeroCells Try.prog 5).getD []) v N m K := by
  subst hN hm
  refine app_row o.1 hle (by simp) (by rw [zero1]; rfl) (by rw [o.len]; simpa using hsz) fun v' h' k1 _ k3 _ _ => HK v' h' ⟨?_, inB_app o.2 hk⟩ k3
  rw [List.map_append]; exact k1
theorem wrap_u8n (n : Nat) : IntKind.u8.wrap (n : Int) = ((n % 256 : Nat) : Int) := by
  simp [IntKind.wrap, IntKind.bits, IntKind.signed]
theorem or_128 (n : Nat) : intOp .or .u8 (IntKind.u8.wrap (n : Int)) 128 = ((n % 128 + 128 : Nat) : Int) := by
  rw [wrap_u8n]
  have key : ∀ k : _root_.Fin 256, intOp .or .u8 (((k : Nat) : Nat) : Int) 128 = ((((k : Nat) % 128 + 128 : Nat) : Nat) : Int) := by decide +kernel
  have := key ⟨n % 256, by omega⟩
  simp only at this
  rw [this]; omega
theorem shr_7 (n : Nat) : intOp .shr .u64 (n : Int) 7 = ((n / 128 : Nat) : Int) := by
  simp only [intOp, IntKind.bits]
  rw [show min ((7 : Int).toNat) 64 = 7 by decide]
  rw [show ((2 : Int) ^ 7) = ((128 : Nat) : Int) by rfl, Int.fdiv_eq_ediv_of_nonneg _ (by omega)]; rfl
/-- Bytes copied into a row of one's own. -/
theorem copy_own {R : Value → List (List Value) → H → Prop} {G : List Value} {L : Lv} {h : H} {k : Out} {v : Value} {l : List Int} {i m : Nat} (hv : BytesAt h v l) (hi : gv G i = v) (hil : i < G.length) (hm : G.length = m) (hl : l.length ≤ 140737488355328)
    (HK : ∀ v0 v' h', h.le h' → OwnB h h' v' l → holds Try.prog R k (G ++ [v0, v']) L h') :
    holds Try.prog R (.alloc 5 [] (.lsl 0) (.app 5 1 1 (.val m) (.sl (.val i)) k)) G L h := by
  intro b hb
  have hle := H.le_put (h := h) (o := .cells (SV.denL G dE []).toArray 5 (0, 0)) hb
  have hv' := hv.le hle
  have e0 : gv (G ++ [NK.val b (.lsl 0)]) i = v := by rw [gv_of_lt hil, hi]
  have e1 : gv (G ++ [NK.val b (.lsl 0)]) m = .slice (some ⟨b, 0, none⟩) 0 0 := by rw [← hm]; exact gv_last
  have o : OwnB h (h.put b (.cells (SV.denL G dE []).toArray 5 (0, 0))) (.slice (some ⟨b, 0, none⟩) 0 0) [] :=
    ⟨Row.new (cs := []) (r := []) (n := 0) (c := 0) hb rfl rfl (Nat.le_refl _), fun _ h => by cases h⟩
  refine ⟨l.map (.int .u8), l.length, ⟨by simp, by simp [Value.oneCell'], ?_⟩, ?_⟩
  · have := hv'.src
    simp only [SV.den, e0]; exact this
  · simp only [SV.den, e1]
    refine app_own o hle rfl rfl hv.inB (by simpa using hl) fun v' h' k1 k2 => ?_
    rw [List.nil_append] at k1
    have := HK (NK.val b (.lsl 0)) v' h' k2 k1
    rw [List.append_assoc]
    exact this
theorem s55 {h : H} {v : Value} {l : List Int} {n : Nat} (hv : BytesAt h v l) (hn : n < 18446744073709551616) (hl : l.length ≤ 100000000000) :
    CallsA Try.prog 55 (fun _ => [v, .int .u64 (n : Int)]) [] h (Ret fun r h' => h.le h' ∧ OwnB h h' r (l ++ leb n)) := by
  refine c55 (G := [v, .int .u64 (n : Int)]) ⟨hv.fit, ⟨_, rfl⟩, trivial⟩ ?_
  have hn10 := leb_len10 hn
  refine copy_own hv rfl (by simp) rfl (by omega) fun v0 v1 h1 hl1 o1 => ?_
  refine h_loop (fun xs h' => ∃ (l' : List Int) (m : Nat) (v' : Value), xs = [v', .int .u64 (m : Int)] ∧ m < 18446744073709551616 ∧ h.le h' ∧ OwnB h h' v' l' ∧ l' ++ leb m = l ++ leb n)
    (fun xs h' => (vi (gv xs 1)).toNat) ⟨l, n, v1, rfl, hn, hl1, o1, rfl⟩ ?_
  rintro xs h2 J - ⟨l', m, v', rfl, hm, hl2, o2, he⟩ hJ
  have hlen := congrArg List.length he
  simp only [List.length_append] at hlen
  have hm10 := leb_len10 hm
  refine h_ite (fun hc => ?_) (fun hc => ?_)
  · replace hc : cmpOp .geq (m : Int) 128 = true := hc
    rw [cmp_geq, decide_eq_true_eq] at hc
    have hc' : 128 ≤ m := by omega
    refine ⟨[.int .u8 ((m % 128 + 128 : Nat) : Int)], 1, ⟨?_, rfl⟩, app_own (k := [((m % 128 + 128 : Nat) : Int)]) o2 hl2 rfl rfl (fun b hb => by rw [List.mem_singleton] at hb; omega) (by simp only [List.length_cons, List.length_nil]; omega) fun v3 h3 o3 hl3 => ?_⟩
    · show [Value.int .u8 ((m % 128 + 128 : Nat) : Int)] = [.int .u8 (intOp .or .u8 (IntKind.u8.wrap (m : Int)) 128)]
      rw [or_128]
    · refine hJ _ _ ⟨l' ++ [((m % 128 + 128 : Nat) : Int)], m / 128, v3, ?_, by omega, hl3, o3, ?_⟩ ?_
      · show [v3, Value.int .u64 (intOp .shr .u64 (m : Int) 7)] = _
        rw [shr_7]
      · rw [← he, leb_ge hc']; simp
      · show (intOp .shr .u64 (m : Int) 7).toNat < ((m : Int)).toNat
        rw [shr_7]; omega
  · replace hc : cmpOp .geq (m : Int) 128 = false := hc
    rw [cmp_geq, decide_eq_false_iff_not] at hc
    have hc' : m < 128 := by omega
    refine ⟨[.int .u8 (m : Int)], 1, ⟨?_, rfl⟩, app_own (k := [(m : Int)]) o2 hl2 rfl rfl (fun b hb => by rw [List.mem_singleton] at hb; omega) (by simp only [List.length_cons, List.length_nil]; omega) fun v3 h3 o3 hl3 => ⟨rfl, hl3, ?_⟩⟩
    · show [Value.int .u8 (m : Int)] = [.int .u8 (IntKind.u8.wrap (m : Int))]
      rw [wrap_u8n, show m % 256 = m by omega]
    · have : l ++ leb n = l' ++ [(m : Int)] := by rw [← he, leb_lt hc']
      rw [this]; exact o3
theorem s40 {h : H} {v : Value} {l : List Int} {n : Nat} (hv : BytesAt h v l) (hn : n < 18446744073709551616) (hl : l.length ≤ 100000000000) :
    CallsA Try.prog 40 (fun _ => [v, .int .u64 (n : Int)]) [] h (Ret fun r h' => h.le h' ∧ OwnB h h' r (l ++ leb n)) := by
  refine c40 (G := [v, .int .u64 (n : Int)]) ⟨hv.fit, ⟨_, rfl⟩, trivial⟩ ?_
  have hn10 := leb_len10 hn
  refine copy_own hv rfl (by simp) rfl (by omega) fun v0 v1 h1 hl1 o1 => ?_
  have q128 : ∀ m : Nat, m < 18446744073709551616 → intOp .quo .u64 (m : Int) 128 = ((m / 128 : Nat) : Int) := fun m hm => by
    simp only [intOp]
    rw [Int.tdiv_eq_ediv_of_nonneg (by omega), show ((m : Int) / 128) = ((m / 128 : Nat) : Int) by omega]
    simp [IntKind.wrap, IntKind.bits, IntKind.signed]; omega
  have r128 : ∀ m : Nat, intOp .rem .u64 (m : Int) 128 = ((m % 128 : Nat) : Int) := fun m => by
    simp only [intOp]
    rw [Int.tmod_eq_emod_of_nonneg (by omega)]; omega
  refine h_loop (fun xs h' => ∃ (l' : List Int) (m : Nat) (v' : Value), xs = [.int .u64 (m : Int), v'] ∧ m < 18446744073709551616 ∧ h.le h' ∧ OwnB h h' v' l' ∧ l' ++ leb m = l ++ leb n)
    (fun xs h' => (vi (gv xs 0)).toNat) ⟨l, n, v1, rfl, hn, hl1, o1, rfl⟩ ?_
  rintro xs h2 J - ⟨l', m, v', rfl, hm, hl2, o2, he⟩ hJ
  have hlen := congrArg List.length he
  simp only [List.length_append] at hlen
  have hm10 := leb_len10 hm
  refine h_ite (fun hc => ?_) (fun hc => ?_)
  · replace hc : cmpOp .eql (intOp .quo .u64 (m : Int) 128) 0 = true := hc
    rw [q128 m hm, cmp_eql, decide_eq_true_eq] at hc
    have hc' : m < 128 := by omega
    refine ⟨[.int .u8 (m : Int)], 1, ⟨?_, rfl⟩, app_own (k := [(m : Int)]) o2 hl2 rfl rfl (fun b hb => by rw [List.mem_singleton] at hb; omega) (by simp only [List.length_cons, List.length_nil]; omega) fun v3 h3 o3 hl3 => ⟨rfl, hl3, ?_⟩⟩
    · show [Value.int .u8 (m : Int)] = [.int .u8 (IntKind.u8.wrap (intOp .rem .u64 (m : Int) 128))]
      rw [r128, wrap_u8n, show m % 128 % 256 = m by omega]
    · have : l ++ leb n = l' ++ [(m : Int)] := by rw [← he, leb_lt hc']
      rw [this]; exact o3
  · replace hc : cmpOp .eql (intOp .quo .u64 (m : Int) 128) 0 = false := hc
    rw [q128 m hm, cmp_eql, decide_eq_false_iff_not] at hc
    have hc' : 128 ≤ m := by omega
    have e8 : IntKind.u8.wrap (intOp .add .u64 (intOp .rem .u64 (m : Int) 128) 128) = ((m % 128 + 128 : Nat) : Int) := by
      rw [r128]
      simp only [intOp]
      rw [show (((m % 128 : Nat) : Int) + 128) = ((m % 128 + 128 : Nat) : Int) by omega]
      have : IntKind.u64.wrap ((m % 128 + 128 : Nat) : Int) = ((m % 128 + 128 : Nat) : Int) := by simp [IntKind.wrap, IntKind.bits, IntKind.signed]; omega
      rw [this, wrap_u8n]; omega
    refine ⟨[.int .u8 ((m % 128 + 128 : Nat) : Int)], 1, ⟨?_, rfl⟩, app_own (k := [((m % 128 + 128 : Nat) : Int)]) o2 hl2 rfl rfl (fun b hb => by rw [List.mem_singleton] at hb; omega) (by simp only [List.length_cons, List.length_nil]; omega) fun v3 h3 o3 hl3 => ?_⟩
    · show [Value.int .u8 ((m % 128 + 128 : Nat) : Int)] = [.int .u8 (IntKind.u8.wrap (intOp .add .u64 (intOp .rem .u64 (m : Int) 128) 128))]
      rw [e8]
    · refine hJ _ _ ⟨l' ++ [((m % 128 + 128 : Nat) : Int)], m / 128, v3, ?_, by omega, hl3, o3, ?_⟩ ?_
      · show [Value.int .u64 (intOp .quo .u64 (m : Int) 128), v3] = _
        rw [q128 m hm]
      · rw [← he, leb_ge hc']; simp
      · show (intOp .quo .u64 (m : Int) 128).toNat < ((m : Int)).toNat
        rw [q128 m hm]; omega
theorem s80 {h : H} {n : Int} (hn : N64 n) : CallsA Try.prog 80 (fun _ => [.int .i64 n]) [] h (Ret fun r h' => h' = h ∧ r = .int .u64 ((zig n : Nat) : Int)) := by
  obtain ⟨n1, n2⟩ := hn
  refine c80 (G := [.int .i64 n]) ⟨⟨_, rfl⟩, trivial⟩ ?_
  refine h_ite (fun hc => ⟨rfl, rfl, ?_⟩) (fun hc => ⟨rfl, rfl, ?_⟩)
  · replace hc : cmpOp .lss n 0 = true := hc
    rw [cmp_lss, decide_eq_true_eq] at hc
    show Value.int .u64 (intOp .add .u64 (intOp .mul .u64 2 (IntKind.u64.wrap (intOp .sub .i64 0 (intOp .add .i64 n 1)))) 1) = _
    simp only [intOp]
    rw [wrap_i64 (n := n + 1) (by omega) (by omega), wrap_i64 (by omega) (by omega), u64_id (n := 0 - (n + 1)) (by omega) (by omega), u64_id (n := 2 * (0 - (n + 1))) (by omega) (by omega), u64_id (by omega) (by omega)]
    unfold zig; rw [if_pos hc]
    congr 1; omega
  · replace hc : cmpOp .lss n 0 = false := hc
    rw [cmp_lss, decide_eq_false_iff_not] at hc
    show Value.int .u64 (intOp .mul .u64 2 (IntKind.u64.wrap n)) = _
    simp only [intOp]
    rw [u64_id (n := n) (by omega) (by omega), u64_id (by omega) (by omega)]
    unfold zig; rw [if_neg hc]
    congr 1; omega
end Go.Proofs.Ythnoplfjcdkacaa
