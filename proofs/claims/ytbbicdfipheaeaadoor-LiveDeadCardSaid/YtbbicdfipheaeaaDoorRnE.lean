/-
  run.Do, whole. Conditions: as the contract says.
-/
import Derived.Test.YtbbicdfipheaeaaDoorRnD
set_option linter.unusedVariables false
set_option linter.unusedSimpArgs false
namespace Go.Proofs.YtbbicdfipheaeaaDoor
open Go

theorem h_alloc {P : Program} {R : Value → List (List Value) → H → Prop} {G : List Value} {L : Lv} {h : H} {e : TypeId} {l : List SV} {mk : NK} {k : Out} (cs : List Value) (hcs : SV.denL G dE l = cs) (hk : ∀ b, h b = none → holds P R k (G ++ [mk.val b]) L (h.put b (.cells cs.toArray e (0, 0)))) : holds P R (.alloc e l mk k) G L h := by
  subst hcs; exact hk
theorem repZ_int (m : Nat) : repZ [Value.int .i64 0] m = (List.replicate m (0 : Int)).map (.int .i64) := by
  unfold repZ
  simp only [List.length_cons, List.length_nil, Nat.zero_add, Nat.mul_one, List.map_replicate]
  apply List.ext_getElem?
  intro i
  rw [List.getElem?_map, List.getElem?_replicate]
  by_cases h : i < m
  · rw [List.getElem?_range h, if_pos h]; simp [Nat.mod_one]
  · rw [if_neg h, List.getElem?_eq_none (by simp; omega)]; rfl
theorem h_mkI {R : Value → List (List Value) → H → Prop} {G : List Value} {L : Lv} {h : H} {n : X} {k : Out} {m : Nat} (hn : vi (n.den G) = (m : Int)) (hm : m ≤ 100000)
    (hk : ∀ b, h b = none → holds Tryd.prog R k (G ++ [.slice (some ⟨b, 0, none⟩) m m]) L (h.put b (.cells ((List.replicate m (0 : Int)).map (Value.int .i64)).toArray 2 (0, 0)))) :
    holds Tryd.prog R (.mk 2 1 8 n k) G L h := by
  refine ⟨by rw [hn]; omega, by rw [hn]; omega, fun b hb => ?_⟩
  have := hk b hb
  rw [hn, Int.toNat_natCast, zeroI64, repZ_int]; exact this
theorem copy_ints {h : H} {sv : Value} {l : List Int} {ad : Addr} {m c : Nat} {K : Nat → H → Prop} (hs : IntsAt h sv l) (hw : Writable h ad (l.take m).length) (HK : K (l.take m).length (h.sets ad ((l.take m).map (.int .i64)))) :
    CopySpec h 1 (.slice (some ad) m c) sv K := by
  have hl := hs.len
  have hall := hs.all
  obtain ⟨a, n, cc, rfl, h1, h2⟩ := hs.fit
  simp only [vlen_sl] at hl
  have hmin : Nat.min n m = (l.take m).length := by rw [List.length_take, hl]; exact Nat.min_comm ..
  refine ⟨(l.take m).map (.int .i64), by rw [List.length_map, Nat.mul_one, hmin], fun ad' e i v hi => ?_, fun e => ?_, fun v hv => ?_, fun ad' e => ?_, fun e => (by cases e), ?_⟩
  · subst e
    refine hall i v ?_
    rw [List.getElem?_map] at hi ⊢
    rw [List.getElem?_take] at hi
    split at hi
    · exact hi
    · cases hi
  · obtain ⟨rfl, _⟩ := h1 e
    have : l = [] := List.eq_nil_of_length_eq_zero hl.symm
    rw [this]; simp
  · rw [List.mem_map] at hv
    obtain ⟨q, _, rfl⟩ := hv; rfl
  · cases e; rw [List.length_map]; exact hw
  · rw [hmin]; exact HK
theorem set_rep {h : H} {b n first : Nat} {l : List Int} {e : TypeId} (hb : h b = some (.cells ((List.replicate n (0 : Int)).map (Value.int .i64)).toArray e (0, 0))) (hl : first + l.length ≤ n) :
    (h.sets ((bp b).add first) (l.map (.int .i64))) b = some (.cells ((places0 n first l).map (Value.int .i64)).toArray e (0, 0)) ∧ ∀ c, c ≠ b → (h.sets ((bp b).add first) (l.map (.int .i64))) c = h c := by
  have hsp : (List.replicate n (0 : Int)).map (Value.int .i64) = (List.replicate first (0 : Int)).map (Value.int .i64) ++ (List.replicate l.length (0 : Int)).map (Value.int .i64) ++ (List.replicate (n - first - l.length) (0 : Int)).map (Value.int .i64) := by
    rw [← List.map_append, ← List.map_append, List.replicate_append_replicate, List.replicate_append_replicate, show first + l.length + (n - first - l.length) = n by omega]
  rw [hsp] at hb
  obtain ⟨s1, s2⟩ := sets_block (b := b) (e := e) (f := (0, 0)) (l.map (Value.int .i64)) h first _ _ _ (by simp) (by simp) hb
  rw [add_lit, Nat.zero_add]
  exact ⟨by rw [s1]; simp only [places0, List.map_append], s2⟩
theorem vi_add {R S : Nat} {G : List Value} {i j : Nat} (e1 : gv G i = .int .i64 (R : Int)) (e2 : gv G j = .int .i64 (S : Int)) (h : R + S ≤ 100000) : vi ((X.op .add .i64 (.var i) (.var j)).den G) = ((R + S : Nat) : Int) := by
  simp only [X.den, e1, e2, vi_int, intOp]; rw [wrap_i64 (by omega) (by omega)]; simp
theorem writable_at {h : H} {b k m : Nat} {L : List Value} {e : TypeId} (hb : h b = some (.cells L.toArray e (0, 0))) (hk : k + m ≤ L.length) : Writable h ((bp b).add k) m := by
  intro i hi
  rw [add_add, add_lit]
  unfold H.cell? H.frozen?
  rw [hb]
  simp; omega
theorem s66 {h : H} {bv av mv nv : Value} {bs : List Blk} {args mem ans : List Int} {R S first : Nat} {fuel : Int} (hb : BlksAt h bv bs) (ha : IntsAt h av args) (hm : IntsAt h mv mem) (hn : IntsAt h nv ans)
    (hok : ∀ x ∈ bs, BlOk R ((R + S : Nat) : Int) bs.length x) (hb1 : 1 ≤ bs.length) (hb16 : bs.length ≤ 1000) (hRS : R + S ≤ 1000) (hf : first + args.length ≤ R + S) (hfu : 0 ≤ fuel ∧ fuel ≤ 1100000) :
    CallsA Tryd.prog 66 (fun _ => [bv, .int .i64 (R : Int), .int .i64 (S : Int), .int .i64 (first : Int), .agg #[av, mv, nv, .int .i64 fuel]]) [] h (Ret fun r h' => KeptH h h' [] ∧ ∃ t, Runs bs R 0 0 (start (R + S) first args mem ans fuel) t ∧ OutR h h' r t) := by
  refine c66 (G := [bv, .int .i64 (R : Int), .int .i64 (S : Int), .int .i64 (first : Int), av, mv, nv, .int .i64 fuel]) ⟨hb.fit, ⟨_, rfl⟩, ⟨_, rfl⟩, ⟨_, rfl⟩, ha.fit, hm.fit, hn.fit, ⟨_, rfl⟩, trivial⟩ ?_
  refine h_mkI (m := R + S) (vi_add rfl rfl (by omega)) (by omega) fun pb hpb => ?_
  obtain ⟨n, hnd⟩ : ∃ n, n = R + S := ⟨_, rfl⟩
  rw [← hnd] at hRS hf hok ⊢
  obtain ⟨pv, hpv⟩ : ∃ pv, pv = Value.slice (some ⟨pb, 0, none⟩) n n := ⟨_, rfl⟩
  rw [← hpv]
  simp only [List.cons_append, List.nil_append]
  refine h_alloc (outC ⟨0, 0, [], List.replicate 64 0, 0, [], []⟩ (.slice none 0 0) ++ [pv, .int .i64 (R : Int), nv]) rfl fun b hbn => ?_
  have hbh : h b = none := H.le_none (H.le_put hpb) hbn
  have hbp : b ≠ pb := fun e => by rw [e, H.put_same] at hbn; cases hbn
  simp only [List.cons_append, List.nil_append]
  generalize hh1 : h.put pb (.cells ((List.replicate n (0 : Int)).map (Value.int .i64)).toArray 2 (0, 0)) = h1 at hbn ⊢
  have h1p : h1 pb = some (.cells ((List.replicate n (0 : Int)).map (Value.int .i64)).toArray 2 (0, 0)) := by rw [← hh1]; exact H.put_same
  have k1 : KeptH h h1 [] := by rw [← hh1]; exact KeptH.put hpb _
  generalize hO : outC ⟨0, 0, [], List.replicate 64 0, 0, [], []⟩ (.slice none 0 0) ++ [pv, .int .i64 (R : Int), nv] = O
  have hOl : O.length = 71 := by rw [← hO]; rfl
  have hO68 : O[68]? = some pv := by rw [← hO]; rfl
  generalize hh2 : h1.put b (.cells O.toArray 134 (0, 0)) = h2
  have h2b : h2 b = some (.cells O.toArray 134 (0, 0)) := by rw [← hh2]; exact H.put_same
  have h2p : h2 pb = some (.cells ((List.replicate n (0 : Int)).map (Value.int .i64)).toArray 2 (0, 0)) := by rw [← hh2, H.put_other hbp.symm]; exact h1p
  have k2 : KeptH h h2 [] := by rw [← hh2]; exact k1.trans_nil (KeptH.put hbn []) (fun c hc => by cases hc)
  have rd : ∀ {g : H}, g b = h2 b → Reads g ((bp b).add 68) [pv] := fun e i v hi => by
    obtain ⟨rfl, rfl⟩ := get_one hi
    rw [add_add, add_lit]; unfold H.cell?; rw [e, h2b]; simpa using hO68
  have hpf : Fits .sl pv := by rw [hpv]; exact ⟨_, _, _, rfl, (fun e => by cases e), Nat.le_refl _⟩
  refine h_load [pv] ⟨hpf, trivial⟩ (fun _ => rd rfl) ⟨fun _ => ⟨ge0 first, ?_, trivial⟩, ?_⟩
  · show cmpOp .leq (first : Int) ((vlen pv : Nat) : Int) = true
    rw [hpv, vlen_sl, cmp_leq, decide_eq_true_eq]; omega
  intro w11 hw11
  replace hw11 : w11 = sliceV pv first n 1 := by rw [hw11, hpv]; rfl
  simp only [List.cons_append, List.nil_append]
  have hcopy : ∀ K : Nat → H → Prop, (∀ h3, h3 pb = some (.cells ((places0 n first args).map (Value.int .i64)).toArray 2 (0, 0)) → (∀ c, c ≠ pb → h3 c = h2 c) → K args.length h3) → CopySpec h2 1 w11 av K := fun K HK => by
    have htk : args.take (n - first) = args := List.take_of_length_le (by omega)
    rw [hw11, hpv]
    by_cases hnf : n = first
    · have hnil : args = [] := List.eq_nil_of_length_eq_zero (by omega)
      simp only [sliceV, if_pos hnf]
      refine copy_ints (ha.le k2.le_nil) ?_ ?_
      · rw [hnil]; intro i hi; simp at hi
      · rw [htk]
        have e0 : h2.sets ⟨pb, 0, none⟩ (args.map (.int .i64)) = h2 := by rw [hnil]; rfl
        rw [e0]
        refine HK h2 ?_ (fun c hc => rfl)
        rw [h2p, hnil]
        congr 3
        simp [places0, hnf]
    · simp only [sliceV, if_neg hnf, Option.map_some, Nat.mul_one]
      refine copy_ints (ha.le k2.le_nil) ?_ ?_
      · rw [htk]; exact writable_at h2p (by simp; omega)
      · rw [htk]
        obtain ⟨s1, s2⟩ := set_rep h2p (l := args) hf
        exact HK _ s1 s2
  refine hcopy _ fun h3 h3p h3o => ?_
  have h3b : h3 b = h2 b := h3o b hbp
  have k3 : KeptH h h3 [] := k2.trans_nil (f := [pb]) (fun c hc _ => h3o c fun e => hc (by rw [e]; simp)) (fun c hc => by rw [List.mem_singleton] at hc; subst hc; exact hpb)
  refine ⟨fun _ => rd h3b, ?_⟩
  intro w13 hw13
  replace hw13 : w13 = .slice (some ((bp b).add 3)) 64 64 := by
    rw [hw13]
    show Value.slice (some ((((bp b).add 0).add 3).add 0)) 64 64 = _
    rw [add_zero', add_zero']
  simp only [List.cons_append, List.nil_append]
  show CopySpec h3 1 w13 mv _
  rw [hw13]
  refine copy_ints (hm.le k3.le_nil) (writable_at (h3b.trans h2b) (by rw [hOl, List.length_take]; omega)) ?_
  have hL : (mem.take 64).length ≤ 64 := by rw [List.length_take]; omega
  have hOs : O = [Value.int .i64 0, .int .i64 0, .slice none 0 0] ++ (List.replicate (mem.take 64).length (0 : Int)).map (Value.int .i64) ++ ((List.replicate (64 - (mem.take 64).length) (0 : Int)).map (Value.int .i64) ++ ([.int .i64 0] ++ [pv, .int .i64 (R : Int), nv])) := by
    rw [← hO]
    have : (List.replicate 64 (0 : Int)) = List.replicate (mem.take 64).length 0 ++ List.replicate (64 - (mem.take 64).length) 0 := by rw [List.replicate_append_replicate, show (mem.take 64).length + (64 - (mem.take 64).length) = 64 by omega]
    simp only [outC]
    rw [this, List.map_append]
    simp only [List.append_assoc, List.cons_append, List.nil_append]
  have h3b' : h3 b = some (.cells O.toArray 134 (0, 0)) := h3b.trans h2b
  rw [hOs] at h3b'
  obtain ⟨s1, s2⟩ := sets_block (b := b) (e := 134) (f := (0, 0)) ((mem.take 64).map (Value.int .i64)) h3 3 _ _ _ rfl (by simp) h3b'
  have ea : (bp b).add 3 = ⟨b, 3, none⟩ := by rw [add_lit]
  rw [← ea] at s1 s2
  generalize hh4 : h3.sets ((bp b).add 3) ((mem.take 64).map (Value.int .i64)) = h4 at s1 s2 ⊢
  have M4 : Mc 134 [pv, .int .i64 (R : Int), nv] h h4 b pv (.slice none 0 0) [pb] [] { start n first args mem ans fuel with left := 0 } := by
    refine ⟨?_, mem0_len _, .inr ⟨pb, n, n, [], hpv, ?_, ?_, by simp, Nat.le_refl _, rfl⟩, SlF.nil, by simp [hbp], fun c hc => ?_, ?_⟩
    · rw [s1]
      congr 3
      simp only [outC, start, mem0, List.map_append, List.append_assoc, List.cons_append, List.nil_append, List.length_take]
      rw [show 64 - min 64 mem.length = 64 - mem.length by omega]
    · rw [s2 pb hbp.symm, h3p, List.append_nil]; rfl
    · have := places0_len (n := n) (first := first) (args := args) hf
      simp only [start, List.length_map]
      rw [this]; omega
    · simp only [List.append_nil, List.mem_cons, List.not_mem_nil, or_false] at hc
      rcases hc with rfl | rfl
      · exact hbh
      · exact hpb
    · exact k3.trans_nil (f := [b]) (fun c hc _ => s2 c fun e => hc (by rw [e]; simp)) (fun c hc => by rw [List.mem_singleton] at hc; subst hc; exact hbh)
  have M5 := M4.setLeft fuel
  refine h_store ((bp b).add 67) [.int .i64 fuel] (by rw [show (67 : Nat) = 0 + 67 from rfl, ← add_add]; rfl) rfl (M4.wr (by rw [List.length_append, outC_len M4.m64]; simp)) ?_
  simp only [List.cons_append, List.nil_append]
  subst hnd
  exact do_loop (S := S) hb hok hb1 hb16 hRS ⟨_, _, _, M5, hn⟩ ⟨places0_len hf, by simp only [start, List.length_nil]; omega⟩ fun r h' t hr hk ho => ⟨rfl, hk, t, hr, ho⟩
end Go.Proofs.YtbbicdfipheaeaaDoor
