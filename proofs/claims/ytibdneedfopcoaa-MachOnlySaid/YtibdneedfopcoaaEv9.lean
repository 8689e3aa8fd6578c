/-
  What is left to show of a function (a tree), what it says, and contracts of calls. Conditions: none (definitions and plain lemmas).
-/
import Derived.Test.YtibdneedfopcoaaEv8
set_option linter.unusedVariables false
set_option linter.unusedSimpArgs false
namespace Go.Proofs.Ytibdneedfopcoaa
open Go

/-! ### Contracts -/
def ChunksV (El : List CE) (cs : List (List Value)) (w : World) : Prop :=
  ∀ (i : Nat) (c : CE) (l : List Value), El[i]? = some c → cs[i]? = some l → c.free l.length ∧ w.heap[c.blk]? = some (.cells (c.pre ++ l ++ c.post).toArray c.elem c.fr)
/-- How a call may end. -/
def Fin (B : Beg) (cs : List (List Value)) (R : Value → List (List Value) → H → Prop) (e : Ending) (w' : World) : Prop :=
  ∃ v cs' h', e = .returned v ∧ R v cs' h' ∧ cs'.map List.length = cs.map List.length ∧ ChunksV B.E cs' w' ∧ Frm B h' w' ∧ h'.sub w' ∧ ∀ c ∈ B.E, h' c.blk = none
/-- A contract: called with these arguments, with these chunks and with this memory at hand. -/
def CallsA (P : Program) (f : FuncId) (args : (Nat → CE) → List Value) (cs : List (List Value)) (h : H) (R : Value → List (List Value) → H → Prop) : Prop :=
  ∀ (w : World) (El : List CE), El.length = cs.length → ChunksV El cs w → (∀ c ∈ El, h c.blk = none) → El.Pairwise (fun c d => c.blk ≠ d.blk) → h.sub w →
    Calls P f (args fun i => El.getD i default).toArray w (Fin ⟨w, h, El, []⟩ cs R)
theorem CallsA.mono {P : Program} {f : FuncId} {args : (Nat → CE) → List Value} {cs : List (List Value)} {h : H} {R R' : Value → List (List Value) → H → Prop}
    (H : CallsA P f args cs h R) (hr : ∀ v cs' h', R v cs' h' → R' v cs' h') : CallsA P f args cs h R' :=
  fun w El h1 h2 h3 h4 h5 => (H w El h1 h2 h3 h4 h5).mono fun e w' ⟨v, cs', h', he, hR, rest⟩ => ⟨v, cs', h', he, hr _ _ _ hR, rest⟩

/-! ### The tree -/
/-- What a new row is known by: its place, or a slice of all of it. -/
inductive NK where | loc | lsl (n : Nat)
  deriving Inhabited
def NK.sv (d : Nat) : NK → SV | .loc => .loc d 0 | .lsl n => .lsl d n n
def NK.val (b : Nat) : NK → Value | .loc => .pointer (some ⟨b, 0, none⟩) | .lsl n => .slice (some ⟨b, 0, none⟩) n n
def NK.sh : NK → Sh | .loc => .ptr | .lsl _ => .sl
def NK.pub (n : Nat) : NK → SV | .loc => .ptr (.var n) | .lsl _ => .val n
/-- What is appended: cells that are known, a slice, a string's bytes. -/
inductive ASrc where
  | cells (l : List SV) (m : Nat)
  | sl (s : SV)
  | str (e : X)
  deriving Inhabited
inductive Out where
  | fail
  | done (v : SV) (cs : List (List SV))
  | need (g : X) (ns : List X) (k : Out)
  | ite (c : X) (a b : Out)
  | both (a b : Out)
  | bnd (f : LF) (k : Out)
  | load (g : X) (p : PE) (shs : List Sh) (k : Out)
  | still (g : X) (p : PE) (l : List SV) (k : Out)
  | store (p : PE) (l : List SV) (k : Out)
  | alloc (elem : TypeId) (l : List SV) (mk : NK) (k : Out)
  | call (f : FuncId) (args : List SV) (ks : List Nat) (cs : List (List SV)) (csh : List (List Sh)) (rs : List (Bool × List Sh)) (k : Out)
  | app (e : TypeId) (sz by_ : Nat) (s : SV) (src : ASrc) (k : Out)
  | loop (lvl : Nat) (ini : List SV) (shs : List Sh) (body : Out)
  | again (lvl : Nat) (l : List SV)
  deriving Inhabited

def needs (G : List Value) : List X → Prop
  | [] => True
  | x :: l => vb (x.den G) = true ∧ needs G l
theorem needs_mem {G : List Value} : ∀ {l : List X}, needs G l → ∀ x ∈ l, vb (x.den G) = true
  | [], _, _, h => by cases h
  | y :: l, h, x, hx => by
    rcases List.mem_cons.1 hx with rfl | hx
    · exact h.1
    · exact needs_mem h.2 x hx
def Reads (h : H) (a : Addr) (l : List Value) : Prop := ∀ i v, l[i]? = some v → h.cell? (a.add i) = some v
def H.sets (h : H) (a : Addr) : List Value → H
  | [] => h
  | v :: l => (h.set a v).sets (a.add 1) l
/-- Where a chunk's key stands. -/
def kIdx : List Nat → Nat → Nat
  | [], _ => 0
  | x :: l, k => if x.beq k then 0 else kIdx l k + 1
def FitsLL : List (List Sh) → List (List Value) → Prop
  | [], [] => True
  | s :: l, v :: m => FitsL s v ∧ FitsLL l m
  | _, _ => False
/-- What a call answers, of names that are laid for its parts. -/
def rvals : List (Bool × List Sh) → List Value → List Value
  | [], _ => []
  | (true, l) :: rs, xs => .agg (xs.take l.length).toArray :: rvals rs (xs.drop l.length)
  | (false, l) :: rs, xs => gv xs 0 :: rvals rs (xs.drop l.length)
def rval (rs : List (Bool × List Sh)) (xs : List Value) : Value :=
  match rs with
  | [_] => gv (rvals rs xs) 0
  | _ => .tuple (rvals rs xs).toArray
def rshs : List (Bool × List Sh) → List Sh
  | [] => []
  | (_, l) :: rs => l ++ rshs rs
abbrev Lv := List (List Value → H → Prop)
def Writable (h : H) (a : Addr) (n : Nat) : Prop := ∀ i, i < n → (h.cell? (a.add i)).isSome = true ∧ h.frozen? (a.add i) = false
def SrcOk (G : List Value) (h : H) (sz : Nat) : ASrc → List Value → Nat → Prop
  | .cells l m, N, m' => N = SV.denL G dE l ∧ m' = m
  | .sl s, N, m' => N.length = m' * sz ∧ (∀ v ∈ N, v.oneCell' = true) ∧ (match s.den G dE with | .slice (some b) n _ => m' = n ∧ Reads h b N | .slice none n _ => m' = n ∧ n = 0 | _ => False)
  | .str e, N, m' => N = (vs (e.den G)).data.toList.map (fun b => .int .u8 b.toNat) ∧ m' = (vs (e.den G)).size
def zeroCells (P : Program) (t : TypeId) : Option (List Value) := ((P.info? t).bind (·.zero)).map (·.cells.toList)
def repZ (z : List Value) (n : Nat) : List Value := (List.range (n * z.length)).map fun i => z.getD (i % z.length) undef
/-- What an append comes to. -/
def AppSpec (h : H) (e : TypeId) (sz by_ : Nat) (z : List Value) (v : Value) (N : List Value) (m : Nat) (K : Value → H → Prop) : Prop :=
  match v with
  | .slice a n c =>
    (n + m ≤ c → Writable h ((a.getD default).add (n * sz)) N.length ∧ K (.slice a (n + m) c) (h.sets ((a.getD default).add (n * sz)) N)) ∧
    (c < n + m → Builtin.nextslicecap (n + m) c * by_ ≤ 281474976710656 ∧ ∃ O : List Value, O.length = n * sz ∧ (∀ ad, a = some ad → Reads h ad O) ∧
      ∀ b nc, h b = none → n + m ≤ nc → K (.slice (some ⟨b, 0, none⟩) (n + m) nc) (h.put b (.cells (O ++ N ++ repZ z (nc - (n + m))).toArray e (0, 0))))
  | _ => False
def Lv.at (L : Lv) (n : Nat) (xs : List Value) (h : H) : Prop := match L[n]? with | some p => p xs h | none => False

def holds (P : Program) (R : Value → List (List Value) → H → Prop) : Out → List Value → Lv → H → Prop
  | .fail, _, _, _ => False
  | .done v cs, G, _, h => R (v.den G dE) (cs.map (SV.denL G dE)) h
  | .need g ns k, G, L, h => (vb (g.den G) = true → needs G ns) ∧ holds P R k G L h
  | .ite c a b, G, L, h => (vb (c.den G) = true → holds P R a G L h) ∧ (vb (c.den G) = false → holds P R b G L h)
  | .both a b, G, L, h => holds P R a G L h ∧ holds P R b G L h
  | .bnd f k, G, L, h => ∀ v, v = f.den G → holds P R k (G ++ [v]) L h
  | .load g p shs k, G, L, h => ∃ xs, FitsL shs xs ∧ (vb (g.den G) = true → Reads h (p.den G) xs) ∧ holds P R k (G ++ xs) L h
  | .still g p l k, G, L, h => (vb (g.den G) = true → Reads h (p.den G) (SV.denL G dE l)) ∧ holds P R k G L h
  | .store p l k, G, L, h => Writable h (p.den G) l.length ∧ holds P R k G L (h.sets (p.den G) (SV.denL G dE l))
  | .alloc e l mk k, G, L, h => ∀ b, h b = none → holds P R k (G ++ [mk.val b]) L (h.put b (.cells (SV.denL G dE l).toArray e (0, 0)))
  | .call f args ks cs csh rs k, G, L, h =>
    CallsA P f (fun e => SV.denL G (fun j => e (kIdx ks j)) args) (cs.map (SV.denL G dE)) h fun v cs' h' =>
      ∃ xs, FitsL (rshs rs) xs ∧ v = rval rs xs ∧ FitsLL csh cs' ∧ holds P R k (G ++ (cs'.flatten ++ xs)) L h'
  | .app e sz by_ s src k, G, L, h => ∃ N m, SrcOk G h sz src N m ∧ AppSpec h e sz by_ ((zeroCells P e).getD []) (s.den G dE) N m fun v h' => holds P R k (G ++ [v]) L h'
  | .loop lvl ini shs body, G, L, h => ∃ (I : List Value → H → Prop) (μ : List Value → H → Nat), I (SV.denL G dE ini) h ∧
      ∀ xs h', FitsL shs xs → I xs h' → holds P R body (G ++ xs) (List.take lvl L ++ [fun ys h'' => I ys h'' ∧ μ ys h'' < μ xs h']) h'
  | .again lvl l, G, L, h => L.at lvl (SV.denL G dE l) h

/-! ### Chunks of a state -/
def chGet (k : Nat) : List (Nat × List SV) → Option (List SV)
  | [] => none
  | (j, cs) :: l => if j.beq k then some cs else chGet k l
def chSet (k : Nat) (cs : List SV) : List (Nat × List SV) → List (Nat × List SV)
  | [] => []
  | (j, d) :: l => if j.beq k then (j, cs) :: l else (j, d) :: chSet k cs l
def chDel (k : Nat) : List (Nat × List SV) → List (Nat × List SV)
  | [] => []
  | (j, d) :: l => if j.beq k then chDel k l else (j, d) :: chDel k l
theorem chGet_mem {k : Nat} : ∀ {l : List (Nat × List SV)} {cs : List SV}, chGet k l = some cs → (k, cs) ∈ l
  | [], _, h => by simp [chGet] at h
  | (j, d) :: l, cs, h => by
    unfold chGet at h
    split at h
    · rename_i hj
      cases h
      rw [Nat.beq_eq] at hj
      subst hj
      exact List.mem_cons_self ..
    · exact List.mem_cons_of_mem _ (chGet_mem h)
theorem chDel_mem {k : Nat} : ∀ {l : List (Nat × List SV)} {x : Nat × List SV}, x ∈ chDel k l → x ∈ l ∧ x.1 ≠ k
  | [], _, h => by simp [chDel] at h
  | (j, d) :: l, x, h => by
    unfold chDel at h
    split at h
    · obtain ⟨h1, h2⟩ := chDel_mem h
      exact ⟨List.mem_cons_of_mem _ h1, h2⟩
    · rename_i hj
      rcases List.mem_cons.1 h with rfl | h
      · exact ⟨List.mem_cons_self .., fun e => hj (by rw [Nat.beq_eq]; exact e)⟩
      · obtain ⟨h1, h2⟩ := chDel_mem h
        exact ⟨List.mem_cons_of_mem _ h1, h2⟩
theorem chDel_sub {k : Nat} : ∀ {l : List (Nat × List SV)}, (chDel k l).Sublist l
  | [] => List.Sublist.refl _
  | (j, d) :: l => by
    unfold chDel
    split
    · exact List.Sublist.cons _ chDel_sub
    · exact List.Sublist.cons_cons _ chDel_sub
/-- Replaced cells: the same keys, in the same order. -/
theorem chSet_keys {k : Nat} {cs : List SV} : ∀ {l : List (Nat × List SV)}, (chSet k cs l).map (·.1) = l.map (·.1)
  | [] => rfl
  | (j, d) :: l => by
    unfold chSet
    split
    · rfl
    · simp [chSet_keys]
theorem chSet_mem {k : Nat} {cs : List SV} : ∀ {l : List (Nat × List SV)} {x : Nat × List SV}, x ∈ chSet k cs l → (x ∈ l) ∨ (x = (k, cs))
  | [], _, h => by simp [chSet] at h
  | (j, d) :: l, x, h => by
    unfold chSet at h
    split at h
    · rename_i hj
      rw [Nat.beq_eq] at hj
      subst hj
      rcases List.mem_cons.1 h with rfl | h
      · exact .inr rfl
      · exact .inl (List.mem_cons_of_mem _ h)
    · rcases List.mem_cons.1 h with rfl | h
      · exact .inl (List.mem_cons_self ..)
      · rcases chSet_mem h with h | h
        · exact .inl (List.mem_cons_of_mem _ h)
        · exact .inr h

/-! ### Checks on a state -/
def scCh (n : Nat) : List (Nat × List SV) → Bool
  | [] => true
  | (_, cs) :: l => SV.scL n cs && scCh n l
def scKn (n : Nat) : List (X × Bool) → Bool
  | [] => true
  | (x, _) :: l => x.sc n && scKn n l
/-- All names are laid. -/
def St.scOk (st : St) : Bool := SV.scL st.sh.length st.t && scCh st.sh.length st.ch && scKn st.sh.length st.kn
def refsCh (f : Nat → Bool) : List (Nat × List SV) → Bool
  | [] => true
  | (_, cs) :: l => SV.refsL f cs && refsCh f l
end Go.Proofs.Ytibdneedfopcoaa
