/-
  What is left to show of a function (a tree), what it says, and contracts of calls. Conditions: none (definitions and plain lemmas).
-/
import Derived.Test.YtbgfabppmobpgaaDoorEa
set_option linter.unusedVariables false
set_option linter.unusedSimpArgs false
namespace Go.Proofs.YtbgfabppmobpgaaDoor
open Go

/-! ### Contracts -/
def ChunksV (El : List CE) (cs : List (List Value)) (w : World) : Prop :=
  ∀ (i : Nat) (c : CE) (l : List Value), El[i]? = some c → cs[i]? = some l → c.free l.length ∧ w.heap[c.blk]? = some (.cells (c.pre ++ l ++ c.post).toArray c.elem c.fr)
/-- How a call may end. -/
def Fin (B : Beg) (cs : List (List Value)) (R : Value → List (List Value) → H → Prop) (e : Ending) (w' : World) : Prop :=
  ∃ v cs' h', e = .returned v ∧ R v cs' h' ∧ cs'.map List.length = cs.map List.length ∧ ChunksV B.E cs' w' ∧ Frm B h' w' ∧ h'.sub w' ∧ ∀ c ∈ B.E, h' c.blk = none
/-- A contract: called with these arguments, with these chunks and with this memory at hand. -/
def CallsA (P : Program) (f : FuncId) (args : (Nat → CE) → List Value) (cs : List (List Value)) (h : H) (R : Value → List (List Value) → H → Prop) : Prop :=
  ∀ (w : World) (El : List CE), El.length = cs.length → ChunksV El cs w → (∀ c ∈ El, h c.blk = none) → El.Pairwise (fun c d => c.blk ≠ d.blk) → h.sub w →
    Calls P f (args fun i => El.getD i default).toArray w (Fin ⟨w, h, El, []⟩ cs R)
theorem CallsA.mono {P : Program} {f : FuncId} {args : (Nat → CE) → List Value} {cs : List (List Value)} {h : H} {R R' : Value → List (List Value) → H → Prop}
    (H : CallsA P f args cs h R) (hr : ∀ v cs' h', R v cs' h' → R' v cs' h') : CallsA P f args cs h R' :=
  fun w El h1 h2 h3 h4 h5 => (H w El h1 h2 h3 h4 h5).mono fun e w' ⟨v, cs', h', he, hR, rest⟩ => ⟨v, cs', h', he, hr _ _ _ hR, rest⟩

/-! ### The tree -/
/-- What a new row is known by: its place, or a slice of all of it. -/
inductive NK where | loc | lsl (n : Nat)
  deriving Inhabited
def NK.sv (d : Nat) : NK → SV | .loc => .loc d 0 | .lsl n => .lsl d n n
def NK.val (b : Nat) : NK → Value | .loc => .pointer (some ⟨b, 0, none⟩) | .lsl n => .slice (some ⟨b, 0, none⟩) n n
def NK.sh : NK → Sh | .loc => .ptr | .lsl _ => .sl
def NK.pub (n : Nat) : NK → SV | .loc => .ptr (.var n) | .lsl _ => .val n
/-- What is appended: cells that are known, a slice, a string's bytes. -/
inductive ASrc where
  | cells (l : List SV) (m : Nat)
  | sl (s : SV)
  | str (e : X)
  deriving Inhabited
inductive Out where
  | fail
  | done (v : SV) (cs : List (List SV))
  | need (g : X) (ns : List X) (k : Out)
  | ite (c : X) (a b : Out)
  | both (a b : Out)
  | bnd (f : LF) (k : Out)
  | load (g : X) (p : PE) (shs : List Sh) (k : Out)
  | still (g : X) (p : PE) (l : List SV) (k : Out)
  | store (p : PE) (l : List SV) (k : Out)
  | alloc (elem : TypeId) (l : List SV) (mk : NK) (k : Out)
  | call (f : FuncId) (args : List SV) (ks : List Nat) (cs : List (List SV)) (csh : List (List Sh)) (rs : List (Bool × List Sh)) (k : Out)
  | callv (fv : SV) (args : List SV) (rs : List (Bool × List Sh)) (k : Out)
  | app (e : TypeId) (sz by_ : Nat) (s : SV) (src : ASrc) (k : Out)
  | mk (e : TypeId) (sz by_ : Nat) (n : X) (k : Out)
  | copy (sz : Nat) (d s : SV) (k : Out)
  | clr (z : List Value) (s : SV) (k : Out)
  | mkMap (k : Out)
  | look (d : TypeDesc) (sh : Sh) (z : Value) (m key : SV) (k : Out)
  | mupd (d : TypeDesc) (m key x : SV) (k : Out)
  | mdel (d : TypeDesc) (m key : SV) (k : Out)
  | bstr (s : SV) (k : Out)
  | ment (d : TypeDesc) (sh : Sh) (z : Value) (m key : SV) (k : Out)
  | ents (m s x : SV) (k : Out)
  | loop (lvl : Nat) (ini : List SV) (shs : List Sh) (body : Out)
  | again (lvl : Nat) (l : List SV)
  deriving Inhabited

def needs (G : List Value) : List X → Prop
  | [] => True
  | x :: l => vb (x.den G) = true ∧ needs G l
theorem needs_mem {G : List Value} : ∀ {l : List X}, needs G l → ∀ x ∈ l, vb (x.den G) = true
  | [], _, _, h => by cases h
  | y :: l, h, x, hx => by
    rcases List.mem_cons.1 hx with rfl | hx
    · exact h.1
    · exact needs_mem h.2 x hx
def Reads (h : H) (a : Addr) (l : List Value) : Prop := ∀ i v, l[i]? = some v → h.cell? (a.add i) = some v
def H.sets (h : H) (a : Addr) : List Value → H
  | [] => h
  | v :: l => (h.set a v).sets (a.add 1) l
/-- Where a chunk's key stands. -/
def kIdx : List Nat → Nat → Nat
  | [], _ => 0
  | x :: l, k => if x.beq k then 0 else kIdx l k + 1
def FitsLL : List (List Sh) → List (List Value) → Prop
  | [], [] => True
  | s :: l, v :: m => FitsL s v ∧ FitsLL l m
  | _, _ => False
/-- What a call answers, of names that are laid for its parts. -/
def rvals : List (Bool × List Sh) → List Value → List Value
  | [], _ => []
  | (true, l) :: rs, xs => .agg (xs.take l.length).toArray :: rvals rs (xs.drop l.length)
  | (false, l) :: rs, xs => gv xs 0 :: rvals rs (xs.drop l.length)
def rval (rs : List (Bool × List Sh)) (xs : List Value) : Value :=
  match rs with
  | [_] => gv (rvals rs xs) 0
  | _ => .tuple (rvals rs xs).toArray
def rshs : List (Bool × List Sh) → List Sh
  | [] => []
  | (_, l) :: rs => l ++ rshs rs
abbrev Lv := List (List Value → H → Prop)
def Writable (h : H) (a : Addr) (n : Nat) : Prop := ∀ i, i < n → (h.cell? (a.add i)).isSome = true ∧ h.frozen? (a.add i) = false
def SrcOk (G : List Value) (h : H) (sz : Nat) : ASrc → List Value → Nat → Prop
  | .cells l m, N, m' => N = SV.denL G dE l ∧ m' = m
  | .sl s, N, m' => N.length = m' * sz ∧ (∀ v ∈ N, v.oneCell' = true) ∧ (match s.den G dE with | .slice (some b) n _ => m' = n ∧ Reads h b N | .slice none n _ => m' = n ∧ n = 0 | _ => False)
  | .str e, N, m' => N = (vs (e.den G)).data.toList.map (fun b => .int .u8 b.toNat) ∧ m' = (vs (e.den G)).size
def zeroCells (P : Program) (t : TypeId) : Option (List Value) := ((P.info? t).bind (·.zero)).map (·.cells.toList)
def repZ (z : List Value) (n : Nat) : List Value := (List.range (n * z.length)).map fun i => z.getD (i % z.length) undef
/-- What an append comes to. -/
def AppSpec (h : H) (e : TypeId) (sz by_ : Nat) (z : List Value) (v : Value) (N : List Value) (m : Nat) (K : Value → H → Prop) : Prop :=
  match v with
  | .slice a n c =>
    (n + m ≤ c → Writable h ((a.getD default).add (n * sz)) N.length ∧ K (.slice a (n + m) c) (h.sets ((a.getD default).add (n * sz)) N)) ∧
    (c < n + m → Builtin.nextslicecap (n + m) c * by_ ≤ 281474976710656 ∧ ∃ O : List Value, O.length = n * sz ∧ (∀ ad, a = some ad → Reads h ad O) ∧
      ∀ b nc, h b = none → n + m ≤ nc → K (.slice (some ⟨b, 0, none⟩) (n + m) nc) (h.put b (.cells (O ++ N ++ repZ z (nc - (n + m))).toArray e (0, 0))))
  | _ => False
/-- What a copy comes to. -/
def CopySpec (h : H) (sz : Nat) (d s : Value) (K : Nat → H → Prop) : Prop :=
  match d, s with
  | .slice a n _, .slice b m _ => ∃ N : List Value, N.length = Nat.min m n * sz ∧ (∀ ad, b = some ad → Reads h ad N) ∧ (b = none → N = []) ∧ (∀ v ∈ N, v.oneCell' = true) ∧
      (∀ ad, a = some ad → Writable h ad N.length) ∧ (a = none → N = []) ∧ K (Nat.min m n) (h.sets (a.getD default) N)
  | _, _ => False
/-- What a clearing comes to. -/
def ClrSpec (h : H) (z : List Value) (s : Value) (K : H → Prop) : Prop :=
  match s with
  | .slice none _ _ => K h
  | .slice (some a) n _ => (∀ v ∈ z, v.oneCell' = true) ∧ Writable h a (repZ z n).length ∧ K (h.sets a (repZ z n))
  | _ => False
/-- What a look into a map comes to. -/
def LookSpec (h : H) (d : TypeDesc) (sh : Sh) (z m key : Value) (K : Value → Bool → Prop) : Prop :=
  match m with
  | .map none => Fits sh z ∧ K z false
  | .map (some r) => ∃ es clock res, h r = some (.map es clock) ∧ Instr.findNow d key es.toList 0 = some res ∧
      (match res with | some (_, v) => Fits sh v ∧ K v true | none => Fits sh z ∧ K z false)
  | _ => False
/-- What a store into a map comes to. -/
def UpdSpec (h : H) (d : TypeDesc) (m key x : Value) (K : H → Prop) : Prop :=
  match m with
  | .map (some r) => ∃ es clock res, h r = some (.map es clock) ∧ Instr.findNow d key es.toList 0 = some res ∧
      (match res with
      | some (i, _) => (∃ e, es[i]? = some e ∧ e.key = key) ∧ K (h.put r (.map (es.modify i fun e => { e with key := key, val := x }) clock))
      | none => K (h.put r (.map (es.push { key := key, val := x, born := clock }) (clock + 1))))
  | _ => False
/-- What a deletion from a map comes to. -/
def DelSpec (h : H) (d : TypeDesc) (m key : Value) (K : H → Prop) : Prop :=
  match m with
  | .map none => K h
  | .map (some r) => ∃ es clock res, h r = some (.map es clock) ∧ Instr.findNow d key es.toList 0 = some res ∧
      (match res with
      | some (i, _) => K (h.put r (.map (es.eraseIdxIfInBounds i) clock))
      | none => K (h.put r (.map es clock)))
  | _ => False
/-- What an entry laid open comes to. -/
def MentSpec (h : H) (d : TypeDesc) (sh : Sh) (z m key : Value) (K : Value → Nat → H → Prop) : Prop :=
  match m with
  | .map (some r) => ∃ es clock res, h r = some (.map es clock) ∧ Instr.findNow d key es.toList 0 = some res ∧
      (match res with
      | some (i, v) => ∃ e, es[i]? = some e ∧ e.key = key ∧ Fits sh v ∧ K v e.born (h.put r (.map (es.modify i fun e => { e with key := key }) clock))
      | none => Fits sh z ∧ K z clock (h.put r (.map (es.push { key := key, val := z, born := clock }) (clock + 1))))
  | _ => False
/-- What a store into such an entry comes to. -/
def EntSpec (h : H) (m s x : Value) (K : H → Prop) : Prop :=
  match m with
  | .map (some r) => ∃ es clock i, h r = some (.map es clock) ∧ es.findIdx? (fun e => (e.born : Int) == vi s) = some i ∧ K (h.put r (.map (es.modify i fun e => { e with val := x }) clock))
  | _ => False
/-- The bytes that a slice holds. -/
def BytesIn (h : H) (v : Value) (l : List Int) : Prop :=
  match v with
  | .slice (some b) n _ => l.length = n ∧ Reads h b (l.map (.int .u8))
  | .slice none n _ => l = [] ∧ n = 0
  | _ => False
/-- What a call of a function value comes to. -/
def CallvSpec (P : Program) (h : H) (fv : Value) (args : List Value) (K : Value → H → Prop) : Prop :=
  ∃ f first cap, fv = .func (.func f) first cap ∧ (∀ xs w, (callFunc f xs).run P w = .ok (.enter f xs) w) ∧ CallsA P f (fun _ => first.toList ++ args ++ cap.toList) [] h fun v cs' h' => cs' = [] ∧ K v h'
def Lv.at (L : Lv) (n : Nat) (xs : List Value) (h : H) : Prop := match L[n]? with | some p => p xs h | none => False

def holds (P : Program) (R : Value → List (List Value) → H → Prop) : Out → List Value → Lv → H → Prop
  | .fail, _, _, _ => False
  | .done v cs, G, _, h => R (v.den G dE) (cs.map (SV.denL G dE)) h
  | .need g ns k, G, L, h => (vb (g.den G) = true → needs G ns) ∧ holds P R k G L h
  | .ite c a b, G, L, h => (vb (c.den G) = true → holds P R a G L h) ∧ (vb (c.den G) = false → holds P R b G L h)
  | .both a b, G, L, h => holds P R a G L h ∧ holds P R b G L h
  | .bnd f k, G, L, h => ∀ v, v = f.den G → holds P R k (G ++ [v]) L h
  | .load g p shs k, G, L, h => ∃ xs, FitsL shs xs ∧ (vb (g.den G) = true → Reads h (p.den G) xs) ∧ holds P R k (G ++ xs) L h
  | .still g p l k, G, L, h => (vb (g.den G) = true → Reads h (p.den G) (SV.denL G dE l)) ∧ holds P R k G L h
  | .store p l k, G, L, h => Writable h (p.den G) l.length ∧ holds P R k G L (h.sets (p.den G) (SV.denL G dE l))
  | .alloc e l mk k, G, L, h => ∀ b, h b = none → holds P R k (G ++ [mk.val b]) L (h.put b (.cells (SV.denL G dE l).toArray e (0, 0)))
  | .call f args ks cs csh rs k, G, L, h =>
    CallsA P f (fun e => SV.denL G (fun j => e (kIdx ks j)) args) (cs.map (SV.denL G dE)) h fun v cs' h' =>
      ∃ xs, FitsL (rshs rs) xs ∧ v = rval rs xs ∧ FitsLL csh cs' ∧ holds P R k (G ++ (cs'.flatten ++ xs)) L h'
  | .callv fv args rs k, G, L, h => CallvSpec P h (fv.den G dE) (SV.denL G dE args) fun v h' => ∃ xs, FitsL (rshs rs) xs ∧ v = rval rs xs ∧ holds P R k (G ++ xs) L h'
  | .app e sz by_ s src k, G, L, h => ∃ N m, SrcOk G h sz src N m ∧ AppSpec h e sz by_ ((zeroCells P e).getD []) (s.den G dE) N m fun v h' => holds P R k (G ++ [v]) L h'
  | .mk e sz by_ n k, G, L, h => 0 ≤ vi (n.den G) ∧ vi (n.den G) * by_ ≤ 281474976710656 ∧
      ∀ b, h b = none → holds P R k (G ++ [.slice (some ⟨b, 0, none⟩) (vi (n.den G)).toNat (vi (n.den G)).toNat]) L (h.put b (.cells (repZ ((zeroCells P e).getD []) (vi (n.den G)).toNat).toArray e (0, 0)))
  | .copy sz d s k, G, L, h => CopySpec h sz (d.den G dE) (s.den G dE) fun n h' => holds P R k (G ++ [.int .i64 (n : Int)]) L h'
  | .clr z s k, G, L, h => ClrSpec h z (s.den G dE) fun h' => holds P R k G L h'
  | .mkMap k, G, L, h => ∀ b, h b = none → holds P R k (G ++ [.map (some b)]) L (h.put b (.map #[] 0))
  | .look d sh z m key k, G, L, h => LookSpec h d sh z (m.den G dE) (key.den G dE) fun v b => holds P R k (G ++ [v, .bool b]) L h
  | .mupd d m key x k, G, L, h => UpdSpec h d (m.den G dE) (key.den G dE) (x.den G dE) fun h' => holds P R k G L h'
  | .mdel d m key k, G, L, h => DelSpec h d (m.den G dE) (key.den G dE) fun h' => holds P R k G L h'
  | .ment d sh z m key k, G, L, h => MentSpec h d sh z (m.den G dE) (key.den G dE) fun v n h' => holds P R k (G ++ [v, .int .i64 (n : Int)]) L h'
  | .ents m s x k, G, L, h => EntSpec h (m.den G dE) (s.den G dE) (x.den G dE) fun h' => holds P R k G L h'
  | .bstr s k, G, L, h => ∃ l : List Int, BytesIn h (s.den G dE) l ∧ holds P R k (G ++ [.string (strOfNums l)]) L h
  | .loop lvl ini shs body, G, L, h => ∃ (I : List Value → H → Prop) (μ : List Value → H → Nat), I (SV.denL G dE ini) h ∧
      ∀ xs h', FitsL shs xs → I xs h' → holds P R body (G ++ xs) (List.take lvl L ++ [fun ys h'' => I ys h'' ∧ μ ys h'' < μ xs h']) h'
  | .again lvl l, G, L, h => L.at lvl (SV.denL G dE l) h

/-! ### Chunks of a state -/
def chGet (k : Nat) : List (Nat × List SV) → Option (List SV)
  | [] => none
  | (j, cs) :: l => if j.beq k then some cs else chGet k l
def chSet (k : Nat) (cs : List SV) : List (Nat × List SV) → List (Nat × List SV)
  | [] => []
  | (j, d) :: l => if j.beq k then (j, cs) :: l else (j, d) :: chSet k cs l
def chDel (k : Nat) : List (Nat × List SV) → List (Nat × List SV)
  | [] => []
  | (j, d) :: l => if j.beq k then chDel k l else (j, d) :: chDel k l
theorem chGet_mem {k : Nat} : ∀ {l : List (Nat × List SV)} {cs : List SV}, chGet k l = some cs → (k, cs) ∈ l
  | [], _, h => by simp [chGet] at h
  | (j, d) :: l, cs, h => by
    unfold chGet at h
    split at h
    · rename_i hj
      cases h
      rw [Nat.beq_eq] at hj
      subst hj
      exact List.mem_cons_self ..
    · exact List.mem_cons_of_mem _ (chGet_mem h)
theorem chDel_mem {k : Nat} : ∀ {l : List (Nat × List SV)} {x : Nat × List SV}, x ∈ chDel k l → x ∈ l ∧ x.1 ≠ k
  | [], _, h => by simp [chDel] at h
  | (j, d) :: l, x, h => by
    unfold chDel at h
    split at h
    · obtain ⟨h1, h2⟩ := chDel_mem h
      exact ⟨List.mem_cons_of_mem _ h1, h2⟩
    · rename_i hj
      rcases List.mem_cons.1 h with rfl | h
      · exact ⟨List.mem_cons_self .., fun e => hj (by rw [Nat.beq_eq]; exact e)⟩
      · obtain ⟨h1, h2⟩ := chDel_mem h
        exact ⟨List.mem_cons_of_mem _ h1, h2⟩
theorem chDel_sub {k : Nat} : ∀ {l : List (Nat × List SV)}, (chDel k l).Sublist l
  | [] => List.Sublist.refl _
  | (j, d) :: l => by
    unfold chDel
    split
    · exact List.Sublist.cons _ chDel_sub
    · exact List.Sublist.cons_cons _ chDel_sub
/-- Replaced cells: the same keys, in the same order. -/
theorem chSet_keys {k : Nat} {cs : List SV} : ∀ {l : List (Nat × List SV)}, (chSet k cs l).map (·.1) = l.map (·.1)
  | [] => rfl
  | (j, d) :: l => by
    unfold chSet
    split
    · rfl
    · simp [chSet_keys]
theorem chSet_mem {k : Nat} {cs : List SV} : ∀ {l : List (Nat × List SV)} {x : Nat × List SV}, x ∈ chSet k cs l → (x ∈ l) ∨ (x = (k, cs))
  | [], _, h => by simp [chSet] at h
  | (j, d) :: l, x, h => by
    unfold chSet at h
    split at h
    · rename_i hj
      rw [Nat.beq_eq] at hj
      subst hj
      rcases List.mem_cons.1 h with rfl | h
      · exact .inr rfl
      · exact .inl (List.mem_cons_of_mem _ h)
    · rcases List.mem_cons.1 h with rfl | h
      · exact .inl (List.mem_cons_self ..)
      · rcases chSet_mem h with h | h
        · exact .inl (List.mem_cons_of_mem _ h)
        · exact .inr h

/-! ### Checks on a state -/
def scCh (n : Nat) : List (Nat × List SV) → Bool
  | [] => true
  | (_, cs) :: l => SV.scL n cs && scCh n l
def scKn (n : Nat) : List (X × Bool) → Bool
  | [] => true
  | (x, _) :: l => x.sc n && scKn n l
/-- All names are laid. -/
def St.scOk (st : St) : Bool := SV.scL st.sh.length st.t && scCh st.sh.length st.ch && scKn st.sh.length st.kn
def refsCh (f : Nat → Bool) : List (Nat × List SV) → Bool
  | [] => true
  | (_, cs) :: l => SV.refsL f cs && refsCh f l
end Go.Proofs.YtbgfabppmobpgaaDoor

/-
  What operations that touch memory do to what a state says: loads, stores, new rows. Conditions: none (plain lemmas).
-/
set_option linter.unusedVariables false
set_option linter.unusedSimpArgs false
namespace Go.Proofs.YtbgfabppmobpgaaDoor
open Go

/-! ### The frame -/
def St.setT (st : St) (dst : Option Tmp) (s : SV) : St := match dst with
  | none => st
  | some d => { st with t := st.t.set d s }
section
variable {P : Program} {B : Beg} {G : List Value} {E : Nat → CE} {h : H} {st : St} {a : Act} {w : World}
theorem SatA.put (hA : SatA G E st a) (dst : Option Tmp) {v : Value} {s : SV} (hr : Rel G E v s) : SatA G E (st.setT dst s) (a.put dst v) := by
  cases dst with
  | none => exact hA
  | some d =>
    refine ⟨by simp [St.setT, Act.put, hA.size], fun i s' hi => ?_, hA.nodef, hA.fits, hA.kn⟩
    simp only [St.setT, Act.put] at hi ⊢
    rw [List.getElem?_set] at hi
    split at hi
    · rename_i hd
      subst hd
      split at hi
      · rename_i hl
        cases hi
        rw [hA.size] at hl
        simpa [Array.getD, hl] using hr
      · cases hi
    · rename_i hd
      have := hA.tmps i s' hi
      rw [Array.getD_eq_getD_getElem?] at this ⊢
      rw [Array.getElem?_setIfInBounds_ne hd]
      exact this
theorem Rel.append {v : Value} {s : SV} {D : List Value} (hr : Rel G E v s) (hs : s.sc G.length = true) : Rel (G ++ D) E v s := by
  unfold Rel at hr ⊢
  split at hr
  · trivial
  · rename_i g t
    simp only [SV.sc, Bool.and_eq_true] at hs
    rw [X.den_append hs.1, SV.den_append _ hs.2]
    exact hr
  · rename_i h1 h2
    have := SV.den_append (G := G) (D := D) (E := E) s hs
    rw [this]
    exact hr
theorem scL_get {n : Nat} : ∀ {l : List SV} {i : Nat} {s : SV}, SV.scL n l = true → l[i]? = some s → s.sc n = true
  | [], _, _, _, h => by simp at h
  | s :: l, 0, t, hl, h => by simp only [SV.scL, Bool.and_eq_true] at hl; simp at h; subst h; exact hl.1
  | s :: l, i + 1, t, hl, h => by simp only [SV.scL, Bool.and_eq_true] at hl; exact scL_get hl.2 (by simpa using h)
theorem scKn_mem {n : Nat} : ∀ {l : List (X × Bool)} {x : X} {b : Bool}, scKn n l = true → (x, b) ∈ l → x.sc n = true
  | [], _, _, _, h => by cases h
  | (y, c) :: l, x, b, hl, h => by
    simp only [scKn, Bool.and_eq_true] at hl
    rcases List.mem_cons.1 h with h | h
    · cases h; exact hl.1
    · exact scKn_mem hl.2 h
theorem scCh_mem {n : Nat} : ∀ {l : List (Nat × List SV)} {k : Nat} {cs : List SV}, scCh n l = true → (k, cs) ∈ l → SV.scL n cs = true
  | [], _, _, _, h => by cases h
  | (y, c) :: l, x, b, hl, h => by
    simp only [scCh, Bool.and_eq_true] at hl
    rcases List.mem_cons.1 h with h | h
    · cases h; exact hl.1
    · exact scCh_mem hl.2 h
theorem SatA.len (hA : SatA G E st a) : st.sh.length = G.length := hA.fits.length
theorem SatA.extend (hA : SatA G E st a) {shs : List Sh} {xs : List Value} (hsc : st.scOk = true) (hf : FitsL shs xs) : SatA (G ++ xs) E { st with sh := st.sh ++ shs } a := by
  simp only [St.scOk, Bool.and_eq_true, hA.len] at hsc
  exact ⟨hA.size, fun i s hi => (hA.tmps i s hi).append (scL_get hsc.1.1 hi), hA.nodef, hA.fits.append hf,
    fun x b hm => by rw [X.den_append (scKn_mem hsc.2 hm)]; exact hA.kn x b hm⟩
theorem RelL.append {D : List Value} : ∀ {l : List Value} {cs : List SV}, RelL G E l cs → SV.scL G.length cs = true → RelL (G ++ D) E l cs
  | [], [], _, _ => trivial
  | _ :: _, _ :: _, h, hs => by
    simp only [SV.scL, Bool.and_eq_true] at hs
    exact ⟨h.1.append hs.1, RelL.append h.2 hs.2⟩
theorem SatW.extend (hW : SatW B G E h st.ch w) (hA : SatA G E st a) (hsc : st.scOk = true) (xs : List Value) : SatW B (G ++ xs) E h st.ch w := by
  simp only [St.scOk, Bool.and_eq_true, hA.len] at hsc
  refine ⟨fun k cs hm => ?_, hW.hid, hW.dist, hW.own, hW.par, hW.hsub, hW.frm, hW.pre.trans (List.prefix_append ..)⟩
  obtain ⟨h1, l, h2, h3⟩ := hW.chunks k cs hm
  exact ⟨h1, l, h2, h3.append (scCh_mem hsc.1.2 hm)⟩
theorem Rel.env {F : Nat → CE} {f : Nat → Bool} (hf : ∀ l, f l = true → E l = F l) {v : Value} {s : SV} (hr : Rel G E v s) (hs : s.refs f = true) : Rel G F v s := by
  unfold Rel at hr ⊢
  split at hr
  · trivial
  · rename_i g t
    simp only [SV.refs] at hs
    rw [← SV.den_env hf _ hs]
    exact hr
  · rw [← SV.den_env hf _ hs]
    exact hr
theorem refsL_get {f : Nat → Bool} : ∀ {l : List SV} {i : Nat} {s : SV}, SV.refsL f l = true → l[i]? = some s → s.refs f = true
  | [], _, _, _, h => by simp at h
  | s :: l, 0, t, hl, h => by simp only [SV.refsL, Bool.and_eq_true] at hl; simp at h; subst h; exact hl.1
  | s :: l, i + 1, t, hl, h => by simp only [SV.refsL, Bool.and_eq_true] at hl; exact refsL_get hl.2 (by simpa using h)
theorem RelL.env {F : Nat → CE} {f : Nat → Bool} (hf : ∀ l, f l = true → E l = F l) : ∀ {l : List Value} {cs : List SV}, RelL G E l cs → SV.refsL f cs = true → RelL G F l cs
  | [], [], _, _ => trivial
  | _ :: _, _ :: _, h, hs => by
    simp only [SV.refsL, Bool.and_eq_true] at hs
    exact ⟨h.1.env hf hs.1, RelL.env hf h.2 hs.2⟩
theorem refsCh_mem {f : Nat → Bool} : ∀ {l : List (Nat × List SV)} {k : Nat} {cs : List SV}, refsCh f l = true → (k, cs) ∈ l → SV.refsL f cs = true
  | [], _, _, _, h => by cases h
  | (y, c) :: l, x, b, hl, h => by
    simp only [refsCh, Bool.and_eq_true] at hl
    rcases List.mem_cons.1 h with h | h
    · cases h; exact hl.1
    · exact refsCh_mem hl.2 h
theorem RelL.length : ∀ {l : List Value} {cs : List SV}, RelL G E l cs → l.length = cs.length
  | [], [], _ => rfl
  | _ :: _, _ :: _, h => by simp [RelL.length h.2]
theorem RelL.get : ∀ {l : List Value} {cs : List SV} {i : Nat} {s : SV}, RelL G E l cs → cs[i]? = some s → ∃ v, l[i]? = some v ∧ Rel G E v s
  | [], [], _, _, _, h => by simp at h
  | v :: _, _ :: _, 0, _, hr, h => by simp at h; subst h; exact ⟨v, rfl, hr.1⟩
  | _ :: _, _ :: _, i + 1, _, hr, h => by obtain ⟨v, h1, h2⟩ := RelL.get (i := i) hr.2 (by simpa using h); exact ⟨v, by simpa using h1, h2⟩

/-! ### Loads from a chunk -/
theorem CE.cell (c : CE) {cells : List SV} (hc : c.holds G E cells w) {i : Nat} {s : SV} (hi : cells[i]? = some s) (hp : s.plain = true) : w.cell? (c.at i) = some (s.den G E) := by
  obtain ⟨_, l, hb, hr⟩ := hc
  obtain ⟨v, hv, hrel⟩ := hr.get hi
  have hl := (List.getElem?_eq_some_iff.1 hv).1
  simp only [World.cell?, CE.at, hb, Option.isSome_none, Bool.false_eq_true, if_false]
  rw [List.getElem?_toArray, List.getElem?_append_left (by simp; omega), List.getElem?_append_right (by simp), Nat.add_sub_cancel_left, hv, hrel.plain hp]
def qLoad (P : Program) (st : St) (g : X) (t : TypeId) (x : Operand) : Option SV :=
  match st.opr g x with
  | .loc k off => (match chGet k st.ch, aggB P t, tsize P t with
    | some cs, some true, some n => if Nat.ble (off + n) cs.length && allPlain ((cs.drop off).take n) then some (.agg ((cs.drop off).take n)) else none
    | some cs, some false, _ => if (SV.get cs off).plain then some (SV.get cs off) else none
    | _, _, _ => none)
  | _ => none
theorem run_loadVar_agg {t : TypeId} {n : Nat} {l : List Value} {ad : Addr} (ha : aggB P t = some true) (hn : tsize P t = some n) (hl : l.length = n)
    (hc : ∀ i v, l[i]? = some v → w.cell? (ad.add i) = some v) : (loadVar t ad).run P w = .ok (.agg l.toArray) w := by
  have := run_loadCells_list (P := P) w ad l hc
  subst hl
  simp [loadVar, run_aggB ha, run_tsize hn, this]
theorem run_loadVar_one {t : TypeId} {v : Value} {ad : Addr} (ha : aggB P t = some false) (hc : w.cell? ad = some v) : (loadVar t ad).run P w = .ok v w := by
  simp [loadVar, run_aggB ha, hc]
theorem sound_load (hA : SatA G E st a) (hW : SatW B G E h st.ch w) {g : X} (hg : vb (g.den G) = true) {t : TypeId} {x : Operand} {s : SV} (hq : qLoad P st g t x = some s)
    (dst : Option Tmp) (ty : TypeId) (pos : String) (after : Array Edge) (guard : Option (Nat × Bool)) :
    s.plain = true ∧ (execOp a.eval ⟨dst, .load t x, ty, pos, after, guard⟩).run P w = .ok (.value (s.den G E)) w := by
  unfold qLoad at hq
  split at hq
  · rename_i k off hx
    have hc := opr_den hA hg hx rfl
    split at hq
    · rename_i cs n hk ha hn
      split at hq
      · rename_i hle
        simp only [Bool.and_eq_true, Nat.ble_eq] at hle
        cases hq
        refine ⟨rfl, ?_⟩
        have hch := hW.chunks k cs (chGet_mem hk)
        have hl : (SV.denL G E ((cs.drop off).take n)).length = n := by simp [SV.denL_eq]; omega
        have := run_loadVar_agg (P := P) (w := w) (ad := (E k).at off) ha hn hl (fun i v hv => by
          rw [at_add]
          simp only [SV.denL_eq, List.getElem?_map, Option.map_eq_some_iff] at hv
          obtain ⟨s, hs, rfl⟩ := hv
          have hp := hle.2
          simp only [allPlain, List.all_eq_true] at hp
          refine (E k).cell hch ?_ (hp s (List.mem_of_getElem? hs))
          rw [List.getElem?_take] at hs
          split at hs
          · simpa using hs
          · cases hs)
        simp only [execOp, Instr.loadAt, hc, SV.den, CE.ptr, Instr.sureAddr, Sem.run_bind, Sem.run_pure, Result.andThen_ok, this]
      · cases hq
    · rename_i cs hk ha
      split at hq
      · rename_i hp
        cases hq
        refine ⟨hp, ?_⟩
        have hch := hW.chunks k cs (chGet_mem hk)
        have hs : cs[off]? = some (SV.get cs off) := by
          simp only [SV.get, List.getD_eq_getElem?_getD] at hp ⊢
          cases hl : cs[off]? with
          | none => simp [hl, SV.plain] at hp
          | some s => simp
        have := run_loadVar_one (P := P) (w := w) (ad := (E k).at off) ha ((E k).cell hch hs hp)
        simp only [execOp, Instr.loadAt, hc, SV.den, CE.ptr, Instr.sureAddr, Sem.run_bind, Sem.run_pure, Result.andThen_ok, this]
      · cases hq
    · cases hq
  · cases hq

/-! ### Stores -/
def setsW (w : World) (ad : Addr) : List Value → Nat → World
  | [], _ => w
  | v :: l, i => setsW (w.setCell (ad.add i) v) ad l (i + 1)
theorem cell_setCell_isSome (ad b : Addr) (v : Value) (hb : (w.cell? b).isSome = true) : ((w.setCell ad v).cell? b).isSome = true := by
  by_cases e : ad = b
  · subst e
    cases hc : w.cell? ad with
    | none => simp [hc] at hb
    | some u => rw [World.cell?_setCell_same _ _ _ hc]; rfl
  · rw [World.cell?_setCell_other _ _ _ _ e]; exact hb
theorem run_sets (ad : Addr) : ∀ (l : List Value) (i : Nat) (w : World), (∀ j, j < l.length → (w.cell? (ad.add (i + j))).isSome = true ∧ w.frozen? (ad.add (i + j)) = false) → (∀ v ∈ l, v.oneCell' = true) →
    (storeCells ad l i).run P w = .ok () (setsW w ad l i)
  | [], i, w, _, _ => by simp [storeCells, setsW]
  | v :: l, i, w, hw, h1 => by
    have h0 := hw 0 (by simp)
    simp only [Nat.add_zero] at h0
    obtain ⟨u, hu⟩ := Option.isSome_iff_exists.1 h0.1
    have hst : (store (ad.add i) v).run P w = .ok () (w.setCell (ad.add i) v) := by
      rw [run_store P w _ v _ (h1 v (by simp)), hu]; simp [h0.2]
    simp only [storeCells, Sem.run_bind, hst, Result.andThen_ok, setsW]
    refine run_sets ad l (i + 1) _ (fun j hj => ?_) (fun v hv => h1 v (by simp [hv]))
    have := hw (j + 1) (by simp; omega)
    rw [show i + (j + 1) = i + 1 + j by omega] at this
    exact ⟨cell_setCell_isSome _ _ _ this.1, by simp [this.2]⟩
theorem setsW_size (ad : Addr) : ∀ (l : List Value) (i : Nat) (w : World), (setsW w ad l i).heap.size = w.heap.size ∧ (setsW w ad l i).os = w.os ∧ (setsW w ad l i).tape = w.tape ∧ (setsW w ad l i).output = w.output
  | [], i, w => ⟨rfl, rfl, rfl, rfl⟩
  | v :: l, i, w => by
    obtain ⟨h1, h2, h3, h4⟩ := setsW_size ad l (i + 1) (w.setCell (ad.add i) v)
    exact ⟨by simp only [setsW]; rw [h1]; simp, by simp only [setsW]; rw [h2]; rfl, by simp only [setsW]; rw [h3]; rfl, by simp only [setsW]; rw [h4]; rfl⟩
theorem add_block (ad : Addr) (i : Nat) : (ad.add i).block = ad.block := by unfold Addr.add; split <;> rfl
theorem setCell_other (ad : Addr) (v : Value) {b : Nat} (hb : b ≠ ad.block) : (w.setCell ad v).heap[b]? = w.heap[b]? := by
  simp only [World.setCell, Array.getElem?_modify]
  rw [if_neg (fun e => hb e.symm)]
theorem setsW_other (ad : Addr) {b : Nat} (hb : b ≠ ad.block) : ∀ (l : List Value) (i : Nat) (w : World), (setsW w ad l i).heap[b]? = w.heap[b]?
  | [], i, w => rfl
  | v :: l, i, w => by
    simp only [setsW]
    rw [setsW_other ad hb l (i + 1) _, setCell_other _ _ (by rw [add_block]; exact hb)]
theorem setsW_block (b o : Nat) (e : TypeId) (fr : Nat × Nat) : ∀ (l : List Value) (i : Nat) (w : World) (arr : Array Value), w.heap[b]? = some (.cells arr e fr) →
    (setsW w ⟨b, o, none⟩ l i).heap[b]? = some (.cells ((l.zipIdx i).foldl (fun cs (x : Value × Nat) => cs.setIfInBounds (o + x.2) x.1) arr) e fr)
  | [], i, w, arr, hb => hb
  | v :: l, i, w, arr, hb => by
    simp only [setsW, List.zipIdx_cons, List.foldl_cons]
    refine setsW_block b o e fr l (i + 1) _ _ ?_
    have hadd : (⟨b, o, none⟩ : Addr).add i = ⟨b, o + i, none⟩ := by unfold Addr.add; split <;> simp_all
    rw [hadd]
    simp [World.setCell, Array.getElem?_modify, hb]
end
end Go.Proofs.YtbgfabppmobpgaaDoor

/-
  Chunks: stored into, made anew; what a state says then. Conditions: none (plain lemmas).
-/
set_option linter.unusedVariables false
set_option linter.unusedSimpArgs false
namespace Go.Proofs.YtbgfabppmobpgaaDoor
open Go

section
variable {P : Program} {B : Beg} {G : List Value} {E : Nat → CE} {h : H} {st : St} {a : Act} {w : World}

theorem SatW.keys (hW : SatW B G E h st.ch w) : st.ch.Pairwise fun x y => x.1 ≠ y.1 :=
  hW.dist.imp fun hxy e => hxy (by rw [e])
theorem chSet_mem' {k : Nat} {cs : List SV} : ∀ {l : List (Nat × List SV)} {x : Nat × List SV}, l.Pairwise (fun x y => x.1 ≠ y.1) → x ∈ chSet k cs l → (x ∈ l ∧ x.1 ≠ k) ∨ (x = (k, cs))
  | [], _, _, h => by simp [chSet] at h
  | (j, d) :: l, x, hp, h => by
    obtain ⟨hp1, hp2⟩ := List.pairwise_cons.1 hp
    unfold chSet at h
    split at h
    · rename_i hj
      rw [Nat.beq_eq] at hj
      subst hj
      rcases List.mem_cons.1 h with rfl | h
      · exact .inr rfl
      · exact .inl ⟨List.mem_cons_of_mem _ h, fun e => hp1 x h e.symm⟩
    · rename_i hj
      rcases List.mem_cons.1 h with rfl | h
      · exact .inl ⟨List.mem_cons_self .., fun e => hj (by rw [Nat.beq_eq]; exact e)⟩
      · rcases chSet_mem' hp2 h with ⟨h1, h2⟩ | h
        · exact .inl ⟨List.mem_cons_of_mem _ h1, h2⟩
        · exact .inr h
theorem pair_keys {l m : List (Nat × List SV)} (hk : l.map (·.1) = m.map (·.1)) (hp : m.Pairwise fun x y => (E x.1).blk ≠ (E y.1).blk) : l.Pairwise fun x y => (E x.1).blk ≠ (E y.1).blk := by
  have h1 : List.Pairwise (fun x y : Nat => (E x).blk ≠ (E y).blk) (m.map (·.1)) := List.Pairwise.map (R := fun x y : Nat × List SV => (E x.1).blk ≠ (E y.1).blk) (fun x : Nat × List SV => x.1) (fun _ _ h => h) hp
  rw [← hk] at h1
  exact (List.pairwise_map (R := fun x y : Nat => (E x).blk ≠ (E y).blk)).1 h1
theorem dist_ne (hW : SatW B G E h st.ch w) {x y : Nat × List SV} (hx : x ∈ st.ch) (hy : y ∈ st.ch) (hne : x.1 ≠ y.1) : (E x.1).blk ≠ (E y.1).blk := by
  have hs : ∀ {l : List (Nat × List SV)}, l.Pairwise (fun x y => (E x.1).blk ≠ (E y.1).blk) → x ∈ l → y ∈ l → (E x.1).blk ≠ (E y.1).blk := by
    intro l
    induction l with
    | nil => intro _ h; cases h
    | cons z l ih =>
      intro hp h1 h2
      obtain ⟨hp1, hp2⟩ := List.pairwise_cons.1 hp
      rcases List.mem_cons.1 h1 with e1 | h1
      · rcases List.mem_cons.1 h2 with e2 | h2
        · exact absurd (by rw [e1, e2]) hne
        · rw [e1]; exact hp1 _ h2
      · rcases List.mem_cons.1 h2 with e2 | h2
        · rw [e2]; exact fun e => hp1 _ h1 e.symm
        · exact ih hp2 h1 h2
  exact hs hW.dist hx hy
theorem RelL.splice {off : Nat} : ∀ {l : List Value} {cs : List SV} {m : List Value} {ms : List SV}, RelL G E l cs → RelL G E m ms → off + ms.length ≤ cs.length → RelL G E (splice l off m) (splice cs off ms) := by
  intro l cs m ms h1 h2 hle
  have hl := h1.length
  have hm := h2.length
  have app : ∀ {l : List Value} {cs : List SV} {m : List Value} {ms : List SV}, RelL G E l cs → RelL G E m ms → RelL G E (l ++ m) (cs ++ ms) := by
    intro l
    induction l with
    | nil => intro cs m ms h1 h2; cases cs with | nil => exact h2 | cons _ _ => exact h1.elim
    | cons v l ih => intro cs m ms h1 h2; cases cs with | nil => exact h1.elim | cons c cs => exact ⟨h1.1, ih h1.2 h2⟩
  have tk : ∀ (n : Nat) {l : List Value} {cs : List SV}, RelL G E l cs → RelL G E (l.take n) (cs.take n) ∧ RelL G E (l.drop n) (cs.drop n) := by
    intro n
    induction n with
    | zero => intro l cs h; exact ⟨by simp only [List.take_zero]; trivial, by simpa using h⟩
    | succ n ih =>
      intro l cs h
      cases l with
      | nil => cases cs with | nil => exact ⟨by simp only [List.take_nil]; trivial, by simp only [List.drop_nil]; trivial⟩ | cons _ _ => exact h.elim
      | cons v l => cases cs with | nil => exact h.elim | cons c cs => exact ⟨⟨h.1, (ih h.2).1⟩, by simpa using (ih h.2).2⟩
  unfold Go.Proofs.YtbgfabppmobpgaaDoor.splice
  rw [hm]
  exact app (app (tk off h1).1 h2) (tk _ h1).2
theorem splice_mid {α : Type} (pre l post m : List α) (off : Nat) (h : off + m.length ≤ l.length) : splice (pre ++ l ++ post) (pre.length + off) m = pre ++ splice l off m ++ post := by
  unfold splice
  have e1 : (pre ++ l ++ post).take (pre.length + off) = pre ++ l.take off := by
    rw [List.append_assoc, List.take_length_add_append, List.take_append_of_le_length (by omega)]
  have e2 : (pre ++ l ++ post).drop (pre.length + off + m.length) = l.drop (off + m.length) ++ post := by
    rw [List.append_assoc, Nat.add_assoc, List.drop_length_add_append, List.drop_append_of_le_length h]
  rw [e1, e2]
  simp [List.append_assoc]
theorem splice_length {α : Type} (l m : List α) (off : Nat) (h : off + m.length ≤ l.length) : (splice l off m).length = l.length := by
  unfold splice; simp; omega
theorem RelL_den : ∀ {ms : List SV}, allPlain ms = true → RelL G E (SV.denL G E ms) ms
  | [], _ => trivial
  | s :: ms, hp => by
    simp only [allPlain, List.all_cons, Bool.and_eq_true] at hp
    exact ⟨Rel.of (fun _ => rfl) (by intro g t e; rw [e] at hp; simp [SV.plain] at hp), RelL_den (by simp only [allPlain]; exact hp.2)⟩

/-- A store into a chunk. -/
theorem SatW.store (hW : SatW B G E h st.ch w) {k : Nat} {cs ms : List SV} {off : Nat} (hk : chGet k st.ch = some cs) (hle : off + ms.length ≤ cs.length) (hp : allPlain ms = true) (h1 : ∀ v ∈ SV.denL G E ms, v.oneCell' = true) :
    (storeCells ((E k).at off) (SV.denL G E ms)).run P w = .ok () (setsW w ((E k).at off) (SV.denL G E ms) 0) ∧
    SatW B G E h (chSet k (splice cs off ms) st.ch) (setsW w ((E k).at off) (SV.denL G E ms) 0) := by
  have hmem := chGet_mem hk
  obtain ⟨hfree, l, hb, hr⟩ := hW.chunks k cs hmem
  have hlen := hr.length
  have hml : (SV.denL G E ms).length = ms.length := by simp [SV.denL_eq]
  have hblk : ((E k).at off).block = (E k).blk := rfl
  constructor
  · refine run_sets _ _ 0 w (fun j hj => ?_) h1
    rw [hml] at hj
    rw [Nat.zero_add, at_add]
    constructor
    · simp only [World.cell?, CE.at, hb, Option.isSome_none, Bool.false_eq_true, if_false]
      rw [List.getElem?_toArray, List.getElem?_append_left (by simp; omega), List.getElem?_append_right (by omega)]
      rw [show (E k).pre.length + (off + j) - (E k).pre.length = off + j by omega, List.getElem?_eq_getElem (by omega)]
      rfl
    · simp only [World.frozen?, CE.at, hb]
      have := hfree (off + j) (by omega)
      rw [Bool.eq_false_iff]
      intro hc
      simp only [Bool.and_eq_true] at hc
      exact this ⟨of_decide_eq_true hc.1, of_decide_eq_true hc.2⟩
  · have hsz := setsW_size ((E k).at off) (SV.denL G E ms) 0 w
    have hoth : ∀ b, b ≠ (E k).blk → (setsW w ((E k).at off) (SV.denL G E ms) 0).heap[b]? = w.heap[b]? := fun b hb => setsW_other _ hb _ 0 w
    have hnew : (setsW w ((E k).at off) (SV.denL G E ms) 0).heap[(E k).blk]? = some (.cells ((E k).pre ++ splice l off (SV.denL G E ms) ++ (E k).post).toArray (E k).elem (E k).fr) := by
      have := setsW_block (E k).blk ((E k).pre.length + off) (E k).elem (E k).fr (SV.denL G E ms) 0 w _ hb
      rw [show (E k).at off = ⟨(E k).blk, (E k).pre.length + off, none⟩ from rfl, this]
      congr 2
      apply Array.ext'
      rw [foldl_splice _ _ 0 _ (by simp [hml]; omega)]
      rw [Nat.add_zero, ← splice_mid _ _ _ _ _ (by rw [hml]; omega)]
    refine ⟨fun j ds hm => ?_, fun j ds hm => ?_, pair_keys chSet_keys hW.dist, fun j ds hm => ?_, hW.par, fun b o ho => ?_, ?_, hW.pre⟩
    · rcases chSet_mem' hW.keys hm with ⟨hm, hne⟩ | he
      · obtain ⟨f, l', hb', hr'⟩ := hW.chunks j ds hm
        exact ⟨f, l', by rw [hoth _ (dist_ne hW hm hmem hne)]; exact hb', hr'⟩
      · cases he
        refine ⟨fun i hi => hfree i (by rw [splice_length _ _ _ hle] at hi; exact hi), _, hnew, hr.splice (RelL_den hp) hle⟩
    · rcases chSet_mem' hW.keys hm with ⟨hm, hne⟩ | he
      · exact hW.hid j ds hm
      · cases he; exact hW.hid k cs hmem
    · rcases chSet_mem' hW.keys hm with ⟨hm, hne⟩ | he
      · exact hW.own j ds hm
      · cases he; exact hW.own k cs hmem
    · rw [hoth b (fun e => by rw [e, hW.hid k cs hmem] at ho; cases ho)]
      exact hW.hsub b o ho
    · refine ⟨by rw [hsz.1]; exact hW.frm.size, hsz.2.1.trans hW.frm.os, hsz.2.2.1.trans hW.frm.tape, hsz.2.2.2.trans hW.frm.out, fun b h1 h2 h3 => ?_⟩
      obtain ⟨k1, k2⟩ := hW.frm.keep b h1 h2 h3
      refine ⟨?_, k2⟩
      rw [hoth b (fun e => ?_)]
      · exact k1
      · rcases hW.own k cs hmem with ho | ho
        · exact h3 (e ▸ ho)
        · omega

/-- A chunk made anew. -/
def envPut (E : Nat → CE) (d : Nat) (c : CE) : Nat → CE := fun j => if j.beq d then c else E j
theorem envPut_ne {E : Nat → CE} {d j : Nat} {c : CE} (h : j ≠ d) : envPut E d c j = E j := by
  unfold envPut
  rw [if_neg (by rw [Nat.beq_eq]; exact h)]
theorem envPut_eq {E : Nat → CE} {d : Nat} {c : CE} : envPut E d c d = c := by
  unfold envPut
  rw [if_pos (by rw [Nat.beq_eq])]
def neq (d : Nat) (j : Nat) : Bool := !(j.beq d)
theorem neq_env {E : Nat → CE} {d : Nat} {c : CE} : ∀ l, neq d l = true → E l = envPut E d c l := by
  intro l hl
  rw [envPut_ne]
  intro e
  subst e
  simp [neq] at hl
theorem heap_lt {w : World} {b : Nat} {o : Obj} (h : w.heap[b]? = some o) : b < w.heap.size := (Array.getElem?_eq_some_iff.1 h).1
theorem h_size (hs : h.sub w) {b : Nat} (hb : w.heap.size ≤ b) : h b = none := by
  cases ho : h b with
  | none => rfl
  | some o => have := heap_lt (hs b o ho); omega
theorem push_old {w : World} {o : Obj} {b : Nat} (hb : b < w.heap.size) : (w.alloc o).heap[b]? = w.heap[b]? := by
  unfold World.alloc
  simp only [Array.getElem?_push]
  rw [if_neg (by omega)]
theorem SatW.new (hW : SatW B G E h st.ch w) {d : Nat} {elem : TypeId} {cs : List SV} {arr : Array Value} (hd : d < 1000000) (hr : RelL G E arr.toList cs)
    (hc : SV.refsL (neq d) cs = true) (hn : refsCh (neq d) (chDel d st.ch) = true) :
    SatW B G (envPut E d ⟨w.heap.size, [], [], elem, (0, 0)⟩) h ((d, cs) :: chDel d st.ch) (w.alloc (.cells arr elem)) := by
  have hsz : (w.alloc (.cells arr elem)).heap.size = w.heap.size + 1 := by simp
  have hnew : (w.alloc (.cells arr elem)).heap[w.heap.size]? = some (.cells arr elem (0, 0)) := by unfold World.alloc; simp only [Array.getElem?_push, if_true]
  have hlt : ∀ k cs, (k, cs) ∈ st.ch → (E k).blk < w.heap.size := fun k cs hm => by
    obtain ⟨_, l, hb, _⟩ := hW.chunks k cs hm
    exact heap_lt hb
  refine ⟨fun k ds hm => ?_, fun k ds hm => ?_, ?_, fun k ds hm => ?_, fun i c hi => ?_, fun b o ho => ?_, ?_, hW.pre⟩
  · rcases List.mem_cons.1 hm with he | hm
    · cases he
      rw [envPut_eq]
      refine ⟨fun i hi => by simp, arr.toList, by simpa using hnew, hr.env neq_env hc⟩
    · obtain ⟨hm', hne⟩ := chDel_mem hm
      rw [envPut_ne hne]
      obtain ⟨f, l, hb, hr'⟩ := hW.chunks k ds hm'
      exact ⟨f, l, by rw [push_old (hlt k ds hm')]; exact hb, hr'.env neq_env (refsCh_mem hn hm)⟩
  · rcases List.mem_cons.1 hm with he | hm
    · cases he; rw [envPut_eq]; exact h_size hW.hsub (Nat.le_refl _)
    · obtain ⟨hm', hne⟩ := chDel_mem hm
      rw [envPut_ne hne]; exact hW.hid k ds hm'
  · refine List.pairwise_cons.2 ⟨fun x hx => ?_, ?_⟩
    · obtain ⟨hm', hne⟩ := chDel_mem hx
      have := hlt x.1 x.2 hm'
      rw [envPut_eq, envPut_ne hne]
      simp only; omega
    · have := hW.dist.sublist (chDel_sub (k := d))
      refine List.Pairwise.imp_of_mem (fun {x y} hx hy hxy => ?_) this
      rw [envPut_ne (chDel_mem hx).2, envPut_ne (chDel_mem hy).2]; exact hxy
  · rcases List.mem_cons.1 hm with he | hm
    · cases he; rw [envPut_eq]; exact .inr hW.frm.size
    · obtain ⟨hm', hne⟩ := chDel_mem hm
      rw [envPut_ne hne]; exact hW.own k ds hm'
  · rw [envPut_ne (by unfold pkey; omega)]; exact hW.par i c hi
  · rw [push_old (heap_lt (hW.hsub b o ho))]; exact hW.hsub b o ho
  · refine ⟨by rw [hsz]; have := hW.frm.size; omega, hW.frm.os, hW.frm.tape, hW.frm.out, fun b h1 h2 h3 => ?_⟩
    obtain ⟨k1, k2⟩ := hW.frm.keep b h1 h2 h3
    refine ⟨?_, k2⟩
    rw [push_old (by have := hW.frm.size; omega)]; exact k1
theorem SatA.env {F : Nat → CE} {f : Nat → Bool} (hf : ∀ l, f l = true → E l = F l) (hA : SatA G E st a) (hs : SV.refsL f st.t = true) : SatA G F st a :=
  ⟨hA.size, fun i s hi => (hA.tmps i s hi).env hf (refsL_get hs hi), hA.nodef, hA.fits, hA.kn⟩
end
end Go.Proofs.YtbgfabppmobpgaaDoor

/-
  One operation by symbols: rows made anew, loads and stores outside the chunks, calls by contract. Conditions: none (definitions and plain lemmas).
-/
set_option linter.unusedVariables false
set_option linter.unusedSimpArgs false
namespace Go.Proofs.YtbgfabppmobpgaaDoor
open Go

section
variable {P : Program} {B : Beg} {G : List Value} {E : Nat → CE} {h : H} {st : St} {a : Act} {w : World}

/-! ### Rows made anew -/
def fillS (st : St) (place : Nat → Option (Nat × Nat)) (cells : List SV) : List (Nat × SV) → Option (List SV)
  | [] => some cells
  | (i, s) :: l =>
    match place i, st.parts s with
    | some (off, n), some m => if m.length.beq n && Nat.ble (off + n) cells.length then fillS st place (splice cells off m) l else none
    | _, _ => none
theorem fillS_fill (hA : SatA G E st a) {place : Nat → Option (Nat × Nat)} : ∀ {ps : List (Nat × SV)} {cells out : List SV}, fillS st place cells ps = some out →
      Instr.fill place (SV.denL G E cells).toArray (ps.map fun p => (p.1, p.2.den G E)) = some (SV.denL G E out).toArray ∧ (∀ p ∈ ps, p.2.plain = true) ∧ (allPlain cells = true → allPlain out = true)
  | [], cells, out, h => by simp only [fillS, Option.some.injEq] at h; subst h; exact ⟨by simp [Instr.fill], by simp, fun h => h⟩
  | (i, s) :: ps, cells, out, h => by
    unfold fillS at h
    split at h
    · rename_i off n m hpl hm
      split at h
      · rename_i hc
        simp only [Bool.and_eq_true, Nat.beq_eq, Nat.ble_eq] at hc
        obtain ⟨h1, h2, h3⟩ := fillS_fill hA h
        obtain ⟨c1, c2, c3⟩ := parts_den hA hm
        refine ⟨?_, ?_, fun hp => h3 ?_⟩
        · simp only [List.map_cons, Instr.fill, hpl]
          have hs : (s.den G E).cells.size = n := by rw [c1]; simp [SV.denL_eq, hc.1]
          rw [if_neg (by simp [hs, SV.denL_eq]; omega)]
          rw [fill_one _ _ n _ hs (by simp [SV.denL_eq]; omega)]
          rw [denL_splice] at h1
          rw [c1]
          simpa using h1
        · intro p hp
          rcases List.mem_cons.1 hp with rfl | hp
          · exact c2
          · exact h2 p hp
        · simp only [allPlain, List.all_eq_true] at hp c3 ⊢
          intro x hx
          unfold splice at hx
          rcases List.mem_append.1 hx with hx | hx
          · rcases List.mem_append.1 hx with hx | hx
            · exact hp x (List.mem_of_mem_take hx)
            · exact c3 x hx
          · exact hp x (List.mem_of_mem_drop hx)
      · cases h
    · cases h
theorem plain_ofV1 (l : List Value) : allPlain (l.map SV.ofV1) = true := by
  simp only [allPlain, List.all_map, List.all_eq_true, Function.comp]
  intro v _
  unfold SV.ofV1
  split <;> try rfl
  split <;> rfl
def repCells (z : List Value) (n : Nat) : List Value := (List.range n).map fun i => z.getD (i % z.length) undef
def newS (P : Program) (st : St) (g : X) : Op → Option (TypeId × List SV × NK)
  | .alloc e => (match zeroCells P e with
    | some z => some (e, z.map SV.ofV1, .loc)
    | none => none)
  | .box e x => (match st.parts (st.opr g x) with
    | some l => some (e, l, .loc)
    | none => none)
  | .buildSlice t n ps => (match P.underlying t with
    | some (.slice e) => (match tsize P e, zeroCells P e with
      | some sz, some z => if Nat.blt 0 sz && z.length.beq sz && Nat.ble (n * sz) 4096 then
          (match fillS st (fun i => some (i * sz, sz)) ((repCells z (n * sz)).map SV.ofV1) (ps.toList.map fun p => (p.1, st.opr g p.2)) with
          | some out => some (e, out, .lsl n)
          | none => none) else none
      | _, _ => none)
    | _ => none)
  | _ => none
theorem run_zeroC {t : TypeId} {z : List Value} (hz : zeroCells P t = some z) : ∃ v, (P.info? t).bind (·.zero) = some v ∧ v.cells.toList = z ∧ (zeroValue t).run P w = .ok v w := by
  unfold zeroCells at hz
  cases hv : (P.info? t).bind (·.zero) with
  | none => simp [hv] at hz
  | some v => simp [hv] at hz; exact ⟨v, rfl, hz, run_zero hv⟩
theorem newS_run (hA : SatA G E st a) {g : X} (hg : vb (g.den G) = true) {o : Op} {e : TypeId} {cs : List SV} {mk : NK} (hn : newS P st g o = some (e, cs, mk))
    (dst : Option Tmp) (ty : TypeId) (pos : String) (after : Array Edge) (guard : Option (Nat × Bool)) :
    ∃ arr, (execOp a.eval ⟨dst, o, ty, pos, after, guard⟩).run P w = .ok (.value (mk.val w.heap.size)) (w.alloc (.cells arr e)) ∧ arr.toList = SV.denL G E cs ∧ allPlain cs = true := by
  unfold newS at hn
  split at hn
  · split at hn
    · rename_i el z hz
      cases hn
      obtain ⟨v, _, hv, hr⟩ := run_zeroC (w := w) hz
      refine ⟨v.cells, ?_, by rw [hv, denL_ofV1], plain_ofV1 _⟩
      simp [execOp, Instr.alloc, hr, newVar, newRow, NK.val]
    · cases hn
  · split at hn
    · rename_i hp
      cases hn
      obtain ⟨c1, c2, c3⟩ := parts_den hA hp
      have hc := opr_den hA hg rfl c2
      refine ⟨(SV.den G E (st.opr g ‹Operand›)).cells, ?_, by rw [c1], c3⟩
      simp [execOp, Instr.box, hc, newVar, newRow, NK.val]
    · cases hn
  · rename_i t n ps
    split at hn
    · rename_i el hu
      split at hn
      · rename_i sz z hsz hz
        split at hn
        · rename_i hc
          simp only [Bool.and_eq_true, Nat.blt_eq, Nat.beq_eq, Nat.ble_eq] at hc
          split at hn
          · rename_i out hf
            cases hn
            obtain ⟨v, _, hv, hr⟩ := run_zeroC (w := w) hz
            obtain ⟨f1, f2, f3⟩ := fillS_fill (E := E) hA hf
            rw [denL_ofV1] at f1
            refine ⟨(SV.denL G E cs).toArray, ?_, rfl, f3 (plain_ofV1 _)⟩
            obtain ⟨ps⟩ := ps
            have h3 : (ps.toArray.map fun (x : Nat × Operand) => (x.1, a.eval x.2)).toList = ((ps.map fun p => (p.1, st.opr g p.2)).map fun p => (p.1, p.2.den G E)) := by
              simp only [List.map_toArray, List.map_map]
              apply List.map_congr_left
              intro p hp
              simp only [Function.comp, Prod.mk.injEq, true_and]
              exact opr_den hA hg rfl (f2 _ (List.mem_map.2 ⟨p, hp, rfl⟩))
            have hle : ¬ (n * sz > 2 ^ 24) := by have := hc.2; omega
            have f1' : Instr.fill (fun i => some (i * sz, sz)) (repCells z (n * sz)).toArray ((ps.toArray.map fun (x : Nat × Operand) => (x.1, a.eval x.2)).toList) = some (SV.denL G E cs).toArray := by rw [h3]; exact f1
            have h4 : (ps.toArray.map fun (x : Nat × Operand) => match x with | (i, x) => (i, a.eval x)) = (ps.toArray.map fun (x : Nat × Operand) => (x.1, a.eval x.2)) := rfl
            simp only [execOp, Instr.buildSlice, Sem.run_bind, run_underlying hu, Result.andThen_ok, run_tsize hsz, hle, if_false]
            rw [h4]
            by_cases h0 : n * sz = 0
            · have e0 : ((Array.range (n * sz)).map fun i => (#[] : Array Value)[i % (#[] : Array Value).size]!) = (repCells z (n * sz)).toArray := by
                rw [h0]; apply Array.ext'; simp [repCells]
              simp only [h0, if_true, Sem.run_bind, Sem.run_pure, Result.andThen_ok]
              rw [h0] at e0 f1'
              rw [e0, f1']
              simp [newRow, NK.val]
            · have e1 : ((Array.range (n * sz)).map fun i => v.cells[i % v.cells.size]!) = (repCells z (n * sz)).toArray := by
                apply Array.ext'
                simp only [Array.toList_map, Array.toList_range, repCells]
                apply List.map_congr_left
                intro i hi
                rw [List.mem_range] at hi
                have : v.cells.size = z.length := by rw [← hv]; simp
                have hlt : i % v.cells.size < v.cells.size := Nat.mod_lt _ (by rw [this, hc.1.2]; exact hc.1.1)
                rw [getElem!_pos v.cells _ hlt, ← this]
                rw [List.getD_eq_getElem?_getD, ← hv, Array.getElem?_toList, Array.getElem?_eq_getElem hlt]
                rfl
              simp only [h0, if_false, Sem.run_bind, Sem.run_pure, Result.andThen_ok, hr, e1, f1']
              simp [newRow, NK.val]
          · cases hn
        · cases hn
      · cases hn
    · cases hn
  · cases hn

/-! ### Shapes -/
def vSh : Value → Sh
  | .int k _ => .int k
  | .bool _ => .bool
  | .string _ => .str
  | .slice .. => .sl
  | .pointer _ => .ptr
  | .map _ => .map
  | .nilFunc => .fn
  | _ => .any
def shapesOf (P : Program) (t : TypeId) : Option (List Sh) := (zeroCells P t).map (·.map vSh)
def svSh (st : St) : SV → Sh
  | .int k _ => .int k
  | .bool _ => .bool
  | .str _ => .str
  | .ptr _ => .ptr
  | .val i => st.shape i
  | .cst (.slice none 0 0) => .sl
  | .cst (.pointer none) => .ptr
  | .cst (.map none) => .map
  | .cst .nilFunc => .fn
  | .lsl _ n c => if Nat.ble n c then .sl else .any
  | .fn .. => .fn
  | _ => .any
theorem svSh_fits (hA : SatA G E st a) (s : SV) : Fits (svSh st s) (s.den G E) := by
  unfold svSh
  split <;> (try simp only [SV.den])
  · exact ⟨_, rfl⟩
  · exact ⟨_, rfl⟩
  · exact ⟨_, rfl⟩
  · exact ⟨_, rfl⟩
  · exact shape_fits hA _
  · exact ⟨_, _, _, rfl, fun _ => ⟨rfl, rfl⟩, Nat.le_refl _⟩
  · exact ⟨_, rfl⟩
  · exact ⟨_, rfl⟩
  · exact .inl rfl
  · split
    · rename_i hb; rw [Nat.ble_eq] at hb; exact ⟨_, _, _, rfl, (fun e => by cases e), hb⟩
    · trivial
  · exact .inr ⟨_, _, _, rfl⟩
  · trivial
theorem svs_den {shs : List Sh} : ∀ {xs : List Value} {G : List Value}, FitsL shs xs → SV.denL (G ++ xs) E (Sh.svs G.length shs) = xs ∧ allPlain (Sh.svs G.length shs) = true ∧ SV.refsL (fun _ => false) (Sh.svs G.length shs) = true := by
  induction shs with
  | nil => intro xs G h; cases xs with | nil => exact ⟨rfl, rfl, rfl⟩ | cons _ _ => exact h.elim
  | cons s shs ih =>
    intro xs G h
    cases xs with
    | nil => exact h.elim
    | cons v xs =>
      obtain ⟨i1, i2, i3⟩ := ih (G := G ++ [v]) h.2
      simp only [List.append_assoc, List.cons_append, List.nil_append, List.length_append, List.length_cons, List.length_nil, Nat.zero_add] at i1 i2 i3
      have hgv : gv (G ++ v :: xs) G.length = v := by simp [gv, List.getD_eq_getElem?_getD]
      have hs := Sh.sv_den (G := G ++ v :: xs) (E := E) (i := G.length) (s := s) (by rw [hgv]; exact h.1)
      refine ⟨by simp only [Sh.svs, SV.denL]; rw [hs, hgv, i1], ?_, ?_⟩
      · simp only [Sh.svs, allPlain, List.all_cons, Bool.and_eq_true]
        exact ⟨by cases s <;> rfl, i2⟩
      · simp only [Sh.svs, SV.refsL, Bool.and_eq_true]
        exact ⟨by cases s <;> rfl, i3⟩
end
end Go.Proofs.YtbgfabppmobpgaaDoor

/-
  Calls by contract: what a state says behind one. Conditions: none (definitions and plain lemmas).
-/
set_option linter.unusedVariables false
set_option linter.unusedSimpArgs false
namespace Go.Proofs.YtbgfabppmobpgaaDoor
open Go

section
variable {P : Program} {B : Beg} {G : List Value} {E : Nat → CE} {h : H} {st : St} {a : Act} {w : World}

def svsLL (i : Nat) : List (List Sh) → List (List SV)
  | [] => []
  | s :: l => Sh.svs i s :: svsLL (i + s.length) l
theorem svs_at {shs : List Sh} {xs D : List Value} {F : List Value} (hf : FitsL shs xs) : RelL (F ++ xs ++ D) E xs (Sh.svs F.length shs) := by
  obtain ⟨h1, h2, h3⟩ := svs_den (E := E) (G := F) hf
  have h4 : ∀ {xs : List Value} {shs : List Sh} {F : List Value}, FitsL shs xs → SV.scL (F.length + xs.length) (Sh.svs F.length shs) = true := by
    intro xs
    induction xs with
    | nil => intro shs F h; cases shs with | nil => rfl | cons _ _ => exact h.elim
    | cons v xs ih =>
      intro shs F h
      cases shs with
      | nil => exact h.elim
      | cons s shs =>
        have := ih (F := F ++ [v]) h.2
        simp only [List.length_append, List.length_cons, List.length_nil, Nat.zero_add] at this
        simp only [Sh.svs, SV.scL, Bool.and_eq_true]
        refine ⟨?_, by rw [show F.length + (v :: xs).length = F.length + 1 + xs.length by simp; omega]; exact this⟩
        cases s <;> simp [Sh.sv, SV.sc, X.sc, Nat.blt_eq] <;> omega
  have h5 := RelL_den (G := F ++ xs) (E := E) h2
  rw [h1] at h5
  exact h5.append (by have := h4 (F := F) hf; simpa using this)
theorem svsLL_at {D : List Value} : ∀ {csh : List (List Sh)} {vals : List (List Value)} {F : List Value}, FitsLL csh vals → ∀ (j : Nat) (c : List SV), (svsLL F.length csh)[j]? = some c →
    ∃ l : List Value, vals[j]? = some l ∧ RelL (F ++ vals.flatten ++ D) E l c
  | [], [], F, _, j, c, h => by simp [svsLL] at h
  | s :: csh, v :: vals, F, hf, 0, c, h => by
    simp only [svsLL, List.getElem?_cons_zero, Option.some.injEq] at h
    subst h
    refine ⟨v, rfl, ?_⟩
    have := svs_at (E := E) (D := vals.flatten ++ D) (F := F) hf.1
    simpa using this
  | s :: csh, v :: vals, F, hf, j + 1, c, h => by
    simp only [svsLL, List.getElem?_cons_succ] at h
    have hl : s.length = v.length := hf.1.length
    obtain ⟨l, h1, h2⟩ := svsLL_at (D := D) (F := F ++ v) hf.2 j c (by simpa [hl] using h)
    exact ⟨l, by simpa using h1, by simpa using h2⟩
theorem FitsLL.flat : ∀ {csh : List (List Sh)} {vals : List (List Value)}, FitsLL csh vals → FitsL csh.flatten vals.flatten
  | [], [], _ => trivial
  | _ :: _, _ :: _, h => by simp only [List.flatten_cons]; exact h.1.append (FitsLL.flat h.2)
theorem FitsLL.length : ∀ {csh : List (List Sh)} {vals : List (List Value)}, FitsLL csh vals → csh.length = vals.length
  | [], [], _ => rfl
  | _ :: _, _ :: _, h => by simp [FitsLL.length h.2]

def updCh : List Nat → List (List SV) → List (Nat × List SV) → List (Nat × List SV)
  | k :: ks, c :: cs, ch => updCh ks cs (chSet k c ch)
  | _, _, ch => ch
theorem updCh_keys : ∀ {ks : List Nat} {cs : List (List SV)} {ch : List (Nat × List SV)}, (updCh ks cs ch).map (·.1) = ch.map (·.1)
  | [], _, _ => by simp [updCh]
  | _ :: _, [], _ => by simp [updCh]
  | k :: ks, c :: cs, ch => by simp only [updCh]; rw [updCh_keys, chSet_keys]
theorem chSet_pair {k : Nat} {c : List SV} {ch : List (Nat × List SV)} (hp : ch.Pairwise fun x y => x.1 ≠ y.1) : (chSet k c ch).Pairwise fun x y => x.1 ≠ y.1 := by
  have h1 : List.Pairwise (fun x y : Nat => x ≠ y) (ch.map (·.1)) := List.Pairwise.map (R := fun x y : Nat × List SV => x.1 ≠ y.1) (fun x : Nat × List SV => x.1) (fun _ _ h => h) hp
  rw [← chSet_keys (k := k) (cs := c)] at h1
  exact (List.pairwise_map (R := fun x y : Nat => x ≠ y)).1 h1
theorem updCh_mem : ∀ {ks : List Nat} {cs : List (List SV)} {ch : List (Nat × List SV)} {x : Nat × List SV}, ks.length = cs.length → ch.Pairwise (fun x y => x.1 ≠ y.1) → x ∈ updCh ks cs ch →
    (x ∈ ch ∧ x.1 ∉ ks) ∨ ∃ j : Nat, ks[j]? = some x.1 ∧ cs[j]? = some x.2
  | [], [], ch, x, _, _, h => .inl ⟨h, by simp⟩
  | k :: ks, c :: cs, ch, x, hl, hp, h => by
    simp only [updCh] at h
    rcases updCh_mem (by simpa using hl) (chSet_pair hp) h with ⟨h1, h2⟩ | ⟨j, h1, h2⟩
    · rcases chSet_mem' hp h1 with ⟨h3, h4⟩ | h3
      · exact .inl ⟨h3, by simp [h2, h4]⟩
      · exact .inr ⟨0, by rw [h3]; rfl, by rw [h3]; rfl⟩
    · exact .inr ⟨j + 1, by simpa using h1, by simpa using h2⟩

/-- What a state says behind a call that was handed the chunks 'es'. -/
theorem SatW.call (hW : SatW B G E h st.ch w) {es : List (Nat × List SV)} (hes : es.Sublist st.ch) {w' : World} {h' : H} {vals : List (List Value)} {csh : List (List Sh)} {D : List Value}
    (hsc : scCh G.length st.ch = true) (hF : Frm ⟨w, h, es.map fun x => E x.1, []⟩ h' w') (hC : ChunksV (es.map fun x => E x.1) vals w') (hs : h'.sub w') (hno : ∀ c ∈ es.map (fun x => E x.1), h' c.blk = none)
    (hfit : FitsLL csh vals) (hcl : csh.map List.length = es.map fun x => x.2.length) :
    SatW B (G ++ vals.flatten ++ D) E h' (updCh (es.map (·.1)) (svsLL G.length csh) st.ch) w' := by
  have hll : ∀ i csh, (svsLL i csh).length = csh.length := by
    intro i csh
    induction csh generalizing i with
    | nil => rfl
    | cons s l ih => simp [svsLL, ih]
  have hlen : (es.map (·.1)).length = (svsLL G.length csh).length := by
    rw [hll]; have := congrArg List.length hcl; simpa using this.symm
  have hcase := fun x hx => updCh_mem (x := x) hlen hW.keys hx
  have hkeep : ∀ k cs, (k, cs) ∈ st.ch → k ∉ es.map (·.1) → w'.heap[(E k).blk]? = w.heap[(E k).blk]? ∧ h' (E k).blk = none := by
    intro k cs hm hne
    obtain ⟨_, l, hb, _⟩ := hW.chunks k cs hm
    refine hF.keep _ (heap_lt hb) (hW.hid k cs hm) ?_
    rintro ⟨c, hc, hcb⟩
    obtain ⟨y, hy, rfl⟩ := List.mem_map.1 hc
    refine dist_ne hW (hes.subset hy) hm ?_ hcb
    intro e
    exact hne (List.mem_map.2 ⟨y, hy, e⟩)
  have hget : ∀ (j k : Nat), (es.map (·.1))[j]? = some k → ∃ cs, es[j]? = some (k, cs) ∧ (k, cs) ∈ st.ch := by
    intro j k hj
    rw [List.getElem?_map, Option.map_eq_some_iff] at hj
    obtain ⟨y, hy, rfl⟩ := hj
    exact ⟨y.2, hy, hes.subset (List.mem_of_getElem? hy)⟩
  refine ⟨fun k cs hm => ?_, fun k cs hm => ?_, pair_keys updCh_keys hW.dist, fun k cs hm => ?_, hW.par, hs, ?_, hW.pre.trans (by rw [List.append_assoc]; exact List.prefix_append ..)⟩
  · rcases hcase _ hm with ⟨h1, h2⟩ | ⟨j, h1, h2⟩
    · obtain ⟨f, l, hb, hr⟩ := hW.chunks k cs h1
      refine ⟨f, l, by rw [(hkeep k cs h1 h2).1]; exact hb, ?_⟩
      have := hr.append (D := vals.flatten ++ D) (scCh_mem hsc h1)
      simpa using this
    · obtain ⟨l, h3, h4⟩ := svsLL_at (E := E) (D := D) hfit j cs h2
      obtain ⟨cs0, h5, h6⟩ := hget j k h1
      obtain ⟨f, hb⟩ := hC j (E k) l (by rw [List.getElem?_map, h5]; rfl) h3
      exact ⟨by rw [← h4.length]; exact f, l, hb, h4⟩
  · rcases hcase _ hm with ⟨h1, h2⟩ | ⟨j, h1, h2⟩
    · exact (hkeep k cs h1 h2).2
    · obtain ⟨cs0, h5, h6⟩ := hget j k h1
      exact hno _ (List.mem_map.2 ⟨_, List.mem_of_getElem? h5, rfl⟩)
  · rcases hcase _ hm with ⟨h1, h2⟩ | ⟨j, h1, h2⟩
    · exact hW.own k cs h1
    · obtain ⟨cs0, h5, h6⟩ := hget j k h1
      exact hW.own k cs0 h6
  · refine ⟨Nat.le_trans hW.frm.size hF.size, hF.os.trans hW.frm.os, hF.tape.trans hW.frm.tape, hF.out.trans hW.frm.out, fun b h1 h2 h3 => ?_⟩
    obtain ⟨k1, k2⟩ := hW.frm.keep b h1 h2 h3
    have hlt : b < w.heap.size := Nat.lt_of_lt_of_le h1 hW.frm.size
    obtain ⟨k3, k4⟩ := hF.keep b hlt k2 (by
      rintro ⟨c, hc, hcb⟩
      obtain ⟨y, hy, rfl⟩ := List.mem_map.1 hc
      rcases hW.own y.1 y.2 (hes.subset hy) with ho | ho
      · exact h3 (hcb ▸ ho)
      · omega)
    exact ⟨k3.trans k1, k4⟩
end
end Go.Proofs.YtbgfabppmobpgaaDoor

/-
  One operation by symbols, whatever its kind; that what is left to show suffices. Conditions: none (definitions and plain lemmas).
-/
set_option linter.unusedVariables false
set_option linter.unusedSimpArgs false
namespace Go.Proofs.YtbgfabppmobpgaaDoor
open Go

def hasN : List Nat → Nat → Bool
  | [], _ => false
  | x :: l, n => x.beq n || hasN l n
theorem hasN_mem : ∀ {l : List Nat} {n : Nat}, hasN l n = true → n ∈ l
  | [], _, h => by cases h
  | x :: l, n, h => by
    simp only [hasN, Bool.or_eq_true, Nat.beq_eq] at h
    rcases h with h | h
    · rw [h]; exact List.mem_cons_self ..
    · exact List.mem_cons_of_mem _ (hasN_mem h)
/-- What is handed to the evaluator beside the code: functions that may be called; slots whose rows lie outside the chunks; what loops change (by the first region in them: slots, cells of chunks; which slots are done with). -/
structure Cfg where
  calls : List Nat
  pub : List Nat
  loops : List (Nat × List Nat × List (Nat × Nat) × List Nat)
def CallOK (P : Program) (l : List Nat) : Prop := ∀ f ∈ l, ∀ args w, (callFunc f args).run P w = .ok (.enter f args) w
def undS : SV := .tup []

def needN (g : X) (ns : List X) (k : Out) : Out := match ns with | [] => k | _ :: _ => .need g ns k
theorem holds_needN {P : Program} {R : Value → List (List Value) → H → Prop} {g : X} {ns : List X} {k : Out} {G : List Value} {L : Lv} {h : H} (H : holds P R (needN g ns k) G L h) :
    (vb (g.den G) = true → needs G ns) ∧ holds P R k G L h := by
  unfold needN at H
  split at H
  · exact ⟨fun _ => trivial, H⟩
  · exact H

def addKn (x : X) (b : Bool) (l : List (X × Bool)) : List (X × Bool) :=
  match x with
  | .not y => addKn y (!b) l
  | .and y z => if b then addKn y true (addKn z true l) else (.and y z, false) :: l
  | .tt _ => l
  | x => (x, b) :: l
theorem addKn_den {G : List Value} : ∀ {x : X} {b : Bool} {l : List (X × Bool)}, vb (x.den G) = b → (∀ y c, (y, c) ∈ l → vb (y.den G) = c) → ∀ y c, (y, c) ∈ addKn x b l → vb (y.den G) = c := by
  intro x
  induction x <;> intro b l hx hl y c hm <;> unfold addKn at hm
  case not z ih => exact ih (by simp only [X.den, vb_bool] at hx; rw [← hx]; simp) hl y c hm
  case and u v iu iv =>
    split at hm
    · rename_i hb
      subst hb
      simp only [X.den, vb_bool, Bool.and_eq_true] at hx
      exact iu hx.1 (iv hx.2 hl) y c hm
    · rename_i hb
      rcases List.mem_cons.1 hm with e | hm
      · cases e; rw [hx]; simpa using hb
      · exact hl y c hm
  case tt => exact hl y c hm
  all_goals
    rcases List.mem_cons.1 hm with e | hm
    · cases e; exact hx
    · exact hl y c hm
def St.add (st : St) (x : X) (b : Bool) : St := { st with kn := addKn x b st.kn }
section
variable {P : Program} {B : Beg} {G : List Value} {E : Nat → CE} {h : H} {st : St} {a : Act} {w : World}
theorem SatA.add (hA : SatA G E st a) {x : X} {b : Bool} (hx : vb (x.den G) = b) : SatA G E (st.add x b) a :=
  ⟨hA.size, hA.tmps, hA.nodef, hA.fits, addKn_den hx hA.kn⟩

/-! ### Guards -/
def guardX (st : St) (ops : Array Oper) : Option (Nat × Bool) → Option X
  | none => some (.tt true)
  | some (j, want) => (match (ops[j]?).bind (·.dst) with
    | some d => (match SV.get st.t d with
      | .bool e => some (if want then e else mkNot e)
      | .gd g (.bool e) => some (.and g (if want then e else mkNot e))
      | .tup [] => some (.tt false)
      | _ => none)
    | none => none)
theorem get_rel (hA : SatA G E st a) {d : Nat} {s : SV} (hs : SV.get st.t d = s) (hp : s ≠ .und) : ∃ v, a.tmps[d]? = some v ∧ Rel G E v s := by
  simp only [SV.get, List.getD_eq_getElem?_getD] at hs
  cases ht : st.t[d]? with
  | none => simp [ht] at hs; exact absurd hs.symm hp
  | some s' =>
    simp [ht] at hs
    subst hs
    have hl := (List.getElem?_eq_some_iff.1 ht).1
    rw [hA.size] at hl
    have := hA.tmps d s' ht
    refine ⟨a.tmps[d], by simp [hl], ?_⟩
    simpa [Array.getD, hl] using this
theorem guardX_den (hA : SatA G E st a) {ops : Array Oper} {o : Oper} {g : X} (hg : guardX st ops o.guard = some g) : Region.wanted o (yielded ops a.tmps) = vb (g.den G) := by
  unfold guardX at hg
  unfold Region.wanted
  split at hg
  · rename_i hn
    cases hg
    rw [hn]; rfl
  · rename_i j want hn
    rw [hn]
    simp only
    split at hg
    · rename_i d hd
      have hy : yielded ops a.tmps j = match a.tmps[d]? with | some (.bool b) => some b | _ => none := by
        unfold yielded
        rw [hd]; rfl
      rw [hy]
      split at hg
      · rename_i e he
        cases hg
        obtain ⟨v, hv, hr⟩ := get_rel hA he (by simp)
        have : v = .bool (vb (e.den G)) := hr
        rw [hv, this]
        cases want <;> simp [mkNot_den] <;> cases vb (e.den G) <;> rfl
      · rename_i g' e he
        cases hg
        obtain ⟨v, hv, hr⟩ := get_rel hA he (by simp)
        have hr' : if vb (g'.den G) then v = .bool (vb (e.den G)) else v = undef := hr
        rw [hv]
        cases hgb : vb (g'.den G) with
        | true =>
          rw [hgb, if_pos rfl] at hr'
          rw [hr']
          cases want <;> simp [X.den, hgb, mkNot_den] <;> cases vb (e.den G) <;> rfl
        | false =>
          rw [hgb, if_neg (by simp)] at hr'
          rw [hr']
          simp [X.den, hgb, undef]
      · rename_i he
        cases hg
        obtain ⟨v, hv, hr⟩ := get_rel hA he (by simp)
        have : v = .tuple #[] := hr
        rw [hv, this]
        simp [X.den]
      · cases hg
    · cases hg

/-! ### Loads and stores outside the chunks -/
def loadP (P : Program) (st : St) (g : X) (t : TypeId) (x : Operand) : Option (PE × List Sh × Bool) :=
  match st.opr g x, shapesOf P t, aggB P t, tsize P t with
  | .ptr p, some shs, some true, some n => if shs.length.beq n then some (p, shs, true) else none
  | .ptr p, some shs, some false, some n => if shs.length.beq 1 then some (p, shs, false) else none
  | _, _, _, _ => none
def svOf (b : Bool) (shs : List Sh) (i : Nat) : SV := if b then .agg (Sh.svs i shs) else SV.get (Sh.svs i shs) 0
theorem loadP_run (hA : SatA G E st a) (hs : h.sub w) {g : X} (hg : vb (g.den G) = true) {t : TypeId} {x : Operand} {p : PE} {shs : List Sh} {b : Bool} (hq : loadP P st g t x = some (p, shs, b))
    {xs : List Value} (hf : FitsL shs xs) (hr : Reads h (p.den G) xs) (dst : Option Tmp) (ty : TypeId) (pos : String) (after : Array Edge) (guard : Option (Nat × Bool)) :
    (execOp a.eval ⟨dst, .load t x, ty, pos, after, guard⟩).run P w = .ok (.value ((svOf b shs G.length).den (G ++ xs) E)) w ∧ (svOf b shs G.length).plain = true := by
  obtain ⟨h1, h2, h3⟩ := svs_den (E := E) (G := G) hf
  have hrw : ∀ i v, xs[i]? = some v → w.cell? ((p.den G).add i) = some v := fun i v hv => H.sub_cell hs (hr i v hv)
  unfold loadP at hq
  split at hq
  · rename_i p' shs' n hx hsh ha hn
    split at hq
    · rename_i hl
      cases hq
      rw [Nat.beq_eq] at hl
      have hc := opr_den hA hg hx rfl
      have := run_loadVar_agg (P := P) (w := w) (l := xs) (ad := p.den G) ha hn (by rw [← hf.length]; exact hl) hrw
      refine ⟨?_, by simp [svOf, SV.plain]⟩
      simp only [execOp, Instr.loadAt, hc, SV.den, Instr.sureAddr, Sem.run_bind, Sem.run_pure, Result.andThen_ok, this, svOf, if_true, h1]
    · cases hq
  · rename_i p' shs' n hx hsh ha hn
    split at hq
    · rename_i hl
      cases hq
      rw [Nat.beq_eq] at hl
      have hc := opr_den hA hg hx rfl
      have hxl : xs.length = 1 := by rw [← hf.length]; exact hl
      match xs, hxl with
      | [v], _ =>
        match shs, hl with
        | [s], _ =>
          have hcell := hrw 0 v rfl
          have e0 : (p.den G).add 0 = p.den G := rfl
          rw [e0] at hcell
          have := run_loadVar_one (P := P) (w := w) ha hcell
          have hsv : SV.get (Sh.svs G.length [s]) 0 = s.sv G.length := rfl
          simp only [Sh.svs, SV.denL, List.cons.injEq, and_true] at h1
          simp only [Sh.svs, allPlain, List.all_cons, List.all_nil, Bool.and_true] at h2
          refine ⟨?_, by simp only [svOf, hsv]; exact h2⟩
          simp only [execOp, Instr.loadAt, hc, SV.den, Instr.sureAddr, Sem.run_bind, Sem.run_pure, Result.andThen_ok, this, svOf, hsv, h1]
          simp [h1]
    · cases hq
  · cases hq
def closedL (l : List SV) : Bool := SV.refsL (fun _ => false) l
theorem closedL_den {l : List SV} (h : closedL l = true) : SV.denL G E l = SV.denL G dE l := SV.denL_env (fun l h => by cases h) l h
theorem sub_set (hs : h.sub w) (ad : Addr) (v : Value) : (h.set ad v).sub (w.setCell ad v) := by
  intro b o ho
  unfold H.set at ho
  split at ho
  · rename_i hb
    subst hb
    split at ho
    · rename_i c e f hc
      cases ho
      have := hs _ _ hc
      simp [World.setCell, Array.getElem?_modify, this]
    · rename_i o' hno
      have := hs _ _ ho
      simp only [World.setCell, Array.getElem?_modify, if_true, this, Option.map_some, Option.some.injEq]
      split
      · exact absurd ho (hno _ _ _)
      · rfl
  · rename_i hb
    rw [setCell_other _ _ hb]; exact hs b o ho
theorem add_add1 (ad : Addr) (i : Nat) : (ad.add i).add 1 = ad.add (i + 1) := by
  unfold Addr.add
  by_cases hi : i = 0
  · subst hi; simp
  · simp [hi, Nat.add_assoc]
theorem sub_sets : ∀ (l : List Value) (i : Nat) (h : H) (w : World) (ad : Addr), h.sub w → (h.sets (ad.add i) l).sub (setsW w ad l i)
  | [], i, h, w, ad, hs => hs
  | v :: l, i, h, w, ad, hs => by
    simp only [H.sets, setsW]
    rw [add_add1]
    exact sub_sets l (i + 1) _ _ ad (sub_set hs _ v)
theorem set_none {ad : Addr} {v : Value} {b : Nat} : (h.set ad v) b = none ↔ h b = none := by
  unfold H.set
  split
  · cases hb : h b with
    | none => simp
    | some o => cases o <;> simp
  · exact Iff.rfl
theorem sets_none {b : Nat} : ∀ (l : List Value) (h : H) (ad : Addr), (h.sets ad l) b = none ↔ h b = none
  | [], h, ad => Iff.rfl
  | v :: l, h, ad => by simp only [H.sets]; rw [sets_none l, set_none]
/-- A store outside the chunks. -/
theorem SatW.pub (hW : SatW B G E h st.ch w) (ad : Addr) (l : List Value) (hne : l ≠ [] → ∃ o, h ad.block = some o) : SatW B G E (h.sets ad l) st.ch (setsW w ad l 0) := by
  have hsz := setsW_size ad l 0 w
  have hsub := sub_sets l 0 h w ad hW.hsub
  have e0 : ad.add 0 = ad := rfl
  rw [e0] at hsub
  have hoth : ∀ b, h b = none → (setsW w ad l 0).heap[b]? = w.heap[b]? := by
    intro b hb
    cases l with
    | nil => rfl
    | cons v l =>
      obtain ⟨o, ho⟩ := hne (by simp)
      exact setsW_other ad (fun e => by rw [e, ho] at hb; cases hb) _ 0 w
  refine ⟨fun k cs hm => ?_, fun k cs hm => (sets_none _ _ _).2 (hW.hid k cs hm), hW.dist, hW.own, hW.par, hsub, ?_, hW.pre⟩
  · obtain ⟨f, l', hb, hr⟩ := hW.chunks k cs hm
    exact ⟨f, l', by rw [hoth _ (hW.hid k cs hm)]; exact hb, hr⟩
  · refine ⟨by rw [hsz.1]; exact hW.frm.size, hsz.2.1.trans hW.frm.os, hsz.2.2.1.trans hW.frm.tape, hsz.2.2.2.trans hW.frm.out, fun b h1 h2 h3 => ?_⟩
    obtain ⟨k1, k2⟩ := hW.frm.keep b h1 h2 h3
    exact ⟨(hoth b k2).trans k1, (sets_none _ _ _).2 k2⟩
theorem SatW.pubNew (hW : SatW B G E h st.ch w) (o : Obj) : SatW B G E (h.put w.heap.size o) st.ch (w.alloc o) := by
  have hlt : ∀ k cs, (k, cs) ∈ st.ch → (E k).blk < w.heap.size := fun k cs hm => by
    obtain ⟨_, l, hb, _⟩ := hW.chunks k cs hm
    exact heap_lt hb
  have hput : ∀ b, b ≠ w.heap.size → (h.put w.heap.size o) b = h b := fun b hb => by unfold H.put; rw [if_neg hb]
  refine ⟨fun k cs hm => ?_, fun k cs hm => ?_, hW.dist, hW.own, hW.par, fun b o' ho => ?_, ?_, hW.pre⟩
  · obtain ⟨f, l', hb, hr⟩ := hW.chunks k cs hm
    exact ⟨f, l', by rw [push_old (hlt k cs hm)]; exact hb, hr⟩
  · rw [hput _ (Nat.ne_of_lt (hlt k cs hm))]; exact hW.hid k cs hm
  · by_cases hb : b = w.heap.size
    · subst hb
      unfold H.put at ho
      rw [if_pos rfl] at ho
      cases ho
      unfold World.alloc; simp only [Array.getElem?_push, if_true]
    · rw [hput b hb] at ho
      rw [push_old (heap_lt (hW.hsub b o' ho))]; exact hW.hsub b o' ho
  · refine ⟨by have := hW.frm.size; simp; omega, hW.frm.os, hW.frm.tape, hW.frm.out, fun b h1 h2 h3 => ?_⟩
    obtain ⟨k1, k2⟩ := hW.frm.keep b h1 h2 h3
    have hlt' : b < w.heap.size := Nat.lt_of_lt_of_le h1 hW.frm.size
    exact ⟨by rw [push_old hlt']; exact k1, by rw [hput b (Nat.ne_of_lt hlt')]; exact k2⟩
end
end Go.Proofs.YtbgfabppmobpgaaDoor

/-
  append by symbols: that what is left to show suffices. Conditions: none (plain lemmas).
-/
set_option linter.unusedVariables false
set_option linter.unusedSimpArgs false
namespace Go.Proofs.YtbgfabppmobpgaaDoor
open Go

section
variable {P : Program} {B : Beg} {G : List Value} {E : Nat → CE} {h : H} {st : St} {a : Act} {w : World} {R : Value → List (List Value) → H → Prop}
theorem SatW.drewA (hW : SatW B G E h st.ch w) : SatW B G E h st.ch { w with drawn := w.drawn + 1 } :=
  ⟨hW.chunks, hW.hid, hW.dist, hW.own, hW.par, hW.hsub, ⟨hW.frm.size, hW.frm.os, hW.frm.tape, hW.frm.out, hW.frm.keep⟩, hW.pre⟩
theorem zeroC_eq {z : Value} (n : Nat) (hz : 0 < z.cells.size) : (Builtin.zeroCells z.cells n).toList = repZ z.cells.toList n := by
  simp only [Builtin.zeroCells, repZ, Array.toList_map, Array.toList_range, Array.length_toList]
  apply List.map_congr_left
  intro i hi
  have hlt : i % z.cells.size < z.cells.size := Nat.mod_lt _ hz
  rw [getElem!_pos z.cells _ hlt, List.getD_eq_getElem?_getD, Array.getElem?_toList, Array.getElem?_eq_getElem hlt]
  rfl
/-- The second operand hands these cells. -/
def Hands (P : Program) (x : Value) (sz m : Nat) (N : List Value) (w : World) : Prop :=
  (Builtin.lenOf x).run P w = .ok m w ∧ (Builtin.firstCells sz m x).run P w = .ok N.toArray w
theorem run_app_fits {t tx e : TypeId} {d : TypeDesc} {sz m n c : Nat} {i : TypeInfo} {ad : Option Addr} {x : Value} {N : List Value} (hu : P.underlying t = some (.slice e)) (hx : P.underlying tx = some d) (hd : ∀ k, d ≠ .int k)
    (hs : tsize P e = some sz) (hN : Hands P x sz m N w) (hle : n + m ≤ c) (h0 : ad = none → N = []) (hw : ∀ j, j < N.length → (w.cell? (((ad.getD default).add (n * sz)).add j)).isSome = true ∧ w.frozen? (((ad.getD default).add (n * sz)).add j) = false)
    (h1 : ∀ v ∈ N, v.oneCell' = true) (ty : TypeId) :
    (Builtin.append_ #[t, tx] ty #[.slice ad n c, x]).run P w = .ok (.slice ad (n + m) c) (setsW w ((ad.getD default).add (n * sz)) N 0) := by
  have hz : (match d with | .int _ => true | _ => false) = false := by cases d <;> first | rfl | exact absurd rfl (hd _)
  have hmt : ((match d with | .int k => (true : Bool) | x => false) = true) = False := by simp [hz]
  obtain ⟨n1, n2⟩ := hN
  have hrun : (match ad with | some a => storeCells (a.add (n * sz)) N.toArray.toList | none => pure ()).run P w = .ok () (setsW w ((ad.getD default).add (n * sz)) N 0) := by
    cases ad with
    | none => rw [h0 rfl]; rfl
    | some a => exact run_sets _ _ 0 w (fun j hj => by rw [Nat.zero_add]; exact hw j hj) h1
  simp only [Builtin.append_, List.getElem?_toArray, List.getElem?_cons_zero, List.getElem?_cons_succ, Sem.run_bind, run_underlying hu, Result.andThen_ok, run_tsize hs, run_underlying hx, Sem.run_pure]
  cases d <;> first | exact absurd rfl (hd _) | skip
  all_goals
    simp only [Bool.false_eq_true, if_false, Bool.not_false, if_true, Sem.run_bind, n1, Result.andThen_ok, hle, n2]
    cases ad with
    | none => simp [h0 rfl, setsW]
    | some a =>
      simp only [Option.getD_some] at hrun ⊢
      simp [hrun]
theorem run_app_grows {t tx e : TypeId} {d : TypeDesc} {sz m n c : Nat} {i : TypeInfo} {z : Value} {ad : Option Addr} {x : Value} {N O : List Value} (hu : P.underlying t = some (.slice e)) (hx : P.underlying tx = some d) (hd : ∀ k, d ≠ .int k)
    (hs : tsize P e = some sz) (hi : P.info? e = some i) (hz : i.zero = some z) (hz0 : 0 < z.cells.size) (hb : i.bytes ≠ 0) (hN : Hands P x sz m N w) (hNd : Hands P x sz m N { w with drawn := w.drawn + 1 }) (hgt : c < n + m)
    (hcap : Builtin.nextslicecap (n + m) c * i.bytes ≤ 281474976710656) (hO : O.length = n * sz) (hOr : ∀ a, ad = some a → ∀ j v, O[j]? = some v → w.cell? (a.add j) = some v) (h0 : ad = none → n = 0) (ty : TypeId) :
    ∃ nc, n + m ≤ nc ∧ (Builtin.append_ #[t, tx] ty #[.slice ad n c, x]).run P w = .ok (.slice (some ⟨w.heap.size, 0, none⟩) (n + m) nc)
      (({ w with drawn := w.drawn + 1 } : World).alloc (.cells (O ++ N ++ repZ z.cells.toList (nc - (n + m))).toArray e)) := by
  obtain ⟨n1, n2⟩ := hN
  obtain ⟨d1, d2⟩ := hNd
  refine ⟨n + m + (w.tape w.drawn (.appendCap (n + m) c e)) % (2 ^ 63 - (n + m)), by omega, ?_⟩
  have hle : ¬ (n + m ≤ c) := by omega
  have hcap' : ¬ (Builtin.nextslicecap (n + m) c * i.bytes > 2 ^ 48) := by
    have : (2 : Nat) ^ 48 = 281474976710656 := by decide
    rw [this]; omega
  have hfirst : (Builtin.firstCells sz n (.slice ad n c)).run P { w with drawn := w.drawn + 1 } = .ok O.toArray { w with drawn := w.drawn + 1 } := by
    cases ad with
    | none =>
      have : O = [] := List.eq_nil_of_length_eq_zero (by rw [hO, h0 rfl]; simp)
      simp [Builtin.firstCells, this]
    | some a =>
      have := run_loadCells_list (P := P) { w with drawn := w.drawn + 1 } a O (fun j v hj => by simpa using hOr a rfl j v hj)
      rw [hO] at this
      simp only [Builtin.firstCells]
      exact this
  have hzr : ∀ w', (zeroValue e).run P w' = .ok z w' := fun w' => run_zero (by rw [hi]; exact hz)
  have hti : ∀ w', (typeInfo e).run P w' = .ok i w' := fun w' => by simp [typeInfo, hi]
  have hq : (Question.appendCap (n + m) c e).forced = false := rfl
  simp only [Builtin.append_, List.getElem?_toArray, List.getElem?_cons_zero, List.getElem?_cons_succ, Sem.run_bind, run_underlying hu, Result.andThen_ok, run_tsize hs, run_underlying hx, Sem.run_pure]
  cases d <;> first | exact absurd rfl (hd _) | skip
  all_goals
    simp only [Bool.false_eq_true, if_false, Bool.not_false, if_true, Sem.run_bind, n1, Result.andThen_ok, hle, hti, false_or, hb, and_false, hcap', run_choose, hq, run_askRoom, hfirst, d2, hzr, newRow, run_newObj, Question.cut, Sem.run_pure]
    have harr : ∀ k, O.toArray ++ N.toArray ++ Builtin.zeroCells z.cells k = (O ++ N ++ repZ z.cells.toList k).toArray := by
      intro k; apply Array.ext'; simp [zeroC_eq k hz0]
    rw [harr]
    rfl

/-! ### By symbols -/
def srcOf (st : St) (g : X) (sz : Nat) (x : Operand) : Option ASrc :=
  match st.opr g x with
  | .lsl l n _ => (match chGet l st.ch with
    | some cs => if Nat.ble (n * sz) cs.length && closedL (cs.take (n * sz)) && (cs.take (n * sz)).all st.one then some (.cells (cs.take (n * sz)) n) else none
    | none => none)
  | .val j => (match st.shape j with | .sl => some (.sl (.val j)) | _ => none)
  | .cst (.slice none 0 0) => some (.cells [] 0)
  | .str e => some (.str e)
  | _ => none
def notInt : TypeDesc → Bool | .int _ => false | _ => true
def appS (P : Program) (st : St) (g : X) (t tx : TypeId) (s x : Operand) (dst : Option Tmp) (k : St → Out) : Out :=
  match P.underlying t, P.underlying tx with
  | some (.slice e), some d => (match tsize P e, P.info? e, zeroCells P e with
    | some sz, some i, some z => (match lenX st (st.opr g s), srcOf st g sz x with
      | some _, some src => if notInt d && Nat.blt 0 z.length && Nat.blt 0 i.bytes && closed (st.opr g s) && st.scOk then
          .app e sz i.bytes (st.opr g s) src (k (({ st with sh := st.sh ++ [.sl] } : St).setT dst (.val st.sh.length))) else .fail
      | _, _ => .fail)
    | _, _, _ => .fail)
  | _, _ => .fail
theorem hands_src (hA : SatA G E st a) (hW : SatW B G E h st.ch w) {g : X} (hg : vb (g.den G) = true) {sz : Nat} {x : Operand} {src : ASrc} (hs : srcOf st g sz x = some src) {N : List Value} {m : Nat} (hN : SrcOk G h sz src N m) :
    Hands P (a.eval x) sz m N w ∧ ∀ v ∈ N, v.oneCell' = true := by
  unfold srcOf at hs
  split at hs
  · rename_i l n c hx
    have hc := opr_den hA hg hx rfl
    split at hs
    · rename_i cs hcs
      split at hs
      · rename_i hb
        simp only [Bool.and_eq_true, Nat.ble_eq] at hb
        cases hs
        obtain ⟨hN1, rfl⟩ := hN
        have hone : allPlain (cs.take (m * sz)) = true ∧ ∀ v ∈ SV.denL G E (cs.take (m * sz)), v.oneCell' = true := by
          have h2 := hb.2
          simp only [List.all_eq_true] at h2
          constructor
          · simp only [allPlain, List.all_eq_true]
            exact fun s hs => (one_cells (E := E) hA (h2 s hs)).2.1
          · intro v hv
            rw [SV.denL_eq, List.mem_map] at hv
            obtain ⟨s, hs, rfl⟩ := hv
            exact (one_cells hA (h2 s hs)).2.2
        have hNE : N = SV.denL G E (cs.take (m * sz)) := by rw [hN1, ← closedL_den (E := E) hb.1.2]
        refine ⟨⟨by rw [hc]; rfl, ?_⟩, by rw [hNE]; exact hone.2⟩
        have hch := hW.chunks l cs (chGet_mem hcs)
        have hlen : (SV.denL G E (cs.take (m * sz))).length = m * sz := by simp [SV.denL_eq]; omega
        have := run_loadCells_list (P := P) w ((E l).at 0) (SV.denL G E (cs.take (m * sz))) (fun i v hv => by
          rw [at_add]
          simp only [SV.denL_eq, List.getElem?_map, Option.map_eq_some_iff] at hv
          obtain ⟨s, hs, rfl⟩ := hv
          have hp := hone.1
          simp only [allPlain, List.all_eq_true] at hp
          refine (E l).cell hch ?_ (hp s (List.mem_of_getElem? hs))
          rw [List.getElem?_take] at hs
          split at hs
          · simpa using hs
          · cases hs)
        rw [hlen] at this
        rw [hc, hNE]
        exact this
      · cases hs
    · cases hs
  · rename_i j hx
    have hc := opr_den hA hg hx rfl
    split at hs
    · rename_i hsh
      cases hs
      have hf := shape_fits hA j
      rw [hsh] at hf
      obtain ⟨ad, n, c, hv, hz, hle⟩ := hf
      have hv' : (SV.val j).den G E = .slice ad n c := hv
      obtain ⟨h1, h2, h3⟩ := hN
      have hv'' : (SV.val j).den G dE = .slice ad n c := hv
      rw [hv''] at h3
      refine ⟨⟨?_, ?_⟩, h2⟩
      · rw [hc, hv']
        cases ad with
        | none => obtain ⟨rfl, _⟩ := h3; rfl
        | some b => obtain ⟨rfl, _⟩ := h3; rfl
      · rw [hc, hv']
        cases ad with
        | none =>
          obtain ⟨rfl, rfl⟩ := h3
          have : N = [] := List.eq_nil_of_length_eq_zero (by rw [h1]; simp)
          rw [this]; rfl
        | some b =>
          obtain ⟨rfl, h4⟩ := h3
          have := run_loadCells_list (P := P) w b N (fun i v hv => H.sub_cell hW.hsub (h4 i v hv))
          rw [h1] at this
          exact this
    · cases hs
  · rename_i hx
    have hc := opr_den hA hg hx rfl
    cases hs
    obtain ⟨rfl, rfl⟩ := hN
    exact ⟨⟨by rw [hc]; rfl, by rw [hc]; rfl⟩, by intro v hv; cases hv⟩
  · rename_i e hx
    have hc := opr_den hA hg hx rfl
    cases hs
    obtain ⟨rfl, rfl⟩ := hN
    refine ⟨⟨by rw [hc]; rfl, ?_⟩, ?_⟩
    · rw [hc]
      show (Builtin.firstCells sz (vs (e.den G)).size (.string (vs (e.den G)))).run P w = _
      simp only [Builtin.firstCells, Sem.run_pure, Result.ok.injEq, and_true]
      have : (vs (e.den G)).extract 0 (vs (e.den G)).size = vs (e.den G) := by
        exact ByteArray.ext (by rw [ByteArray.data_extract]; simp)
      rw [this]
      apply Array.ext'
      simp
    · intro v hv
      rw [List.mem_map] at hv
      obtain ⟨b, _, rfl⟩ := hv
      rfl
  · cases hs
theorem slice_fits (hA : SatA G E st a) {s : SV} {e : X} (h : lenX st s = some e) (hcl : closed s = true) : ∃ ad n c, s.den G E = .slice ad n c ∧ (ad = none → n = 0 ∧ c = 0) ∧ n ≤ c := by
  unfold lenX at h
  split at h
  · rename_i i
    split at h
    · rename_i hs
      have hf := shape_fits hA i
      rw [hs] at hf
      obtain ⟨ad, n, c, hv, h1, h2⟩ := hf
      exact ⟨ad, n, c, hv, h1, h2⟩
    · cases h
  · exact ⟨none, 0, 0, rfl, fun _ => ⟨rfl, rfl⟩, Nat.le_refl _⟩
  · simp [closed, SV.refs] at hcl
  · cases h
/-- What an append comes to, and that what is left to show suffices. -/
theorem appS_sound {L : Lv} {N' : Act → World → Prop} {Q : Exit → Act → World → Prop} {k : St → Out} {g : X} {dst : Option Tmp} {ty : TypeId} {pos : String} {after : Array Edge} {guard : Option (Nat × Bool)}
    (hA : SatA G E st a) (hW : SatW B G E h st.ch w) (hg : vb (g.den G) = true) {c : Call} (hco : c.callee = .builtin .append) {t tx : TypeId} {s x : Operand} (hargs : c.args = #[s, x]) (hts : c.argTypes = #[t, tx])
    (H : holds P R (appS P st g t tx s x dst k) G L h)
    (hk : ∀ (G : List Value) (E : Nat → CE) (h : Go.Proofs.YtbgfabppmobpgaaDoor.H) (st : St) (a : Act) (w : World), SatA G E st a → SatW B G E h st.ch w → holds P R (k st) G L h → N' a w) :
    (⟨dst, .call c, ty, pos, after, guard⟩ : Oper).wp P a w N' Q := by
  unfold appS at H
  split at H
  · rename_i e d hu hx
    split at H
    · rename_i sz i z hsz hi hz
      split at H
      · rename_i le src hle hsrc
        split at H
        · rename_i hc
          simp only [Bool.and_eq_true, Nat.blt_eq] at hc
          obtain ⟨⟨⟨⟨hni, hz0⟩, hby⟩, hcl⟩, hsc⟩ := hc
          have hd : ∀ k, d ≠ .int k := by intro k e; rw [e] at hni; cases hni
          obtain ⟨N, m, hN, HA⟩ := H
          obtain ⟨hands, hone⟩ := hands_src (P := P) hA hW hg hsrc hN
          obtain ⟨hd1, _⟩ := hands_src (P := P) hA (hW.drewA) hg hsrc hN
          obtain ⟨ad, n, cp, hv, hfz, hnc⟩ := slice_fits (E := E) hA hle hcl
          have hpl : (st.opr g s).plain = true := by
            obtain ⟨_, _, _, _, _, hp⟩ := lenX_den (E := E) hA hle; exact hp
          have hsv := opr_den hA hg rfl hpl
          rw [hv] at hsv
          have hvd : (st.opr g s).den G dE = .slice ad n cp := by rw [← closed_den (E := E) hcl]; exact hv
          rw [hvd] at HA
          obtain ⟨H1, H2⟩ := HA
          have hcons : c = { callee := .builtin .append, args := #[s, x], argTypes := #[t, tx] } := by
            cases c; simp only at hco hargs hts; rw [hco, hargs, hts]
          subst hcons
          obtain ⟨zv, hzv1, hzv2, _⟩ := run_zeroC (P := P) (w := w) hz
          rw [hi] at hzv1
          have hz1 : i.zero = some zv := hzv1
          have hz2 : 0 < zv.cells.size := by rw [← hzv2] at hz0; simpa using hz0
          have exec : ∀ {v : Value} {w' : World}, (Builtin.append_ #[t, tx] ty #[a.eval s, a.eval x]).run P w = .ok v w' →
              (execOp a.eval ⟨dst, .call { callee := .builtin .append, args := #[s, x], argTypes := #[t, tx] }, ty, pos, after, guard⟩).run P w = .ok (.value v) w' := by
            intro v w' hr
            simp only [execOp, resolve, invoke, builtin, Sem.run_bind, Sem.run_pure, Result.andThen_ok, List.map_toArray, List.map_cons, List.map_nil, hr]
          have hgv : ∀ u : Value, gv (G ++ [u]) G.length = u := fun u => by simp [gv, List.getD_eq_getElem?_getD]
          have fin : ∀ {u : Value} {w' : World} {h' : Go.Proofs.YtbgfabppmobpgaaDoor.H}, (Builtin.append_ #[t, tx] ty #[a.eval s, a.eval x]).run P w = .ok u w' → SatW B G E h' st.ch w' → Fits .sl u →
              holds P R (k (({ st with sh := st.sh ++ [.sl] } : St).setT dst (.val st.sh.length))) (G ++ [u]) L h' →
              (⟨dst, .call { callee := .builtin .append, args := #[s, x], argTypes := #[t, tx] }, ty, pos, after, guard⟩ : Oper).wp P a w N' Q := by
            intro u w' h' hr hW' hfit HK
            unfold Oper.wp
            rw [exec hr, Oper.upon_value]
            have hrel : Rel (G ++ [u]) E u (.val st.sh.length) := by
              show u = gv _ _; rw [hA.len, hgv]
            exact hk _ _ _ _ _ _ ((hA.extend hsc (shs := [.sl]) (xs := [u]) ⟨hfit, trivial⟩).put dst hrel) (by
              have : (({ st with sh := st.sh ++ [.sl] } : St).setT dst (.val st.sh.length)).ch = st.ch := by cases dst <;> rfl
              rw [this]; exact hW'.extend hA hsc _) HK
          by_cases hfit : n + m ≤ cp
          · obtain ⟨hw, HK⟩ := H1 hfit
            have hwr : ∀ j, j < N.length → (w.cell? (((ad.getD default).add (n * sz)).add j)).isSome = true ∧ w.frozen? (((ad.getD default).add (n * sz)).add j) = false := fun j hj => by
              obtain ⟨w1, w2⟩ := hw j hj
              obtain ⟨v, hvv⟩ := Option.isSome_iff_exists.1 w1
              refine ⟨by rw [H.sub_cell hW.hsub hvv]; rfl, ?_⟩
              have hb : ∃ o, h (((ad.getD default).add (n * sz)).add j).block = some o := by
                unfold H.cell? at w1
                split at w1
                · rename_i hb; exact ⟨_, hb⟩
                · cases w1
              obtain ⟨o, ho⟩ := hb
              unfold H.frozen? at w2
              unfold World.frozen?
              rw [hW.hsub _ _ ho]
              rw [ho] at w2
              exact w2
            have h0 : ad = none → N = [] := by
              intro e
              obtain ⟨rfl, rfl⟩ := hfz e
              have hm : m = 0 := by omega
              subst hm
              have hrun0 := hands.2
              cases src with
              | cells l mm =>
                obtain ⟨hN1, hN2⟩ := hN
                have : (a.eval x) = a.eval x := rfl
                -- no cells for no elements
                unfold srcOf at hsrc
                split at hsrc
                · split at hsrc
                  · split at hsrc
                    · rename_i hb
                      cases hsrc
                      subst hN2
                      rw [hN1]; simp [SV.denL]
                    · cases hsrc
                  · cases hsrc
                · split at hsrc <;> cases hsrc
                · cases hsrc; rw [hN1]; rfl
                · cases hsrc
                · cases hsrc
              | sl sv => exact List.eq_nil_of_length_eq_zero (by rw [hN.1]; simp)
              | str ex =>
                obtain ⟨hN1, hN2⟩ := hN
                rw [hN1]
                have : (vs (ex.den G)).data.toList = [] := List.eq_nil_of_length_eq_zero (by
                  rw [Array.length_toList]; exact hN2.symm)
                rw [this]; rfl
            have hr := run_app_fits (i := i) (P := P) (w := w) hu hx hd hsz hands hfit h0 hwr hone ty
            rw [← hsv] at hr
            refine fin hr (hW.pub _ N (fun hne => ?_)) ⟨_, _, _, rfl, ⟨fun e => ?_, hfit⟩⟩ HK
            · obtain ⟨w1, _⟩ := hw 0 (List.length_pos_iff.2 hne)
              unfold H.cell? at w1
              split at w1
              · rename_i hb; exact ⟨_, hb⟩
              · cases w1
            · obtain ⟨rfl, rfl⟩ := hfz e
              exact ⟨by omega, rfl⟩
          · obtain ⟨hcap, O, hO1, hO2, HK⟩ := H2 (by omega)
            obtain ⟨nc, hnc', hr⟩ := run_app_grows (P := P) (w := w) (O := O) hu hx hd hsz hi hz1 hz2 (by omega) hands hd1 (by omega) hcap hO1
              (fun a' e j v hj => H.sub_cell hW.hsub (hO2 a' e j v hj)) (fun e => (hfz e).1) ty
            rw [← hsv] at hr
            have hsize : w.heap.size = ({ w with drawn := w.drawn + 1 } : World).heap.size := rfl
            have hHK := HK w.heap.size nc (h_size hW.hsub (Nat.le_refl _)) hnc'
            rw [hz] at hHK
            simp only [Option.getD_some, ← hzv2] at hHK
            refine fin hr (hW.drewA.pubNew _) ⟨_, _, _, rfl, ⟨(fun e => by cases e), hnc'⟩⟩ hHK
        · exact H.elim
      · exact H.elim
    · exact H.elim
  · exact H.elim
end
end Go.Proofs.YtbgfabppmobpgaaDoor

/-
  make of a slice and copy by symbols: that what is left to show suffices. Conditions: none (plain lemmas).
-/
set_option linter.unusedVariables false
set_option linter.unusedSimpArgs false
namespace Go.Proofs.YtbgfabppmobpgaaDoor
open Go

section
variable {P : Program} {B : Beg} {G : List Value} {E : Nat → CE} {h : H} {st : St} {a : Act} {w : World} {R : Value → List (List Value) → H → Prop}
theorem cell_block {ad : Addr} (h1 : (h.cell? ad).isSome = true) : ∃ o, h ad.block = some o := by
  unfold H.cell? at h1
  split at h1
  · rename_i hb; exact ⟨_, hb⟩
  · cases h1
theorem sub_frozen (hs : h.sub w) {ad : Addr} (h1 : (h.cell? ad).isSome = true) (h2 : h.frozen? ad = false) : (w.cell? ad).isSome = true ∧ w.frozen? ad = false := by
  obtain ⟨v, hv⟩ := Option.isSome_iff_exists.1 h1
  refine ⟨by rw [H.sub_cell hs hv]; rfl, ?_⟩
  obtain ⟨o, ho⟩ := cell_block h1
  unfold H.frozen? at h2
  unfold World.frozen?
  rw [hs _ _ ho]
  rw [ho] at h2
  exact h2
def mkS (P : Program) (st : St) (g : X) (t : TypeId) (l c : Operand) (dst : Option Tmp) (k : St → Out) : Out :=
  match P.underlying t with
  | some (.slice e) => (match tsize P e, P.info? e, zeroCells P e, st.opr g l, st.opr g c with
    | some sz, some i, some z, .int .i64 n, .int .i64 m => if n.beq m && Nat.blt 0 sz && z.length.beq sz && Nat.blt 0 i.bytes && st.scOk then
        .mk e sz i.bytes n (k (({ st with sh := st.sh ++ [.sl] } : St).setT dst (.val st.sh.length))) else .fail
    | _, _, _, _, _ => .fail)
  | _ => .fail
theorem mkS_sound {L : Lv} {N' : Act → World → Prop} {Q : Exit → Act → World → Prop} {k : St → Out} {g : X} {dst : Option Tmp} {ty : TypeId} {pos : String} {after : Array Edge} {guard : Option (Nat × Bool)}
    (hA : SatA G E st a) (hW : SatW B G E h st.ch w) (hg : vb (g.den G) = true) {t : TypeId} {l c : Operand} (H : holds P R (mkS P st g t l c dst k) G L h)
    (hk : ∀ (G : List Value) (E : Nat → CE) (h : Go.Proofs.YtbgfabppmobpgaaDoor.H) (st : St) (a : Act) (w : World), SatA G E st a → SatW B G E h st.ch w → holds P R (k st) G L h → N' a w) :
    (⟨dst, .makeSlice t l c, ty, pos, after, guard⟩ : Oper).wp P a w N' Q := by
  unfold mkS at H
  split at H
  · rename_i e hu
    split at H
    · rename_i sz i z n m hsz hi hz hl hc
      split at H
      · rename_i hb
        simp only [Bool.and_eq_true, Nat.blt_eq, Nat.beq_eq] at hb
        obtain ⟨⟨⟨⟨hnm, hsz0⟩, hzl⟩, hby⟩, hsc⟩ := hb
        have hnm' : n = m := X.beq_eq hnm
        subst hnm'
        obtain ⟨h0, hmx, HK⟩ := H
        have el := opr_den hA hg hl rfl
        have ec := opr_den hA hg hc rfl
        simp only [SV.den] at el ec
        generalize hv : vi (n.den G) = v at *
        obtain ⟨zv, hzv1, hzv2, _⟩ := run_zeroC (P := P) (w := w) hz
        rw [hi] at hzv1
        have hz1 : i.zero = some zv := hzv1
        have hzr : ∀ w', (zeroValue e).run P w' = .ok zv w' := fun w' => run_zero (by rw [hi]; exact hz1)
        have hti : ∀ w', (typeInfo e).run P w' = .ok i w' := fun w' => by simp [typeInfo, hi]
        have hvb : v ≤ v * i.bytes := by
          have : v * 1 ≤ v * (i.bytes : Int) := Int.mul_le_mul_of_nonneg_left (by omega) h0
          omega
        have hw : IntKind.i64.wrap v = v := wrap64_of v (by omega) (by omega)
        have hno : ¬ (v < 0 ∨ (2 : Int) ^ 48 < v * i.bytes) := by
          have : (2 : Int) ^ 48 = 281474976710656 := by decide
          rw [this]; omega
        have hno2 : ¬ ((i.bytes : Int) * v > 2 ^ 48) := by
          have : (2 : Int) ^ 48 = 281474976710656 := by decide
          rw [this, Int.mul_comm]; omega
        have hsp : 0 < zv.cells.size := by
          have : zv.cells.size = z.length := by rw [← hzv2]; simp
          omega
        have harr : ((Array.range (v.toNat * sz)).map fun j => zv.cells[j % zv.cells.size]!) = (repZ z v.toNat).toArray := by
          have e1 := zeroC_eq (z := zv) v.toNat hsp
          unfold Builtin.zeroCells at e1
          have e2 : zv.cells.size = sz := by
            have : zv.cells.size = z.length := by rw [← hzv2]; simp
            omega
          rw [hzv2, e2] at e1
          apply Array.ext'
          rw [e2]; simpa using e1
        have hr : (Instr.makeSlice t (.int .i64 v) (.int .i64 v)).run P w = .ok (.slice (some ⟨w.heap.size, 0, none⟩) v.toNat v.toNat) (w.alloc (.cells (repZ z v.toNat).toArray e)) := by
          have hlt : ¬ (v < 0) := by omega
          have ha : ∀ w', (asInt (.int .i64 v)).run P w' = .ok v w' := fun w' => by simp [asInt, asIntOf]
          have hcond : ¬ ((((decide (v < 0) || decide ((i.bytes : Int) * v > 2 ^ 48)) || decide (v < 0)) || decide (v > v)) = true) := by
            simp [hlt]; omega
          simp only [Instr.makeSlice, Sem.run_bind, run_underlying hu, Result.andThen_ok, ha, hti, hw, Sem.run_ite]
          have hcond' : ¬ ((((decide (v < 0) || decide ((i.bytes : Int) * v > 2 ^ 48)) = true ∨ v < 0) ∨ v > v)) := by
            simp only [hlt, hno2, decide_false, Bool.or_false, Bool.false_eq_true, or_false, gt_iff_lt, Int.lt_irrefl, not_false_eq_true]
          first | rw [if_neg hcond] | rw [if_neg hcond'] | skip
          simp only [Sem.run_pure, Result.andThen_ok, run_askRoom, run_tsize hsz]
          by_cases hv0 : v.toNat * sz = 0
          · have hz0 : (repZ z v.toNat).toArray = #[] := by
              have : (repZ z v.toNat) = [] := List.eq_nil_of_length_eq_zero (by simp [repZ, hzl, hv0])
              rw [this]
            have hr0 : ((Array.range (v.toNat * sz)).map fun j => (#[] : Array Value)[j % (#[] : Array Value).size]!) = #[] := by rw [hv0]; apply Array.ext'; simp
            simp only [hv0, if_true, Sem.run_pure, Result.andThen_ok]
            rw [hv0] at hr0
            rw [hz0]; simp only [newRow, Sem.run_bind, run_newObj, Result.andThen_ok, Sem.run_pure, hr0]
            rfl
          · simp only [hv0, if_false, Sem.run_bind, hzr, Result.andThen_ok, Sem.run_pure, harr]
            simp [newRow]
        have hgv : ∀ u : Value, gv (G ++ [u]) G.length = u := fun u => by simp [gv, List.getD_eq_getElem?_getD]
        have hb := HK w.heap.size (h_size hW.hsub (Nat.le_refl _))
        rw [hz] at hb
        simp only [Option.getD_some] at hb
        unfold Oper.wp
        have hx : (execOp a.eval ⟨dst, .makeSlice t l c, ty, pos, after, guard⟩).run P w = .ok (.value (.slice (some ⟨w.heap.size, 0, none⟩) v.toNat v.toNat)) (w.alloc (.cells (repZ z v.toNat).toArray e)) := by
          simp only [execOp, el, ec, Sem.run_bind, hr, Result.andThen_ok, Sem.run_pure]
        rw [hx, Oper.upon_value]
        have hfit : Fits .sl (.slice (some ⟨w.heap.size, 0, none⟩) v.toNat v.toNat) := ⟨_, _, _, rfl, (fun e => by cases e), Nat.le_refl _⟩
        have hrel : Rel (G ++ [.slice (some ⟨w.heap.size, 0, none⟩) v.toNat v.toNat]) E (.slice (some ⟨w.heap.size, 0, none⟩) v.toNat v.toNat) (.val st.sh.length) := by
          show _ = gv _ _; rw [hA.len, hgv]
        exact hk _ _ _ _ _ _ ((hA.extend hsc (shs := [.sl]) (xs := [_]) ⟨hfit, trivial⟩).put dst hrel) (by
          have : (({ st with sh := st.sh ++ [.sl] } : St).setT dst (.val st.sh.length)).ch = st.ch := by cases dst <;> rfl
          rw [this]; exact (hW.pubNew _).extend hA hsc _) hb
      · exact H.elim
    · exact H.elim
  · exact H.elim
def copyS (P : Program) (st : St) (g : X) (t : TypeId) (d s : Operand) (dst : Option Tmp) (k : St → Out) : Out :=
  match P.underlying t with
  | some (.slice e) => (match tsize P e, lenX st (st.opr g d), lenX st (st.opr g s) with
    | some sz, some _, some _ => if closed (st.opr g d) && closed (st.opr g s) && st.scOk then
        .copy sz (st.opr g d) (st.opr g s) (k (({ st with sh := st.sh ++ [.int .i64] } : St).setT dst (.int .i64 (.var st.sh.length)))) else .fail
    | _, _, _ => .fail)
  | _ => .fail
theorem copyS_sound {L : Lv} {N' : Act → World → Prop} {Q : Exit → Act → World → Prop} {k : St → Out} {g : X} {dst : Option Tmp} {ty : TypeId} {pos : String} {after : Array Edge} {guard : Option (Nat × Bool)}
    (hA : SatA G E st a) (hW : SatW B G E h st.ch w) (hg : vb (g.den G) = true) {c : Call} (hco : c.callee = .builtin .copy) {t tx : TypeId} {d s : Operand} (hargs : c.args = #[d, s]) (hts : c.argTypes = #[t, tx])
    (HH : holds P R (copyS P st g t d s dst k) G L h)
    (hk : ∀ (G : List Value) (E : Nat → CE) (h : Go.Proofs.YtbgfabppmobpgaaDoor.H) (st : St) (a : Act) (w : World), SatA G E st a → SatW B G E h st.ch w → holds P R (k st) G L h → N' a w) :
    (⟨dst, .call c, ty, pos, after, guard⟩ : Oper).wp P a w N' Q := by
  unfold copyS at HH
  split at HH
  · rename_i e hu
    split at HH
    · rename_i sz ld ls hsz hld hls
      split at HH
      · rename_i hb
        simp only [Bool.and_eq_true] at hb
        obtain ⟨⟨hcd, hcs⟩, hsc⟩ := hb
        obtain ⟨ad, n, cd, hvd, hfd, hnd⟩ := slice_fits (E := E) hA hld hcd
        obtain ⟨as_, m, cs_, hvs, hfs, hns⟩ := slice_fits (E := E) hA hls hcs
        have hpd : (st.opr g d).plain = true := by obtain ⟨_, _, _, _, _, hp⟩ := lenX_den (E := E) hA hld; exact hp
        have hps : (st.opr g s).plain = true := by obtain ⟨_, _, _, _, _, hp⟩ := lenX_den (E := E) hA hls; exact hp
        have ed := opr_den hA hg rfl hpd
        have es := opr_den hA hg rfl hps
        rw [hvd] at ed
        rw [hvs] at es
        have gd : (st.opr g d).den G dE = .slice ad n cd := by rw [← closed_den (E := E) hcd]; exact hvd
        have gs : (st.opr g s).den G dE = .slice as_ m cs_ := by rw [← closed_den (E := E) hcs]; exact hvs
        have HC : CopySpec h sz ((st.opr g d).den G dE) ((st.opr g s).den G dE) fun n h' => holds P R (k (({ st with sh := st.sh ++ [.int .i64] } : St).setT dst (.int .i64 (.var st.sh.length)))) (G ++ [.int .i64 (n : Int)]) L h' := HH
        rw [gd, gs] at HC
        obtain ⟨N, hN, hrd, hrn, hone, hwr, hwn, HK⟩ := HC
        have hcons : c = { callee := .builtin .copy, args := #[d, s], argTypes := #[t, tx] } := by
          cases c; simp only at hco hargs hts; rw [hco, hargs, hts]
        subst hcons
        have hfirst : (Builtin.firstCells sz (Nat.min m n) (.slice as_ m cs_)).run P w = .ok N.toArray w := by
          cases as_ with
          | none => rw [hrn rfl]; rfl
          | some b =>
            have := run_loadCells_list (P := P) w b N (fun i v hv => H.sub_cell hW.hsub (hrd b rfl i v hv))
            rw [hN] at this
            exact this
        have hwr' : ∀ b, ad = some b → ∀ j, j < N.length → (w.cell? (b.add j)).isSome = true ∧ w.frozen? (b.add j) = false := fun b hb j hj => by
          obtain ⟨w1, w2⟩ := hwr b hb j hj
          exact sub_frozen hW.hsub w1 w2
        have hst : (match ad with | some b => storeCells b N.toArray.toList | none => pure ()).run P w = .ok () (setsW w (ad.getD default) N 0) := by
          cases ad with
          | none => rw [hwn rfl]; rfl
          | some b => exact run_sets _ _ 0 w (fun j hj => by rw [Nat.zero_add]; exact hwr' b rfl j hj) hone
        have hr : (Builtin.copy_ #[t, tx] ty #[.slice ad n cd, .slice as_ m cs_]).run P w = .ok (goInt (Nat.min m n)) (setsW w (ad.getD default) N 0) := by
          simp only [Builtin.copy_, List.getElem?_toArray, List.getElem?_cons_zero, List.getElem?_cons_succ, Sem.run_bind, run_underlying hu, Result.andThen_ok, Builtin.lenOf, Sem.run_pure, run_tsize hsz, hfirst]
          cases ad with
          | none => rw [hwn rfl]; simp [setsW]
          | some b => simp only [Option.getD_some] at hst ⊢; simp [hst]
        unfold Oper.wp
        have hx : (execOp a.eval ⟨dst, .call { callee := .builtin .copy, args := #[d, s], argTypes := #[t, tx] }, ty, pos, after, guard⟩).run P w = .ok (.value (goInt (Nat.min m n))) (setsW w (ad.getD default) N 0) := by
          simp only [execOp, resolve, invoke, builtin, Sem.run_bind, Sem.run_pure, Result.andThen_ok, List.map_toArray, List.map_cons, List.map_nil, ed, es, hr]
        rw [hx, Oper.upon_value]
        have hgv : ∀ u : Value, gv (G ++ [u]) G.length = u := fun u => by simp [gv, List.getD_eq_getElem?_getD]
        have hrel : Rel (G ++ [.int .i64 ((Nat.min m n : Nat) : Int)]) E (goInt (Nat.min m n)) (.int .i64 (.var st.sh.length)) := by
          refine Rel.of (fun _ => ?_) (by intro g t e; cases e)
          show goInt _ = Value.int .i64 (vi (gv _ _))
          rw [hA.len, hgv]; rfl
        have hW' := hW.pub (ad.getD default) N (fun hne => by
          cases ad with
          | none => exact absurd (hwn rfl) hne
          | some b => exact cell_block (hwr b rfl 0 (List.length_pos_iff.2 hne)).1)
        exact hk _ _ _ _ _ _ ((hA.extend hsc (shs := [.int .i64]) (xs := [_]) ⟨⟨_, rfl⟩, trivial⟩).put dst hrel) (by
          have : (({ st with sh := st.sh ++ [.int .i64] } : St).setT dst (.int .i64 (.var st.sh.length))).ch = st.ch := by cases dst <;> rfl
          rw [this]; exact hW'.extend hA hsc _) HK
      · exact HH.elim
    · exact HH.elim
  · exact HH.elim
def clrS (P : Program) (st : St) (g : X) (t : TypeId) (x : Operand) (dst : Option Tmp) (k : St → Out) : Out :=
  match P.underlying t with
  | some (.slice e) => (match tsize P e, zeroCells P e, lenX st (st.opr g x) with
    | some sz, some z, some _ => if closed (st.opr g x) && z.length.beq sz && Nat.blt 0 sz then .clr z (st.opr g x) (k (st.setT dst undS)) else .fail
    | _, _, _ => .fail)
  | _ => .fail
theorem clrS_sound {L : Lv} {N' : Act → World → Prop} {Q : Exit → Act → World → Prop} {k : St → Out} {g : X} {dst : Option Tmp} {ty : TypeId} {pos : String} {after : Array Edge} {guard : Option (Nat × Bool)}
    (hA : SatA G E st a) (hW : SatW B G E h st.ch w) (hg : vb (g.den G) = true) {c : Call} (hco : c.callee = .builtin .clear) {t : TypeId} {x : Operand} (hargs : c.args = #[x]) (hts : c.argTypes = #[t])
    (HH : holds P R (clrS P st g t x dst k) G L h)
    (hk : ∀ (G : List Value) (E : Nat → CE) (h : Go.Proofs.YtbgfabppmobpgaaDoor.H) (st : St) (a : Act) (w : World), SatA G E st a → SatW B G E h st.ch w → holds P R (k st) G L h → N' a w) :
    (⟨dst, .call c, ty, pos, after, guard⟩ : Oper).wp P a w N' Q := by
  unfold clrS at HH
  split at HH
  · rename_i e hu
    split at HH
    · rename_i sz z ln hsz hz hln
      split at HH
      · rename_i hb
        simp only [Bool.and_eq_true, Nat.beq_eq, Nat.blt_eq] at hb
        obtain ⟨⟨hcd, hzl⟩, hsz0⟩ := hb
        obtain ⟨ad, n, cd, hvd, hfd, hnd⟩ := slice_fits (E := E) hA hln hcd
        have hpd : (st.opr g x).plain = true := by obtain ⟨_, _, _, _, _, hp⟩ := lenX_den (E := E) hA hln; exact hp
        have ed := opr_den hA hg rfl hpd
        rw [hvd] at ed
        have gd : (st.opr g x).den G dE = .slice ad n cd := by rw [← closed_den (E := E) hcd]; exact hvd
        have HC : ClrSpec h z ((st.opr g x).den G dE) fun h' => holds P R (k (st.setT dst undS)) G L h' := HH
        rw [gd] at HC
        have hcons : c = { callee := .builtin .clear, args := #[x], argTypes := #[t] } := by
          cases c; simp only at hco hargs hts; rw [hco, hargs, hts]
        subst hcons
        have hrel : Rel G E (.tuple #[]) undS := rfl
        have hch : (st.setT dst undS).ch = st.ch := by cases dst <;> rfl
        have exec : ∀ {w' : World}, (Builtin.clear_ #[t] ty #[.slice ad n cd]).run P w = .ok (.tuple #[]) w' → N' (a.put dst (.tuple #[])) w' →
            (⟨dst, .call { callee := .builtin .clear, args := #[x], argTypes := #[t] }, ty, pos, after, guard⟩ : Oper).wp P a w N' Q := by
          intro w' hrn hn
          unfold Oper.wp
          have hx : (execOp a.eval ⟨dst, .call { callee := .builtin .clear, args := #[x], argTypes := #[t] }, ty, pos, after, guard⟩).run P w = .ok (.value (.tuple #[])) w' := by
            simp only [execOp, resolve, invoke, builtin, Sem.run_bind, Sem.run_pure, Result.andThen_ok, List.map_toArray, List.map_cons, List.map_nil, ed, hrn]
          rw [hx, Oper.upon_value]
          exact hn
        cases ad with
        | none =>
          refine exec (w' := w) ?_ (hk _ _ _ _ _ _ (hA.put dst hrel) (by rw [hch]; exact hW) HC)
          simp only [Builtin.clear_, List.getElem?_toArray, List.getElem?_cons_zero, Sem.run_bind, run_underlying hu, Result.andThen_ok, Sem.run_pure]
        | some b =>
          obtain ⟨hone, hwr, HK⟩ := HC
          have hwr' : ∀ j, j < (repZ z n).length → (w.cell? (b.add j)).isSome = true ∧ w.frozen? (b.add j) = false := fun j hj => by
            obtain ⟨w1, w2⟩ := hwr j hj
            exact sub_frozen hW.hsub w1 w2
          have hrl : (repZ z n).length = n * sz := by simp [repZ, hzl]
          have hW' := hW.pub b (repZ z n) (fun hne => cell_block (hwr 0 (List.length_pos_iff.2 hne)).1)
          obtain ⟨zv, hzv1, hzv2, hzr⟩ := run_zeroC (P := P) (w := w) hz
          have hone' : ∀ v ∈ repZ z n, v.oneCell' = true := fun v hv => by
            unfold repZ at hv
            obtain ⟨i, hi, rfl⟩ := List.mem_map.1 hv
            have hlt : i % z.length < z.length := Nat.mod_lt _ (by omega)
            rw [List.getD_eq_getElem?_getD, List.getElem?_eq_getElem hlt]
            exact hone _ (List.getElem_mem hlt)
          have hst : (storeCells b (repZ z n)).run P w = .ok () (setsW w b (repZ z n) 0) := run_sets _ _ 0 w (fun j hj => by rw [Nat.zero_add]; exact hwr' j hj) hone'
          refine exec (w' := setsW w b (repZ z n) 0) ?_ (hk _ _ _ _ _ _ (hA.put dst hrel) (by rw [hch]; exact hW') HK)
          have hzc : (Builtin.zeroCells zv.cells n).toList = repZ z n := by
            have := zeroC_eq (z := zv) n (by
              have : zv.cells.size = z.length := by rw [← hzv2]; simp
              omega)
            rw [hzv2] at this
            exact this
          cases n with
          | zero =>
            have : repZ z 0 = [] := List.eq_nil_of_length_eq_zero (by rw [hrl]; simp)
            simp only [Builtin.clear_, List.getElem?_toArray, List.getElem?_cons_zero, Sem.run_bind, run_underlying hu, Result.andThen_ok, Sem.run_pure, this, setsW]
          | succ n =>
            simp only [Builtin.clear_, List.getElem?_toArray, List.getElem?_cons_zero, Sem.run_bind, run_underlying hu, Result.andThen_ok, Sem.run_pure, hzr, hzc, hst]
      · exact HH.elim
    · exact HH.elim
  · exact HH.elim
end
end Go.Proofs.YtbgfabppmobpgaaDoor

/-
  Maps, and bytes as a string, by symbols: that what is left to show suffices. Conditions: none (plain lemmas).
-/
set_option linter.unusedVariables false
set_option linter.unusedSimpArgs false
namespace Go.Proofs.YtbgfabppmobpgaaDoor
open Go

section
variable {P : Program} {B : Beg} {G : List Value} {E : Nat → CE} {h : H} {st : St} {a : Act} {w : World} {R : Value → List (List Value) → H → Prop}
  {L : Lv} {N' : Act → World → Prop} {Q : Exit → Act → World → Prop} {k : St → Out} {g : X} {dst : Option Tmp} {ty : TypeId} {pos : String} {after : Array Edge} {guard : Option (Nat × Bool)}
/-- A map outside the chunks has changed. -/
theorem SatW.setMap (hW : SatW B G E h st.ch w) {r : Nat} {o o' : Obj} (hr : h r = some o) : SatW B G E (h.put r o') st.ch { w with heap := w.heap.setIfInBounds r o' } := by
  have hb := hW.hsub r o hr
  obtain ⟨s1, s2⟩ := MapKept.heap_set (o' := o') hb
  have hput : ∀ b, b ≠ r → (h.put r o') b = h b := fun b hb => by unfold H.put; rw [if_neg hb]
  have hne : ∀ b, h b = none → b ≠ r := fun b e q => by rw [q, hr] at e; cases e
  refine ⟨fun k cs hm => ?_, fun k cs hm => ?_, hW.dist, hW.own, hW.par, fun b o2 ho => ?_, ?_, hW.pre⟩
  · obtain ⟨f, l', hb', hrl⟩ := hW.chunks k cs hm
    refine ⟨f, l', ?_, hrl⟩
    show (w.heap.setIfInBounds r o')[(E k).blk]? = _
    rw [s2 _ (hne _ (hW.hid k cs hm))]; exact hb'
  · rw [hput _ (hne _ (hW.hid k cs hm))]; exact hW.hid k cs hm
  · show (w.heap.setIfInBounds r o')[b]? = _
    by_cases hbr : b = r
    · subst hbr
      unfold H.put at ho
      rw [if_pos rfl] at ho
      cases ho
      exact s1
    · rw [hput b hbr] at ho
      rw [s2 b hbr]; exact hW.hsub b o2 ho
  · refine ⟨by have := hW.frm.size; simpa using this, hW.frm.os, hW.frm.tape, hW.frm.out, fun b h1 h2 h3 => ?_⟩
    obtain ⟨k1, k2⟩ := hW.frm.keep b h1 h2 h3
    refine ⟨?_, by rw [hput b (hne b k2)]; exact k2⟩
    show (w.heap.setIfInBounds r o')[b]? = _
    rw [s2 _ (hne b k2)]; exact k1
def isKeyS : TypeDesc → SV → Bool
  | .int k, .int k' _ => beqIK k' k
  | .bool, .bool _ => true
  | .string, .str _ => true
  | _, _ => false
theorem isKeyS_den {d : TypeDesc} {s : SV} (hk : isKeyS d s = true) : MapKept.IsKey d (s.den G E) ∧ s.plain = true ∧ s.den G E = s.den G dE := by
  unfold isKeyS at hk
  split at hk
  · exact ⟨beqIK_eq hk, rfl, rfl⟩
  · exact ⟨trivial, rfl, rfl⟩
  · exact ⟨trivial, rfl, rfl⟩
  · cases hk
def mapS (st : St) : SV → Bool
  | .val i => (match st.shape i with | .map => true | _ => false)
  | .cst (.map none) => true
  | _ => false
theorem mapS_den (hA : SatA G E st a) {s : SV} (hm : mapS st s = true) : (∃ r, s.den G E = .map r) ∧ s.plain = true ∧ s.den G E = s.den G dE := by
  unfold mapS at hm
  split at hm
  · rename_i i
    split at hm
    · rename_i hs
      have hf := shape_fits hA i
      rw [hs] at hf
      exact ⟨hf, rfl, rfl⟩
    · cases hm
  · exact ⟨⟨_, rfl⟩, rfl, rfl⟩
  · cases hm
/-- The zero value of a type of one cell. -/
def zeroOne (P : Program) (t : TypeId) : Option Value := ((P.info? t).bind (·.zero)).bind fun v => match vSh v with | .any => none | _ => some v
theorem zeroOne_run {t : TypeId} {z : Value} (hz : zeroOne P t = some z) : (zeroValue t).run P w = .ok z w := by
  unfold zeroOne at hz
  cases hv : (P.info? t).bind (·.zero) with
  | none => rw [hv] at hz; cases hz
  | some v =>
    rw [hv] at hz
    simp only [Option.bind_some] at hz
    split at hz
    · cases hz
    · cases hz; exact run_zero hv
theorem hgv2 (u v : Value) : gv (G ++ [u, v]) G.length = u ∧ gv (G ++ [u, v]) (G.length + 1) = v := by
  constructor <;> simp [gv, List.getD_eq_getElem?_getD, List.getElem?_append_right]
def mkMapS (st : St) (r : Option Operand) (dst : Option Tmp) (k : St → Out) : Out :=
  match r with
  | none => if st.scOk then .mkMap (k (({ st with sh := st.sh ++ [.map] } : St).setT dst (.val st.sh.length))) else .fail
  | some _ => .fail
theorem mkMapS_sound (hA : SatA G E st a) (hW : SatW B G E h st.ch w) {t : TypeId} {r : Option Operand} (H : holds P R (mkMapS st r dst k) G L h)
    (hk : ∀ (G : List Value) (E : Nat → CE) (h : Go.Proofs.YtbgfabppmobpgaaDoor.H) (st : St) (a : Act) (w : World), SatA G E st a → SatW B G E h st.ch w → holds P R (k st) G L h → N' a w) :
    (⟨dst, .makeMap t r, ty, pos, after, guard⟩ : Oper).wp P a w N' Q := by
  unfold mkMapS at H
  split at H
  · split at H
    · rename_i hsc
      have H := H w.heap.size (h_size hW.hsub (Nat.le_refl _))
      unfold Oper.wp
      have hx : (execOp a.eval ⟨dst, .makeMap t none, ty, pos, after, guard⟩).run P w = .ok (.value (.map (some w.heap.size))) (w.alloc (.map #[] 0)) := by
        simp only [execOp, Instr.makeMap, Option.map_none, Sem.run_bind, Sem.run_pure, run_newObj, Result.andThen_ok]; rfl
      rw [hx, Oper.upon_value]
      have hgv : gv (G ++ [Value.map (some w.heap.size)]) G.length = .map (some w.heap.size) := by simp [gv, List.getD_eq_getElem?_getD]
      have hrel : Rel (G ++ [Value.map (some w.heap.size)]) E (.map (some w.heap.size)) (.val st.sh.length) := by
        show _ = gv _ _; rw [hA.len, hgv]
      exact hk _ _ _ _ _ _ ((hA.extend hsc (shs := [.map]) (xs := [_]) ⟨⟨_, rfl⟩, trivial⟩).put dst hrel) (by
        have : (({ st with sh := st.sh ++ [.map] } : St).setT dst (.val st.sh.length)).ch = st.ch := by cases dst <;> rfl
        rw [this]; exact (hW.pubNew _).extend hA hsc _) H
    · exact H.elim
  · exact H.elim
def lookS (P : Program) (st : St) (g : X) (t : TypeId) (x i : Operand) (ok : Bool) (dst : Option Tmp) (k : St → Out) : Out :=
  match P.underlying t with
  | some (.map kt et) => (match P.underlying kt, zeroOne P et with
    | some d, some z => if isKeyS d (st.opr g i) && mapS st (st.opr g x) && st.scOk then
        .look d (vSh z) z (st.opr g x) (st.opr g i) (k (({ st with sh := st.sh ++ [vSh z, .bool] } : St).setT dst
          (if ok then .tup [(vSh z).sv st.sh.length, .bool (.var (st.sh.length + 1))] else (vSh z).sv st.sh.length))) else .fail
    | _, _ => .fail)
  | _ => .fail
theorem lookS_sound (hA : SatA G E st a) (hW : SatW B G E h st.ch w) (hg : vb (g.den G) = true) {t : TypeId} {x i : Operand} {ok : Bool} (HH : holds P R (lookS P st g t x i ok dst k) G L h)
    (hk : ∀ (G : List Value) (E : Nat → CE) (h : Go.Proofs.YtbgfabppmobpgaaDoor.H) (st : St) (a : Act) (w : World), SatA G E st a → SatW B G E h st.ch w → holds P R (k st) G L h → N' a w) :
    (⟨dst, .lookup t x i ok, ty, pos, after, guard⟩ : Oper).wp P a w N' Q := by
  unfold lookS at HH
  split at HH
  · rename_i kt et hu
    split at HH
    · rename_i d z hd hz
      split at HH
      · rename_i hb
        simp only [Bool.and_eq_true] at hb
        obtain ⟨⟨hik, hmp⟩, hsc⟩ := hb
        obtain ⟨hkey, hkp, hke⟩ := isKeyS_den (G := G) (E := E) hik
        obtain ⟨⟨r, hr⟩, hmpl, hme⟩ := mapS_den (E := E) hA hmp
        have ei := opr_den hA hg rfl hkp
        have ex := opr_den hA hg rfl hmpl
        have HS : LookSpec h d (vSh z) z ((st.opr g x).den G dE) ((st.opr g i).den G dE) fun v b => holds P R (k (({ st with sh := st.sh ++ [vSh z, .bool] } : St).setT dst
          (if ok then .tup [(vSh z).sv st.sh.length, .bool (.var (st.sh.length + 1))] else (vSh z).sv st.sh.length))) (G ++ [v, .bool b]) L h := HH
        rw [← hme, ← hke, hr] at HS
        rw [hr] at ex
        generalize hkv : (st.opr g i).den G E = key at *
        have hzr : ∀ w', (zeroValue et).run P w' = .ok z w' := fun w' => zeroOne_run hz
        have fin : ∀ {v : Value} {b : Bool}, Fits (vSh z) v → holds P R (k (({ st with sh := st.sh ++ [vSh z, .bool] } : St).setT dst
              (if ok then .tup [(vSh z).sv st.sh.length, .bool (.var (st.sh.length + 1))] else (vSh z).sv st.sh.length))) (G ++ [v, .bool b]) L h →
            (Instr.lookup t (.map r) key ok).run P w = .ok (if ok then .tuple #[v, .bool b] else v) w → (⟨dst, .lookup t x i ok, ty, pos, after, guard⟩ : Oper).wp P a w N' Q := by
          intro v b hf HK hrun
          unfold Oper.wp
          have hx : (execOp a.eval ⟨dst, .lookup t x i ok, ty, pos, after, guard⟩).run P w = .ok (.value (if ok then .tuple #[v, .bool b] else v)) w := by
            simp only [execOp, ei, ex, Sem.run_bind, hrun, Result.andThen_ok, Sem.run_pure]
          rw [hx, Oper.upon_value]
          obtain ⟨q1, q2⟩ := hgv2 (G := G) v (.bool b)
          have hsv : ((vSh z).sv G.length).den (G ++ [v, .bool b]) E = v := by
            rw [Sh.sv_den (by rw [q1]; exact hf), q1]
          have hrel : Rel (G ++ [v, .bool b]) E (if ok then .tuple #[v, .bool b] else v) (if ok then .tup [(vSh z).sv st.sh.length, .bool (.var (st.sh.length + 1))] else (vSh z).sv st.sh.length) := by
            rw [hA.len]
            cases ok with
            | false =>
              simp only [if_false, Bool.false_eq_true]
              exact Rel.of (fun _ => hsv.symm) (by cases vSh z <;> intro g t e <;> cases e)
            | true =>
              simp only [if_true]
              show _ = SV.den _ _ _
              simp only [SV.den, SV.denL, hsv, X.den, q2, vb_bool]
          exact hk _ _ _ _ _ _ ((hA.extend hsc (shs := [vSh z, .bool]) (xs := [v, .bool b]) ⟨hf, ⟨_, rfl⟩, trivial⟩).put dst hrel) (by
            have : (({ st with sh := st.sh ++ [vSh z, .bool] } : St).setT dst (if ok then .tup [(vSh z).sv st.sh.length, .bool (.var (st.sh.length + 1))] else (vSh z).sv st.sh.length)).ch = st.ch := by cases dst <;> rfl
            rw [this]; exact hW.extend hA hsc _) HK
        have hck : ∀ e, (Instr.checkKey e 10000 kt key).run P w = .ok () w := fun e => MapKept.run_checkKey hd hkey e 9999
        cases r with
        | none =>
          obtain ⟨hf, HK⟩ := HS
          refine fin hf HK ?_
          have h0 : (Instr.findKey kt key []).run P w = .ok none w := MapKept.run_findKey hd rfl
          simp only [Instr.lookup, Sem.run_bind, run_underlying hu, Result.andThen_ok, Sem.run_pure, hck, h0, hzr]
        | some r =>
          obtain ⟨es, clock, res, he, hfn, HK⟩ := HS
          have hob := MapKept.run_getObj_map (P := P) (hW.hsub _ _ he)
          have h0 := MapKept.run_findKey (P := P) (w := w) hd hfn
          cases res with
          | none =>
            obtain ⟨hf, HK⟩ := HK
            refine fin hf HK ?_
            simp only [Instr.lookup, Sem.run_bind, run_underlying hu, Result.andThen_ok, Sem.run_pure, hob, hck, h0, hzr]
          | some iv =>
            obtain ⟨hf, HK⟩ := HK
            refine fin hf HK ?_
            simp only [Instr.lookup, Sem.run_bind, run_underlying hu, Result.andThen_ok, Sem.run_pure, hob, hck, h0]
      · exact HH.elim
    · exact HH.elim
  · exact HH.elim
def mupdS (P : Program) (st : St) (g : X) (t : TypeId) (m i x : Operand) (dst : Option Tmp) (k : St → Out) : Out :=
  match P.underlying t with
  | some (.map kt _) => (match P.underlying kt with
    | some d => if isKeyS d (st.opr g i) && mapS st (st.opr g m) && (st.opr g x).plain && closed (st.opr g x) then
        .mupd d (st.opr g m) (st.opr g i) (st.opr g x) (k (st.setT dst undS)) else .fail
    | _ => .fail)
  | _ => .fail
theorem mupdS_run (hA : SatA G E st a) (hW : SatW B G E h st.ch w) (hg : vb (g.den G) = true) {t : TypeId} {m i x : Operand} (HH : holds P R (mupdS P st g t m i x dst k) G L h)
    (hk : ∀ (G : List Value) (E : Nat → CE) (h : Go.Proofs.YtbgfabppmobpgaaDoor.H) (st : St) (a : Act) (w : World), SatA G E st a → SatW B G E h st.ch w → holds P R (k st) G L h → N' a w) :
    ∃ w', (Instr.mapUpdate t (a.eval m) (a.eval i) (a.eval x)).run P w = .ok () w' ∧ N' (a.put dst undef) w' := by
  unfold mupdS at HH
  split at HH
  · rename_i kt et hu
    split at HH
    · rename_i d hd
      split at HH
      · rename_i hb
        simp only [Bool.and_eq_true] at hb
        obtain ⟨⟨⟨hik, hmp⟩, hxp⟩, hxc⟩ := hb
        obtain ⟨hkey, hkp, hke⟩ := isKeyS_den (G := G) (E := E) hik
        obtain ⟨⟨r, hr⟩, hmpl, hme⟩ := mapS_den (E := E) hA hmp
        have ei := opr_den hA hg rfl hkp
        have em := opr_den hA hg rfl hmpl
        have ex := opr_den hA hg rfl hxp
        have hxe := closed_den (G := G) (E := E) hxc
        have HS : UpdSpec h d ((st.opr g m).den G dE) ((st.opr g i).den G dE) ((st.opr g x).den G dE) fun h' => holds P R (k (st.setT dst undS)) G L h' := HH
        rw [← hme, ← hke, ← hxe, hr] at HS
        rw [hr] at em
        rw [ei, em, ex]
        generalize hkv : (st.opr g i).den G E = key at *
        generalize hxv : (st.opr g x).den G E = val at *
        have hrel : Rel G E undef undS := rfl
        have fin : ∀ {b : Nat} {o o' : Obj}, h b = some o → holds P R (k (st.setT dst undS)) G L (h.put b o') → N' (a.put dst undef) { w with heap := w.heap.setIfInBounds b o' } := fun {b o o'} ho HK =>
          hk _ _ _ _ _ _ (hA.put dst hrel) (by
            have : (st.setT dst undS).ch = st.ch := by cases dst <;> rfl
            rw [this]; exact hW.setMap ho) HK
        cases r with
        | none => exact HS.elim
        | some b =>
          obtain ⟨es, clock, res, he, hfn, HK⟩ := HS
          have hbb := hW.hsub _ _ he
          have hob := MapKept.run_getObj_map (P := P) hbb
          have hck : (Instr.checkKey false 10000 kt key).run P w = .ok () w := MapKept.run_checkKey hd hkey false 9999
          have h0 := MapKept.run_findKey (P := P) (w := w) hd hfn
          have hso : ∀ o', (setObj b o').run P w = .ok () { w with heap := w.heap.setIfInBounds b o' } := fun o' => MapKept.run_setObj_map o' hbb
          cases res with
          | none =>
            refine ⟨_, ?_, fin he HK⟩
            simp only [Instr.mapUpdate, Sem.run_bind, run_underlying hu, Result.andThen_ok, Sem.run_pure, hob, hck, h0, hso]
          | some iv =>
            obtain ⟨j, v0⟩ := iv
            obtain ⟨⟨e, hje, hjk⟩, HK⟩ := HK
            have hst := MapKept.run_keyThatStays (P := P) (w := w) hkey
            refine ⟨_, ?_, fin he HK⟩
            simp only [Instr.mapUpdate, Sem.run_bind, run_underlying hu, Result.andThen_ok, Sem.run_pure, hob, hck, h0, hje, Option.map_some, Option.getD_some, hjk, hst, hso]
      · exact HH.elim
    · exact HH.elim
  · exact HH.elim
theorem mupdS_sound (hA : SatA G E st a) (hW : SatW B G E h st.ch w) (hg : vb (g.den G) = true) {t : TypeId} {m i x : Operand} (HH : holds P R (mupdS P st g t m i x dst k) G L h)
    (hk : ∀ (G : List Value) (E : Nat → CE) (h : Go.Proofs.YtbgfabppmobpgaaDoor.H) (st : St) (a : Act) (w : World), SatA G E st a → SatW B G E h st.ch w → holds P R (k st) G L h → N' a w) :
    (⟨dst, .mapUpdate t m i x, ty, pos, after, guard⟩ : Oper).wp P a w N' Q := by
  obtain ⟨w', h1, h2⟩ := mupdS_run hA hW hg HH hk
  unfold Oper.wp
  have hx : (execOp a.eval ⟨dst, .mapUpdate t m i x, ty, pos, after, guard⟩).run P w = .ok .skip w' := by
    simp only [execOp, Sem.run_bind, h1, Result.andThen_ok, Sem.run_pure]
  rw [hx, Oper.upon_skip]
  exact h2
theorem minsS_sound (hA : SatA G E st a) (hW : SatW B G E h st.ch w) (hg : vb (g.den G) = true) {t : TypeId} {m i x : Operand} (HH : holds P R (mupdS P st g t m i x dst k) G L h)
    (hk : ∀ (G : List Value) (E : Nat → CE) (h : Go.Proofs.YtbgfabppmobpgaaDoor.H) (st : St) (a : Act) (w : World), SatA G E st a → SatW B G E h st.ch w → holds P R (k st) G L h → N' a w) :
    (⟨dst, .insert t m i x, ty, pos, after, guard⟩ : Oper).wp P a w N' Q := by
  obtain ⟨w', h1, h2⟩ := mupdS_run hA hW hg HH hk
  unfold Oper.wp
  have hx : (execOp a.eval ⟨dst, .insert t m i x, ty, pos, after, guard⟩).run P w = .ok .skip w' := by
    simp only [execOp, Sem.run_bind, h1, Result.andThen_ok, Sem.run_pure]
  rw [hx, Oper.upon_skip]
  exact h2
def mentS (P : Program) (st : St) (g : X) (t : TypeId) (m i : Operand) (dst : Option Tmp) (k : St → Out) : Out :=
  match P.underlying t with
  | some (.map kt et) => (match P.underlying kt, zeroOne P et with
    | some d, some z => if isKeyS d (st.opr g i) && mapS st (st.opr g m) && st.scOk then
        .ment d (vSh z) z (st.opr g m) (st.opr g i) (k (({ st with sh := st.sh ++ [vSh z, .int .i64] } : St).setT dst
          (.tup [(vSh z).sv st.sh.length, .int .i64 (.var (st.sh.length + 1))]))) else .fail
    | _, _ => .fail)
  | _ => .fail
theorem mentS_sound (hA : SatA G E st a) (hW : SatW B G E h st.ch w) (hg : vb (g.den G) = true) {t : TypeId} {m i : Operand} (HH : holds P R (mentS P st g t m i dst k) G L h)
    (hk : ∀ (G : List Value) (E : Nat → CE) (h : Go.Proofs.YtbgfabppmobpgaaDoor.H) (st : St) (a : Act) (w : World), SatA G E st a → SatW B G E h st.ch w → holds P R (k st) G L h → N' a w) :
    (⟨dst, .mapEntry t m i, ty, pos, after, guard⟩ : Oper).wp P a w N' Q := by
  unfold mentS at HH
  split at HH
  · rename_i kt et hu
    split at HH
    · rename_i d z hd hz
      split at HH
      · rename_i hb
        simp only [Bool.and_eq_true] at hb
        obtain ⟨⟨hik, hmp⟩, hsc⟩ := hb
        obtain ⟨hkey, hkp, hke⟩ := isKeyS_den (G := G) (E := E) hik
        obtain ⟨⟨r, hr⟩, hmpl, hme⟩ := mapS_den (E := E) hA hmp
        have ei := opr_den hA hg rfl hkp
        have em := opr_den hA hg rfl hmpl
        have HS : MentSpec h d (vSh z) z ((st.opr g m).den G dE) ((st.opr g i).den G dE) fun v n h' => holds P R (k (({ st with sh := st.sh ++ [vSh z, .int .i64] } : St).setT dst
          (.tup [(vSh z).sv st.sh.length, .int .i64 (.var (st.sh.length + 1))]))) (G ++ [v, .int .i64 (n : Int)]) L h' := HH
        rw [← hme, ← hke, hr] at HS
        rw [hr] at em
        generalize hkv : (st.opr g i).den G E = key at *
        have hzr : ∀ w', (zeroValue et).run P w' = .ok z w' := fun w' => zeroOne_run hz
        cases r with
        | none => exact HS.elim
        | some b =>
          obtain ⟨es, clock, res, he, hfn, HK⟩ := HS
          have hbb := hW.hsub _ _ he
          have hob := MapKept.run_getObj_map (P := P) hbb
          have hck : (Instr.checkKey false 10000 kt key).run P w = .ok () w := MapKept.run_checkKey hd hkey false 9999
          have h0 := MapKept.run_findKey (P := P) (w := w) hd hfn
          have hso : ∀ o', (setObj b o').run P w = .ok () { w with heap := w.heap.setIfInBounds b o' } := fun o' => MapKept.run_setObj_map o' hbb
          have fin : ∀ {v : Value} {n : Nat} {o' : Obj}, Fits (vSh z) v → holds P R (k (({ st with sh := st.sh ++ [vSh z, .int .i64] } : St).setT dst
                (.tup [(vSh z).sv st.sh.length, .int .i64 (.var (st.sh.length + 1))]))) (G ++ [v, .int .i64 (n : Int)]) L (h.put b o') →
              (Instr.mapEntry t (.map (some b)) key).run P w = .ok (.tuple #[v, goInt n]) { w with heap := w.heap.setIfInBounds b o' } → (⟨dst, .mapEntry t m i, ty, pos, after, guard⟩ : Oper).wp P a w N' Q := by
            intro v n o' hf HK hrun
            unfold Oper.wp
            have hx : (execOp a.eval ⟨dst, .mapEntry t m i, ty, pos, after, guard⟩).run P w = .ok (.value (.tuple #[v, goInt n])) { w with heap := w.heap.setIfInBounds b o' } := by
              simp only [execOp, ei, em, Sem.run_bind, hrun, Result.andThen_ok, Sem.run_pure]
            rw [hx, Oper.upon_value]
            obtain ⟨q1, q2⟩ := hgv2 (G := G) v (.int .i64 (n : Int))
            have hsv : ((vSh z).sv G.length).den (G ++ [v, .int .i64 (n : Int)]) E = v := by
              rw [Sh.sv_den (by rw [q1]; exact hf), q1]
            have hrel : Rel (G ++ [v, .int .i64 (n : Int)]) E (.tuple #[v, goInt n]) (.tup [(vSh z).sv st.sh.length, .int .i64 (.var (st.sh.length + 1))]) := by
              rw [hA.len]
              show _ = SV.den _ _ _
              simp only [SV.den, SV.denL, hsv, X.den, q2, vi_int]; rfl
            exact hk _ _ _ _ _ _ ((hA.extend hsc (shs := [vSh z, .int .i64]) (xs := [v, .int .i64 (n : Int)]) ⟨hf, ⟨_, rfl⟩, trivial⟩).put dst hrel) (by
              have : (({ st with sh := st.sh ++ [vSh z, .int .i64] } : St).setT dst (.tup [(vSh z).sv st.sh.length, .int .i64 (.var (st.sh.length + 1))])).ch = st.ch := by cases dst <;> rfl
              rw [this]; exact (hW.setMap he).extend hA hsc _) HK
          cases res with
          | none =>
            obtain ⟨hf, HK⟩ := HK
            refine fin hf HK ?_
            simp only [Instr.mapEntry, Sem.run_bind, run_underlying hu, Result.andThen_ok, Sem.run_pure, hob, hck, h0, hzr, hso]
          | some iv =>
            obtain ⟨j, v0⟩ := iv
            obtain ⟨e, hje, hjk, hf, HK⟩ := HK
            have hst := MapKept.run_keyThatStays (P := P) (w := w) hkey
            refine fin hf HK ?_
            simp only [Instr.mapEntry, Sem.run_bind, run_underlying hu, Result.andThen_ok, Sem.run_pure, hob, hck, h0, hje, Option.map_some, Option.getD_some, hjk, hst, hso]
      · exact HH.elim
    · exact HH.elim
  · exact HH.elim
def entsS (st : St) (g : X) (m s x : Operand) (dst : Option Tmp) (k : St → Out) : Out :=
  match st.opr g s with
  | .int .i64 e => if mapS st (st.opr g m) && (st.opr g x).plain && closed (st.opr g x) then .ents (st.opr g m) (.int .i64 e) (st.opr g x) (k (st.setT dst undS)) else .fail
  | _ => .fail
theorem entsS_sound (hA : SatA G E st a) (hW : SatW B G E h st.ch w) (hg : vb (g.den G) = true) {t : TypeId} {m s x : Operand} (HH : holds P R (entsS st g m s x dst k) G L h)
    (hk : ∀ (G : List Value) (E : Nat → CE) (h : Go.Proofs.YtbgfabppmobpgaaDoor.H) (st : St) (a : Act) (w : World), SatA G E st a → SatW B G E h st.ch w → holds P R (k st) G L h → N' a w) :
    (⟨dst, .entryStore t m s x, ty, pos, after, guard⟩ : Oper).wp P a w N' Q := by
  unfold entsS at HH
  split at HH
  · rename_i e hs
    split at HH
    · rename_i hb
      simp only [Bool.and_eq_true] at hb
      obtain ⟨⟨hmp, hxp⟩, hxc⟩ := hb
      obtain ⟨⟨r, hr⟩, hmpl, hme⟩ := mapS_den (E := E) hA hmp
      have es' := opr_den hA hg hs rfl
      have em := opr_den hA hg rfl hmpl
      have ex := opr_den hA hg rfl hxp
      have hxe := closed_den (G := G) (E := E) hxc
      simp only [SV.den] at es'
      have HS : EntSpec h ((st.opr g m).den G dE) (.int .i64 (vi (e.den G))) ((st.opr g x).den G dE) fun h' => holds P R (k (st.setT dst undS)) G L h' := HH
      rw [← hme, ← hxe, hr] at HS
      rw [hr] at em
      generalize hxv : (st.opr g x).den G E = val at *
      cases r with
      | none => exact HS.elim
      | some b =>
        obtain ⟨es, clock, i, he, hfi, HK⟩ := HS
        have hbb := hW.hsub _ _ he
        have hob := MapKept.run_getObj_map (P := P) hbb
        have hso : ∀ o', (setObj b o').run P w = .ok () { w with heap := w.heap.setIfInBounds b o' } := fun o' => MapKept.run_setObj_map o' hbb
        have hrel : Rel G E undef undS := rfl
        simp only [vi_int] at hfi
        have hrun : (Instr.entryStore t (.map (some b)) (.int .i64 (vi (e.den G))) val).run P w = .ok () { w with heap := w.heap.setIfInBounds b (.map (es.modify i fun e => { e with val := val }) clock) } := by
          have ha : (asInt (.int .i64 (vi (e.den G)))).run P w = .ok (vi (e.den G)) w := by simp [asInt, asIntOf]
          simp only [Instr.entryStore, Sem.run_bind, hob, ha, Result.andThen_ok, Sem.run_pure, hfi, hso]
        unfold Oper.wp
        have hx : (execOp a.eval ⟨dst, .entryStore t m s x, ty, pos, after, guard⟩).run P w = .ok .skip { w with heap := w.heap.setIfInBounds b (.map (es.modify i fun e => { e with val := val }) clock) } := by
          simp only [execOp, Sem.run_bind, em, es', ex, hrun, Result.andThen_ok, Sem.run_pure]
        rw [hx, Oper.upon_skip]
        exact hk _ _ _ _ _ _ (hA.put dst hrel) (by
          have : (st.setT dst undS).ch = st.ch := by cases dst <;> rfl
          rw [this]; exact hW.setMap he) HK
    · exact HH.elim
  · exact HH.elim
def mdelS (P : Program) (st : St) (g : X) (t : TypeId) (m i : Operand) (dst : Option Tmp) (k : St → Out) : Out :=
  match P.underlying t with
  | some (.map kt _) => (match P.underlying kt with
    | some d => if isKeyS d (st.opr g i) && mapS st (st.opr g m) then
        .mdel d (st.opr g m) (st.opr g i) (k (st.setT dst undS)) else .fail
    | _ => .fail)
  | _ => .fail
theorem mdelS_sound (hA : SatA G E st a) (hW : SatW B G E h st.ch w) (hg : vb (g.den G) = true) {c : Call} (hco : c.callee = .builtin .delete) {t tx : TypeId} {m i : Operand} (hargs : c.args = #[m, i]) (hts : c.argTypes = #[t, tx])
    (HH : holds P R (mdelS P st g t m i dst k) G L h)
    (hk : ∀ (G : List Value) (E : Nat → CE) (h : Go.Proofs.YtbgfabppmobpgaaDoor.H) (st : St) (a : Act) (w : World), SatA G E st a → SatW B G E h st.ch w → holds P R (k st) G L h → N' a w) :
    (⟨dst, .call c, ty, pos, after, guard⟩ : Oper).wp P a w N' Q := by
  unfold mdelS at HH
  split at HH
  · rename_i kt et hu
    split at HH
    · rename_i d hd
      split at HH
      · rename_i hb
        simp only [Bool.and_eq_true] at hb
        obtain ⟨hik, hmp⟩ := hb
        obtain ⟨hkey, hkp, hke⟩ := isKeyS_den (G := G) (E := E) hik
        obtain ⟨⟨r, hr⟩, hmpl, hme⟩ := mapS_den (E := E) hA hmp
        have ei := opr_den hA hg rfl hkp
        have em := opr_den hA hg rfl hmpl
        have HS : DelSpec h d ((st.opr g m).den G dE) ((st.opr g i).den G dE) fun h' => holds P R (k (st.setT dst undS)) G L h' := HH
        rw [← hme, ← hke, hr] at HS
        rw [hr] at em
        generalize hkv : (st.opr g i).den G E = key at *
        have hcons : c = { callee := .builtin .delete, args := #[m, i], argTypes := #[t, tx] } := by
          cases c; simp only at hco hargs hts; rw [hco, hargs, hts]
        subst hcons
        have hrel : Rel G E (.tuple #[]) undS := rfl
        have hch : (st.setT dst undS).ch = st.ch := by cases dst <;> rfl
        have exec : ∀ {w' : World}, (Builtin.delete_ #[t, tx] ty #[.map r, key]).run P w = .ok (.tuple #[]) w' → N' (a.put dst (.tuple #[])) w' →
            (⟨dst, .call { callee := .builtin .delete, args := #[m, i], argTypes := #[t, tx] }, ty, pos, after, guard⟩ : Oper).wp P a w N' Q := by
          intro w' hrn hn
          unfold Oper.wp
          have hx : (execOp a.eval ⟨dst, .call { callee := .builtin .delete, args := #[m, i], argTypes := #[t, tx] }, ty, pos, after, guard⟩).run P w = .ok (.value (.tuple #[])) w' := by
            simp only [execOp, resolve, invoke, builtin, Sem.run_bind, Sem.run_pure, Result.andThen_ok, List.map_toArray, List.map_cons, List.map_nil, ei, em, hrn]
          rw [hx, Oper.upon_value]
          exact hn
        have hck : ∀ e, (Instr.checkKey e 10000 kt key).run P w = .ok () w := fun e => MapKept.run_checkKey hd hkey e 9999
        cases r with
        | none =>
          refine exec (w' := w) ?_ (hk _ _ _ _ _ _ (hA.put dst hrel) (by rw [hch]; exact hW) HS)
          simp only [Builtin.delete_, List.getElem?_toArray, List.getElem?_cons_zero, List.getElem?_cons_succ, Sem.run_bind, run_underlying hu, Result.andThen_ok, hck, Sem.run_pure]
        | some b =>
          obtain ⟨es, clock, res, he, hfn, HK⟩ := HS
          have hbb := hW.hsub _ _ he
          have hob := MapKept.run_getObj_map (P := P) hbb
          have h0 := MapKept.run_findKey (P := P) (w := w) hd hfn
          have hso : ∀ o', (setObj b o').run P w = .ok () { w with heap := w.heap.setIfInBounds b o' } := fun o' => MapKept.run_setObj_map o' hbb
          have fin : ∀ {o' : Obj}, holds P R (k (st.setT dst undS)) G L (h.put b o') → N' (a.put dst (.tuple #[])) { w with heap := w.heap.setIfInBounds b o' } := fun {o'} HK =>
            hk _ _ _ _ _ _ (hA.put dst hrel) (by rw [hch]; exact hW.setMap he) HK
          cases res with
          | none =>
            refine exec ?_ (fin HK)
            simp only [Builtin.delete_, List.getElem?_toArray, List.getElem?_cons_zero, List.getElem?_cons_succ, Sem.run_bind, run_underlying hu, Result.andThen_ok, hck, hob, h0, hso, Sem.run_pure]
          | some iv =>
            obtain ⟨j, v0⟩ := iv
            refine exec ?_ (fin HK)
            simp only [Builtin.delete_, List.getElem?_toArray, List.getElem?_cons_zero, List.getElem?_cons_succ, Sem.run_bind, run_underlying hu, Result.andThen_ok, hck, hob, h0, hso, Sem.run_pure]
      · exact HH.elim
    · exact HH.elim
  · exact HH.elim
def bstrS (P : Program) (st : St) (g : X) (s d : TypeId) (x : Operand) (dst : Option Tmp) (k : St → Out) : Out :=
  match P.underlying s, P.underlying d with
  | some (.slice e), some .string => (match P.underlying e, lenX st (st.opr g x) with
    | some (.int .u8), some _ => if closed (st.opr g x) && st.scOk then
        .bstr (st.opr g x) (k (({ st with sh := st.sh ++ [.str] } : St).setT dst (.str (.var st.sh.length)))) else .fail
    | _, _ => .fail)
  | _, _ => .fail
theorem bstrS_sound (hA : SatA G E st a) (hW : SatW B G E h st.ch w) (hg : vb (g.den G) = true) {s d : TypeId} {x : Operand} (HH : holds P R (bstrS P st g s d x dst k) G L h)
    (hk : ∀ (G : List Value) (E : Nat → CE) (h : Go.Proofs.YtbgfabppmobpgaaDoor.H) (st : St) (a : Act) (w : World), SatA G E st a → SatW B G E h st.ch w → holds P R (k st) G L h → N' a w) :
    (⟨dst, .convert s d x, ty, pos, after, guard⟩ : Oper).wp P a w N' Q := by
  unfold bstrS at HH
  split at HH
  · rename_i e hs hd
    split at HH
    · rename_i le he hle
      split at HH
      · rename_i hb
        simp only [Bool.and_eq_true] at hb
        obtain ⟨hcl, hsc⟩ := hb
        obtain ⟨ad, n, c, hv, hf, hnc⟩ := slice_fits (E := E) hA hle hcl
        have hp : (st.opr g x).plain = true := by obtain ⟨_, _, _, _, _, hp⟩ := lenX_den (E := E) hA hle; exact hp
        have ex := opr_den hA hg rfl hp
        rw [hv] at ex
        have gx : (st.opr g x).den G dE = .slice ad n c := by rw [← closed_den (E := E) hcl]; exact hv
        obtain ⟨l, hl, HK⟩ := HH
        rw [gx] at hl
        have hrun : (convert s d (.slice ad n c)).run P w = .ok (.string (strOfNums l)) w := by
          cases ad with
          | none =>
            obtain ⟨h1, h2⟩ := hl
            subst h1
            rw [run_convert_bytes_string w s d e none n c hs he hd]
            simp [Conv.bytesToString]
            rfl
          | some b =>
            obtain ⟨h1, h2⟩ := hl
            have hld : (loadCells b n).run P w = .ok (l.map (Value.int .u8)).toArray w := by
              have := run_loadCells_list (P := P) w b (l.map (Value.int .u8)) (fun i v hv => H.sub_cell hW.hsub (h2 i v hv))
              simpa [h1] using this
            rw [run_convert_bytes_string w s d e (some b) n c hs he hd, run_bytesToString w b n c l hld, foldl_push_bytes]
            simp [strOfNums, ByteArray.empty, ByteArray.emptyWithCapacity]
            rfl
        unfold Oper.wp
        have hx : (execOp a.eval ⟨dst, .convert s d x, ty, pos, after, guard⟩).run P w = .ok (.value (.string (strOfNums l))) w := by
          simp only [execOp, ex, Sem.run_bind, hrun, Result.andThen_ok, Sem.run_pure]
        rw [hx, Oper.upon_value]
        have hgv : ∀ u : Value, gv (G ++ [u]) G.length = u := fun u => by simp [gv, List.getD_eq_getElem?_getD]
        have hrel : Rel (G ++ [.string (strOfNums l)]) E (.string (strOfNums l)) (.str (.var st.sh.length)) := by
          refine Rel.of (fun _ => ?_) (by intro g t e; cases e)
          show _ = Value.string (vs (gv _ _))
          rw [hA.len, hgv]; rfl
        exact hk _ _ _ _ _ _ ((hA.extend hsc (shs := [.str]) (xs := [_]) ⟨⟨_, rfl⟩, trivial⟩).put dst hrel) (by
          have : (({ st with sh := st.sh ++ [.str] } : St).setT dst (.str (.var st.sh.length))).ch = st.ch := by cases dst <;> rfl
          rw [this]; exact hW.extend hA hsc _) HK
      · exact HH.elim
    · exact HH.elim
  · exact HH.elim
end
end Go.Proofs.YtbgfabppmobpgaaDoor
