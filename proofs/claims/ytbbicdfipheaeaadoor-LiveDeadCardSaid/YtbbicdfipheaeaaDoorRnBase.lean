/-
  Words for runs. Conditions: none (plain lemmas).
-/
import Derived.Test.YtbbicdfipheaeaaDoorInsL
import Derived.Test.YtbbicdfipheaeaaDoorR5Tr2
set_option linter.unusedVariables false
set_option linter.unusedSimpArgs false
namespace Go.Proofs.YtbbicdfipheaeaaDoor
open Go

theorem Reads.sub {h : H} {a : Addr} {c xs : List Value} {o : Nat} (hr : Reads h a c) (hx : ∀ j u, xs[j]? = some u → c[o + j]? = some u) : Reads h (a.add o) xs := fun j u hj => by
  rw [add_add]; exact hr _ _ (hx j u hj)
theorem again_of {P : Program} {R : Value → List (List Value) → H → Prop} {G : List Value} {L : Lv} {h : H} {lvl : Nat} {l : List SV} {xs : List Value} {J : List Value → H → Prop} (e : SV.denL G dE l = xs) (hL : L[lvl]? = some J) (hj : J xs h) :
    holds P R (.again lvl l) G L h := by
  show Lv.at L lvl _ h
  unfold Lv.at
  rw [hL, e]; exact hj
theorem ofM_zeroJ {x : Ins} {n : Int} (h : ofM x n = 0) : x.args.length ≤ 3 ∧ ∀ y ∈ namedM x, 0 ≤ y ∧ y < n := by
  unfold ofM at h
  split at h
  · cases h
  · split at h
    · cases h
    · split at h
      · rename_i h1 h2 h3
        refine ⟨by omega, fun y hy => ?_⟩
        have := List.all_eq_true.1 h3 y hy
        simpa [inR] using this
      · cases h
def faultG (f : Int × Int × Int) : List Value := [.int .i64 f.1, .int .i64 f.2.1, .int .i64 f.2.2]
theorem faultG_fit (f : Int × Int × Int) : FitsL [.int .i64, .int .i64, .int .i64] (faultG f) := ⟨⟨_, rfl⟩, ⟨_, rfl⟩, ⟨_, rfl⟩, trivial⟩
end Go.Proofs.YtbbicdfipheaeaaDoor
