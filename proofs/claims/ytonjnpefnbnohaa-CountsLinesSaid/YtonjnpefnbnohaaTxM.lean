/- Small helps for walked functions. -/
import Derived.Test.YtonjnpefnbnohaaTxX
namespace Go.Mx
def tyAt : List Ty → Nat → Ty
  | [], _ => .un
  | t :: _, 0 => t
  | _ :: r, n + 1 => tyAt r n
end Go.Mx
namespace Go.Mx
theorem br' {α : Type} {b : Bool} {X Y : α} {K : α → Prop} {P Q : Prop} (h : K (cond b X Y)) (hP : b = true → K X → P) (hQ : b = false → K Y → Q) : (b = true → P) ∧ (b = false → Q) :=
  ⟨fun e => hP e (by rw [e] at h; exact h), fun e => hQ e (by rw [e] at h; exact h)⟩
theorem conj_of {l : List Prop} (h : ∀ p ∈ l, p) : conj l True := conj_iff.2 ⟨h, trivial⟩
end Go.Mx
namespace Go.Mx
abbrev lenOk {α : Type} (l : List α) : Prop := (l.length : Int) ≤ 9223372036854775806
theorem lenOk_of {α : Type} {l : List α} (n : Nat) (h : l.length = n) (hn : n ≤ 1000000) : lenOk l := by unfold lenOk; omega
end Go.Mx
namespace Go.Mx
theorem loop_mono {σ : Type} {b b' : σ → (σ → Prop) → Prop} (h : ∀ (y : σ) (k k' : σ → Prop), (∀ x, k x → k' x) → b y k → b' y k') : ∀ (n : Nat) (y : σ), loopP b n y → loopP b' n y
  | 0, _, hn => hn
  | n + 1, y, hn => h y _ _ (loop_mono h n) hn
end Go.Mx
namespace Go.Mx
inductive Tf (F : TFn) (A : Nat → Ty) (C : Cons) (ps rs : List PSh) (x : (tyPs ps).den) (K : (tyPs rs).den → Prop) : Prop
  | mk (h : tfn F A C ps rs x K) : Tf F A C ps rs x K
theorem tf_of {F : TFn} {A : Nat → Ty} {C : Cons} {ps rs : List PSh} {x : (tyPs ps).den} {K : (tyPs rs).den → Prop} {p : Prop} (e : tfn F A C ps rs x K = p) (h : p) : Tf F A C ps rs x K := .mk (by rw [e]; exact h)
theorem ret_tf {P : Program} {f : FuncId} {F : TFn} (hc : cFn P f = some F.erase) {A : Nat → Ty} {C : Cons} (hC : ConsOk P C) {ps rs : List PSh} {x : (tyPs ps).den} {y : (tyPs rs).den} (h : Tf F A C ps rs x (fun z => z = y)) : Ret P f (valPs ps x) (valR rs y) := by
  cases h with | mk h => exact ret_tfn hc hC h
end Go.Mx
