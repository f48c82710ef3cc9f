/- Layers of the walk: abstract values, operations, calls, loops, and what they do. No condition. -/
import Derived.Test.YtcdbaepeabefnaaMxU
import Derived.Test.YtcdbaepeabefnaaMxW
namespace Go.Mx
theorem ju4 [Laid] {m:Nat} (st:St):Weak m st st := fun _ _ _ _ Φ _ _ _ h => ⟨Φ,h⟩
theorem jGz {n:Int} (h1 : -9223372036854775808≤n) (h2:n≤9223372036854775807):IntKind.i64.wrap n = n := by
 have e:IntKind.i64.wrap n = (if decide (n % 18446744073709551616 ≥ 9223372036854775808) = true then n % 18446744073709551616 - 18446744073709551616 else n % 18446744073709551616) := rfl
 rw [e]
 simp only [decide_eq_true_eq]
 split <;> omega

section
variable {hp:List Blk}
theorem jop {k:Nat}:∀ (es:List (List Pv)),(∀ e∈es,e.length = k)→jbd k es.length es.flatten = es
 | [],_ => rfl
 | e :: r,h => by
  have he:e.length = k := h e (by simp)
  have h1:(e ++ r.flatten).take k = e := by rw [← he]; simp
  have h2:(e ++ r.flatten).drop k = r.flatten := by rw [← he]; simp
  simp only [List.length_cons,jbd,List.flatten_cons,h1,h2]
  rw [jop r (fun e he => h e (by simp [he]))]
theorem jcM:∀ (ps:List Pv),allP (ps.map .p) = some ps
 | [] => rfl
 | x :: r => by simp only [List.map_cons,allP,jcM r]; rfl
theorem jdY {k:Nat}:∀ (es:List (List Pv)),(∀ e∈es,e.length = k)→es.flatten.length = es.length * k
 | [],_ => by simp
 | e :: r,h => by
  rw [List.flatten_cons,List.length_append,jdY r (fun e he => h e (by simp [he])),h e (by simp),List.length_cons,Nat.succ_mul]; omega
theorem jGA {k t ver:Nat} {b:Blk} {es:List (List Pv)} (hb:hp[t]? = some b) (hv:b.ver = ver) (hok:b.st.ok = true) (hcs:b.cs = es.flatten.map .p) (hk:∀ e∈es,e.length = k):jaR hp k (.ref t ver 0 es.length k) = some es := by
 have hl := jdY es hk
 simp only [jaR,hb]
 rw [if_pos ⟨hv,hok,trivial,by rw [hcs,List.length_map,hl]; omega⟩,hcs,List.drop_zero,List.take_of_length_le (by rw [List.length_map,hl]; omega),jcM]
 simp only [Option.map_some,jop es hk]
end
end Go.Mx
