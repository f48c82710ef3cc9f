/- Layers of the walk: abstract values, operations, calls, loops, and what they do. No condition. -/
import Derived.Test.YtepdfhjmngbhhaaGreatDoorMxU
import Derived.Test.YtepdfhjmngbhhaaGreatDoorMxW
namespace Go.Mx
theorem weak_refl [Laid] {m:Nat} (st:St):Weak m st st := fun _ _ _ _ Φ _ _ _ h => ⟨Φ,h⟩
theorem m_wrap {n:Int} (h1 : -9223372036854775808≤n) (h2:n≤9223372036854775807):IntKind.i64.wrap n = n := by
 have e:IntKind.i64.wrap n = (if decide (n % 18446744073709551616 ≥ 9223372036854775808) = true then n % 18446744073709551616 - 18446744073709551616 else n % 18446744073709551616) := rfl
 rw [e]
 simp only [decide_eq_true_eq]
 split <;> omega

section
variable {hp:List Blk}
theorem chunk_flat {k:Nat}:∀ (es:List (List Pv)),(∀ e∈es,e.length = k)→chunk k es.length es.flatten = es
 | [],_ => rfl
 | e :: r,h => by
  have he:e.length = k := h e (by simp)
  have h1:(e ++ r.flatten).take k = e := by rw [← he]; simp
  have h2:(e ++ r.flatten).drop k = r.flatten := by rw [← he]; simp
  simp only [List.length_cons,chunk,List.flatten_cons,h1,h2]
  rw [chunk_flat r (fun e he => h e (by simp [he]))]
theorem allP_mapP:∀ (ps:List Pv),allP (ps.map .p) = some ps
 | [] => rfl
 | x :: r => by simp only [List.map_cons,allP,allP_mapP r]; rfl
theorem flat_len {k:Nat}:∀ (es:List (List Pv)),(∀ e∈es,e.length = k)→es.flatten.length = es.length * k
 | [],_ => by simp
 | e :: r,h => by
  rw [List.flatten_cons,List.length_append,flat_len r (fun e he => h e (by simp [he])),h e (by simp),List.length_cons,Nat.succ_mul]; omega
theorem m_sliceP_ref {k t ver:Nat} {b:Blk} {es:List (List Pv)} (hb:hp[t]? = some b) (hv:b.ver = ver) (hok:b.st.ok = true) (hcs:b.cs = es.flatten.map .p) (hk:∀ e∈es,e.length = k):sliceP hp k (.ref t ver 0 es.length k) = some es := by
 have hl := flat_len es hk
 simp only [sliceP,hb]
 rw [if_pos ⟨hv,hok,trivial,by rw [hcs,List.length_map,hl]; omega⟩,hcs,List.drop_zero,List.take_of_length_le (by rw [List.length_map,hl]; omega),allP_mapP]
 simp only [Option.map_some,chunk_flat es hk]
end
end Go.Mx
