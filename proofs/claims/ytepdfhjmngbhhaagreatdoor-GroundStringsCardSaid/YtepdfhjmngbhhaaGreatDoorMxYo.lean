/- Layers of the walk: abstract values, operations, calls, loops, and what they do. No condition. -/
import Derived.Test.YtepdfhjmngbhhaaGreatDoorMxS
namespace Go.Mx
variable [Laid]
open Go.RowKit
section
variable {P:Program} {l:Nat} {vs:List (List V)} {tr:Option Nat} {st:St} {r:List AIns} {K:Option Nat→St→Prop} {d:Option Nat}

theorem y_op {o:AOp} {v:V} {hp' : List Blk} (h:astep st.hp st.get o = some (v,hp')) (k:YRun P l vs r tr (St.put ⟨st.ts,hp'⟩ d v) K):YRun P l vs (⟨d,none,.op o⟩ :: r) tr st K := ⟨v,hp',h,k⟩
theorem y_yield {s:Nat} {x:Opd} {args:List Opd} {k:Nat} {xs:List V} (hx:st.get x = .yld l) (hv:vs[k]? = some xs) (hp:optAll (pur st.hp) (args.map st.get) = some xs)
  (ht:YRun P l vs r (some (k + 1)) (St.put ⟨st.ts,Sheds st.hp⟩ d (.p (.bool true))) K) (hf:YRun P l vs r none (St.put ⟨st.ts,Sheds st.hp⟩ d (.p (.bool false))) K):YRun P l vs (⟨d,none,.callv s x args⟩ :: r) (some k) st K := by
 simp only [YRun,YStep,hx]
 exact ⟨trivial,k,xs,rfl,hv,hp,ht,hf⟩
theorem y_cond {c:Opd} {x y:ACode} {b:Bool} {Q:Option Nat→AEx→St→Prop} (hc:st.get c = .p (.bool b)) (h:if b = true then YWp P l vs x Q tr st else YWp P l vs y Q tr st):YWp P l vs (.cond c x y) Q tr st := by
 simp only [YWp,hc]; exact h

theorem y_opw {o:AOp} {kk:IntKind} {n n' : Int} {hp' : List Blk} (hn:n = n') (h:astep st.hp st.get o = some (.p (.int kk n),hp')) (k:YRun P l vs r tr (St.put ⟨st.ts,hp'⟩ d (.p (.int kk n'))) K):YRun P l vs (⟨d,none,.op o⟩ :: r) tr st K := ⟨_,hp',h,hn ▸ k⟩
theorem y_at {st' : St} {tr:Option Nat} (h:st = st') (k:YRun P l vs r tr st' K):YRun P l vs r tr st K := h ▸ k
theorem y_reg {ops:List AIns} {Q:Option Nat→AEx→St→Prop} (h:YRun P l vs ops tr st (fun tr s => Q tr .normal s)):YWp P l vs (.reg ops) Q tr st := h
theorem y_seq {x y:ACode} {Q:Option Nat→AEx→St→Prop} (h:YWp P l vs x (YEx.seq (YWp P l vs y Q) Q) tr st):YWp P l vs (.seq x y) Q tr st := h
theorem y_block {id:Nat} {x:ACode} {Q:Option Nat→AEx→St→Prop} (h:YWp P l vs x (fun tr => AEx.blk id (Q tr)) tr st):YWp P l vs (.block id x) Q tr st := h
theorem y_skip {Q:Option Nat→AEx→St→Prop} (h:Q tr .normal st):YWp P l vs .skip Q tr st := h
theorem y_ret {Q:Option Nat→AEx→St→Prop} (h:Q tr .ret st):YWp P l vs .ret Q tr st := h
theorem y_exit {id:Nat} {Q:Option Nat→AEx→St→Prop} (h:Q tr (.exit id) st):YWp P l vs (.exit id) Q tr st := h
theorem y_end {K:Option Nat→St→Prop} (h:K tr st):YRun P l vs [] tr st K := h
omit [Laid] in
theorem y_next {next:Option Nat→St→Prop} {Q:Option Nat→AEx→St→Prop} (h:next tr st):YEx.seq next Q tr .normal st := h
omit [Laid] in
theorem y_bnorm {id:Nat} {Q:AEx→St→Prop} {s:St} (h:Q .normal s):AEx.blk id Q .normal s := h
theorem y_unr {x:ACode} {Q:Option Nat→AEx→St→Prop} {n:Nat} (h:YWp P l vs x (YEx.seq (YUnr P l vs x Q n) Q) tr st):YUnr P l vs x Q (n + 1) tr st := h

end
end Go.Mx
