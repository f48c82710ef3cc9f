/- Layers of the walk: abstract values, operations, calls, loops, and what they do. No condition. -/
import Derived.Test.YtfapfcjioianbaaDoorMxW
namespace Go.Mx
variable [Laid]
open Go.RowKit
section
variable {P:Program} {m:Nat} {st:St} {r:List AIns} {K:St→Prop} {d:Option Nat}
theorem a_op {o:AOp} {v:V} {hp' : List Blk} (h:astep st.hp st.get o = some (v,hp')) (k:ARun P m r (St.put ⟨st.ts,hp'⟩ d v) K):ARun P m (⟨d,none,.op o⟩ :: r) st K := ⟨v,hp',h,k⟩
theorem a_opw {o:AOp} {kk:IntKind} {n n' : Int} {hp' : List Blk} (hn:n = n') (h:astep st.hp st.get o = some (.p (.int kk n),hp')) (k:ARun P m r (St.put ⟨st.ts,hp'⟩ d (.p (.int kk n'))) K):ARun P m (⟨d,none,.op o⟩ :: r) st K := ⟨_,hp',h,hn ▸ k⟩
theorem a_gdo {o:AOp} {g:Nat} {want:Bool} {v:V} {hp' : List Blk} (hg:st.get (.t g) = .p (.bool want)) (h:astep st.hp st.get o = some (v,hp')) (k:ARun P m r (St.put ⟨st.ts,hp'⟩ d v) K):ARun P m (⟨d,some (some g,want),.op o⟩ :: r) st K := by
 simp only [ARun,hg,if_true]
 exact ⟨v,hp',h,k⟩
theorem a_call {s:Nat} {f:FuncId} {args:List Opd} {as:List V} {v:V} (h:optAll (pur st.hp) (args.map st.get) = some as) (hm:(((args.map st.get).flatMap slots).all fun t => decide (m≤t)) = true) (hr:Ret P f as v) (k:ARun P m r (St.put ⟨st.ts,frzAll st.hp ((args.map st.get).flatMap slots)⟩ d v) K):ARun P m (⟨d,none,.call s f args⟩ :: r) st K :=
 ⟨v,_,.pure as v h hm hr,k⟩
theorem a_at {st' : St} (h:st = st') (k:ARun P m r st' K):ARun P m r st K := h ▸ k
theorem a_end (h:K st):ARun P m [] st K := h
theorem a_reg {ops:List AIns} {Q:AEx→St→Prop} (h:ARun P m ops st (Q .normal)):AWp P m (.reg ops) Q st := h
theorem a_seq {x y:ACode} {Q:AEx→St→Prop} (h:AWp P m x (AEx.seq (AWp P m y Q) Q) st):AWp P m (.seq x y) Q st := h
theorem a_block {id:Nat} {x:ACode} {Q:AEx→St→Prop} (h:AWp P m x (AEx.blk id Q) st):AWp P m (.block id x) Q st := h
theorem a_skip {Q:AEx→St→Prop} (h:Q .normal st):AWp P m .skip Q st := h
theorem a_ret {Q:AEx→St→Prop} (h:Q .ret st):AWp P m .ret Q st := h
theorem a_exit {id:Nat} {Q:AEx→St→Prop} (h:Q (.exit id) st):AWp P m (.exit id) Q st := h
omit [Laid] in
theorem a_next {next:St→Prop} {Q:AEx→St→Prop} (h:next st):AEx.seq next Q .normal st := h
omit [Laid] in
theorem a_bnorm {id:Nat} {Q:AEx→St→Prop} (h:Q .normal st):AEx.blk id Q .normal st := h
theorem a_unr {x:ACode} {Q:AEx→St→Prop} {n:Nat} (h:AWp P m x (AEx.seq (Unr P m x Q n) Q) st):Unr P m x Q (n + 1) st := h
theorem a_cond {c:Opd} {x y:ACode} {b:Bool} {Q:AEx→St→Prop} (hc:st.get c = .p (.bool b)) (h:if b = true then AWp P m x Q st else AWp P m y Q st):AWp P m (.cond c x y) Q st := by
 simp only [AWp,hc]; exact h
theorem a_regd {ops:List AIns} {pairs:List (Nat×Nat)} {Q:AEx→St→Prop} (h:ARunD P m pairs ops st [] (Q .normal)):AWp P m (.regd ops pairs) Q st := ⟨[],by simp,h⟩
theorem ad_op {o:AOp} {v:V} {hp' : List Blk} {pairs:List (Nat×Nat)} {F:List (List Nat×List Nat)} (h:astep st.hp st.get o = some (v,hp')) (k:ARunD P m pairs r (St.put ⟨st.ts,hp'⟩ d v) (F ++ [(touch st.get o,wrs st.get o)]) K):ARunD P m pairs (⟨d,none,.op o⟩ :: r) st F K := ⟨v,hp',h,k⟩
theorem ad_end {pairs:List (Nat×Nat)} {F:List (List Nat×List Nat)} (ho:okF F pairs = true) (h:K st):ARunD P m pairs [] st F K := ⟨ho,h⟩
end
end Go.Mx
