/- Layers of the walk: abstract values, operations, calls, loops, and what they do. No condition. -/
import Derived.Test.YtepdfhjmngbhhaaGreatDoorMxS
namespace Go.Mx
variable [Laid]
open Go.RowKit
section
variable {P:Program} {l:Nat} {vs:List (List V)} {tr:Option Nat} {st:St} {r:List AIns} {K:Option Nat→St→Prop} {d:Option Nat}

theorem y_op {o:AOp} {v:V} {hp' : List Blk} (h:astep st.hp st.get o = some (v,hp')) (k:YRun P l vs r tr (St.put ⟨st.ts,hp'⟩ d v) K):YRun P l vs (⟨d,none,.op o⟩ :: r) tr st K := ⟨v,hp',h,k⟩
theorem y_gdo {o:AOp} {g:Nat} {want:Bool} {v:V} {hp' : List Blk} (hg:st.get (.t g) = .p (.bool want)) (h:astep st.hp st.get o = some (v,hp')) (k:YRun P l vs r tr (St.put ⟨st.ts,hp'⟩ d v) K):YRun P l vs (⟨d,some (some g,want),.op o⟩ :: r) tr st K := by
 simp only [YRun,hg,if_true]
 exact ⟨v,hp',h,k⟩
theorem y_gskip {o:AI} {g:Nat} {want b:Bool} (hg:st.get (.t g) = .p (.bool b)) (hb:b ≠ want) (k:YRun P l vs r tr (st.put d .no) K):YRun P l vs (⟨d,some (some g,want),o⟩ :: r) tr st K := by
 simp only [YRun,hg,if_neg hb]
 exact k
theorem y_yield {s:Nat} {x:Opd} {args:List Opd} {k:Nat} {xs:List V} (hx:st.get x = .yld l) (hv:vs[k]? = some xs) (hp:optAll (pur st.hp) (args.map st.get) = some xs)
  (ht:YRun P l vs r (some (k + 1)) (St.put ⟨st.ts,Sheds st.hp⟩ d (.p (.bool true))) K) (hf:YRun P l vs r none (St.put ⟨st.ts,Sheds st.hp⟩ d (.p (.bool false))) K):YRun P l vs (⟨d,none,.callv s x args⟩ :: r) (some k) st K := by
 simp only [YRun,YStep,hx]
 exact ⟨trivial,k,xs,rfl,hv,hp,ht,hf⟩
theorem y_gyield {s:Nat} {x:Opd} {args:List Opd} {k g:Nat} {want:Bool} {xs:List V} (hg:st.get (.t g) = .p (.bool want)) (hx:st.get x = .yld l) (hv:vs[k]? = some xs) (hp:optAll (pur st.hp) (args.map st.get) = some xs)
  (ht:YRun P l vs r (some (k + 1)) (St.put ⟨st.ts,Sheds st.hp⟩ d (.p (.bool true))) K) (hf:YRun P l vs r none (St.put ⟨st.ts,Sheds st.hp⟩ d (.p (.bool false))) K):YRun P l vs (⟨d,some (some g,want),.callv s x args⟩ :: r) (some k) st K := by
 simp only [YRun,hg,if_true,YStep,hx]
 exact ⟨trivial,k,xs,rfl,hv,hp,ht,hf⟩
theorem y_cond {c:Opd} {x y:ACode} {b:Bool} {Q:Option Nat→AEx→St→Prop} (hc:st.get c = .p (.bool b)) (h:if b = true then YWp P l vs x Q tr st else YWp P l vs y Q tr st):YWp P l vs (.cond c x y) Q tr st := by
 simp only [YWp,hc]; exact h

theorem y_opw {o:AOp} {kk:IntKind} {n n' : Int} {hp' : List Blk} (hn:n = n') (h:astep st.hp st.get o = some (.p (.int kk n),hp')) (k:YRun P l vs r tr (St.put ⟨st.ts,hp'⟩ d (.p (.int kk n'))) K):YRun P l vs (⟨d,none,.op o⟩ :: r) tr st K := ⟨_,hp',h,hn ▸ k⟩
omit [Laid] in
theorem astep_ld1 {x:Opd} {hp:List Blk} {g:Opd→V} {t ver o:Nat} {b:Blk} {v:V} (hx:g x = .ptr t ver o) (hb:hp[t]? = some b) (h1:b.ver = ver) (h2:b.st.ok = true) (h3:b.cs[o]? = some v):astep hp g (.ld1 x) = some (v,hp) := by
 have hlt:o < b.cs.length := (List.getElem?_eq_some_iff.1 h3).1
 simp only [astep,hx,behind,hb]
 rw [if_pos ⟨h1,h2,Nat.le_of_lt hlt⟩]
 simp only [List.getElem?_drop,Nat.add_zero,h3,Option.map_some]
omit [Laid] in
theorem astep_st {n:Nat} {x y:Opd} {hp:List Blk} {g:Opd→V} {t ver o:Nat} {b:Blk} {vs:List V} (hx:g x = .ptr t ver o) (hy:cellsV (g y) = some vs) (hb:hp[t]? = some b) (h1:b.ver = ver) (h2:b.st.isLive = true) (h3:vs.length = n) (h4:o + n≤b.cs.length) (h5:vs.all okCell = true) :
  astep hp g (.st n x y) = some (.und,hp.set t ⟨ver,.live,wr b.cs o vs⟩) := by
 simp only [astep,hx,hy,hb]
 rw [if_pos ⟨h1,h2,h3,h4,h5⟩]
theorem y_ld1 {x:Opd} {t ver o:Nat} {b:Blk} {v:V} (hx:st.get x = .ptr t ver o) (hb:st.hp[t]? = some b) (h1:b.ver = ver) (h2:b.st.ok = true) (h3:b.cs[o]? = some v) (k:YRun P l vs r tr (St.put ⟨st.ts,st.hp⟩ d v) K):YRun P l vs (⟨d,none,.op (.ld1 x)⟩ :: r) tr st K :=
 y_op (astep_ld1 hx hb h1 h2 h3) k
theorem y_gld1 {x:Opd} {g:Nat} {want:Bool} {t ver o:Nat} {b:Blk} {v:V} (hg:st.get (.t g) = .p (.bool want)) (hx:st.get x = .ptr t ver o) (hb:st.hp[t]? = some b) (h1:b.ver = ver) (h2:b.st.ok = true) (h3:b.cs[o]? = some v) (k:YRun P l vs r tr (St.put ⟨st.ts,st.hp⟩ d v) K):YRun P l vs (⟨d,some (some g,want),.op (.ld1 x)⟩ :: r) tr st K :=
 y_gdo hg (astep_ld1 hx hb h1 h2 h3) k
theorem y_st {n:Nat} {x y:Opd} {t ver o:Nat} {b:Blk} {ws:List V} (hx:st.get x = .ptr t ver o) (hy:cellsV (st.get y) = some ws) (hb:st.hp[t]? = some b) (h1:b.ver = ver) (h2:b.st.isLive = true) (h3:ws.length = n) (h4:o + n≤b.cs.length) (h5:ws.all okCell = true)
  (k:YRun P l vs r tr (St.put ⟨st.ts,st.hp.set t ⟨ver,.live,wr b.cs o ws⟩⟩ d .und) K):YRun P l vs (⟨d,none,.op (.st n x y)⟩ :: r) tr st K := y_op (astep_st hx hy hb h1 h2 h3 h4 h5) k
def skips:List AIns→St→St
 | [],st => st
 | i :: ops,st => skips ops (st.put i.dst .no)
def skipOk (g:Nat) (want:Bool):List AIns→Bool
 | [] => true
 | i :: ops => (match i.guard with | some (some g',w) => Nat.beq g' g && (w == want) | _ => false) && (match i.dst with | some d => !Nat.beq d g | none => true) && skipOk g want ops
omit [Laid] in
theorem put_get_ne {st:St} {dd:Option Nat} {v:V} {g:Nat} (h:dd ≠ some g):(st.put dd v).get (.t g) = st.get (.t g) := by
 cases dd with
 | none => rfl
 | some k =>
  simp only [St.put,St.get,List.getElem?_set]
  rw [if_neg (fun e => h (by rw [e]))]
theorem y_skips {g:Nat} {want b:Bool}:∀ (ops:List AIns) {st:St},skipOk g want ops = true→st.get (.t g) = .p (.bool b)→b ≠ want→YRun P l vs r tr (skips ops st) K→YRun P l vs (ops ++ r) tr st K
 | [],st,_,_,_,k => k
 | ⟨dd,gg,o⟩ :: ops,st,ho,hg,hb,k => by
  simp only [skipOk,Bool.and_eq_true] at ho
  obtain ⟨⟨h1,h2⟩,h3⟩ := ho
  match gg,h1 with
  | some (some g',w),h1 =>
   simp only [Bool.and_eq_true,beq_iff_eq] at h1
   have e1 := Nat.eq_of_beq_eq_true h1.1
   have e2 := h1.2
   subst e1 e2
   refine y_gskip hg hb (y_skips ops h3 ?_ hb k)
   rw [put_get_ne (fun e => ?_)]
   ·exact hg
   ·subst e; simp at h2
theorem y_at {st' : St} {tr:Option Nat} (h:st = st') (k:YRun P l vs r tr st' K):YRun P l vs r tr st K := h ▸ k
theorem y_reg {ops:List AIns} {Q:Option Nat→AEx→St→Prop} (h:YRun P l vs ops tr st (fun tr s => Q tr .normal s)):YWp P l vs (.reg ops) Q tr st := h
theorem y_seq {x y:ACode} {Q:Option Nat→AEx→St→Prop} (h:YWp P l vs x (YEx.seq (YWp P l vs y Q) Q) tr st):YWp P l vs (.seq x y) Q tr st := h
theorem y_block {id:Nat} {x:ACode} {Q:Option Nat→AEx→St→Prop} (h:YWp P l vs x (fun tr => AEx.blk id (Q tr)) tr st):YWp P l vs (.block id x) Q tr st := h
theorem y_skip {Q:Option Nat→AEx→St→Prop} (h:Q tr .normal st):YWp P l vs .skip Q tr st := h
theorem y_ret {Q:Option Nat→AEx→St→Prop} (h:Q tr .ret st):YWp P l vs .ret Q tr st := h
theorem y_exit {id:Nat} {Q:Option Nat→AEx→St→Prop} (h:Q tr (.exit id) st):YWp P l vs (.exit id) Q tr st := h
theorem y_end {K:Option Nat→St→Prop} (h:K tr st):YRun P l vs [] tr st K := h
omit [Laid] in
theorem y_next {next:Option Nat→St→Prop} {Q:Option Nat→AEx→St→Prop} (h:next tr st):YEx.seq next Q tr .normal st := h
omit [Laid] in
theorem y_bnorm {id:Nat} {Q:AEx→St→Prop} {s:St} (h:Q .normal s):AEx.blk id Q .normal s := h
theorem y_unr {x:ACode} {Q:Option Nat→AEx→St→Prop} {n:Nat} (h:YWp P l vs x (YEx.seq (YUnr P l vs x Q n) Q) tr st):YUnr P l vs x Q (n + 1) tr st := h

end
end Go.Mx
