/- Layers of the walk: abstract values, operations, calls, loops, and what they do. No condition. -/
import Derived.Test.YtepdfhjmngbhhaaGreatDoorMxYo
import Derived.Test.YtepdfhjmngbhhaaGreatDoorLayB
namespace Go.Mx
variable [Laid]
open Go.RowKit
section
variable {P:Program}
omit [Laid] in
theorem purC_map {hp:List Blk}:∀ (ps:List Pv),optAll (purC hp) (ps.map .p) = some ps
 | [] => rfl
 | p :: r => by simp only [List.map_cons,optAll,purC,purC_map r]
omit [Laid] in
theorem frzAll_keep {cs:List V}:∀ (ts:List Nat) (hp:List Blk) (u:Nat) (b:Blk),hp[u]? = some b→b.ver = 1→b.st.ok = true→b.cs = cs→∃ b',(frzAll hp ts)[u]? = some b'∧b'.ver = 1∧b'.st.ok = true∧b'.cs = cs
 | [],_,_,b,h,h1,h2,h3 => ⟨b,h,h1,h2,h3⟩
 | t :: ts,hp,u,b,h,h1,h2,h3 => by
  rw [frzAll]
  by_cases e:u = t
  ·subst e
   unfold frz1
   rw [h]
   simp only
   split
   ·refine frzAll_keep ts _ u ⟨b.ver,.frozen,b.cs⟩ ?_ h1 rfl h3
    rw [List.getElem?_set,if_pos rfl,if_pos (List.getElem?_eq_some_iff.1 h).1]
   ·exact frzAll_keep ts _ u b h h1 h2 h3
  ·exact frzAll_keep ts _ u b (by rw [frz1_other' e]; exact h) h1 h2 h3
def v_back (es:List (List Pv)):List (List V) :=
 (List.range es.length).map fun (k:Nat) => [.p (.int .i64 ((es.length:Int) - 1 - (k:Int))),.agg ((es.getD (es.length - 1 - k) []).map .p)]
abbrev bk_loop (c:Nat):ACode := (.seq (.seq (.reg [⟨some 7,none,(.op (.mv (.t 3)))⟩,
  ⟨some 8,none,(.op (.bin .geq (.t 7) (.c (.p (.int .i64 0)))))⟩])
 (.cond (.t 8) .skip (.exit 0)))
 (.seq (.block 1 (.seq (.reg [⟨some 11,none,(.op (.mv (.t 0)))⟩,
  ⟨some 12,none,(.op (.mv (.t 3)))⟩,
  ⟨some 13,none,(.op (.ld1 (.t 1)))⟩,
  ⟨some 14,none,(.op (.mv (.t 3)))⟩,
  ⟨some 15,none,(.op (.ia c (.t 13) (.t 14)))⟩,
  ⟨some 16,none,(.op (.ldn c (.t 15)))⟩,
  ⟨some 17,none,(.callv 0 (.t 11) [(.t 12),(.t 16)])⟩,
  ⟨some 18,none,(.op (.unot (.t 17)))⟩])
 (.cond (.t 18) .ret .skip)))
 (.reg [⟨some 9,none,(.op (.mv (.t 3)))⟩,
  ⟨some 10,none,(.op (.bin .sub (.t 9) (.c (.p (.int .i64 1)))))⟩,
  ⟨some 3,none,(.op (.mv (.t 10)))⟩])))
abbrev bk_code (c:Nat):ACode := (.seq (.reg [⟨some 4,none,(.op (.ld1 (.t 1)))⟩,
  ⟨some 5,none,(.op (.len false (.t 4)))⟩,
  ⟨some 6,none,(.op (.bin .sub (.t 5) (.c (.p (.int .i64 1)))))⟩,
  ⟨some 3,none,(.op (.mv (.t 6)))⟩])
 (.block 0 (.loop (bk_loop c))))

theorem it_back {f:FuncId} {c:Nat} (hf:cFn P f = some ⟨19,1,[],bk_code c⟩) (es:List (List Pv)) (full:Bool) (hc:∀ e∈es,e.length = c) (hl:es.length≤4611686018427387904) (hlt:Nat.blt f 1000000000 = true := by rfl):Iter P f [[.sl c es full]] (v_back es) := by
 refine iter_of hf rfl (fun l => ?_) hlt
 generalize hQ:(fun (tr:Option Nat) (e:AEx) (_:St) => (∀ id,e ≠ .exit id)∧(tr = some (v_back es).length ∨ tr = none)) = Q
 generalize hm:es.length = m
 have hlen:(v_back es).length = m := by simp [v_back,hm]
 have hend:∀ s,Q (some m) .normal s := fun s => by rw [← hQ]; exact ⟨(fun _ h => by cases h),.inl (by rw [hlen])⟩
 have hend2:∀ s,Q none .ret s := fun s => by rw [← hQ]; exact ⟨(fun _ h => by cases h),.inr rfl⟩
 have w1:IntKind.i64.wrap ((es.length:Int) - 1) = (m:Int) - 1 - (0:Nat) := by rw [wrap_id (by omega) (by omega)]; omega
 -- the loop
 have loop:∀ (n k:Nat) (v2 v4 v5 v6 v7 v8 v9 v10 v11 v12 v13 v14 v15 v16 v17 v18:V),n + k = m + 1→k≤m →
   YUnr P l (v_back es) (bk_loop c) (fun tr => AEx.blk 0 (Q tr)) n (some k) ⟨[.yld l,.ipt [.sl c es full],v2,.p (.int .i64 ((m:Int) - 1 - (k:Nat))),v4,v5,v6,v7,v8,v9,v10,v11,v12,v13,v14,v15,v16,v17,v18],[⟨0,.dead,[]⟩]⟩ := by
  intro n
  induction n with
  | zero => intro k; intros; omega
  | succ n ih =>
   intro k v2 v4 v5 v6 v7 v8 v9 v10 v11 v12 v13 v14 v15 v16 v17 v18 hk hk2
   refine y_unr (y_seq (y_seq (y_reg (y_op rfl (y_op rfl (y_end (y_next (y_cond rfl ?_))))))))
   by_cases hkm:k < m
   ·have hge:decide ((m:Int) - 1 - (k:Nat) ≥ 0) = true := decide_eq_true (by omega)
    rw [if_pos hge]
    have w5:IntKind.i64.wrap ((m:Int) - 1 - (k:Nat) - 1) = (m:Int) - 1 - ((k + 1:Nat):Int) := by rw [wrap_id (by omega) (by omega)]; omega
    have hidx:((m:Int) - 1 - (k:Nat)).toNat = m - 1 - k := by omega
    have hel:(es.getD (m - 1 - k) []).length = c := by
     have hlt:m - 1 - k < es.length := by omega
     rw [List.getD_eq_getElem?_getD,List.getElem?_eq_getElem hlt]
     exact hc _ (List.getElem_mem hlt)
    have e15:∀ g:Opd→V,∀ hp,g (.t 13) = .p (.sl c es full)→g (.t 14) = .p (.int .i64 ((m:Int) - 1 - (k:Nat)))→astep hp g (.ia c (.t 13) (.t 14)) = some (.ipt (es.getD (m - 1 - k) []),hp) := by
     intro g hp h1 h2
     simp only [astep,h1,h2]
     rw [if_pos ⟨by omega,by omega,trivial⟩,hidx]
    have e16:∀ g:Opd→V,∀ hp,g (.t 15) = .ipt (es.getD (m - 1 - k) [])→astep hp g (.ldn c (.t 15)) = some (.agg ((es.getD (m - 1 - k) []).map .p),hp) := by
     intro g hp h1
     simp only [astep,h1,behind]
     rw [if_pos (by rw [List.length_map,hel]; exact Nat.le_refl _),List.take_of_length_le (by rw [List.length_map,hel]; exact Nat.le_refl _)]
    refine y_skip (y_next (y_seq (y_block (y_seq (y_reg ?_)))))
    refine y_op rfl (y_op rfl (y_op rfl (y_op rfl (y_op (e15 _ _ rfl rfl) (y_op (e16 _ _ rfl) ?_)))))
    refine y_yield (k := k) (xs := [.p (.int .i64 ((m:Int) - 1 - (k:Nat))),.agg ((es.getD (m - 1 - k) []).map .p)]) rfl ?_ ?_ ?_ ?_
    ·unfold v_back; rw [hm,List.getElem?_map,List.getElem?_range hkm]; rfl
    ·show optAll (pur _) [V.p (.int .i64 ((m:Int) - 1 - (k:Nat))),.agg ((es.getD (m - 1 - k) []).map .p)] = _
     simp only [optAll,pur,purC_map]
     rfl
    ·refine y_at (st' := ⟨[.yld l,.ipt [.sl c es full],v2,.p (.int .i64 ((m:Int) - 1 - (k:Nat))),v4,v5,v6,.p (.int .i64 ((m:Int) - 1 - (k:Nat))),.p (.bool (decide ((m:Int) - 1 - (k:Nat) ≥ 0))),v9,v10,.yld l,.p (.int .i64 ((m:Int) - 1 - (k:Nat))),.p (.sl c es full),.p (.int .i64 ((m:Int) - 1 - (k:Nat))),.ipt (es.getD (m - 1 - k) []),.agg ((es.getD (m - 1 - k) []).map .p),.p (.bool true),v18],[⟨0,.dead,[]⟩]⟩) rfl ?_
     refine y_op rfl (y_end (y_next (y_cond (b := false) rfl ?_)))
     rw [if_neg (by decide)]
     refine y_skip (y_bnorm (y_next (y_reg (y_op rfl (y_opw w5 rfl (y_op rfl (y_end (y_next ?_))))))))
     exact ih (k + 1) _ _ _ _ _ _ _ _ _ _ _ _ _ _ _ _ (by omega) (by omega)
    ·refine y_at (st' := ⟨[.yld l,.ipt [.sl c es full],v2,.p (.int .i64 ((m:Int) - 1 - (k:Nat))),v4,v5,v6,.p (.int .i64 ((m:Int) - 1 - (k:Nat))),.p (.bool (decide ((m:Int) - 1 - (k:Nat) ≥ 0))),v9,v10,.yld l,.p (.int .i64 ((m:Int) - 1 - (k:Nat))),.p (.sl c es full),.p (.int .i64 ((m:Int) - 1 - (k:Nat))),.ipt (es.getD (m - 1 - k) []),.agg ((es.getD (m - 1 - k) []).map .p),.p (.bool false),v18],[⟨0,.dead,[]⟩]⟩) rfl ?_
     refine y_op rfl (y_end (y_next (y_cond (b := true) rfl ?_)))
     rw [if_pos rfl]
     exact y_ret (hend2 _)
   ·have hge:decide ((m:Int) - 1 - (k:Nat) ≥ 0) = false := decide_eq_false (by omega)
    rw [if_neg (by rw [hge]; decide)]
    have hk:k = m := by omega
    subst hk
    exact y_exit (hend _)
 refine y_seq (y_reg (y_op rfl (y_op rfl (y_opw w1 rfl (y_op rfl (y_end (y_next (y_block (y_loop (m + 1) ?_)))))))))
 exact loop (m + 1) 0 _ _ _ _ _ _ _ _ _ _ _ _ _ _ _ _ (by omega) (by omega)
theorem y_call {l:Nat} {vs:List (List V)} {tr:Option Nat} {st:St} {r:List AIns} {K:Option Nat→St→Prop} {d:Option Nat} {s:Nat} {f:FuncId} {args:List Opd} {as:List V} {v:V} (h:optAll (pur st.hp) (args.map st.get) = some as) (hs:(args.map st.get).flatMap slots = []) (hr:Ret P f as v) (k:YRun P l vs r tr (St.put ⟨st.ts,st.hp⟩ d v) K):YRun P l vs (⟨d,none,.call s f args⟩ :: r) tr st K := by
 simp only [YRun,YStep,AStep]
 have := CallR.pure (P := P) (m := 0) (s := s) (hp := st.hp) (f := f) (args := args.map st.get) as v h (by rw [hs]; rfl) hr
 rw [hs] at this
 exact .inr ⟨v,_,this,k⟩
def v_ups (n:Nat) (r:Nat→V):List (List V) := (List.range n).map fun (k:Nat) => [.p (.int .i64 (k:Int)),r k]
abbrev up_loop (mF:Nat):ACode := (.seq (.reg [⟨some 8,none,(.op (.bin .lss (.t 7) (.t 6)))⟩])
 (.seq (.cond (.t 8) .skip (.exit 0))
 (.seq (.block 1 (.seq (.reg [⟨some 9,none,(.op (.mv (.t 7)))⟩,
  ⟨some 4,none,(.op (.mv (.t 9)))⟩])
 (.seq (.reg [⟨some 10,none,(.op (.mv (.t 1)))⟩,
  ⟨some 11,none,(.op (.mv (.t 4)))⟩,
  ⟨some 12,none,(.op (.ldn 1 (.t 2)))⟩,
  ⟨some 13,none,(.op (.mv (.t 4)))⟩,
  ⟨some 14,none,(.call 2 mF [(.t 12),(.t 13)])⟩,
  ⟨some 15,none,(.callv 3 (.t 10) [(.t 11),(.t 14)])⟩,
  ⟨some 16,none,(.op (.unot (.t 15)))⟩])
 (.cond (.t 16) .ret .skip))))
 (.reg [⟨some 17,none,(.op (.bin .add (.t 7) (.c (.p (.int .i64 1)))))⟩,
  ⟨some 7,none,(.op (.mv (.t 17)))⟩]))))
abbrev up_code (cF mF:Nat):ACode := (.seq (.reg [⟨some 2,none,(.op (.box 0 (.t 0)))⟩])
 (.seq (.reg [⟨some 5,none,(.op (.ldn 1 (.t 2)))⟩,
  ⟨some 6,none,(.call 1 cF [(.t 5)])⟩,
  ⟨some 7,none,(.op (.mv (.c (.p (.int .i64 0)))))⟩])
 (.block 0 (.loop (up_loop mF)))))
theorem it_ups {f g:FuncId} {cF mF:Nat} (hf:cFn P f = some ⟨18,4,[],up_code cF mF⟩) (hg:g = bmOf f) (q:Pv) (m:Nat) (hm:m≤4611686018427387904) (r0 r:Nat→V) (hcount:Ret P cF [.agg [.p q]] (.p (.int .i64 (m:Int)))) (hmodel:∀ k,k < m→Ret P mF [.agg [.p q],.p (.int .i64 (k:Int))] (r0 k))
  (hs:∀ k hp,k < m→pur hp (r0 k) = some (r k)):Iter P g [[q]] (v_ups m r) := by
 refine iter_ofB hf rfl hg (fun l => ?_)
 generalize hQ:(fun (tr:Option Nat) (e:AEx) (_:St) => (∀ id,e ≠ .exit id)∧(tr = some (v_ups m r).length ∨ tr = none)) = Q
 have hlen:(v_ups m r).length = m := by simp [v_ups]
 have hend:∀ s,Q (some m) .normal s := fun s => by rw [← hQ]; exact ⟨(fun _ h => by cases h),.inl (by rw [hlen])⟩
 have hend2:∀ s,Q none .ret s := fun s => by rw [← hQ]; exact ⟨(fun _ h => by cases h),.inr rfl⟩
 have eld:∀ (gg:Opd→V) (b:Blk) (rr:List Blk),b.ver = 1→b.st.ok = true→b.cs = [.p q]→gg (.t 2) = .ptr 0 1 0→astep (b :: rr) gg (.ldn 1 (.t 2)) = some (.agg [.p q],b :: rr) := by
  intro gg b rr h1 h2 h3 h4
  simp only [astep,h4,behind,List.getElem?_cons_zero]
  rw [if_pos ⟨h1,h2,by rw [h3]; exact Nat.zero_le _⟩,h3]
  rfl
 have loop:∀ (n k:Nat) (b:Blk) (rr:List Blk) (v0 v3 v4 v5 v8 v9 v10 v11 v12 v13 v14 v15 v16 v17:V),n + k = m + 1→k≤m→b.ver = 1→b.st.ok = true→b.cs = [.p q]→
   YUnr P l (v_ups m r) (up_loop mF) (fun tr => AEx.blk 0 (Q tr)) n (some k) ⟨[v0,.yld l,.ptr 0 1 0,v3,v4,v5,.p (.int .i64 (m:Int)),.p (.int .i64 (k:Int)),v8,v9,v10,v11,v12,v13,v14,v15,v16,v17],b :: rr⟩ := by
  intro n
  induction n with
  | zero => intro k; intros; omega
  | succ n ih =>
   intro k b rr v0 v3 v4 v5 v8 v9 v10 v11 v12 v13 v14 v15 v16 v17 hk hk2 hb1 hb2 hb3
   refine y_unr (y_seq (y_reg (y_op rfl (y_end (y_next (y_seq (y_cond rfl ?_)))))))
   by_cases hkm:k < m
   ·have hlt:decide ((k:Int) < (m:Int)) = true := decide_eq_true (by omega)
    rw [if_pos hlt]
    have w5:IntKind.i64.wrap ((k:Int) + 1) = ((k + 1:Nat):Int) := wrap_nat (by omega)
    have hshed:∃ b' rr',Sheds (b :: rr) = b' :: rr'∧b'.ver = 1∧b'.st.ok = true∧b'.cs = [.p q] := by
     have h0:(Sheds (b :: rr)).length = (b :: rr).length := frzAll_len _ _
     have h1:∃ b',(Sheds (b :: rr))[0]? = some b'∧b'.ver = 1∧b'.st.ok = true∧b'.cs = [.p q] := frzAll_keep _ _ 0 b rfl hb1 hb2 hb3
     obtain ⟨b',h1,h2⟩ := h1
     match hS:Sheds (b :: rr),h0,h1 with
     | b'' :: rr',_,h1 =>
      simp only [List.getElem?_cons_zero,sJ] at h1
      subst h1
      exact ⟨b'',rr',rfl,h2⟩
    obtain ⟨b',rr',hS,hb1',hb2',hb3'⟩ := hshed
    refine y_skip (y_next (y_seq (y_block (y_seq (y_reg (y_op rfl (y_op rfl (y_end (y_next (y_seq (y_reg ?_)))))))))))
    refine y_op rfl (y_op rfl (y_op (eld _ b rr hb1 hb2 hb3 rfl) (y_op rfl ?_)))
    refine y_call (as := [.agg [.p q],.p (.int .i64 (k:Int))]) (v := r0 k) rfl rfl (hmodel k hkm) ?_
    refine y_yield (k := k) (xs := [.p (.int .i64 (k:Int)),r k]) rfl ?_ ?_ ?_ ?_
    ·unfold v_ups; rw [List.getElem?_map,List.getElem?_range hkm]; rfl
    ·show optAll (pur (b :: rr)) [V.p (.int .i64 (k:Int)),r0 k] = _
     simp only [optAll,hs k _ hkm]; rfl
    ·refine y_at (st' := ⟨[v0,.yld l,.ptr 0 1 0,v3,.p (.int .i64 (k:Int)),v5,.p (.int .i64 (m:Int)),.p (.int .i64 (k:Int)),.p (.bool (decide ((k:Int) < (m:Int)))),.p (.int .i64 (k:Int)),.yld l,.p (.int .i64 (k:Int)),.agg [.p q],.p (.int .i64 (k:Int)),r0 k,.p (.bool true),v16,v17],b' :: rr'⟩) (by rw [← hS]; rfl) ?_
     refine y_op rfl (y_end (y_next (y_cond (b := false) rfl ?_)))
     rw [if_neg (by decide)]
     refine y_skip (y_bnorm (y_next (y_reg (y_opw w5 rfl (y_op rfl (y_end (y_next ?_)))))))
     exact ih (k + 1) b' rr' _ _ _ _ _ _ _ _ _ _ _ _ _ _ (by omega) (by omega) hb1' hb2' hb3'
    ·refine y_at (st' := ⟨[v0,.yld l,.ptr 0 1 0,v3,.p (.int .i64 (k:Int)),v5,.p (.int .i64 (m:Int)),.p (.int .i64 (k:Int)),.p (.bool (decide ((k:Int) < (m:Int)))),.p (.int .i64 (k:Int)),.yld l,.p (.int .i64 (k:Int)),.agg [.p q],.p (.int .i64 (k:Int)),r0 k,.p (.bool false),v16,v17],b' :: rr'⟩) (by rw [← hS]; rfl) ?_
     refine y_op rfl (y_end (y_next (y_cond (b := true) rfl ?_)))
     rw [if_pos rfl]
     exact y_ret (hend2 _)
   ·have hlt:decide ((k:Int) < (m:Int)) = false := decide_eq_false (by omega)
    rw [if_neg (by rw [hlt]; decide)]
    have hk:k = m := by omega
    subst hk
    exact y_exit (hend _)
 refine y_seq (y_reg (y_op rfl (y_end (y_next (y_seq (y_reg ?_))))))
 refine y_op (eld _ ⟨1,.live,[.p q]⟩ [⟨0,.dead,[]⟩,⟨0,.dead,[]⟩,⟨0,.dead,[]⟩] rfl rfl rfl rfl) ?_
 refine y_call (as := [.agg [.p q]]) rfl rfl hcount ?_
 refine y_op rfl (y_end (y_next (y_block (y_loop (m + 1) ?_))))
 exact loop (m + 1) 0 _ _ _ _ _ _ _ _ _ _ _ _ _ _ _ _ (by omega) (by omega) rfl rfl rfl
end
end Go.Mx
