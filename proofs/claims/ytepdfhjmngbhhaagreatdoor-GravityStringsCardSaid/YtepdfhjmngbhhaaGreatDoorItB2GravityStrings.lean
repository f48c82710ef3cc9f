/- What gravity's bounds hand on. No condition. -/
import Derived.Test.YtepdfhjmngbhhaaGreatDoorItB1GravityStrings
import Derived.Test.YtepdfhjmngbhhaaGreatDoorLayB
import Derived.KernelRfl
namespace Go.Proofs.YtepdfhjmngbhhaaGreatDoor
open Go Go.Mx
set_option maxRecDepth 100000
def bnd_es (ts:List (Int×Int×Int×Int)):List (List Pv) := ts.map fun t => [.int .i64 t.1,.int .i64 t.2.1,.int .i64 t.2.2.1,.int .i64 t.2.2.2]
/-- What bounds hands on: of,from,more. -/
def v_bnds:List (Int×Int×Int×Int)→List (List V)
  | [] => []
  | t :: r => [.agg [.p (.int .i64 t.2.1),.p (.int .i64 t.1),.p (.int .i64 t.2.2.2)]] :: [.agg [.p (.int .i64 t.1),.p (.int .i64 t.2.1),.p (.int .i64 (IntKind.i64.wrap (0 - t.2.2.1)))]] :: v_bnds r
theorem v_bnds_len:∀ ts,(v_bnds ts).length = 2 * ts.length
  | [] => rfl
  | t :: r => by simp only [v_bnds,List.length_cons,v_bnds_len r]; omega
theorem v_bnds_get:∀ (ts:List (Int×Int×Int×Int)) (k:Nat),k < ts.length→(v_bnds ts)[2 * k]? = some [.agg [.p (.int .i64 (ts.getD k (0,0,0,0)).2.1),.p (.int .i64 (ts.getD k (0,0,0,0)).1),.p (.int .i64 (ts.getD k (0,0,0,0)).2.2.2)]]∧(v_bnds ts)[2 * k + 1]? = some [.agg [.p (.int .i64 (ts.getD k (0,0,0,0)).1),.p (.int .i64 (ts.getD k (0,0,0,0)).2.1),.p (.int .i64 (IntKind.i64.wrap (0 - (ts.getD k (0,0,0,0)).2.2.1)))]]
  | [],k,h => by simp at h
  | t :: r,0,_ => ⟨rfl,rfl⟩
  | t :: r,k + 1,h => by
    have := v_bnds_get r k (by simpa using h)
    rw [show 2 * (k + 1) = 2 * k + 1 + 1 by omega]
    simpa only [v_bnds,List.getElem?_cons_succ,List.getD_cons_succ] using this
def bnds_skip:List AIns := [⟨some 23,some (some 22,false),(.op (.mv (.t 0)))⟩,
    ⟨some 24,some (some 22,false),(.op (.fa 0 (.t 4)))⟩,
    ⟨some 25,some (some 22,false),(.op (.ld1 (.t 24)))⟩,
    ⟨some 26,some (some 22,false),(.op (.fa 1 (.t 4)))⟩,
    ⟨some 27,some (some 22,false),(.op (.ld1 (.t 26)))⟩,
    ⟨some 28,some (some 22,false),(.op (.fa 2 (.t 4)))⟩,
    ⟨some 29,some (some 22,false),(.op (.fa 0 (.t 28)))⟩,
    ⟨some 30,some (some 22,false),(.op (.ld1 (.t 29)))⟩,
    ⟨some 31,some (some 22,false),(.op (.uneg (.t 30)))⟩,
    ⟨some 32,some (some 22,false),(.op (.build [(.p (.int .i64 0)),(.p (.int .i64 0)),(.p (.int .i64 0))] [(0,1,(.t 25)),(1,1,(.t 27)),(2,1,(.t 31))]))⟩,
    ⟨some 33,some (some 22,false),(.callv 2 (.t 23) [(.t 32)])⟩,
    ⟨some 34,some (some 22,false),(.op (.unot (.t 33)))⟩]
def bnds_loop:ACode := (.seq (.reg [⟨some 8,none,(.op (.bin .lss (.t 7) (.t 6)))⟩])
  (.seq (.cond (.t 8) .skip (.exit 0))
  (.seq (.block 1 (.seq (.reg [⟨some 9,none,(.op (.ia 4 (.t 5) (.t 7)))⟩,
    ⟨some 10,none,(.op (.ldn 4 (.t 9)))⟩,
    ⟨some 4,none,(.op (.newz 0 [(.p (.int .i64 0)),(.p (.int .i64 0)),(.p (.int .i64 0)),(.p (.int .i64 0))]))⟩,
    ⟨none,none,(.op (.st 4 (.t 4) (.t 10)))⟩])
  (.seq (.reg [⟨some 11,none,(.op (.mv (.t 0)))⟩,
    ⟨some 12,none,(.op (.fa 1 (.t 4)))⟩,
    ⟨some 13,none,(.op (.ld1 (.t 12)))⟩,
    ⟨some 14,none,(.op (.fa 0 (.t 4)))⟩,
    ⟨some 15,none,(.op (.ld1 (.t 14)))⟩,
    ⟨some 16,none,(.op (.fa 2 (.t 4)))⟩,
    ⟨some 17,none,(.op (.fa 1 (.t 16)))⟩,
    ⟨some 18,none,(.op (.ld1 (.t 17)))⟩,
    ⟨some 19,none,(.op (.build [(.p (.int .i64 0)),(.p (.int .i64 0)),(.p (.int .i64 0))] [(0,1,(.t 13)),(1,1,(.t 15)),(2,1,(.t 18))]))⟩,
    ⟨some 20,none,(.callv 1 (.t 11) [(.t 19)])⟩,
    ⟨some 21,none,(.op (.unot (.t 20)))⟩,
    ⟨some 22,none,(.op (.mv (.t 21)))⟩,
    ⟨some 23,some (some 22,false),(.op (.mv (.t 0)))⟩,
    ⟨some 24,some (some 22,false),(.op (.fa 0 (.t 4)))⟩,
    ⟨some 25,some (some 22,false),(.op (.ld1 (.t 24)))⟩,
    ⟨some 26,some (some 22,false),(.op (.fa 1 (.t 4)))⟩,
    ⟨some 27,some (some 22,false),(.op (.ld1 (.t 26)))⟩,
    ⟨some 28,some (some 22,false),(.op (.fa 2 (.t 4)))⟩,
    ⟨some 29,some (some 22,false),(.op (.fa 0 (.t 28)))⟩,
    ⟨some 30,some (some 22,false),(.op (.ld1 (.t 29)))⟩,
    ⟨some 31,some (some 22,false),(.op (.uneg (.t 30)))⟩,
    ⟨some 32,some (some 22,false),(.op (.build [(.p (.int .i64 0)),(.p (.int .i64 0)),(.p (.int .i64 0))] [(0,1,(.t 25)),(1,1,(.t 27)),(2,1,(.t 31))]))⟩,
    ⟨some 33,some (some 22,false),(.callv 2 (.t 23) [(.t 32)])⟩,
    ⟨some 34,some (some 22,false),(.op (.unot (.t 33)))⟩,
    ⟨some 35,none,(.op (.pick (.t 22) (.c (.p (.bool true))) (.t 34)))⟩])
  (.cond (.t 35) .ret .skip))))
  (.reg [⟨some 36,none,(.op (.bin .add (.t 7) (.c (.p (.int .i64 1)))))⟩,
    ⟨some 7,none,(.op (.mv (.t 36)))⟩]))))
set_option maxHeartbeats 4000000 in
theorem it_bounds (ts:List (Int×Int×Int×Int)) (full:Bool) (hl:ts.length≤1000000):Iter Tryz.prog 225 [[.sl 4 (bnd_es ts) full]] (v_bnds ts) := by
  refine iter_of e_Z2d rfl fun l => ?_
  generalize hQ:(fun (tr:Option Nat) (e:AEx) (_:St) => (∀ id,e ≠ .exit id)∧(tr = some (v_bnds ts).length ∨ tr = none)) = Q
  have hlen := v_bnds_len ts
  have hend:∀ s,Q (some (2 * ts.length)) .normal s := fun s => by rw [← hQ]; exact ⟨(fun _ h => by cases h),.inl (by rw [hlen])⟩
  have hend2:∀ s,Q none .ret s := fun s => by rw [← hQ]; exact ⟨(fun _ h => by cases h),.inr rfl⟩
  have hel:(bnd_es ts).length = ts.length := by simp [bnd_es]
  have loop:∀ (n k:Nat) (ver:Nat) (bs:BSt) (cs:List V) (v4 v8 v9 v10 v11 v12 v13 v14 v15 v16 v17 v18 v19 v20 v21 v22 v23 v24 v25 v26 v27 v28 v29 v30 v31 v32 v33 v34 v35 v36:V),n + k = ts.length + 1→k≤ts.length →
      YUnr Tryz.prog l (v_bnds ts) bnds_loop (fun tr => AEx.blk 0 (Q tr)) n (some (2 * k)) ⟨[.yld l,.ipt [.sl 4 (bnd_es ts) full],.und,.und,v4,.p (.sl 4 (bnd_es ts) full),.p (.int .i64 (ts.length:Int)),.p (.int .i64 (k:Int)),v8,v9,v10,v11,v12,v13,v14,v15,v16,v17,v18,v19,v20,v21,v22,v23,v24,v25,v26,v27,v28,v29,v30,v31,v32,v33,v34,v35,v36],[⟨ver,bs,cs⟩,⟨0,.dead,[]⟩,⟨0,.dead,[]⟩]⟩ := by
    intro n
    induction n with
    | zero => intro k; intros; omega
    | succ n ih =>
      intro k ver bs cs v4 v8 v9 v10 v11 v12 v13 v14 v15 v16 v17 v18 v19 v20 v21 v22 v23 v24 v25 v26 v27 v28 v29 v30 v31 v32 v33 v34 v35 v36 hk hk2
      refine y_unr (y_seq (y_reg (y_op rfl (y_end (y_next (y_seq (y_cond rfl ?_)))))))
      by_cases hkm:k < ts.length
      · have hlt:decide ((k:Int) < (ts.length:Int)) = true := decide_eq_true (by omega)
        rw [if_pos hlt]
        have w5:IntKind.i64.wrap ((k:Int) + 1) = ((k + 1:Nat):Int) := wrap_nat (by omega)
        have hge:(bnd_es ts).getD (k:Int).toNat [] = [.int .i64 (ts.getD k (0,0,0,0)).1,.int .i64 (ts.getD k (0,0,0,0)).2.1,.int .i64 (ts.getD k (0,0,0,0)).2.2.1,.int .i64 (ts.getD k (0,0,0,0)).2.2.2] := by
          rw [Int.toNat_natCast,bnd_es,List.getD,List.getElem?_map,List.getD,List.getElem?_eq_getElem hkm]; rfl
        obtain ⟨g1,g2⟩ := v_bnds_get ts k hkm
        refine y_skip (y_next (y_seq (y_block (y_seq (y_reg ?_)))))
        refine y_op (v := .ipt [.int .i64 (ts.getD k (0,0,0,0)).1,.int .i64 (ts.getD k (0,0,0,0)).2.1,.int .i64 (ts.getD k (0,0,0,0)).2.2.1,.int .i64 (ts.getD k (0,0,0,0)).2.2.2]) (hp' := [⟨ver,bs,cs⟩,⟨0,.dead,[]⟩,⟨0,.dead,[]⟩]) ((if_pos ⟨by omega,by rw [hel]; omega,rfl⟩).trans (by rw [hge]; rfl)) ?_
        refine y_op rfl (y_op rfl (y_st rfl rfl rfl rfl rfl rfl (Nat.le_refl 4) rfl (y_end (y_next (y_seq (y_reg ?_))))))
        refine y_at (st' := ⟨[.yld l,.ipt [.sl 4 (bnd_es ts) full],.und,.und,.ptr 0 (ver + 1) 0,.p (.sl 4 (bnd_es ts) full),.p (.int .i64 (ts.length:Int)),.p (.int .i64 (k:Int)),.p (.bool (decide ((k:Int) < (ts.length:Int)))),.ipt [.int .i64 (ts.getD k (0,0,0,0)).1,.int .i64 (ts.getD k (0,0,0,0)).2.1,.int .i64 (ts.getD k (0,0,0,0)).2.2.1,.int .i64 (ts.getD k (0,0,0,0)).2.2.2],.agg [.p (.int .i64 (ts.getD k (0,0,0,0)).1),.p (.int .i64 (ts.getD k (0,0,0,0)).2.1),.p (.int .i64 (ts.getD k (0,0,0,0)).2.2.1),.p (.int .i64 (ts.getD k (0,0,0,0)).2.2.2)],v11,v12,v13,v14,v15,v16,v17,v18,v19,v20,v21,v22,v23,v24,v25,v26,v27,v28,v29,v30,v31,v32,v33,v34,v35,v36],[⟨ver + 1,.live,[.p (.int .i64 (ts.getD k (0,0,0,0)).1),.p (.int .i64 (ts.getD k (0,0,0,0)).2.1),.p (.int .i64 (ts.getD k (0,0,0,0)).2.2.1),.p (.int .i64 (ts.getD k (0,0,0,0)).2.2.2)]⟩,⟨0,.dead,[]⟩,⟨0,.dead,[]⟩]⟩) (by kernel_rfl) ?_
        refine y_op rfl (y_op rfl (y_ld1 rfl rfl rfl rfl rfl (y_op rfl (y_ld1 rfl rfl rfl rfl rfl (y_op rfl (y_op rfl (y_ld1 rfl rfl rfl rfl rfl (y_op rfl ?_))))))))
        refine y_yield (k := 2 * k) (xs := [.agg [.p (.int .i64 (ts.getD k (0,0,0,0)).2.1),.p (.int .i64 (ts.getD k (0,0,0,0)).1),.p (.int .i64 (ts.getD k (0,0,0,0)).2.2.2)]]) (by kernel_rfl) g1 (by kernel_rfl) ?_ ?_
        · refine y_at (st' := ⟨[.yld l,.ipt [.sl 4 (bnd_es ts) full],.und,.und,.ptr 0 (ver + 1) 0,.p (.sl 4 (bnd_es ts) full),.p (.int .i64 (ts.length:Int)),.p (.int .i64 (k:Int)),.p (.bool (decide ((k:Int) < (ts.length:Int)))),.ipt [.int .i64 (ts.getD k (0,0,0,0)).1,.int .i64 (ts.getD k (0,0,0,0)).2.1,.int .i64 (ts.getD k (0,0,0,0)).2.2.1,.int .i64 (ts.getD k (0,0,0,0)).2.2.2],.agg [.p (.int .i64 (ts.getD k (0,0,0,0)).1),.p (.int .i64 (ts.getD k (0,0,0,0)).2.1),.p (.int .i64 (ts.getD k (0,0,0,0)).2.2.1),.p (.int .i64 (ts.getD k (0,0,0,0)).2.2.2)],.yld l,.ptr 0 (ver + 1) (0 + 1),.p (.int .i64 (ts.getD k (0,0,0,0)).2.1),.ptr 0 (ver + 1) (0 + 0),.p (.int .i64 (ts.getD k (0,0,0,0)).1),.ptr 0 (ver + 1) (0 + 2),.ptr 0 (ver + 1) (0 + 2 + 1),.p (.int .i64 (ts.getD k (0,0,0,0)).2.2.2),.agg [.p (.int .i64 (ts.getD k (0,0,0,0)).2.1),.p (.int .i64 (ts.getD k (0,0,0,0)).1),.p (.int .i64 (ts.getD k (0,0,0,0)).2.2.2)],.p (.bool true),v21,v22,v23,v24,v25,v26,v27,v28,v29,v30,v31,v32,v33,v34,v35,v36],[⟨ver + 1,.frozen,[.p (.int .i64 (ts.getD k (0,0,0,0)).1),.p (.int .i64 (ts.getD k (0,0,0,0)).2.1),.p (.int .i64 (ts.getD k (0,0,0,0)).2.2.1),.p (.int .i64 (ts.getD k (0,0,0,0)).2.2.2)]⟩,⟨0,.dead,[]⟩,⟨0,.dead,[]⟩]⟩) (by kernel_rfl) ?_
          refine y_op rfl (y_op rfl ?_)
          refine y_gdo rfl rfl (y_gdo rfl rfl (y_gld1 rfl rfl rfl rfl rfl rfl (y_gdo rfl rfl (y_gld1 rfl rfl rfl rfl rfl rfl (y_gdo rfl rfl (y_gdo rfl rfl (y_gld1 rfl rfl rfl rfl rfl rfl (y_gdo rfl rfl (y_gdo rfl rfl ?_)))))))))
          refine y_at (st' := ⟨[.yld l,.ipt [.sl 4 (bnd_es ts) full],.und,.und,.ptr 0 (ver + 1) 0,.p (.sl 4 (bnd_es ts) full),.p (.int .i64 (ts.length:Int)),.p (.int .i64 (k:Int)),.p (.bool (decide ((k:Int) < (ts.length:Int)))),.ipt [.int .i64 (ts.getD k (0,0,0,0)).1,.int .i64 (ts.getD k (0,0,0,0)).2.1,.int .i64 (ts.getD k (0,0,0,0)).2.2.1,.int .i64 (ts.getD k (0,0,0,0)).2.2.2],.agg [.p (.int .i64 (ts.getD k (0,0,0,0)).1),.p (.int .i64 (ts.getD k (0,0,0,0)).2.1),.p (.int .i64 (ts.getD k (0,0,0,0)).2.2.1),.p (.int .i64 (ts.getD k (0,0,0,0)).2.2.2)],.yld l,.ptr 0 (ver + 1) (0 + 1),.p (.int .i64 (ts.getD k (0,0,0,0)).2.1),.ptr 0 (ver + 1) (0 + 0),.p (.int .i64 (ts.getD k (0,0,0,0)).1),.ptr 0 (ver + 1) (0 + 2),.ptr 0 (ver + 1) (0 + 2 + 1),.p (.int .i64 (ts.getD k (0,0,0,0)).2.2.2),.agg [.p (.int .i64 (ts.getD k (0,0,0,0)).2.1),.p (.int .i64 (ts.getD k (0,0,0,0)).1),.p (.int .i64 (ts.getD k (0,0,0,0)).2.2.2)],.p (.bool true),.p (.bool (!true)),.p (.bool (!true)),.yld l,.ptr 0 (ver + 1) (0 + 0),.p (.int .i64 (ts.getD k (0,0,0,0)).1),.ptr 0 (ver + 1) (0 + 1),.p (.int .i64 (ts.getD k (0,0,0,0)).2.1),.ptr 0 (ver + 1) (0 + 2),.ptr 0 (ver + 1) (0 + 2 + 0),.p (.int .i64 (ts.getD k (0,0,0,0)).2.2.1),.p (.int .i64 (IntKind.i64.wrap (0 - (ts.getD k (0,0,0,0)).2.2.1))),.agg [.p (.int .i64 (ts.getD k (0,0,0,0)).1),.p (.int .i64 (ts.getD k (0,0,0,0)).2.1),.p (.int .i64 (IntKind.i64.wrap (0 - (ts.getD k (0,0,0,0)).2.2.1)))],v33,v34,v35,v36],[⟨ver + 1,.frozen,[.p (.int .i64 (ts.getD k (0,0,0,0)).1),.p (.int .i64 (ts.getD k (0,0,0,0)).2.1),.p (.int .i64 (ts.getD k (0,0,0,0)).2.2.1),.p (.int .i64 (ts.getD k (0,0,0,0)).2.2.2)]⟩,⟨0,.dead,[]⟩,⟨0,.dead,[]⟩]⟩) (by kernel_rfl) ?_
          refine y_gyield (k := 2 * k + 1) (xs := [.agg [.p (.int .i64 (ts.getD k (0,0,0,0)).1),.p (.int .i64 (ts.getD k (0,0,0,0)).2.1),.p (.int .i64 (IntKind.i64.wrap (0 - (ts.getD k (0,0,0,0)).2.2.1)))]]) (by kernel_rfl) (by kernel_rfl) g2 (by kernel_rfl) ?_ ?_
          · refine y_at (st' := ⟨[.yld l,.ipt [.sl 4 (bnd_es ts) full],.und,.und,.ptr 0 (ver + 1) 0,.p (.sl 4 (bnd_es ts) full),.p (.int .i64 (ts.length:Int)),.p (.int .i64 (k:Int)),.p (.bool (decide ((k:Int) < (ts.length:Int)))),.ipt [.int .i64 (ts.getD k (0,0,0,0)).1,.int .i64 (ts.getD k (0,0,0,0)).2.1,.int .i64 (ts.getD k (0,0,0,0)).2.2.1,.int .i64 (ts.getD k (0,0,0,0)).2.2.2],.agg [.p (.int .i64 (ts.getD k (0,0,0,0)).1),.p (.int .i64 (ts.getD k (0,0,0,0)).2.1),.p (.int .i64 (ts.getD k (0,0,0,0)).2.2.1),.p (.int .i64 (ts.getD k (0,0,0,0)).2.2.2)],.yld l,.ptr 0 (ver + 1) (0 + 1),.p (.int .i64 (ts.getD k (0,0,0,0)).2.1),.ptr 0 (ver + 1) (0 + 0),.p (.int .i64 (ts.getD k (0,0,0,0)).1),.ptr 0 (ver + 1) (0 + 2),.ptr 0 (ver + 1) (0 + 2 + 1),.p (.int .i64 (ts.getD k (0,0,0,0)).2.2.2),.agg [.p (.int .i64 (ts.getD k (0,0,0,0)).2.1),.p (.int .i64 (ts.getD k (0,0,0,0)).1),.p (.int .i64 (ts.getD k (0,0,0,0)).2.2.2)],.p (.bool true),.p (.bool (!true)),.p (.bool (!true)),.yld l,.ptr 0 (ver + 1) (0 + 0),.p (.int .i64 (ts.getD k (0,0,0,0)).1),.ptr 0 (ver + 1) (0 + 1),.p (.int .i64 (ts.getD k (0,0,0,0)).2.1),.ptr 0 (ver + 1) (0 + 2),.ptr 0 (ver + 1) (0 + 2 + 0),.p (.int .i64 (ts.getD k (0,0,0,0)).2.2.1),.p (.int .i64 (IntKind.i64.wrap (0 - (ts.getD k (0,0,0,0)).2.2.1))),.agg [.p (.int .i64 (ts.getD k (0,0,0,0)).1),.p (.int .i64 (ts.getD k (0,0,0,0)).2.1),.p (.int .i64 (IntKind.i64.wrap (0 - (ts.getD k (0,0,0,0)).2.2.1)))],.p (.bool true),v34,v35,v36],[⟨ver + 1,.frozen,[.p (.int .i64 (ts.getD k (0,0,0,0)).1),.p (.int .i64 (ts.getD k (0,0,0,0)).2.1),.p (.int .i64 (ts.getD k (0,0,0,0)).2.2.1),.p (.int .i64 (ts.getD k (0,0,0,0)).2.2.2)]⟩,⟨0,.dead,[]⟩,⟨0,.dead,[]⟩]⟩) (by kernel_rfl) ?_
            refine y_gdo rfl rfl (y_op rfl (y_end (y_next (y_cond (b := false) rfl ?_))))
            rw [if_neg (by decide)]
            refine y_skip (y_bnorm (y_next (y_reg (y_opw w5 rfl (y_op rfl (y_end (y_next ?_)))))))
            exact ih (k + 1) _ _ _ _ _ _ _ _ _ _ _ _ _ _ _ _ _ _ _ _ _ _ _ _ _ _ _ _ _ _ _ _ _ (by omega) (by omega)
          · refine y_at (st' := ⟨[.yld l,.ipt [.sl 4 (bnd_es ts) full],.und,.und,.ptr 0 (ver + 1) 0,.p (.sl 4 (bnd_es ts) full),.p (.int .i64 (ts.length:Int)),.p (.int .i64 (k:Int)),.p (.bool (decide ((k:Int) < (ts.length:Int)))),.ipt [.int .i64 (ts.getD k (0,0,0,0)).1,.int .i64 (ts.getD k (0,0,0,0)).2.1,.int .i64 (ts.getD k (0,0,0,0)).2.2.1,.int .i64 (ts.getD k (0,0,0,0)).2.2.2],.agg [.p (.int .i64 (ts.getD k (0,0,0,0)).1),.p (.int .i64 (ts.getD k (0,0,0,0)).2.1),.p (.int .i64 (ts.getD k (0,0,0,0)).2.2.1),.p (.int .i64 (ts.getD k (0,0,0,0)).2.2.2)],.yld l,.ptr 0 (ver + 1) (0 + 1),.p (.int .i64 (ts.getD k (0,0,0,0)).2.1),.ptr 0 (ver + 1) (0 + 0),.p (.int .i64 (ts.getD k (0,0,0,0)).1),.ptr 0 (ver + 1) (0 + 2),.ptr 0 (ver + 1) (0 + 2 + 1),.p (.int .i64 (ts.getD k (0,0,0,0)).2.2.2),.agg [.p (.int .i64 (ts.getD k (0,0,0,0)).2.1),.p (.int .i64 (ts.getD k (0,0,0,0)).1),.p (.int .i64 (ts.getD k (0,0,0,0)).2.2.2)],.p (.bool true),.p (.bool (!true)),.p (.bool (!true)),.yld l,.ptr 0 (ver + 1) (0 + 0),.p (.int .i64 (ts.getD k (0,0,0,0)).1),.ptr 0 (ver + 1) (0 + 1),.p (.int .i64 (ts.getD k (0,0,0,0)).2.1),.ptr 0 (ver + 1) (0 + 2),.ptr 0 (ver + 1) (0 + 2 + 0),.p (.int .i64 (ts.getD k (0,0,0,0)).2.2.1),.p (.int .i64 (IntKind.i64.wrap (0 - (ts.getD k (0,0,0,0)).2.2.1))),.agg [.p (.int .i64 (ts.getD k (0,0,0,0)).1),.p (.int .i64 (ts.getD k (0,0,0,0)).2.1),.p (.int .i64 (IntKind.i64.wrap (0 - (ts.getD k (0,0,0,0)).2.2.1)))],.p (.bool false),v34,v35,v36],[⟨ver + 1,.frozen,[.p (.int .i64 (ts.getD k (0,0,0,0)).1),.p (.int .i64 (ts.getD k (0,0,0,0)).2.1),.p (.int .i64 (ts.getD k (0,0,0,0)).2.2.1),.p (.int .i64 (ts.getD k (0,0,0,0)).2.2.2)]⟩,⟨0,.dead,[]⟩,⟨0,.dead,[]⟩]⟩) (by kernel_rfl) ?_
            refine y_gdo rfl rfl (y_op rfl (y_end (y_next (y_cond (b := true) rfl ?_))))
            rw [if_pos rfl]
            exact y_ret (hend2 _)
        · refine y_at (st' := ⟨[.yld l,.ipt [.sl 4 (bnd_es ts) full],.und,.und,.ptr 0 (ver + 1) 0,.p (.sl 4 (bnd_es ts) full),.p (.int .i64 (ts.length:Int)),.p (.int .i64 (k:Int)),.p (.bool (decide ((k:Int) < (ts.length:Int)))),.ipt [.int .i64 (ts.getD k (0,0,0,0)).1,.int .i64 (ts.getD k (0,0,0,0)).2.1,.int .i64 (ts.getD k (0,0,0,0)).2.2.1,.int .i64 (ts.getD k (0,0,0,0)).2.2.2],.agg [.p (.int .i64 (ts.getD k (0,0,0,0)).1),.p (.int .i64 (ts.getD k (0,0,0,0)).2.1),.p (.int .i64 (ts.getD k (0,0,0,0)).2.2.1),.p (.int .i64 (ts.getD k (0,0,0,0)).2.2.2)],.yld l,.ptr 0 (ver + 1) (0 + 1),.p (.int .i64 (ts.getD k (0,0,0,0)).2.1),.ptr 0 (ver + 1) (0 + 0),.p (.int .i64 (ts.getD k (0,0,0,0)).1),.ptr 0 (ver + 1) (0 + 2),.ptr 0 (ver + 1) (0 + 2 + 1),.p (.int .i64 (ts.getD k (0,0,0,0)).2.2.2),.agg [.p (.int .i64 (ts.getD k (0,0,0,0)).2.1),.p (.int .i64 (ts.getD k (0,0,0,0)).1),.p (.int .i64 (ts.getD k (0,0,0,0)).2.2.2)],.p (.bool false),v21,v22,v23,v24,v25,v26,v27,v28,v29,v30,v31,v32,v33,v34,v35,v36],[⟨ver + 1,.frozen,[.p (.int .i64 (ts.getD k (0,0,0,0)).1),.p (.int .i64 (ts.getD k (0,0,0,0)).2.1),.p (.int .i64 (ts.getD k (0,0,0,0)).2.2.1),.p (.int .i64 (ts.getD k (0,0,0,0)).2.2.2)]⟩,⟨0,.dead,[]⟩,⟨0,.dead,[]⟩]⟩) (by kernel_rfl) ?_
          refine y_op rfl (y_op rfl ?_)
          refine y_skips (g := 22) (want := false) (b := true) bnds_skip (by kernel_rfl) (by kernel_rfl) (by decide) ?_
          refine y_at (st' := ⟨[.yld l,.ipt [.sl 4 (bnd_es ts) full],.und,.und,.ptr 0 (ver + 1) 0,.p (.sl 4 (bnd_es ts) full),.p (.int .i64 (ts.length:Int)),.p (.int .i64 (k:Int)),.p (.bool (decide ((k:Int) < (ts.length:Int)))),.ipt [.int .i64 (ts.getD k (0,0,0,0)).1,.int .i64 (ts.getD k (0,0,0,0)).2.1,.int .i64 (ts.getD k (0,0,0,0)).2.2.1,.int .i64 (ts.getD k (0,0,0,0)).2.2.2],.agg [.p (.int .i64 (ts.getD k (0,0,0,0)).1),.p (.int .i64 (ts.getD k (0,0,0,0)).2.1),.p (.int .i64 (ts.getD k (0,0,0,0)).2.2.1),.p (.int .i64 (ts.getD k (0,0,0,0)).2.2.2)],.yld l,.ptr 0 (ver + 1) (0 + 1),.p (.int .i64 (ts.getD k (0,0,0,0)).2.1),.ptr 0 (ver + 1) (0 + 0),.p (.int .i64 (ts.getD k (0,0,0,0)).1),.ptr 0 (ver + 1) (0 + 2),.ptr 0 (ver + 1) (0 + 2 + 1),.p (.int .i64 (ts.getD k (0,0,0,0)).2.2.2),.agg [.p (.int .i64 (ts.getD k (0,0,0,0)).2.1),.p (.int .i64 (ts.getD k (0,0,0,0)).1),.p (.int .i64 (ts.getD k (0,0,0,0)).2.2.2)],.p (.bool false),.p (.bool (!false)),.p (.bool (!false)),.no,.no,.no,.no,.no,.no,.no,.no,.no,.no,.no,.no,v35,v36],[⟨ver + 1,.frozen,[.p (.int .i64 (ts.getD k (0,0,0,0)).1),.p (.int .i64 (ts.getD k (0,0,0,0)).2.1),.p (.int .i64 (ts.getD k (0,0,0,0)).2.2.1),.p (.int .i64 (ts.getD k (0,0,0,0)).2.2.2)]⟩,⟨0,.dead,[]⟩,⟨0,.dead,[]⟩]⟩) (by kernel_rfl) ?_
          refine y_op (v := .p (.bool true)) (hp' := [⟨ver + 1,.frozen,[.p (.int .i64 (ts.getD k (0,0,0,0)).1),.p (.int .i64 (ts.getD k (0,0,0,0)).2.1),.p (.int .i64 (ts.getD k (0,0,0,0)).2.2.1),.p (.int .i64 (ts.getD k (0,0,0,0)).2.2.2)]⟩,⟨0,.dead,[]⟩,⟨0,.dead,[]⟩]) (by kernel_rfl) (y_end (y_next (y_cond (b := true) rfl ?_)))
          rw [if_pos rfl]
          exact y_ret (hend2 _)
      · have hlt:decide ((k:Int) < (ts.length:Int)) = false := decide_eq_false (by omega)
        rw [if_neg (by rw [hlt]; decide)]
        have hk:k = ts.length := by omega
        subst hk
        exact y_exit (hend _)
  refine y_seq (y_reg (y_op rfl (y_opw (n' := (ts.length:Int)) (by rw [hel]) rfl (y_op rfl (y_end (y_next (y_block (y_loop (ts.length + 1) ?_))))))))
  exact loop (ts.length + 1) 0 _ _ _ _ _ _ _ _ _ _ _ _ _ _ _ _ _ _ _ _ _ _ _ _ _ _ _ _ _ _ _ _ _ (by omega) (by omega)
end Go.Proofs.YtepdfhjmngbhhaaGreatDoor
