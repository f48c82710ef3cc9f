/- What gravity's iterators hand on. No condition. -/
import Derived.Test.YtepdfhjmngbhhaaGreatDoorFnGravityStringsA
import Derived.Test.YtepdfhjmngbhhaaGreatDoorMxYo
import Derived.Test.YtepdfhjmngbhhaaGreatDoorLayB
import Derived.KernelRfl
namespace Go.Proofs.YtepdfhjmngbhhaaGreatDoor
open Go Go.Mx
set_option maxRecDepth 100000

/-- What windows hands on. -/
def v_wins (es:List (List Pv)) (full:Bool) (c:Int):List (List V) :=
  (List.range (max 0 ((es.length:Int) - c + 1)).toNat).map fun (k:Nat) => [.p (.int .i64 (k:Int)),.p (.sl 2 ((es.drop k).take (((k:Int) + c).toNat - (k:Int).toNat)) (full && decide ((k:Int) + c = es.length)))]
def wins_loop:ACode := (.seq (.reg [⟨some 12,none,(.op (.bin .lss (.t 11) (.t 10)))⟩])
  (.seq (.cond (.t 12) .skip (.exit 0))
  (.seq (.block 1 (.seq (.reg [⟨some 13,none,(.op (.mv (.t 11)))⟩,
    ⟨some 4,none,(.op (.mv (.t 13)))⟩])
  (.seq (.reg [⟨some 14,none,(.op (.mv (.t 0)))⟩,
    ⟨some 15,none,(.op (.mv (.t 4)))⟩,
    ⟨some 16,none,(.op (.ld1 (.t 1)))⟩,
    ⟨some 17,none,(.op (.mv (.t 4)))⟩,
    ⟨some 18,none,(.op (.mv (.t 4)))⟩,
    ⟨some 19,none,(.op (.ld1 (.t 2)))⟩,
    ⟨some 20,none,(.op (.bin .add (.t 18) (.t 19)))⟩,
    ⟨some 21,none,(.op (.sl 2 (.t 16) (some (.t 17)) (some (.t 20))))⟩,
    ⟨some 22,none,(.callv 0 (.t 14) [(.t 15),(.t 21)])⟩,
    ⟨some 23,none,(.op (.unot (.t 22)))⟩])
  (.cond (.t 23) .ret .skip))))
  (.reg [⟨some 24,none,(.op (.bin .add (.t 11) (.c (.p (.int .i64 1)))))⟩,
    ⟨some 11,none,(.op (.mv (.t 24)))⟩]))))

theorem it_windows (es:List (List Pv)) (full:Bool) (c:Int) (hc:1≤c) (hc2:c≤1000000) (hl:es.length≤1000000) :
    Iter Tryz.prog 183 [[.sl 2 es full],[.int .i64 c]] (v_wins es full c) := by
  refine iter_of e_Z2c rfl fun l => ?_
  generalize hQ:(fun (tr:Option Nat) (e:AEx) (_:St) => (∀ id,e ≠ .exit id)∧(tr = some (v_wins es full c).length ∨ tr = none)) = Q
  generalize hm:(max 0 ((es.length:Int) - c + 1)).toNat = m
  have hlen:(v_wins es full c).length = m := by simp [v_wins,hm]
  have hend:∀ s,Q (some m) .normal s := fun s => by rw [← hQ]; exact ⟨(fun _ h => by cases h),.inl (by rw [hlen])⟩
  have hend2:∀ s,Q none .ret s := fun s => by rw [← hQ]; exact ⟨(fun _ h => by cases h),.inr rfl⟩
  have w1:IntKind.i64.wrap ((es.length:Int) - c) = es.length - c := wrap_id (by omega) (by omega)
  have w2:IntKind.i64.wrap ((es.length:Int) - c + 1) = es.length - c + 1 := wrap_id (by omega) (by omega)
  have w3:(if (es.length:Int) - c + 1 > 0 then (es.length:Int) - c + 1 else 0) = m := by rw [← hm]; split <;> omega
  -- the loop
  have loop:∀ (n k:Nat) (v4 v5 v6 v7 v8 v9 v12 v13 v14 v15 v16 v17 v18 v19 v20 v21 v22 v23 v24:V),n + k = m + 1→k≤m →
      YUnr Tryz.prog l (v_wins es full c) wins_loop (fun tr => AEx.blk 0 (Q tr)) n (some k) ⟨[.yld l,.ipt [.sl 2 es full],.ipt [.int .i64 c],.und,v4,v5,v6,v7,v8,v9,.p (.int .i64 m),.p (.int .i64 k),v12,v13,v14,v15,v16,v17,v18,v19,v20,v21,v22,v23,v24],[⟨0,.dead,[]⟩]⟩ := by
    intro n
    induction n with
    | zero => intro k; intros; omega
    | succ n ih =>
      intro k v4 v5 v6 v7 v8 v9 v12 v13 v14 v15 v16 v17 v18 v19 v20 v21 v22 v23 v24 hk hk2
      refine y_unr (y_seq (y_reg (y_op rfl (y_end (y_next (y_seq (y_cond rfl ?_)))))))
      by_cases hkm:k < m
      · have hlt:decide ((k:Int) < (m:Int)) = true := decide_eq_true (by omega)
        rw [if_pos hlt]
        have hb:(k:Int) + c≤es.length := by omega
        have w4:IntKind.i64.wrap ((k:Int) + c) = k + c := wrap_id (by omega) (by omega)
        have w5:IntKind.i64.wrap ((k:Int) + 1) = ((k + 1:Nat):Int) := wrap_nat (by omega)
        refine y_skip (y_next (y_seq (y_block (y_seq (y_reg (y_op rfl (y_op rfl (y_end (y_next (y_seq (y_reg ?_))))))))))) 
        refine y_op rfl (y_op rfl (y_op rfl (y_op rfl (y_op rfl (y_op rfl (y_opw w4 rfl ?_))))))
        refine y_op (v := .p (.sl 2 ((es.drop k).take (((k:Int) + c).toNat - (k:Int).toNat)) (full && decide ((k:Int) + c = es.length)))) (hp' := [⟨0,.dead,[]⟩]) (if_pos ⟨by omega,by omega,hb,.inl rfl⟩) ?_
        refine y_yield (k := k) (xs := [.p (.int .i64 (k:Int)),.p (.sl 2 ((es.drop k).take (((k:Int) + c).toNat - (k:Int).toNat)) (full && decide ((k:Int) + c = es.length)))]) (by kernel_rfl) ?_ (by kernel_rfl) ?_ ?_
        · unfold v_wins; rw [hm,List.getElem?_map,List.getElem?_range hkm]; rfl
        · refine y_at (st' := ⟨[.yld l,.ipt [.sl 2 es full],.ipt [.int .i64 c],.und,.p (.int .i64 k),v5,v6,v7,v8,v9,.p (.int .i64 m),.p (.int .i64 k),.p (.bool (decide ((k:Int) < (m:Int)))),.p (.int .i64 k),.yld l,.p (.int .i64 k),.p (.sl 2 es full),.p (.int .i64 k),.p (.int .i64 k),.p (.int .i64 c),.p (.int .i64 ((k:Int) + c)),(.p (.sl 2 ((es.drop k).take (((k:Int) + c).toNat - (k:Int).toNat)) (full && decide ((k:Int) + c = es.length)))),.p (.bool true),v23,v24],[⟨0,.dead,[]⟩]⟩) (by kernel_rfl) ?_
          refine y_op rfl (y_end (y_next (y_cond (b := false) rfl ?_)))
          rw [if_neg (by decide)]
          refine y_skip (y_bnorm (y_next (y_reg (y_opw w5 rfl (y_op rfl (y_end (y_next ?_)))))))
          exact ih (k + 1) _ _ _ _ _ _ _ _ _ _ _ _ _ _ _ _ _ _ _ (by omega) (by omega)
        · refine y_at (st' := ⟨[.yld l,.ipt [.sl 2 es full],.ipt [.int .i64 c],.und,.p (.int .i64 k),v5,v6,v7,v8,v9,.p (.int .i64 m),.p (.int .i64 k),.p (.bool (decide ((k:Int) < (m:Int)))),.p (.int .i64 k),.yld l,.p (.int .i64 k),.p (.sl 2 es full),.p (.int .i64 k),.p (.int .i64 k),.p (.int .i64 c),.p (.int .i64 ((k:Int) + c)),(.p (.sl 2 ((es.drop k).take (((k:Int) + c).toNat - (k:Int).toNat)) (full && decide ((k:Int) + c = es.length)))),.p (.bool false),v23,v24],[⟨0,.dead,[]⟩]⟩) (by kernel_rfl) ?_
          refine y_op rfl (y_end (y_next (y_cond (b := true) rfl ?_)))
          rw [if_pos rfl]
          exact y_ret (hend2 _)
      · have hlt:decide ((k:Int) < (m:Int)) = false := decide_eq_false (by omega)
        rw [if_neg (by rw [hlt]; decide)]
        have hk:k = m := by omega
        subst hk
        exact y_exit (hend _)
  refine y_seq (y_reg (y_op rfl (y_op rfl (y_op rfl (y_opw w1 rfl ?_)))))
  refine y_opw w2 rfl (y_opw w3 rfl (y_op rfl (y_end (y_next (y_block (y_loop (m + 1) ?_))))))
  exact loop (m + 1) 0 _ _ _ _ _ _ _ _ _ _ _ _ _ _ _ _ _ _ _ (by omega) (by omega)
end Go.Proofs.YtepdfhjmngbhhaaGreatDoor
