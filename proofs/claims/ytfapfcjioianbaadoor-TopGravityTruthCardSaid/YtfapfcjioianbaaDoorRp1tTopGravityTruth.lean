/- What slices.Repeat makes of one number. No condition. -/
import Derived.Test.YtfapfcjioianbaaDoorRm1tTopGravityTruth
import Derived.Test.YtfapfcjioianbaaDoorMxX2
import Derived.Test.YtfapfcjioianbaaDoorLayB
import Derived.KernelRfl
namespace Go.Proofs.YtfapfcjioianbaaDoor
open Go Go.Mx
set_option maxRecDepth 100000
theorem a_cpy {hp:List Blk} {g:Opd→V} {k t ver o n:Nat} {x y:Opd} {new:List (List Pv)} {b:Blk} (hs:sliceP hp k (g y) = some new) (hx:g x = .ref t ver o n k) (hb:hp[t]? = some b) (hv:b.ver = ver) (hl:b.st.isLive = true) (hle:o + n * k≤b.cs.length):astep hp g (.cpy k x y) = some (.p (.int .i64 (min new.length n:Nat)),hp.set t ⟨ver,.live,wr b.cs o ((new.take (min new.length n)).flatten.map .p)⟩) := by
  simp [astep,hs,hx,hb,hv,hl,hle]
theorem awp_at {P:Program} {m:Nat} {x:ACode} {Q:AEx→St→Prop} {st st' : St} (h:st = st') (k:AWp P m x Q st'):AWp P m x Q st := h ▸ k
theorem unr_at {P:Program} {m:Nat} {x:ACode} {Q:AEx→St→Prop} {n:Nat} {st st' : St} (h:st = st') (k:Unr P m x Q n st'):Unr P m x Q n st := h ▸ k
/-- slices.Repeat[[]int,int] -/
def am30:AFn := ⟨48,2,[.tmp 4],
  (.seq (.reg [⟨some 4,none,(.op (.mv (.c (.p (.sl 0 [] true)))))⟩])
  (.seq (.seq (.reg [⟨some 9,none,(.op (.mv (.t 1)))⟩,
    ⟨some 10,none,(.op (.bin .lss (.t 9) (.c (.p (.int .i64 0)))))⟩])
  (.cond (.t 10) (.reg [⟨some 11,none,(.op (.ld1 (.c (.p (.bool false)))))⟩,
    ⟨none,none,(.op (.ld1 (.c (.p (.bool false)))))⟩]) .skip))
  (.seq (.reg [⟨some 13,none,(.op (.mv (.t 0)))⟩,
    ⟨some 14,none,(.op (.len false (.t 13)))⟩,
    ⟨some 15,none,(.op (.conv .u64 (.t 14)))⟩,
    ⟨some 16,none,(.op (.mv (.t 1)))⟩,
    ⟨some 17,none,(.op (.conv .u64 (.t 16)))⟩,
    ⟨some 18,none,(.call 0 46 [(.t 15),(.t 17)])⟩,
    ⟨some 12,none,(.op (.mv (.t 18)))⟩,
    ⟨some 19,none,(.op (.ext 0 (.t 12)))⟩,
    ⟨some 20,none,(.op (.ext 1 (.t 12)))⟩,
    ⟨some 5,none,(.op (.mv (.t 19)))⟩,
    ⟨some 6,none,(.op (.mv (.t 20)))⟩])
  (.seq (.seq (.reg [⟨some 21,none,(.op (.mv (.t 5)))⟩,
    ⟨some 22,none,(.op (.bin .gtr (.t 21) (.c (.p (.int .u64 0)))))⟩,
    ⟨some 23,none,(.op (.mv (.t 22)))⟩,
    ⟨some 24,some (some 23,false),(.op (.mv (.t 6)))⟩,
    ⟨some 25,some (some 23,false),(.op (.bin .gtr (.t 24) (.c (.p (.int .u64 9223372036854775807)))))⟩,
    ⟨some 26,none,(.op (.pick (.t 23) (.c (.p (.bool true))) (.t 25)))⟩])
  (.cond (.t 26) (.reg [⟨some 27,none,(.op (.ld1 (.c (.p (.bool false)))))⟩,
    ⟨none,none,(.op (.ld1 (.c (.p (.bool false)))))⟩]) .skip))
  (.seq (.reg [⟨some 28,none,(.op (.mv (.t 6)))⟩,
    ⟨some 29,none,(.op (.conv .i64 (.t 28)))⟩,
    ⟨some 30,none,(.op (.mk 1 1 8 [(.p (.int .i64 0))] (.t 29)))⟩,
    ⟨some 7,none,(.op (.mv (.t 30)))⟩])
  (.seq (.reg [⟨some 31,none,(.op (.mv (.t 7)))⟩,
    ⟨some 32,none,(.op (.mv (.t 0)))⟩,
    ⟨some 33,none,(.op (.cpy 1 (.t 31) (.t 32)))⟩,
    ⟨some 8,none,(.op (.mv (.t 33)))⟩])
  (.seq (.block 0 (.loop (.seq (.seq (.reg [⟨some 34,none,(.op (.mv (.t 8)))⟩,
    ⟨some 35,none,(.op (.mv (.t 7)))⟩,
    ⟨some 36,none,(.op (.len false (.t 35)))⟩,
    ⟨some 37,none,(.op (.bin .lss (.t 34) (.t 36)))⟩])
  (.cond (.t 37) .skip (.exit 0)))
  (.block 1 (.regd [⟨some 38,none,(.op (.mv (.t 8)))⟩,
    ⟨some 39,none,(.op (.mv (.t 7)))⟩,
    ⟨some 40,none,(.op (.mv (.t 8)))⟩,
    ⟨some 41,none,(.op (.sl 1 (.t 39) (some (.t 40)) none))⟩,
    ⟨some 42,none,(.op (.mv (.t 7)))⟩,
    ⟨some 43,none,(.op (.mv (.t 8)))⟩,
    ⟨some 44,none,(.op (.sl 1 (.t 42) none (some (.t 43))))⟩,
    ⟨some 45,none,(.op (.cpy 1 (.t 41) (.t 44)))⟩,
    ⟨some 46,none,(.op (.bin .add (.t 38) (.t 45)))⟩,
    ⟨some 8,none,(.op (.mv (.t 46)))⟩] [])))))
  (.seq (.reg [⟨some 47,none,(.op (.mv (.t 7)))⟩,
    ⟨some 4,none,(.op (.mv (.t 47)))⟩])
  .ret))))))))⟩
theorem cm30:cFn Tryd.prog 30 = some am30 := by kernel_rfl
def rep_Ri:ACode := (.seq (.seq (.reg [⟨some 34,none,(.op (.mv (.t 8)))⟩,
    ⟨some 35,none,(.op (.mv (.t 7)))⟩,
    ⟨some 36,none,(.op (.len false (.t 35)))⟩,
    ⟨some 37,none,(.op (.bin .lss (.t 34) (.t 36)))⟩])
  (.cond (.t 37) .skip (.exit 0)))
  (.block 1 (.regd [⟨some 38,none,(.op (.mv (.t 8)))⟩,
    ⟨some 39,none,(.op (.mv (.t 7)))⟩,
    ⟨some 40,none,(.op (.mv (.t 8)))⟩,
    ⟨some 41,none,(.op (.sl 1 (.t 39) (some (.t 40)) none))⟩,
    ⟨some 42,none,(.op (.mv (.t 7)))⟩,
    ⟨some 43,none,(.op (.mv (.t 8)))⟩,
    ⟨some 44,none,(.op (.sl 1 (.t 42) none (some (.t 43))))⟩,
    ⟨some 45,none,(.op (.cpy 1 (.t 41) (.t 44)))⟩,
    ⟨some 46,none,(.op (.bin .add (.t 38) (.t 45)))⟩,
    ⟨some 8,none,(.op (.mv (.t 46)))⟩] [])))
theorem rl_Ri (e:Int) (n c:Nat) (h1:1≤c) (h2:c < n):wr (List.replicate (c) (V.p (.int .i64 e:Pv)) ++ List.replicate (n - (c)) (V.p (.int .i64 0:Pv))) c (List.replicate (min c (n - c)) (V.p (.int .i64 e:Pv))) = (List.replicate (c + min c (n - c)) (V.p (.int .i64 e:Pv)) ++ List.replicate (n - (c + min c (n - c))) (V.p (.int .i64 0:Pv))) := by
  have key:∀ (a b q:Nat),b≤q→wr (List.replicate a (V.p (.int .i64 e:Pv)) ++ List.replicate q (V.p (.int .i64 0:Pv))) a (List.replicate b (V.p (.int .i64 e:Pv))) = List.replicate (a + b) (V.p (.int .i64 e:Pv)) ++ List.replicate (q - b) (V.p (.int .i64 0:Pv)) := by
    intro a b
    induction b generalizing a with
    | zero => intro q _; simp [wr]
    | succ b ih =>
      intro q hq
      obtain ⟨q',rfl⟩ : ∃ q',q = q' + 1 := ⟨q - 1,by omega⟩
      rw [List.replicate_succ]
      show wr ((List.replicate a (V.p (.int .i64 e:Pv)) ++ List.replicate (q' + 1) (V.p (.int .i64 0:Pv))).set a (V.p (.int .i64 e:Pv))) (a + 1) (List.replicate b (V.p (.int .i64 e:Pv))) = _
      have e1:(List.replicate a (V.p (.int .i64 e:Pv)) ++ List.replicate (q' + 1) (V.p (.int .i64 0:Pv))).set a (V.p (.int .i64 e:Pv)) = List.replicate (a + 1) (V.p (.int .i64 e:Pv)) ++ List.replicate q' (V.p (.int .i64 0:Pv)) := by
        rw [List.set_append_right _ _ (by simp)]
        simp only [List.length_replicate,Nat.sub_self,List.replicate_succ,List.set_cons_zero]
        rw [show (V.p (.int .i64 e:Pv) :: List.replicate q' (V.p (.int .i64 0:Pv))) = [V.p (.int .i64 e:Pv)] ++ List.replicate q' (V.p (.int .i64 0:Pv)) from rfl,← List.append_assoc,← List.replicate_succ',List.replicate_succ]
      rw [e1,ih (a + 1) q' (by omega)]
      rw [show a + 1 + b = a + (b + 1) by omega,show q' + 1 - (b + 1) = q' - b by omega]
  rw [key c (min c (n - c)) (n - c) (by omega),show n - c - min c (n - c) = n - (c + min c (n - c)) by omega]
theorem rc_Ri (e:Int) (n c:Nat) (h2:c≤n):sliceP [⟨0,.dead,[]⟩,⟨1,.live,(List.replicate (c) (V.p (.int .i64 e:Pv)) ++ List.replicate (n - (c)) (V.p (.int .i64 0:Pv)))⟩] 1 (.ref 1 1 (0 + (0:Int).toNat * 1) ((c:Int).toNat - (0:Int).toNat) 1) = some (List.replicate c [.int .i64 e]) := by
  have ha:∀ k,allP (List.replicate k (V.p (.int .i64 e:Pv))) = some (List.replicate k (.int .i64 e:Pv)) := by
    intro k
    induction k with
    | zero => rfl
    | succ k ih => rw [List.replicate_succ,List.replicate_succ]; simp only [allP,ih]; rfl
  have hk:∀ k,chunk 1 k (List.replicate k (.int .i64 e:Pv)) = List.replicate k [.int .i64 e] := by
    intro k
    induction k with
    | zero => rfl
    | succ k ih =>
      rw [List.replicate_succ,List.replicate_succ]
      show [.int .i64 e] :: chunk 1 k (List.replicate k (.int .i64 e:Pv)) = _
      rw [ih]
  have hl:0 + 0 * 1 + c * 1≤(List.replicate (c) (V.p (.int .i64 e:Pv)) ++ List.replicate (n - (c)) (V.p (.int .i64 0:Pv))).length := by rw [List.length_append,List.length_replicate,List.length_replicate]; omega
  show (if 1 = 1∧BSt.ok .live = true∧1 = 1∧0 + 0 * 1 + c * 1≤(List.replicate (c) (V.p (.int .i64 e:Pv)) ++ List.replicate (n - (c)) (V.p (.int .i64 0:Pv))).length then (allP (((List.replicate (c) (V.p (.int .i64 e:Pv)) ++ List.replicate (n - (c)) (V.p (.int .i64 0:Pv))).drop 0).take (c * 1))).map (chunk 1 c) else none) = _
  rw [if_pos ⟨rfl,rfl,rfl,hl⟩,List.drop_zero,Nat.mul_one,List.take_left' (by simp),ha]
  show some (chunk 1 c (List.replicate c (.int .i64 e:Pv))) = _
  rw [hk]
set_option maxHeartbeats 4000000 in
theorem rw_Ri (e:Int) (n:Nat) (hn:n≤1000000):RetO Tryd.prog 30 [.p (.sl 1 [[.int .i64 e]] false),.p (.int .i64 ((n:Int)))] (fun t ver => .ref t ver 0 n 1) ((List.replicate n (.int .i64 e:Pv)).map .p) := by
  refine reto_of cm30 ?_
  generalize hQ:(Done fun s => ∃ v ps',resV s am30.res = some v∧ownV s.hp v n 1 ps'∧LeS ps' (List.replicate n (.int .i64 e:Pv))) = Q
  have loop:∀ (f c:Nat) (v33 v34 v35 v36 v37 v38 v39 v40 v41 v42 v43 v44 v45 v46:V),n - c < f→c≤n→(1≤c ∨ n = 0)→Unr Tryd.prog 0 rep_Ri (AEx.blk 0 (AEx.seq (AWp Tryd.prog 0 (.seq (.reg [⟨some 47,none,(.op (.mv (.t 7)))⟩,⟨some 4,none,(.op (.mv (.t 47)))⟩]) .ret) Q) Q)) f ⟨[.p (.sl 1 [[.int .i64 e]] false),.p (.int .i64 ((n:Int))),.und,.und,.p (.sl 0 [] true),.p (.int .u64 (0)),.p (.int .u64 ((n:Int))),.ref 1 1 0 n 1,.p (.int .i64 ((c:Int))),.p (.int .i64 ((n:Int))),.p (.bool (decide ((n:Int) < 0))),.und,.tup [.p (.int .u64 (0)),.p (.int .u64 ((n:Int)))],.p (.sl 1 [[.int .i64 e]] false),.p (.int .i64 (((1:Nat):Int))),.p (.int .u64 (1)),.p (.int .i64 ((n:Int))),.p (.int .u64 ((n:Int))),.tup [.p (.int .u64 (0)),.p (.int .u64 ((n:Int)))],.p (.int .u64 (0)),.p (.int .u64 ((n:Int))),.p (.int .u64 (0)),.p (.bool false),.p (.bool false),.p (.int .u64 ((n:Int))),.p (.bool (decide ((n:Int) > 9223372036854775807))),.p (.bool (decide ((n:Int) > 9223372036854775807))),.und,.p (.int .u64 ((n:Int))),.p (.int .i64 ((n:Int))),.ref 1 1 0 n 1,.ref 1 1 0 n 1,.p (.sl 1 [[.int .i64 e]] false),v33,v34,v35,v36,v37,v38,v39,v40,v41,v42,v43,v44,v45,v46,.und],[⟨0,.dead,[]⟩,⟨1,.live,(List.replicate (c) (V.p (.int .i64 e:Pv)) ++ List.replicate (n - (c)) (V.p (.int .i64 0:Pv)))⟩]⟩ := by
    intro f
    induction f with
    | zero => intro c; intros; omega
    | succ f ih =>
      intro c v33 v34 v35 v36 v37 v38 v39 v40 v41 v42 v43 v44 v45 v46 hf hc h1
      refine a_unr (a_seq (a_seq (a_reg (a_op rfl (a_op rfl (a_op rfl (a_op rfl (a_end (a_next (a_cond rfl ?_))))))))))
      by_cases hcn:c < n
      · have hlt:decide ((c:Int) < ((n:Nat):Int)) = true := decide_eq_true (by omega)
        rw [if_pos hlt]
        refine a_skip (a_next (a_block (a_regd (ad_op rfl (ad_op rfl (ad_op rfl ?_))))))
        refine ad_op (v := .ref 1 1 (0 + (c:Int).toNat * 1) ((n:Int).toNat - (c:Int).toNat) 1) (hp' := [⟨0,.dead,[]⟩,⟨1,.live,(List.replicate (c) (V.p (.int .i64 e:Pv)) ++ List.replicate (n - (c)) (V.p (.int .i64 0:Pv)))⟩]) (if_pos ⟨by omega,by omega,Int.le_refl _,rfl⟩) ?_
        refine ad_op rfl (ad_op rfl ?_)
        refine ad_op (v := .ref 1 1 (0 + (0:Int).toNat * 1) ((c:Int).toNat - (0:Int).toNat) 1) (hp' := [⟨0,.dead,[]⟩,⟨1,.live,(List.replicate (c) (V.p (.int .i64 e:Pv)) ++ List.replicate (n - (c)) (V.p (.int .i64 0:Pv)))⟩]) (if_pos ⟨Int.le_refl _,by omega,by omega,rfl⟩) ?_
        refine ad_op (v := .p (.int .i64 (((min c (n - c):Nat):Int)))) (hp' := [⟨0,.dead,[]⟩,⟨1,.live,(List.replicate (c + min c (n - c)) (V.p (.int .i64 e:Pv)) ++ List.replicate (n - (c + min c (n - c))) (V.p (.int .i64 0:Pv)))⟩]) ?_ ?_
        · have hs := rc_Ri e n c hc
          have hl:0 + (c:Int).toNat * 1 + ((n:Int).toNat - (c:Int).toNat) * 1≤(List.replicate (c) (V.p (.int .i64 e:Pv)) ++ List.replicate (n - (c)) (V.p (.int .i64 0:Pv))).length := by rw [List.length_append,List.length_replicate,List.length_replicate]; omega
          refine (a_cpy (b := ⟨1,.live,(List.replicate (c) (V.p (.int .i64 e:Pv)) ++ List.replicate (n - (c)) (V.p (.int .i64 0:Pv)))⟩) (ver := 1) (t := 1) (o := 0 + (c:Int).toNat * 1) (n := (n:Int).toNat - (c:Int).toNat) hs rfl rfl rfl rfl hl).trans ?_
          rw [List.length_replicate,Int.toNat_natCast,Int.toNat_natCast,List.take_replicate,show min (min c (n - c)) c = min c (n - c) by omega]
          have hfl:∀ k,(List.replicate k [.int .i64 e]).flatten.map V.p = List.replicate k (V.p (.int .i64 e:Pv)) := by
            intro k
            induction k with
            | zero => rfl
            | succ k ih => rw [List.replicate_succ,List.replicate_succ,List.flatten_cons,List.map_append,ih]; rfl
          rw [hfl,Nat.zero_add,Nat.mul_one,rl_Ri e n c (by omega) hcn]; rfl
        · refine ad_op (v := .p (.int .i64 (((c + min c (n - c):Nat):Int)))) (hp' := [⟨0,.dead,[]⟩,⟨1,.live,(List.replicate (c + min c (n - c)) (V.p (.int .i64 e:Pv)) ++ List.replicate (n - (c + min c (n - c))) (V.p (.int .i64 0:Pv)))⟩]) ?_ ?_
          · show some (V.p (.int .i64 (IntKind.i64.wrap ((c:Int) + ((min c (n - c):Nat):Int)))),_) = _
            rw [wrap_id (by omega) (by omega),← Int.natCast_add]; rfl
          · refine ad_op rfl (ad_end (by rfl) (a_bnorm (a_next ?_)))
            refine unr_at (st' := ⟨[.p (.sl 1 [[.int .i64 e]] false),.p (.int .i64 ((n:Int))),.und,.und,.p (.sl 0 [] true),.p (.int .u64 (0)),.p (.int .u64 ((n:Int))),.ref 1 1 0 n 1,.p (.int .i64 (((c + min c (n - c):Nat):Int))),.p (.int .i64 ((n:Int))),.p (.bool (decide ((n:Int) < 0))),.und,.tup [.p (.int .u64 (0)),.p (.int .u64 ((n:Int)))],.p (.sl 1 [[.int .i64 e]] false),.p (.int .i64 (((1:Nat):Int))),.p (.int .u64 (1)),.p (.int .i64 ((n:Int))),.p (.int .u64 ((n:Int))),.tup [.p (.int .u64 (0)),.p (.int .u64 ((n:Int)))],.p (.int .u64 (0)),.p (.int .u64 ((n:Int))),.p (.int .u64 (0)),.p (.bool false),.p (.bool false),.p (.int .u64 ((n:Int))),.p (.bool (decide ((n:Int) > 9223372036854775807))),.p (.bool (decide ((n:Int) > 9223372036854775807))),.und,.p (.int .u64 ((n:Int))),.p (.int .i64 ((n:Int))),.ref 1 1 0 n 1,.ref 1 1 0 n 1,.p (.sl 1 [[.int .i64 e]] false),v33,.p (.int .i64 ((c:Int))),.ref 1 1 0 n 1,.p (.int .i64 (((n:Nat):Int))),.p (.bool (decide ((c:Int) < ((n:Nat):Int)))),.p (.int .i64 ((c:Int))),.ref 1 1 0 n 1,.p (.int .i64 ((c:Int))),.ref 1 1 (0 + (c:Int).toNat * 1) ((n:Int).toNat - (c:Int).toNat) 1,.ref 1 1 0 n 1,.p (.int .i64 ((c:Int))),.ref 1 1 (0 + (0:Int).toNat * 1) ((c:Int).toNat - (0:Int).toNat) 1,.p (.int .i64 (((min c (n - c):Nat):Int))),.p (.int .i64 (((c + min c (n - c):Nat):Int))),.und],[⟨0,.dead,[]⟩,⟨1,.live,(List.replicate (c + min c (n - c)) (V.p (.int .i64 e:Pv)) ++ List.replicate (n - (c + min c (n - c))) (V.p (.int .i64 0:Pv)))⟩]⟩) (by kernel_rfl) ?_
            exact ih (c + min c (n - c)) _ _ _ _ _ _ _ _ _ _ _ _ _ _ (by omega) (by omega) (.inl (by omega))
      · have hlt:decide ((c:Int) < ((n:Nat):Int)) = false := decide_eq_false (by omega)
        rw [if_neg (by rw [hlt]; decide)]
        have hc:c = n := by omega
        subst hc
        refine a_exit ?_
        show AEx.seq _ Q .normal _
        refine a_next (a_seq (a_reg (a_op rfl (a_op rfl (a_end (a_next (a_ret ?_)))))))
        rw [← hQ]
        refine ⟨_,List.replicate c (.int .i64 e:Pv),rfl,.inr ⟨1,_,rfl,rfl,rfl,?_⟩,.refl _⟩
        show (List.replicate (c) (V.p (.int .i64 e:Pv)) ++ List.replicate (c - (c)) (V.p (.int .i64 0:Pv))) = _
        rw [Nat.sub_self,List.map_replicate]; simp
  have hu1:IntKind.u64.wrap ((1:Nat):Int) = 1 := by decide
  have hu2:IntKind.u64.wrap (n:Int) = n := u_wrap (by omega) (by omega)
  have hu3:IntKind.i64.wrap (n:Int) = n := wrap_id (by omega) (by omega)
  have hret:Ret Tryd.prog 46 [.p (.int .u64 (1)),.p (.int .u64 ((n:Int)))] (.tup [.p (.int .u64 (0)),.p (.int .u64 ((n:Int)))]) := by
    have := ok_Z10.2 (1,(n:Int)) (by
      simp only [con_Z10,qre_Z10,List.forall_mem_cons]
      exact ⟨by decide,by omega,by simp⟩)
    have e:con_Z10.fn (1,(n:Int)) = (0,(n:Int)) := by
      show (1 * (n:Int) / 18446744073709551616,1 * (n:Int) % 18446744073709551616) = _
      rw [Int.one_mul,Int.ediv_eq_zero_of_lt (by omega) (by omega),Int.emod_eq_of_lt (by omega) (by omega)]
    rw [e] at this
    exact this
  refine a_seq (a_reg (a_op rfl (a_end (a_next ?_))))
  refine a_seq (a_seq (a_reg (a_op rfl (a_op rfl (a_end (a_next (a_cond (b := false) ?_ ?_)))))))
  · show V.p (.bool (decide ((n:Int) < 0))) = _
    rw [decide_eq_false (by omega)]
  rw [if_neg (by decide)]
  refine a_skip (a_next ?_)
  refine a_seq (a_reg (a_op rfl (a_op rfl (a_opw hu1 rfl (a_op rfl (a_opw hu2 rfl ?_))))))
  refine a_call (v := .tup [.p (.int .u64 (0)),.p (.int .u64 ((n:Int)))]) rfl rfl hret ?_
  refine a_at (st' := ⟨[.p (.sl 1 [[.int .i64 e]] false),.p (.int .i64 ((n:Int))),.und,.und,.p (.sl 0 [] true),.und,.und,.und,.und,.p (.int .i64 ((n:Int))),.p (.bool (decide ((n:Int) < 0))),.und,.und,.p (.sl 1 [[.int .i64 e]] false),.p (.int .i64 (((1:Nat):Int))),.p (.int .u64 (1)),.p (.int .i64 ((n:Int))),.p (.int .u64 ((n:Int))),.tup [.p (.int .u64 (0)),.p (.int .u64 ((n:Int)))],.und,.und,.und,.und,.und,.und,.und,.und,.und,.und,.und,.und,.und,.und,.und,.und,.und,.und,.und,.und,.und,.und,.und,.und,.und,.und,.und,.und,.und],[⟨0,.dead,[]⟩,⟨0,.dead,[]⟩]⟩) (by kernel_rfl) ?_
  refine a_op rfl (a_op rfl (a_op rfl (a_op rfl (a_op rfl (a_end (a_next ?_))))))
  refine awp_at (st' := ⟨[.p (.sl 1 [[.int .i64 e]] false),.p (.int .i64 ((n:Int))),.und,.und,.p (.sl 0 [] true),.p (.int .u64 (0)),.p (.int .u64 ((n:Int))),.und,.und,.p (.int .i64 ((n:Int))),.p (.bool (decide ((n:Int) < 0))),.und,.tup [.p (.int .u64 (0)),.p (.int .u64 ((n:Int)))],.p (.sl 1 [[.int .i64 e]] false),.p (.int .i64 (((1:Nat):Int))),.p (.int .u64 (1)),.p (.int .i64 ((n:Int))),.p (.int .u64 ((n:Int))),.tup [.p (.int .u64 (0)),.p (.int .u64 ((n:Int)))],.p (.int .u64 (0)),.p (.int .u64 ((n:Int))),.und,.und,.und,.und,.und,.und,.und,.und,.und,.und,.und,.und,.und,.und,.und,.und,.und,.und,.und,.und,.und,.und,.und,.und,.und,.und,.und],[⟨0,.dead,[]⟩,⟨0,.dead,[]⟩]⟩) (by kernel_rfl) ?_
  refine a_seq (a_seq (a_reg (a_op rfl (a_op rfl (a_op rfl (a_gdo rfl rfl (a_gdo rfl rfl (a_op rfl (a_end (a_next ?_)))))))))) 
  refine awp_at (st' := ⟨[.p (.sl 1 [[.int .i64 e]] false),.p (.int .i64 ((n:Int))),.und,.und,.p (.sl 0 [] true),.p (.int .u64 (0)),.p (.int .u64 ((n:Int))),.und,.und,.p (.int .i64 ((n:Int))),.p (.bool (decide ((n:Int) < 0))),.und,.tup [.p (.int .u64 (0)),.p (.int .u64 ((n:Int)))],.p (.sl 1 [[.int .i64 e]] false),.p (.int .i64 (((1:Nat):Int))),.p (.int .u64 (1)),.p (.int .i64 ((n:Int))),.p (.int .u64 ((n:Int))),.tup [.p (.int .u64 (0)),.p (.int .u64 ((n:Int)))],.p (.int .u64 (0)),.p (.int .u64 ((n:Int))),.p (.int .u64 (0)),.p (.bool false),.p (.bool false),.p (.int .u64 ((n:Int))),.p (.bool (decide ((n:Int) > 9223372036854775807))),.p (.bool (decide ((n:Int) > 9223372036854775807))),.und,.und,.und,.und,.und,.und,.und,.und,.und,.und,.und,.und,.und,.und,.und,.und,.und,.und,.und,.und,.und],[⟨0,.dead,[]⟩,⟨0,.dead,[]⟩]⟩) (by kernel_rfl) ?_
  refine a_cond (b := false) ?_ ?_
  · show V.p (.bool (decide ((n:Int) > 9223372036854775807))) = _
    rw [decide_eq_false (by omega)]
  rw [if_neg (by decide)]
  refine a_skip (a_next ?_)
  refine a_seq (a_reg (a_op rfl (a_opw hu3 rfl ?_)))
  refine a_op (v := .ref 1 1 0 n 1) (hp' := [⟨0,.dead,[]⟩,⟨1,.live,List.replicate n (V.p (.int .i64 0:Pv))⟩]) ?_ ?_
  · have hfl:∀ k,(List.replicate k [V.p (.int .i64 0:Pv)]).flatten = List.replicate k (V.p (.int .i64 0:Pv)) := by
      intro k
      induction k with
      | zero => rfl
      | succ k ih => rw [List.replicate_succ,List.replicate_succ,List.flatten_cons,ih]; rfl
    show (if 0≤(n:Int)∧8 * (n:Int)≤281474976710656∧(n:Int)≤9223372036854775807 then some (V.ref 1 (0 + 1) 0 (n:Int).toNat 1,([⟨0,.dead,[]⟩,⟨0 + 1,.live,(List.replicate (n:Int).toNat [V.p (.int .i64 0:Pv)]).flatten⟩]:List Blk)) else none) = _
    rw [if_pos ⟨by omega,by omega,by omega⟩,Int.toNat_natCast,hfl]
  refine a_op rfl (a_end (a_next ?_))
  refine awp_at (st' := ⟨[.p (.sl 1 [[.int .i64 e]] false),.p (.int .i64 ((n:Int))),.und,.und,.p (.sl 0 [] true),.p (.int .u64 (0)),.p (.int .u64 ((n:Int))),.ref 1 1 0 n 1,.und,.p (.int .i64 ((n:Int))),.p (.bool (decide ((n:Int) < 0))),.und,.tup [.p (.int .u64 (0)),.p (.int .u64 ((n:Int)))],.p (.sl 1 [[.int .i64 e]] false),.p (.int .i64 (((1:Nat):Int))),.p (.int .u64 (1)),.p (.int .i64 ((n:Int))),.p (.int .u64 ((n:Int))),.tup [.p (.int .u64 (0)),.p (.int .u64 ((n:Int)))],.p (.int .u64 (0)),.p (.int .u64 ((n:Int))),.p (.int .u64 (0)),.p (.bool false),.p (.bool false),.p (.int .u64 ((n:Int))),.p (.bool (decide ((n:Int) > 9223372036854775807))),.p (.bool (decide ((n:Int) > 9223372036854775807))),.und,.p (.int .u64 ((n:Int))),.p (.int .i64 ((n:Int))),.ref 1 1 0 n 1,.und,.und,.und,.und,.und,.und,.und,.und,.und,.und,.und,.und,.und,.und,.und,.und,.und],[⟨0,.dead,[]⟩,⟨1,.live,List.replicate n (V.p (.int .i64 0:Pv))⟩]⟩) (by kernel_rfl) ?_
  refine a_seq (a_reg (a_op rfl (a_op rfl ?_)))
  refine a_op (v := .p (.int .i64 (((min 1 n:Nat):Int)))) (hp' := [⟨0,.dead,[]⟩,⟨1,.live,(List.replicate (min 1 n) (V.p (.int .i64 e:Pv)) ++ List.replicate (n - (min 1 n)) (V.p (.int .i64 0:Pv)))⟩]) ?_ ?_
  · refine (a_cpy (b := ⟨1,.live,List.replicate n (V.p (.int .i64 0:Pv))⟩) (new := [[.int .i64 e]]) (ver := 1) (t := 1) (o := 0) (n := n) rfl rfl rfl rfl rfl (by rw [List.length_replicate]; omega)).trans ?_
    have:wr (List.replicate n (V.p (.int .i64 0:Pv))) 0 (([[.int .i64 e]].take (min 1 n)).flatten.map V.p) = (List.replicate (min 1 n) (V.p (.int .i64 e:Pv)) ++ List.replicate (n - (min 1 n)) (V.p (.int .i64 0:Pv))) := by
      cases n with
      | zero => rfl
      | succ n =>
        rw [show min 1 (n + 1) = 1 by omega]
        rfl
    show some (_,([⟨0,.dead,[]⟩,⟨1,.live,wr (List.replicate n (V.p (.int .i64 0:Pv))) 0 (([[.int .i64 e]].take (min 1 n)).flatten.map V.p)⟩]:List Blk)) = _
    rw [this]; rfl
  refine a_op rfl (a_end (a_next ?_))
  refine a_seq (a_block (m_loop_unr (n + 1) ?_))
  refine unr_at (st' := ⟨[.p (.sl 1 [[.int .i64 e]] false),.p (.int .i64 ((n:Int))),.und,.und,.p (.sl 0 [] true),.p (.int .u64 (0)),.p (.int .u64 ((n:Int))),.ref 1 1 0 n 1,.p (.int .i64 (((min 1 n:Nat):Int))),.p (.int .i64 ((n:Int))),.p (.bool (decide ((n:Int) < 0))),.und,.tup [.p (.int .u64 (0)),.p (.int .u64 ((n:Int)))],.p (.sl 1 [[.int .i64 e]] false),.p (.int .i64 (((1:Nat):Int))),.p (.int .u64 (1)),.p (.int .i64 ((n:Int))),.p (.int .u64 ((n:Int))),.tup [.p (.int .u64 (0)),.p (.int .u64 ((n:Int)))],.p (.int .u64 (0)),.p (.int .u64 ((n:Int))),.p (.int .u64 (0)),.p (.bool false),.p (.bool false),.p (.int .u64 ((n:Int))),.p (.bool (decide ((n:Int) > 9223372036854775807))),.p (.bool (decide ((n:Int) > 9223372036854775807))),.und,.p (.int .u64 ((n:Int))),.p (.int .i64 ((n:Int))),.ref 1 1 0 n 1,.ref 1 1 0 n 1,.p (.sl 1 [[.int .i64 e]] false),.p (.int .i64 (((min 1 n:Nat):Int))),.und,.und,.und,.und,.und,.und,.und,.und,.und,.und,.und,.und,.und,.und],[⟨0,.dead,[]⟩,⟨1,.live,(List.replicate (min 1 n) (V.p (.int .i64 e:Pv)) ++ List.replicate (n - (min 1 n)) (V.p (.int .i64 0:Pv)))⟩]⟩) (by kernel_rfl) ?_
  exact loop (n + 1) (min 1 n) _ _ _ _ _ _ _ _ _ _ _ _ _ _ (by omega) (by omega) (by omega)
abbrev con_Z1e:Con := ⟨P_Z1e,[.one (.sl E_Z1e)],fun x => [x.1.length = 1,0≤x.2,x.2≤1000000],fun x => List.replicate x.2.toNat (x.1.getD 0 0)⟩
theorem ok_Z1e:ConOOk Tryd.prog 30 con_Z1e := by
  refine ⟨k_Z1e,fun x hx => ?_⟩
  obtain ⟨l,n⟩ := x
  obtain ⟨h1,h2,h3,_⟩ := conj_of hx
  obtain ⟨e,rfl⟩ : ∃ e,l = [e] := by
    match l,h1 with
    | [e],_ => exact ⟨e,rfl⟩
  obtain ⟨k,rfl⟩ : ∃ k:Nat,n = ((k:Nat):Int) := ⟨Int.toNat n,(Int.toNat_of_nonneg h2).symm⟩
  have := rw_Ri e k (by have:((k:Nat):Int)≤1000000 := h3; omega)
  have hl:(con_Z1e.fn ([e],((k:Nat):Int))).length = k := by
    show (List.replicate (Int.toNat ((k:Nat):Int)) e).length = k
    rw [List.length_replicate,Int.toNat_natCast]
  have hc:(List.map (Ty.enc E_Z1e) (con_Z1e.fn ([e],((k:Nat):Int)))).flatten = List.replicate k (.int .i64 e:Pv) := by
    show (List.map (Ty.enc E_Z1e) (List.replicate (Int.toNat ((k:Nat):Int)) e)).flatten = _
    rw [Int.toNat_natCast,List.map_replicate]
    have key:∀ k,(List.replicate k [(.int .i64 e:Pv)]).flatten = List.replicate k (.int .i64 e:Pv) := by
      intro k
      induction k with
      | zero => rfl
      | succ k ih => rw [List.replicate_succ,List.replicate_succ,List.flatten_cons,ih]; rfl
    exact key k
  show RetO Tryd.prog 30 _ (fun t ver => .ref t ver 0 (con_Z1e.fn ([e],((k:Nat):Int))).length 1) (((List.map (Ty.enc E_Z1e) (con_Z1e.fn ([e],((k:Nat):Int)))).flatten).map .p)
  rw [hl,hc]
  exact this
end Go.Proofs.YtfapfcjioianbaaDoor
