/- What slices.Repeat makes of one bool. No condition. -/
import Derived.Test.YtcecdmdnfmgnfaaDoorRp1GravitySpans
import Derived.Test.YtcecdmdnfmgnfaaDoorMxX2
import Derived.Test.YtcecdmdnfmgnfaaDoorLayB
import Derived.KernelRfl
namespace Go.Proofs.YtcecdmdnfmgnfaaDoor
open Go Go.Mx
set_option maxRecDepth 100000
def rep_Rb : ACode := (.seq (.seq (.reg [⟨some 34, none, (.op (.mv (.t 8)))⟩,
    ⟨some 35, none, (.op (.mv (.t 7)))⟩,
    ⟨some 36, none, (.op (.len false (.t 35)))⟩,
    ⟨some 37, none, (.op (.bin .lss (.t 34) (.t 36)))⟩])
  (.cond (.t 37) .skip (.exit 0)))
  (.block 1 (.regd [⟨some 38, none, (.op (.mv (.t 8)))⟩,
    ⟨some 39, none, (.op (.mv (.t 7)))⟩,
    ⟨some 40, none, (.op (.mv (.t 8)))⟩,
    ⟨some 41, none, (.op (.sl 1 (.t 39) (some (.t 40)) none))⟩,
    ⟨some 42, none, (.op (.mv (.t 7)))⟩,
    ⟨some 43, none, (.op (.mv (.t 8)))⟩,
    ⟨some 44, none, (.op (.sl 1 (.t 42) none (some (.t 43))))⟩,
    ⟨some 45, none, (.op (.cpy 1 (.t 41) (.t 44)))⟩,
    ⟨some 46, none, (.op (.bin .add (.t 38) (.t 45)))⟩,
    ⟨some 8, none, (.op (.mv (.t 46)))⟩] [])))
theorem rl_Rb (e : Bool) (n c : Nat) (h1 : 1 ≤ c) (h2 : c < n) : wr (List.replicate (c) (V.p (.bool e : Pv)) ++ List.replicate (n - (c)) (V.p (.bool false : Pv))) c (List.replicate (min c (n - c)) (V.p (.bool e : Pv))) = (List.replicate (c + min c (n - c)) (V.p (.bool e : Pv)) ++ List.replicate (n - (c + min c (n - c))) (V.p (.bool false : Pv))) := by
  have key : ∀ (a b q : Nat), b ≤ q → wr (List.replicate a (V.p (.bool e : Pv)) ++ List.replicate q (V.p (.bool false : Pv))) a (List.replicate b (V.p (.bool e : Pv))) = List.replicate (a + b) (V.p (.bool e : Pv)) ++ List.replicate (q - b) (V.p (.bool false : Pv)) := by
    intro a b
    induction b generalizing a with
    | zero => intro q _; simp [wr]
    | succ b ih =>
      intro q hq
      obtain ⟨q', rfl⟩ : ∃ q', q = q' + 1 := ⟨q - 1, by omega⟩
      rw [List.replicate_succ]
      show wr ((List.replicate a (V.p (.bool e : Pv)) ++ List.replicate (q' + 1) (V.p (.bool false : Pv))).set a (V.p (.bool e : Pv))) (a + 1) (List.replicate b (V.p (.bool e : Pv))) = _
      have e1 : (List.replicate a (V.p (.bool e : Pv)) ++ List.replicate (q' + 1) (V.p (.bool false : Pv))).set a (V.p (.bool e : Pv)) = List.replicate (a + 1) (V.p (.bool e : Pv)) ++ List.replicate q' (V.p (.bool false : Pv)) := by
        rw [List.set_append_right _ _ (by simp)]
        simp only [List.length_replicate, Nat.sub_self, List.replicate_succ, List.set_cons_zero]
        rw [show (V.p (.bool e : Pv) :: List.replicate q' (V.p (.bool false : Pv))) = [V.p (.bool e : Pv)] ++ List.replicate q' (V.p (.bool false : Pv)) from rfl, ← List.append_assoc, ← List.replicate_succ', List.replicate_succ]
      rw [e1, ih (a + 1) q' (by omega)]
      rw [show a + 1 + b = a + (b + 1) by omega, show q' + 1 - (b + 1) = q' - b by omega]
  rw [key c (min c (n - c)) (n - c) (by omega), show n - c - min c (n - c) = n - (c + min c (n - c)) by omega]
theorem rc_Rb (e : Bool) (n c : Nat) (h2 : c ≤ n) : sliceP [⟨0, .dead, []⟩, ⟨1, .live, (List.replicate (c) (V.p (.bool e : Pv)) ++ List.replicate (n - (c)) (V.p (.bool false : Pv)))⟩] 1 (.ref 1 1 (0 + (0 : Int).toNat * 1) ((c : Int).toNat - (0 : Int).toNat) 1) = some (List.replicate c [.bool e]) := by
  have ha : ∀ k, allP (List.replicate k (V.p (.bool e : Pv))) = some (List.replicate k (.bool e : Pv)) := by
    intro k
    induction k with
    | zero => rfl
    | succ k ih => rw [List.replicate_succ, List.replicate_succ]; simp only [allP, ih]; rfl
  have hk : ∀ k, chunk 1 k (List.replicate k (.bool e : Pv)) = List.replicate k [.bool e] := by
    intro k
    induction k with
    | zero => rfl
    | succ k ih =>
      rw [List.replicate_succ, List.replicate_succ]
      show [.bool e] :: chunk 1 k (List.replicate k (.bool e : Pv)) = _
      rw [ih]
  have hl : 0 + 0 * 1 + c * 1 ≤ (List.replicate (c) (V.p (.bool e : Pv)) ++ List.replicate (n - (c)) (V.p (.bool false : Pv))).length := by rw [List.length_append, List.length_replicate, List.length_replicate]; omega
  show (if 1 = 1 ∧ BSt.ok .live = true ∧ 1 = 1 ∧ 0 + 0 * 1 + c * 1 ≤ (List.replicate (c) (V.p (.bool e : Pv)) ++ List.replicate (n - (c)) (V.p (.bool false : Pv))).length then (allP (((List.replicate (c) (V.p (.bool e : Pv)) ++ List.replicate (n - (c)) (V.p (.bool false : Pv))).drop 0).take (c * 1))).map (chunk 1 c) else none) = _
  rw [if_pos ⟨rfl, rfl, rfl, hl⟩, List.drop_zero, Nat.mul_one, List.take_left' (by simp), ha]
  show some (chunk 1 c (List.replicate c (.bool e : Pv))) = _
  rw [hk]
set_option maxHeartbeats 4000000 in
theorem rw_Rb (e : Bool) (n : Nat) (hn : n ≤ 1000000) : RetO Tryd.prog 134 [.p (.sl 1 [[.bool e]] false), .p (.int .i64 ((n : Int)))] (fun t ver => .ref t ver 0 n 1) ((List.replicate n (.bool e : Pv)).map .p) := by
  refine reto_of cm134 ?_
  generalize hQ : (Done fun s => ∃ v ps', resV s am134.res = some v ∧ ownV s.hp v n 1 ps' ∧ LeS ps' (List.replicate n (.bool e : Pv))) = Q
  have loop : ∀ (f c : Nat) (v33 v34 v35 v36 v37 v38 v39 v40 v41 v42 v43 v44 v45 v46 : V), n - c < f → c ≤ n → (1 ≤ c ∨ n = 0) → Unr Tryd.prog 0 rep_Rb (AEx.blk 0 (AEx.seq (AWp Tryd.prog 0 (.seq (.reg [⟨some 47, none, (.op (.mv (.t 7)))⟩, ⟨some 4, none, (.op (.mv (.t 47)))⟩]) .ret) Q) Q)) f ⟨[.p (.sl 1 [[.bool e]] false), .p (.int .i64 ((n : Int))), .und, .und, .p (.sl 0 [] true), .p (.int .u64 (0)), .p (.int .u64 ((n : Int))), .ref 1 1 0 n 1, .p (.int .i64 ((c : Int))), .p (.int .i64 ((n : Int))), .p (.bool (decide ((n : Int) < 0))), .und, .tup [.p (.int .u64 (0)), .p (.int .u64 ((n : Int)))], .p (.sl 1 [[.bool e]] false), .p (.int .i64 (((1 : Nat) : Int))), .p (.int .u64 (1)), .p (.int .i64 ((n : Int))), .p (.int .u64 ((n : Int))), .tup [.p (.int .u64 (0)), .p (.int .u64 ((n : Int)))], .p (.int .u64 (0)), .p (.int .u64 ((n : Int))), .p (.int .u64 (0)), .p (.bool false), .p (.bool false), .p (.int .u64 ((n : Int))), .p (.bool (decide ((n : Int) > 9223372036854775807))), .p (.bool (decide ((n : Int) > 9223372036854775807))), .und, .p (.int .u64 ((n : Int))), .p (.int .i64 ((n : Int))), .ref 1 1 0 n 1, .ref 1 1 0 n 1, .p (.sl 1 [[.bool e]] false), v33, v34, v35, v36, v37, v38, v39, v40, v41, v42, v43, v44, v45, v46, .und], [⟨0, .dead, []⟩, ⟨1, .live, (List.replicate (c) (V.p (.bool e : Pv)) ++ List.replicate (n - (c)) (V.p (.bool false : Pv)))⟩]⟩ := by
    intro f
    induction f with
    | zero => intro c; intros; omega
    | succ f ih =>
      intro c v33 v34 v35 v36 v37 v38 v39 v40 v41 v42 v43 v44 v45 v46 hf hc h1
      refine a_unr (a_seq (a_seq (a_reg (a_op rfl (a_op rfl (a_op rfl (a_op rfl (a_end (a_next (a_cond rfl ?_))))))))))
      by_cases hcn : c < n
      · have hlt : decide ((c : Int) < ((n : Nat) : Int)) = true := decide_eq_true (by omega)
        rw [if_pos hlt]
        refine a_skip (a_next (a_block (a_regd (ad_op rfl (ad_op rfl (ad_op rfl ?_))))))
        refine ad_op (v := .ref 1 1 (0 + (c : Int).toNat * 1) ((n : Int).toNat - (c : Int).toNat) 1) (hp' := [⟨0, .dead, []⟩, ⟨1, .live, (List.replicate (c) (V.p (.bool e : Pv)) ++ List.replicate (n - (c)) (V.p (.bool false : Pv)))⟩]) (if_pos ⟨by omega, by omega, Int.le_refl _, rfl⟩) ?_
        refine ad_op rfl (ad_op rfl ?_)
        refine ad_op (v := .ref 1 1 (0 + (0 : Int).toNat * 1) ((c : Int).toNat - (0 : Int).toNat) 1) (hp' := [⟨0, .dead, []⟩, ⟨1, .live, (List.replicate (c) (V.p (.bool e : Pv)) ++ List.replicate (n - (c)) (V.p (.bool false : Pv)))⟩]) (if_pos ⟨Int.le_refl _, by omega, by omega, rfl⟩) ?_
        refine ad_op (v := .p (.int .i64 (((min c (n - c) : Nat) : Int)))) (hp' := [⟨0, .dead, []⟩, ⟨1, .live, (List.replicate (c + min c (n - c)) (V.p (.bool e : Pv)) ++ List.replicate (n - (c + min c (n - c))) (V.p (.bool false : Pv)))⟩]) ?_ ?_
        · have hs := rc_Rb e n c hc
          have hl : 0 + (c : Int).toNat * 1 + ((n : Int).toNat - (c : Int).toNat) * 1 ≤ (List.replicate (c) (V.p (.bool e : Pv)) ++ List.replicate (n - (c)) (V.p (.bool false : Pv))).length := by rw [List.length_append, List.length_replicate, List.length_replicate]; omega
          refine (a_cpy (b := ⟨1, .live, (List.replicate (c) (V.p (.bool e : Pv)) ++ List.replicate (n - (c)) (V.p (.bool false : Pv)))⟩) (ver := 1) (t := 1) (o := 0 + (c : Int).toNat * 1) (n := (n : Int).toNat - (c : Int).toNat) hs rfl rfl rfl rfl hl).trans ?_
          rw [List.length_replicate, Int.toNat_natCast, Int.toNat_natCast, List.take_replicate, show min (min c (n - c)) c = min c (n - c) by omega]
          have hfl : ∀ k, (List.replicate k [.bool e]).flatten.map V.p = List.replicate k (V.p (.bool e : Pv)) := by
            intro k
            induction k with
            | zero => rfl
            | succ k ih => rw [List.replicate_succ, List.replicate_succ, List.flatten_cons, List.map_append, ih]; rfl
          rw [hfl, Nat.zero_add, Nat.mul_one, rl_Rb e n c (by omega) hcn]; rfl
        · refine ad_op (v := .p (.int .i64 (((c + min c (n - c) : Nat) : Int)))) (hp' := [⟨0, .dead, []⟩, ⟨1, .live, (List.replicate (c + min c (n - c)) (V.p (.bool e : Pv)) ++ List.replicate (n - (c + min c (n - c))) (V.p (.bool false : Pv)))⟩]) ?_ ?_
          · show some (V.p (.int .i64 (IntKind.i64.wrap ((c : Int) + ((min c (n - c) : Nat) : Int)))), _) = _
            rw [wrap_id (by omega) (by omega), ← Int.natCast_add]; rfl
          · refine ad_op rfl (ad_end (by rfl) (a_bnorm (a_next ?_)))
            refine unr_at (st' := ⟨[.p (.sl 1 [[.bool e]] false), .p (.int .i64 ((n : Int))), .und, .und, .p (.sl 0 [] true), .p (.int .u64 (0)), .p (.int .u64 ((n : Int))), .ref 1 1 0 n 1, .p (.int .i64 (((c + min c (n - c) : Nat) : Int))), .p (.int .i64 ((n : Int))), .p (.bool (decide ((n : Int) < 0))), .und, .tup [.p (.int .u64 (0)), .p (.int .u64 ((n : Int)))], .p (.sl 1 [[.bool e]] false), .p (.int .i64 (((1 : Nat) : Int))), .p (.int .u64 (1)), .p (.int .i64 ((n : Int))), .p (.int .u64 ((n : Int))), .tup [.p (.int .u64 (0)), .p (.int .u64 ((n : Int)))], .p (.int .u64 (0)), .p (.int .u64 ((n : Int))), .p (.int .u64 (0)), .p (.bool false), .p (.bool false), .p (.int .u64 ((n : Int))), .p (.bool (decide ((n : Int) > 9223372036854775807))), .p (.bool (decide ((n : Int) > 9223372036854775807))), .und, .p (.int .u64 ((n : Int))), .p (.int .i64 ((n : Int))), .ref 1 1 0 n 1, .ref 1 1 0 n 1, .p (.sl 1 [[.bool e]] false), v33, .p (.int .i64 ((c : Int))), .ref 1 1 0 n 1, .p (.int .i64 (((n : Nat) : Int))), .p (.bool (decide ((c : Int) < ((n : Nat) : Int)))), .p (.int .i64 ((c : Int))), .ref 1 1 0 n 1, .p (.int .i64 ((c : Int))), .ref 1 1 (0 + (c : Int).toNat * 1) ((n : Int).toNat - (c : Int).toNat) 1, .ref 1 1 0 n 1, .p (.int .i64 ((c : Int))), .ref 1 1 (0 + (0 : Int).toNat * 1) ((c : Int).toNat - (0 : Int).toNat) 1, .p (.int .i64 (((min c (n - c) : Nat) : Int))), .p (.int .i64 (((c + min c (n - c) : Nat) : Int))), .und], [⟨0, .dead, []⟩, ⟨1, .live, (List.replicate (c + min c (n - c)) (V.p (.bool e : Pv)) ++ List.replicate (n - (c + min c (n - c))) (V.p (.bool false : Pv)))⟩]⟩) (by kernel_rfl) ?_
            exact ih (c + min c (n - c)) _ _ _ _ _ _ _ _ _ _ _ _ _ _ (by omega) (by omega) (.inl (by omega))
      · have hlt : decide ((c : Int) < ((n : Nat) : Int)) = false := decide_eq_false (by omega)
        rw [if_neg (by rw [hlt]; decide)]
        have hc : c = n := by omega
        subst hc
        refine a_exit ?_
        show AEx.seq _ Q .normal _
        refine a_next (a_seq (a_reg (a_op rfl (a_op rfl (a_end (a_next (a_ret ?_)))))))
        rw [← hQ]
        refine ⟨_, List.replicate c (.bool e : Pv), rfl, .inr ⟨1, _, rfl, rfl, rfl, ?_⟩, .refl _⟩
        show (List.replicate (c) (V.p (.bool e : Pv)) ++ List.replicate (c - (c)) (V.p (.bool false : Pv))) = _
        rw [Nat.sub_self, List.map_replicate]; simp
  have hu1 : IntKind.u64.wrap ((1 : Nat) : Int) = 1 := by decide
  have hu2 : IntKind.u64.wrap (n : Int) = n := u_wrap (by omega) (by omega)
  have hu3 : IntKind.i64.wrap (n : Int) = n := wrap_id (by omega) (by omega)
  have hret : Ret Tryd.prog 132 [.p (.int .u64 (1)), .p (.int .u64 ((n : Int)))] (.tup [.p (.int .u64 (0)), .p (.int .u64 ((n : Int)))]) := by
    have := ok_mathbits_Mul.2 (1, (n : Int)) (by
      simp only [con_mathbits_Mul, qre_mathbits_Mul, List.forall_mem_cons]
      exact ⟨by decide, by omega, by simp⟩)
    have e : con_mathbits_Mul.fn (1, (n : Int)) = (0, (n : Int)) := by
      show (1 * (n : Int) / 18446744073709551616, 1 * (n : Int) % 18446744073709551616) = _
      rw [Int.one_mul, Int.ediv_eq_zero_of_lt (by omega) (by omega), Int.emod_eq_of_lt (by omega) (by omega)]
    rw [e] at this
    exact this
  refine a_seq (a_reg (a_op rfl (a_end (a_next ?_))))
  refine a_seq (a_seq (a_reg (a_op rfl (a_op rfl (a_end (a_next (a_cond (b := false) ?_ ?_)))))))
  · show V.p (.bool (decide ((n : Int) < 0))) = _
    rw [decide_eq_false (by omega)]
  rw [if_neg (by decide)]
  refine a_skip (a_next ?_)
  refine a_seq (a_reg (a_op rfl (a_op rfl (a_opw hu1 rfl (a_op rfl (a_opw hu2 rfl ?_))))))
  refine a_call (v := .tup [.p (.int .u64 (0)), .p (.int .u64 ((n : Int)))]) rfl rfl hret ?_
  refine a_at (st' := ⟨[.p (.sl 1 [[.bool e]] false), .p (.int .i64 ((n : Int))), .und, .und, .p (.sl 0 [] true), .und, .und, .und, .und, .p (.int .i64 ((n : Int))), .p (.bool (decide ((n : Int) < 0))), .und, .und, .p (.sl 1 [[.bool e]] false), .p (.int .i64 (((1 : Nat) : Int))), .p (.int .u64 (1)), .p (.int .i64 ((n : Int))), .p (.int .u64 ((n : Int))), .tup [.p (.int .u64 (0)), .p (.int .u64 ((n : Int)))], .und, .und, .und, .und, .und, .und, .und, .und, .und, .und, .und, .und, .und, .und, .und, .und, .und, .und, .und, .und, .und, .und, .und, .und, .und, .und, .und, .und, .und], [⟨0, .dead, []⟩, ⟨0, .dead, []⟩]⟩) (by kernel_rfl) ?_
  refine a_op rfl (a_op rfl (a_op rfl (a_op rfl (a_op rfl (a_end (a_next ?_))))))
  refine awp_at (st' := ⟨[.p (.sl 1 [[.bool e]] false), .p (.int .i64 ((n : Int))), .und, .und, .p (.sl 0 [] true), .p (.int .u64 (0)), .p (.int .u64 ((n : Int))), .und, .und, .p (.int .i64 ((n : Int))), .p (.bool (decide ((n : Int) < 0))), .und, .tup [.p (.int .u64 (0)), .p (.int .u64 ((n : Int)))], .p (.sl 1 [[.bool e]] false), .p (.int .i64 (((1 : Nat) : Int))), .p (.int .u64 (1)), .p (.int .i64 ((n : Int))), .p (.int .u64 ((n : Int))), .tup [.p (.int .u64 (0)), .p (.int .u64 ((n : Int)))], .p (.int .u64 (0)), .p (.int .u64 ((n : Int))), .und, .und, .und, .und, .und, .und, .und, .und, .und, .und, .und, .und, .und, .und, .und, .und, .und, .und, .und, .und, .und, .und, .und, .und, .und, .und, .und], [⟨0, .dead, []⟩, ⟨0, .dead, []⟩]⟩) (by kernel_rfl) ?_
  refine a_seq (a_seq (a_reg (a_op rfl (a_op rfl (a_op rfl (a_gdo rfl rfl (a_gdo rfl rfl (a_op rfl (a_end (a_next ?_)))))))))) 
  refine awp_at (st' := ⟨[.p (.sl 1 [[.bool e]] false), .p (.int .i64 ((n : Int))), .und, .und, .p (.sl 0 [] true), .p (.int .u64 (0)), .p (.int .u64 ((n : Int))), .und, .und, .p (.int .i64 ((n : Int))), .p (.bool (decide ((n : Int) < 0))), .und, .tup [.p (.int .u64 (0)), .p (.int .u64 ((n : Int)))], .p (.sl 1 [[.bool e]] false), .p (.int .i64 (((1 : Nat) : Int))), .p (.int .u64 (1)), .p (.int .i64 ((n : Int))), .p (.int .u64 ((n : Int))), .tup [.p (.int .u64 (0)), .p (.int .u64 ((n : Int)))], .p (.int .u64 (0)), .p (.int .u64 ((n : Int))), .p (.int .u64 (0)), .p (.bool false), .p (.bool false), .p (.int .u64 ((n : Int))), .p (.bool (decide ((n : Int) > 9223372036854775807))), .p (.bool (decide ((n : Int) > 9223372036854775807))), .und, .und, .und, .und, .und, .und, .und, .und, .und, .und, .und, .und, .und, .und, .und, .und, .und, .und, .und, .und, .und], [⟨0, .dead, []⟩, ⟨0, .dead, []⟩]⟩) (by kernel_rfl) ?_
  refine a_cond (b := false) ?_ ?_
  · show V.p (.bool (decide ((n : Int) > 9223372036854775807))) = _
    rw [decide_eq_false (by omega)]
  rw [if_neg (by decide)]
  refine a_skip (a_next ?_)
  refine a_seq (a_reg (a_op rfl (a_opw hu3 rfl ?_)))
  refine a_op (v := .ref 1 1 0 n 1) (hp' := [⟨0, .dead, []⟩, ⟨1, .live, List.replicate n (V.p (.bool false : Pv))⟩]) ?_ ?_
  · have hfl : ∀ k, (List.replicate k [V.p (.bool false : Pv)]).flatten = List.replicate k (V.p (.bool false : Pv)) := by
      intro k
      induction k with
      | zero => rfl
      | succ k ih => rw [List.replicate_succ, List.replicate_succ, List.flatten_cons, ih]; rfl
    show (if 0 ≤ (n : Int) ∧ 1 * (n : Int) ≤ 281474976710656 ∧ (n : Int) ≤ 9223372036854775807 then some (V.ref 1 (0 + 1) 0 (n : Int).toNat 1, ([⟨0, .dead, []⟩, ⟨0 + 1, .live, (List.replicate (n : Int).toNat [V.p (.bool false : Pv)]).flatten⟩] : List Blk)) else none) = _
    rw [if_pos ⟨by omega, by omega, by omega⟩, Int.toNat_natCast, hfl]
  refine a_op rfl (a_end (a_next ?_))
  refine awp_at (st' := ⟨[.p (.sl 1 [[.bool e]] false), .p (.int .i64 ((n : Int))), .und, .und, .p (.sl 0 [] true), .p (.int .u64 (0)), .p (.int .u64 ((n : Int))), .ref 1 1 0 n 1, .und, .p (.int .i64 ((n : Int))), .p (.bool (decide ((n : Int) < 0))), .und, .tup [.p (.int .u64 (0)), .p (.int .u64 ((n : Int)))], .p (.sl 1 [[.bool e]] false), .p (.int .i64 (((1 : Nat) : Int))), .p (.int .u64 (1)), .p (.int .i64 ((n : Int))), .p (.int .u64 ((n : Int))), .tup [.p (.int .u64 (0)), .p (.int .u64 ((n : Int)))], .p (.int .u64 (0)), .p (.int .u64 ((n : Int))), .p (.int .u64 (0)), .p (.bool false), .p (.bool false), .p (.int .u64 ((n : Int))), .p (.bool (decide ((n : Int) > 9223372036854775807))), .p (.bool (decide ((n : Int) > 9223372036854775807))), .und, .p (.int .u64 ((n : Int))), .p (.int .i64 ((n : Int))), .ref 1 1 0 n 1, .und, .und, .und, .und, .und, .und, .und, .und, .und, .und, .und, .und, .und, .und, .und, .und, .und], [⟨0, .dead, []⟩, ⟨1, .live, List.replicate n (V.p (.bool false : Pv))⟩]⟩) (by kernel_rfl) ?_
  refine a_seq (a_reg (a_op rfl (a_op rfl ?_)))
  refine a_op (v := .p (.int .i64 (((min 1 n : Nat) : Int)))) (hp' := [⟨0, .dead, []⟩, ⟨1, .live, (List.replicate (min 1 n) (V.p (.bool e : Pv)) ++ List.replicate (n - (min 1 n)) (V.p (.bool false : Pv)))⟩]) ?_ ?_
  · refine (a_cpy (b := ⟨1, .live, List.replicate n (V.p (.bool false : Pv))⟩) (new := [[.bool e]]) (ver := 1) (t := 1) (o := 0) (n := n) rfl rfl rfl rfl rfl (by rw [List.length_replicate]; omega)).trans ?_
    have : wr (List.replicate n (V.p (.bool false : Pv))) 0 (([[.bool e]].take (min 1 n)).flatten.map V.p) = (List.replicate (min 1 n) (V.p (.bool e : Pv)) ++ List.replicate (n - (min 1 n)) (V.p (.bool false : Pv))) := by
      cases n with
      | zero => rfl
      | succ n =>
        rw [show min 1 (n + 1) = 1 by omega]
        rfl
    show some (_, ([⟨0, .dead, []⟩, ⟨1, .live, wr (List.replicate n (V.p (.bool false : Pv))) 0 (([[.bool e]].take (min 1 n)).flatten.map V.p)⟩] : List Blk)) = _
    rw [this]; rfl
  refine a_op rfl (a_end (a_next ?_))
  refine a_seq (a_block (m_loop_unr (n + 1) ?_))
  refine unr_at (st' := ⟨[.p (.sl 1 [[.bool e]] false), .p (.int .i64 ((n : Int))), .und, .und, .p (.sl 0 [] true), .p (.int .u64 (0)), .p (.int .u64 ((n : Int))), .ref 1 1 0 n 1, .p (.int .i64 (((min 1 n : Nat) : Int))), .p (.int .i64 ((n : Int))), .p (.bool (decide ((n : Int) < 0))), .und, .tup [.p (.int .u64 (0)), .p (.int .u64 ((n : Int)))], .p (.sl 1 [[.bool e]] false), .p (.int .i64 (((1 : Nat) : Int))), .p (.int .u64 (1)), .p (.int .i64 ((n : Int))), .p (.int .u64 ((n : Int))), .tup [.p (.int .u64 (0)), .p (.int .u64 ((n : Int)))], .p (.int .u64 (0)), .p (.int .u64 ((n : Int))), .p (.int .u64 (0)), .p (.bool false), .p (.bool false), .p (.int .u64 ((n : Int))), .p (.bool (decide ((n : Int) > 9223372036854775807))), .p (.bool (decide ((n : Int) > 9223372036854775807))), .und, .p (.int .u64 ((n : Int))), .p (.int .i64 ((n : Int))), .ref 1 1 0 n 1, .ref 1 1 0 n 1, .p (.sl 1 [[.bool e]] false), .p (.int .i64 (((min 1 n : Nat) : Int))), .und, .und, .und, .und, .und, .und, .und, .und, .und, .und, .und, .und, .und, .und], [⟨0, .dead, []⟩, ⟨1, .live, (List.replicate (min 1 n) (V.p (.bool e : Pv)) ++ List.replicate (n - (min 1 n)) (V.p (.bool false : Pv)))⟩]⟩) (by kernel_rfl) ?_
  exact loop (n + 1) (min 1 n) _ _ _ _ _ _ _ _ _ _ _ _ _ _ (by omega) (by omega) (by omega)
abbrev con_slices_Repeatbool_bool : Con := ⟨P_slices_Repeatbool_bool, [.one (.sl E_slices_Repeatbool_bool)], fun x => [x.1.length = 1, 0 ≤ x.2, x.2 ≤ 1000000], fun x => List.replicate x.2.toNat (x.1.getD 0 false)⟩
theorem ok_slices_Repeatbool_bool : ConOOk Tryd.prog 134 con_slices_Repeatbool_bool := by
  refine ⟨k_slices_Repeatbool_bool, fun x hx => ?_⟩
  obtain ⟨l, n⟩ := x
  obtain ⟨h1, h2, h3, _⟩ := conj_of hx
  obtain ⟨e, rfl⟩ : ∃ e, l = [e] := by
    match l, h1 with
    | [e], _ => exact ⟨e, rfl⟩
  obtain ⟨k, rfl⟩ : ∃ k : Nat, n = ((k : Nat) : Int) := ⟨Int.toNat n, (Int.toNat_of_nonneg h2).symm⟩
  have := rw_Rb e k (by have : ((k : Nat) : Int) ≤ 1000000 := h3; omega)
  have hl : (con_slices_Repeatbool_bool.fn ([e], ((k : Nat) : Int))).length = k := by
    show (List.replicate (Int.toNat ((k : Nat) : Int)) e).length = k
    rw [List.length_replicate, Int.toNat_natCast]
  have hc : (List.map (Ty.enc E_slices_Repeatbool_bool) (con_slices_Repeatbool_bool.fn ([e], ((k : Nat) : Int)))).flatten = List.replicate k (.bool e : Pv) := by
    show (List.map (Ty.enc E_slices_Repeatbool_bool) (List.replicate (Int.toNat ((k : Nat) : Int)) e)).flatten = _
    rw [Int.toNat_natCast, List.map_replicate]
    have key : ∀ k, (List.replicate k [(.bool e : Pv)]).flatten = List.replicate k (.bool e : Pv) := by
      intro k
      induction k with
      | zero => rfl
      | succ k ih => rw [List.replicate_succ, List.replicate_succ, List.flatten_cons, ih]; rfl
    exact key k
  show RetO Tryd.prog 134 _ (fun t ver => .ref t ver 0 (con_slices_Repeatbool_bool.fn ([e], ((k : Nat) : Int))).length 1) (((List.map (Ty.enc E_slices_Repeatbool_bool) (con_slices_Repeatbool_bool.fn ([e], ((k : Nat) : Int)))).flatten).map .p)
  rw [hl, hc]
  exact this
end Go.Proofs.YtcecdmdnfmgnfaaDoor
