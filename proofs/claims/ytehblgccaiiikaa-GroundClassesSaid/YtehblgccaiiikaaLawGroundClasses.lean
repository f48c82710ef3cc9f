/- GroundClasses: the given statement is proved: at every input the law returns true, and the input reads as it did. No condition. -/
import Derived.Test.YtehblgccaiiikaaWalkGroundClasses
import Derived.Test.YtehblgccaiiikaaLayB
import Derived.Test.YtehblgccaiiikaaMxU
import Derived.Test.YtehblgccaiiikaaRows
import Derived.ProofKit
namespace Go.Proofs.Ytehblgccaiiikaa
open Go Go.Mx
set_option maxRecDepth 100000
theorem tx_cm_of {l:List (Int×Int)} (h:v_mok l):v_cm l = (0,0) := by
  unfold v_cm
  have h0:0 < l.length := List.length_pos_iff.2 h.ne
  have h4 := h.len
  rw [show ((l.length:Int) == 0) = false from beq_eq_false_iff_ne.2 (by omega),decide_eq_false (show ¬ (l.length:Int) > 4 by omega)]
  simp only [cond_false]
  have key:∀ (r a:List (Int×Int)),l = a ++ r→v_scan (v_cm1 l.length) ((0,0):Int×Int) (a.length:Int) r = (0,0) := by
    intro r
    induction r with
    | nil => intro a _; rfl
    | cons x r ih =>
      intro a e
      have hx := h.ok x (by rw [e]; simp)
      have hn:v_cm1 l.length (a.length:Int) x = none := by
        unfold v_cm1
        rw [tx_within.2 hx.c,tx_within.2 hx.t]
        cases c:((a.length:Int) == (l.length:Int) - 1)
        · rfl
        · have c := beq_iff_eq.1 c
          have:r = [] := by
            rw [e] at c
            simp only [List.length_append,List.length_cons] at c
            exact List.length_eq_zero_iff.1 (by omega)
          subst this
          rw [h.last a x e]; rfl
      unfold v_scan
      rw [hn]
      have := ih (a ++ [x]) (by rw [e]; simp)
      rw [List.length_append,List.length_singleton,Int.natCast_add] at this
      exact this
  exact key l [] rfl
/-- A response that is small,or too great. -/
structure v_rs (f:Int×Int):Prop where
  n:0 < f.1∧f.1≤1000000000
  d:0 < f.2∧f.2≤1000000000
  g:v_gcd f.1 f.2 = 1
/-- Ascending lists have each number once. -/
theorem v_asc_lt {lo hi:Int} {l:List Int} (h:v_lsok lo hi l):∀ (d i:Nat),i + d + 1 < l.length→l.getD i 0 < l.getD (i + d + 1) 0
  | 0,i,hk => h.asc i hk
  | d + 1,i,hk => by
    have h1 := v_asc_lt h d i (by omega)
    have h2 := h.asc (i + d + 1) (by omega)
    rw [show i + (d + 1) + 1 = i + d + 1 + 1 by omega]
    omega
theorem v_asc_inj {lo hi:Int} {l:List Int} (h:v_lsok lo hi l) {i j:Nat} (hi' : i < l.length) (hj:j < l.length) (e:l.getD i 0 = l.getD j 0):i = j := by
  rcases Nat.lt_trichotomy i j with c | c | c
  · have := v_asc_lt h (j - i - 1) i (by omega)
    rw [show i + (j - i - 1) + 1 = j by omega] at this
    omega
  · exact c
  · have := v_asc_lt h (i - j - 1) j (by omega)
    rw [show j + (i - j - 1) + 1 = i by omega] at this
    omega
theorem v_dig {n a:Int} (hn:0 < n) (_ha:0≤a):0≤a % n∧(a % n).toNat < n.toNat := by
  have m1 := Int.emod_nonneg a (show n ≠ 0 by omega)
  have m2 := Int.emod_lt_of_pos a hn
  omega
/-- A model of a valid class is valid. -/
theorem v_mod_ok:∀ (l:List (List Int×List Int)) (k:Int),0≤k→(∀ a x r,l = a ++ x :: r→v_clay (r = []) x)→(∀ y∈(v_mod l k).2,v_lok y)∧(∀ a y,(v_mod l k).2 = a ++ [y]→y.2 = 0)
  | [],k,_,_ => ⟨fun y hy => (by cases hy),fun a y e => (by cases a <;> simp [v_mod] at e)⟩
  | x :: r,k,hk,hl => by
    obtain ⟨i1,i2⟩ := v_mod_ok r k hk (fun a y s e => hl (x :: a) y s (by rw [e]; rfl))
    have hx := hl [] x r rfl
    have n1 := hx.n1
    have n2 := hx.n2
    have hq := (v_mod_nn r k hk).1
    have d2 := v_dig (n := (x.2.length:Int)) (a := (v_mod r k).1) (by omega) hq
    have d1 := v_dig (n := (x.1.length:Int)) (a := (v_mod r k).1 / (x.2.length:Int)) (by omega) (Int.ediv_nonneg hq (by omega))
    have e:(v_mod (x :: r) k).2 = (x.1.getD ((v_mod r k).1 / (x.2.length:Int) % (x.1.length:Int)).toNat 0,x.2.getD ((v_mod r k).1 % (x.2.length:Int)).toNat 0) :: (v_mod r k).2 := rfl
    rw [e]
    have c1 := hx.c.mem _ (v_getD_mem (d := 0) (show ((v_mod r k).1 / (x.2.length:Int) % (x.1.length:Int)).toNat < x.1.length by omega))
    have c2 := hx.t.mem _ (v_getD_mem (d := 0) (show ((v_mod r k).1 % (x.2.length:Int)).toNat < x.2.length by omega))
    refine ⟨fun y hy => ?_,fun a y e2 => ?_⟩
    · rcases List.mem_cons.1 hy with rfl | hy
      · exact ⟨c1,c2⟩
      · exact i1 y hy
    · cases a with
      | nil =>
        simp only [List.nil_append,List.cons.injEq] at e2
        obtain ⟨rfl,e3⟩ := e2
        have hr:r = [] := List.eq_nil_of_length_eq_zero (by rw [← v_mod_len r k,e3]; rfl)
        have z := hx.z hr
        have d3 := d2.2
        rw [z] at d3
        have:((v_mod r k).1 % (x.2.length:Int)).toNat = 0 := by rw [z]; simp
        show x.2.getD ((v_mod r k).1 % (x.2.length:Int)).toNat 0 = 0
        rw [this,z]; rfl
      | cons b a =>
        simp only [List.cons_append,List.cons.injEq] at e2
        exact i2 a y e2.2
theorem v_mdl_mok {l:List (List Int×List Int)} (h:v_clok l) {k:Int} (hk:0≤k):v_mok (v_mdl l k) := by
  obtain ⟨h1,h2⟩ := v_mod_ok l k hk h.lay
  refine ⟨fun e => h.ne (List.eq_nil_of_length_eq_zero (by rw [← v_mod_len l k]; exact (congrArg List.length e).trans rfl)),by unfold v_mdl; rw [v_mod_len]; exact h.cne.len,h1,h2⟩
theorem v_cnt_mul:∀ (l:List (List Int×List Int)) (t:Int),v_cnt t l = t * v_cnt 1 l
  | [],t => by show t = t * 1; omega
  | x :: r,t => by
    show v_cnt (t * _) r = t * v_cnt (1 * _) r
    rw [v_cnt_mul r (t * _),v_cnt_mul r (1 * _),Int.one_mul,Int.mul_assoc]
theorem v_mod_top:∀ (l:List (List Int×List Int)) (k:Int),0≤k→(∀ x∈l,0 < x.1.length∧0 < x.2.length)→(v_mod l k).1 * v_cnt 1 l≤k
  | [],k,_,_ => by show k * 1≤k; omega
  | x :: r,k,hk,hl => by
    have ih := v_mod_top r k hk (fun y hy => hl y (List.mem_cons_of_mem _ hy))
    have hx := hl x (by simp)
    have hq := (v_mod_nn r k hk).1
    have hc := v_cnt_nn r 1 (by omega)
    have e1:v_cnt 1 (x :: r) = ((x.1.length:Int) * (x.2.length:Int)) * v_cnt 1 r := by
      show v_cnt (1 * _) r = _
      rw [Int.one_mul,v_cnt_mul]
    have e2:(v_mod (x :: r) k).1 = (v_mod r k).1 / (x.2.length:Int) / (x.1.length:Int) := rfl
    rw [e1,e2]
    generalize (v_mod r k).1 = a at *
    have f1 := Int.ediv_mul_le (a / (x.2.length:Int)) (show (x.1.length:Int) ≠ 0 by omega)
    have f2 := Int.ediv_mul_le a (show (x.2.length:Int) ≠ 0 by omega)
    have f3 := Int.mul_le_mul_of_nonneg_right f1 (show 0≤(x.2.length:Int) by omega)
    have f4 := Int.mul_le_mul_of_nonneg_right (Int.le_trans f3 f2) hc
    have e3:a / (x.2.length:Int) / (x.1.length:Int) * ((x.1.length:Int) * (x.2.length:Int) * v_cnt 1 r) = a / (x.2.length:Int) / (x.1.length:Int) * (x.1.length:Int) * (x.2.length:Int) * v_cnt 1 r := by
      rw [← Int.mul_assoc,← Int.mul_assoc]
    rw [e3]
    exact Int.le_trans f4 ih
theorem v_mod_inj:∀ (l:List (List Int×List Int)) (i k:Int),0≤i→0≤k→(∀ a x r,l = a ++ x :: r→v_clay (r = []) x)→(v_mod l i).2 = (v_mod l k).2→(v_mod l i).1 = (v_mod l k).1→i = k
  | [],_,_,_,_,_,_,e => e
  | x :: r,i,k,hi,hk,hl,e1,e2 => by
    have hx := hl [] x r rfl
    have n1 := hx.n1
    have n2 := hx.n2
    have q1 := (v_mod_nn r i hi).1
    have q2 := (v_mod_nn r k hk).1
    have f1:(v_mod (x :: r) i).2 = (x.1.getD ((v_mod r i).1 / (x.2.length:Int) % (x.1.length:Int)).toNat 0,x.2.getD ((v_mod r i).1 % (x.2.length:Int)).toNat 0) :: (v_mod r i).2 := rfl
    have f2:(v_mod (x :: r) k).2 = (x.1.getD ((v_mod r k).1 / (x.2.length:Int) % (x.1.length:Int)).toNat 0,x.2.getD ((v_mod r k).1 % (x.2.length:Int)).toNat 0) :: (v_mod r k).2 := rfl
    have f3:(v_mod (x :: r) i).1 = (v_mod r i).1 / (x.2.length:Int) / (x.1.length:Int) := rfl
    have f4:(v_mod (x :: r) k).1 = (v_mod r k).1 / (x.2.length:Int) / (x.1.length:Int) := rfl
    rw [f1,f2] at e1
    rw [f3,f4] at e2
    simp only [List.cons.injEq,Prod.mk.injEq] at e1
    obtain ⟨⟨g1,g2⟩,g3⟩ := e1
    refine v_mod_inj r i k hi hk (fun a y s e => hl (x :: a) y s (by rw [e]; rfl)) g3 ?_
    have p1 := v_dig (n := (x.2.length:Int)) (a := (v_mod r i).1) (by omega) q1
    have p2 := v_dig (n := (x.2.length:Int)) (a := (v_mod r k).1) (by omega) q2
    have p3 := v_dig (n := (x.1.length:Int)) (a := (v_mod r i).1 / (x.2.length:Int)) (by omega) (Int.ediv_nonneg q1 (by omega))
    have p4 := v_dig (n := (x.1.length:Int)) (a := (v_mod r k).1 / (x.2.length:Int)) (by omega) (Int.ediv_nonneg q2 (by omega))
    have j2 := v_asc_inj hx.t (by omega) (by omega) g2
    have j1 := v_asc_inj hx.c (by omega) (by omega) g1
    generalize (v_mod r i).1 = a at *
    generalize (v_mod r k).1 = b at *
    have s1 := Int.mul_ediv_add_emod a (x.2.length:Int)
    have s2 := Int.mul_ediv_add_emod b (x.2.length:Int)
    have s3 := Int.mul_ediv_add_emod (a / (x.2.length:Int)) (x.1.length:Int)
    have s4 := Int.mul_ediv_add_emod (b / (x.2.length:Int)) (x.1.length:Int)
    have u1:a / (x.2.length:Int) % (x.1.length:Int) = b / (x.2.length:Int) % (x.1.length:Int) := by omega
    have u2:a % (x.2.length:Int) = b % (x.2.length:Int) := by omega
    have u3:a / (x.2.length:Int) = b / (x.2.length:Int) := by rw [← s3,← s4,e2,u1]
    rw [← s1,← s2,u3,u2]
theorem v_mdl_inj {l:List (List Int×List Int)} (h:v_clok l) {i k:Int} (hi:0≤i∧i < v_count l) (hk:0≤k∧k < v_count l) (e:v_mdl l i = v_mdl l k):i = k := by
  have z:∀ j:Int,0≤j∧j < v_count l→(v_mod l j).1 = 0 := by
    intro j hj
    have t := v_mod_top l j hj.1 h.cne.ne
    have n := (v_mod_nn l j hj.1).1
    have c := v_count_nn l
    have:¬ 1≤(v_mod l j).1 := fun g => by
      have := Int.mul_le_mul_of_nonneg_right g c
      rw [Int.one_mul] at this
      have e:v_count l = v_cnt 1 l := rfl
      rw [← e] at t
      omega
    omega
  exact v_mod_inj l i k hi.1 hk.1 h.lay e (by rw [z i hi,z k hk])
theorem v_mdls_drop {l:List (List Int×List Int)} {j:Nat} (hj:j < (v_count l).toNat):(v_mdls l).drop j = ((j:Int),v_mdl l (j:Int)) :: (v_mdls l).drop (j + 1) := by
  have hlm:(v_mdls l).length = (v_count l).toNat := by unfold v_mdls; simp
  rw [drop_getD (0,[]) (by omega)]
  congr 1
  unfold v_mdls
  rw [List.getD_eq_getElem?_getD,List.getElem?_map,List.getElem?_range hj]; rfl
theorem v_findi_drop {l:List (List Int×List Int)} (h:v_clok l) {k:Nat} (hk:(k:Int) < v_count l):∀ (d:Nat),d≤k→v_findi (v_mdl l (k:Int)) ((v_mdls l).drop (k - d)) = (k:Int)
  | 0,_ => by
    rw [Nat.sub_zero,v_mdls_drop (by omega)]
    show cond (decide (v_mdl l (k:Int) = v_mdl l (k:Int))) _ _ = _
    rw [decide_eq_true rfl]; rfl
  | d + 1,hd => by
    rw [v_mdls_drop (by omega)]
    show cond (decide (v_mdl l ((k - (d + 1):Nat):Int) = v_mdl l (k:Int))) _ _ = _
    rw [decide_eq_false (fun e => by have := v_mdl_inj h (by omega) (by omega) e; omega),show k - (d + 1) + 1 = k - d by omega]
    exact v_findi_drop h hk d (by omega)
theorem v_findi_mdl {l:List (List Int×List Int)} (h:v_clok l) {k:Int} (hk:0≤k∧k < v_count l):v_findi (v_mdl l k) (v_mdls l) = k := by
  obtain ⟨n,rfl⟩ : ∃ n:Nat,k = n := ⟨k.toNat,by omega⟩
  have := v_findi_drop h hk.2 n (Nat.le_refl _)
  rw [Nat.sub_self,List.drop_zero] at this
  exact this

/-- The plain law. -/
theorem plain_law04_GroundClasses (p0:List (List Int×List Int)) (p1:Int) (p2:List (Int×Int)) (_:okPs P_law04_GroundClasses (p0,p1,p2)):(∀ p∈pre_law04_GroundClasses p0 p1 p2,p)∧s_law04_GroundClasses p0 p1 p2 = true := by
  unfold pre_law04_GroundClasses s_law04_GroundClasses
  simp only [List.forall_mem_cons,List.nil_append,List.length_nil]
  cases hF:v_fewb p0
  · simp
  obtain ⟨hl6,hf⟩ := tx_few hF
  rcases Decidable.em ((p2.length:Int)≤6) with h6 | h6
  rotate_left
  · rw [decide_eq_false h6]; simp
  rw [decide_eq_true h6]
  have s1:((v_cc p0).2 != (v_cc p0).2) = false := by simp
  have s2:((v_cc p0).1 != (v_cc p0).1) = false := by simp
  rw [s1,s2]
  rcases int0 (v_cc p0).2 with ⟨z,e,_⟩ | ⟨z,e,_⟩
  rotate_left
  · have r1:v_cof p0 = (0,(v_cc p0).2) := by unfold v_cof; rw [e]; rfl
    have r2:v_mof2 p0 p1 = ([],(v_cc p0).2) := by unfold v_mof2; rw [e]; rfl
    have r3:v_nof p0 p2 = (0,(v_cc p0).2) := by unfold v_nof; rw [e]; rfl
    rw [r1,r2,r3,e]
    simp [hl6,hf]; omega
  have hc := tx_cc_ok hf z
  have hcnt := hc.cnt
  have hnn := v_count_nn p0
  have hcne := hc.cne
  have hl4 := hc.cne.len
  have r1:v_cof p0 = (v_count p0,0) := by unfold v_cof; rw [e]; rfl
  have hw:IntKind.i64.wrap (v_count p0 - 1) = v_count p0 - 1 := wrap_id (by omega) (by omega)
  have hN:((v_cm p2).2 ≠ 0∧v_nof p0 p2 = (0,(v_cm p2).2)) ∨ ((v_cm p2).2 = 0∧v_findi p2 (v_mdls p0) < 0∧v_nof p0 p2 = (0,6)) ∨ ((v_cm p2).2 = 0∧0≤v_findi p2 (v_mdls p0)∧v_nof p0 p2 = (v_findi p2 (v_mdls p0),0)) := by
    unfold v_nof v_nres
    rw [e]
    rcases int0 (v_cm p2).2 with ⟨y,f,_⟩ | ⟨y,f,_⟩ <;> rw [f]
    · rcases Int.lt_or_le (v_findi p2 (v_mdls p0)) 0 with g | g
      · rw [decide_eq_true g]; exact .inr (.inl ⟨y,g,rfl⟩)
      · rw [decide_eq_false (show ¬ v_findi p2 (v_mdls p0) < 0 by omega)]; exact .inr (.inr ⟨y,g,rfl⟩)
    · exact .inl ⟨y,rfl⟩
  rw [r1,e]
  simp only [hw]
  cases c2:s_base_Within p1 0 (v_count p0 - 1)
  · have r2:v_mof2 p0 p1 = ([],6) := by unfold v_mof2; rw [e,c2]; rfl
    rw [r2]
    rcases hN with ⟨y,g⟩ | ⟨y,g1,g⟩ | ⟨y,g1,g⟩ <;> rw [g]
    · simp [hl6,hf,hl4,hcne,hcnt,y]; omega
    · simp [hl6,hf,hl4,hcne,hcnt,y,g1]; omega
    · simp [hl6,hf,hl4,hcne,hcnt,y,g1]; omega
  have hb := tx_within.1 c2
  have r2:v_mof2 p0 p1 = (v_mdl p0 p1,0) := by unfold v_mof2; rw [e,c2]; rfl
  have hk := v_mdl_mok hc (k := p1) hb.1
  have r4:v_nof p0 (v_mdl p0 p1) = (p1,0) := by
    unfold v_nof v_nres
    rw [e,tx_cm_of hk,v_findi_mdl hc (by omega),decide_eq_false (show ¬ p1 < 0 by omega)]; rfl
  have hkl := hk.len
  have hb1 := hb.1
  have hb2:p1≤9223372036854775807 := by omega
  rw [r2]
  simp only [r4]
  have lk:lenOk (v_mdl p0 p1) := lenOk_le hkl (by decide)
  rcases hN with ⟨y,g⟩ | ⟨y,g1,g⟩ | ⟨y,g1,g⟩ <;> rw [g]
  · simp [hl6,hf,hl4,hcne,hcnt,y,hb1,hb2,lk]; omega
  · simp [hl6,hf,hl4,hcne,hcnt,y,g1,hb1,hb2,lk]; omega
  · simp [hl6,hf,hl4,hcne,hcnt,y,g1,hb1,hb2,lk]; omega

theorem own:ownKnob Try.prog.godebug = none := by kernel_rfl
theorem laidOut:laidOutB Try.prog = true := by kernel_rfl
theorem hfn5:Try.prog.funcs[5]? = some (fnOf Try.prog 5) := by kernel_rfl
theorem hps5:(fnOf Try.prog 5).params.size = 3 := by kernel_rfl
theorem lifted_GroundClasses (os:Os) (started:os.Started) (H:Type) (enc:TypeId×Value→H) :
    ReturnsInHanded {} Try.checked os 5 .any (Rows.groundClassesSpec.pre6 enc Try.prog (fnOf Try.prog 5) [] false) (Rows.groundClassesSpec.post enc Try.prog (fnOf Try.prog 5) false true false false) :=
  said_of (C := Try.checked) (ss := P_law04_GroundClasses.map shP) own started (by kernel_rfl) hfn5
    (ChangeSpec.witness6 (enc := enc) (C := Try.checked) false ⟨#[],zeroArgs P_law04_GroundClasses,[]⟩ 8 (by kernel_rfl) (by kernel_rfl) (by kernel_rfl) (by kernel_rfl)) rfl
    (fun ds h => by
      rw [hps5] at h
      match ds,h with
      | [_,_,_],_ => rfl)
    laidOut (by kernel_rfl) (rt := (fnOf Try.prog 5).resultTypes.getD 0 0) (by kernel_rfl) (by kernel_rfl) (by kernel_rfl)
    (law_of ok_law04_GroundClasses fun x hx => ⟨(plain_law04_GroundClasses x.1 x.2.1 x.2.2 hx).1,congrArg (fun b => V.p (.bool b)) (plain_law04_GroundClasses x.1 x.2.1 x.2.2 hx).2⟩) (fun _ => rfl)
theorem GroundClasses_holds:Rows.GroundClassesSaid :=
  OpenClaim.holds_of_wide 5 (fnOf Try.prog 5) rfl rfl rfl rfl rfl rfl rfl ⟨rfl,rfl,rfl,rfl,rfl⟩ rfl rfl rfl rfl rfl (by kernel_rfl) hfn5 (by kernel_rfl)
    (of_decide_eq_true (by kernel_rfl)) (by unfold Func.isWrapper; first | (rw [if_pos (by decide +kernel)]; kernel_rfl) | (rw [if_neg (by decide +kernel)]; exact ⟨rfl,rfl⟩))
    (fun os started H enc _ => lifted_GroundClasses os started H enc)
end Go.Proofs.Ytehblgccaiiikaa
