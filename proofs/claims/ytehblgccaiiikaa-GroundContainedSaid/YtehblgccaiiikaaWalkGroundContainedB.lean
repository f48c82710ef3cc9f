/- What the functions that GroundContained reaches compute: contracts, each function once. No condition. -/
import Derived.Test.YtehblgccaiiikaaWalkGroundContainedA
import Derived.KernelRfl
namespace Go.Proofs.Ytehblgccaiiikaa
open Go Go.Mx
set_option maxRecDepth 100000
/- base_WideFloor -/
/- base_wideSize -/
/- base_WideSign -/
/- base_wideGcd -/
/- base_WideCmp -/
/- base_RatioMake -/
/-- A rational number as the reference keeps it. -/
def v_rat (q:Rat):(Int×List Int)×(Int×List Int) := (v_wide q.num,v_wide (q.den:Int))
def v_rv (p:(Int×List Int)×(Int×List Int)):Rat := (v_wval p.1:Rat) / (v_wval p.2:Rat)
theorem v_rv_rat (q:Rat):v_rv (v_rat q)=q := by
 unfold v_rv v_rat
 rw [v_wval_wide,v_wval_wide,← Rat.divInt_eq_div,Rat.num_divInt_den]
structure v_rok (p:(Int×List Int)×(Int×List Int)):Prop where
 eq:p = v_rat (v_rv p)
 l1:p.1.2.length≤100000000000
 l2:p.2.2.length≤100000000000
theorem v_rok.ex {p:(Int×List Int)×(Int×List Int)} (h:v_rok p):∃ q:Rat,p = v_rat q∧v_dl q.num≤100000000000∧v_dl q.den≤100000000000 := ⟨_,h.eq,by have := h.l1; rw [h.eq] at this; exact this,by have := h.l2; rw [h.eq] at this; exact this⟩
theorem v_rok_of {q:Rat} (h1:v_dl q.num≤100000000000) (h2:v_dl q.den≤100000000000):v_rok (v_rat q) := ⟨by rw [v_rv_rat],h1,h2⟩
/-- Bounds of both parts. -/
structure v_rb (B:Int) (q:Rat):Prop where
 n:(q.num.natAbs:Int)≤B
 d:(q.den:Int)≤B
theorem v_rb.ok {B:Int} {q:Rat} (h:v_rb B q) (hB:B < v_pow 100):v_rok (v_rat q) :=
 v_rok_of (Nat.le_trans (v_digs_len (k := 100) (by have := h.n; omega)) (by decide)) (Nat.le_trans (v_digs_len (k := 100) (by have := h.d; omega)) (by decide))
/- base_RatioOf -/
/- base_RatioInt -/
/- base_RatioMul -/
/- base_RatioAdd -/
/- base_RatioDiv -/
/- ref04_Response -/
theorem v_getD_mem {α:Type} {l:List α} {d:α} {n:Nat} (h:n < l.length):l.getD n d∈l := by
 rw [List.getD_eq_getElem?_getD,List.getElem?_eq_getElem h]; exact List.getElem_mem h
/- ground_CheckClass -/
def C_ground_CheckClass:Cons := [(74,[],con_ground_unless),(73,[],con_ground_first),(91,[75],con_ground_listErr__ground_isConductivity),(91,[76],con_ground_listErr__ground_isThickness),(92,[],con_slices_Equalint_int)]
theorem hC_ground_CheckClass:ConsOk Try.prog C_ground_CheckClass := ConsOk.cons ok_ground_unless <| ConsOk.cons ok_ground_first <| ConsOk.cons ok_ground_listErr__ground_isConductivity <| ConsOk.cons ok_ground_listErr__ground_isThickness <| ConsOk.cons ok_slices_Equalint_int <| ConsOk.nil
abbrev q1_ground_CheckClass (p0:(List ((List Int)×(List Int)))) (y1:(Int×Int)) := (p0.getD y1.1.toNat (([]:List Int),([]:List Int)))
abbrev q0_ground_CheckClass (p0:(List ((List Int)×(List Int)))) (y1:(Int×Int)) := (decide ((((q1_ground_CheckClass p0 y1).1.length:Nat):Int) > zz0))
abbrev q2_ground_CheckClass (p0:(List ((List Int)×(List Int)))) := ((s_ground_unless (decide ((p0.length:Int) > zz0)) (10:Int)) :: ((s_ground_unless (decide ((p0.length:Int)≤4)) (8:Int)) :: ([]:List Int)))
abbrev q3_ground_CheckClass (p0:(List ((List Int)×(List Int)))) (y1:(Int×Int)) := (s_ground_unless (cond (q0_ground_CheckClass p0 y1) (decide ((((q1_ground_CheckClass p0 y1).2.length:Nat):Int) > zz0)) false) (10:Int))
def w_ground_CheckClass (p0:(List ((List Int)×(List Int)))) (K:(Int×Int)→Prop):Prop :=
  ((lenOk (q2_ground_CheckClass p0)) ∧
 (((((v_first (q2_ground_CheckClass p0)) != zz0)=true) →
 (K (zz0,(v_first (q2_ground_CheckClass p0))))) ∧
 ((((v_first (q2_ground_CheckClass p0)) != zz0)=false) →
 (∃ n0,(loopP (fun (y1:(Int×Int)) k2 =>
   ((((decide (y1.1 < (p0.length:Int)))=true) →
   ((zz0≤y1.1) ∧
    ((y1.1 < (p0.length:Int)) ∧
    ((((q0_ground_CheckClass p0 y1)=true) →
    ((q0_ground_CheckClass p0 y1)=(q0_ground_CheckClass p0 y1))) ∧
    ((((q0_ground_CheckClass p0 y1)=true) →
    ((q0_ground_CheckClass p0 y1)=(q0_ground_CheckClass p0 y1))) ∧
    ((((q0_ground_CheckClass p0 y1)=true) →
    ((q0_ground_CheckClass p0 y1)=(q0_ground_CheckClass p0 y1))) ∧
    (((q0_ground_CheckClass p0 y1)=(q0_ground_CheckClass p0 y1)) ∧
    ((lenOk (q1_ground_CheckClass p0 y1).1) ∧
    ((lenOk (q1_ground_CheckClass p0 y1).2) ∧
    ((((!(y1.1 == (wi ((p0.length:Int) - zz1))))=false) →
    ((!(y1.1 == (wi ((p0.length:Int) - zz1))))=(!(y1.1 == (wi ((p0.length:Int) - zz1)))))) ∧
    ((((!(y1.1 == (wi ((p0.length:Int) - zz1))))=false) →
    ((!(y1.1 == (wi ((p0.length:Int) - zz1))))=(!(y1.1 == (wi ((p0.length:Int) - zz1)))))) ∧
    ((((!(y1.1 == (wi ((p0.length:Int) - zz1))))=false) →
    ((!(y1.1 == (wi ((p0.length:Int) - zz1))))=(!(y1.1 == (wi ((p0.length:Int) - zz1)))))) ∧
    ((((!(y1.1 == (wi ((p0.length:Int) - zz1))))=false) →
    (lenOk (q1_ground_CheckClass p0 y1).2)) ∧
    (((!(y1.1 == (wi ((p0.length:Int) - zz1))))=(!(y1.1 == (wi ((p0.length:Int) - zz1))))) ∧
    ((lenOk ((q3_ground_CheckClass p0 y1) :: ((v_ls zz1 (20:Int) (q1_ground_CheckClass p0 y1).1) :: ((v_ls zz0 (10:Int) (q1_ground_CheckClass p0 y1).2) :: ((s_ground_unless (cond (!(y1.1 == (wi ((p0.length:Int) - zz1)))) true (decide ((q1_ground_CheckClass p0 y1).2 = (zz0 :: ([]:List Int))))) zz3) :: ([]:List Int)))))) ∧
    (((((v_first ((q3_ground_CheckClass p0 y1) :: ((v_ls zz1 (20:Int) (q1_ground_CheckClass p0 y1).1) :: ((v_ls zz0 (10:Int) (q1_ground_CheckClass p0 y1).2) :: ((s_ground_unless (cond (!(y1.1 == (wi ((p0.length:Int) - zz1)))) true (decide ((q1_ground_CheckClass p0 y1).2 = (zz0 :: ([]:List Int))))) zz3) :: ([]:List Int)))))) != zz0)=true) →
    (K (y1.1,(v_first ((q3_ground_CheckClass p0 y1) :: ((v_ls zz1 (20:Int) (q1_ground_CheckClass p0 y1).1) :: ((v_ls zz0 (10:Int) (q1_ground_CheckClass p0 y1).2) :: ((s_ground_unless (cond (!(y1.1 == (wi ((p0.length:Int) - zz1)))) true (decide ((q1_ground_CheckClass p0 y1).2 = (zz0 :: ([]:List Int))))) zz3) :: ([]:List Int))))))))) ∧
    ((((v_first ((q3_ground_CheckClass p0 y1) :: ((v_ls zz1 (20:Int) (q1_ground_CheckClass p0 y1).1) :: ((v_ls zz0 (10:Int) (q1_ground_CheckClass p0 y1).2) :: ((s_ground_unless (cond (!(y1.1 == (wi ((p0.length:Int) - zz1)))) true (decide ((q1_ground_CheckClass p0 y1).2 = (zz0 :: ([]:List Int))))) zz3) :: ([]:List Int)))))) != zz0)=false) →
    (k2 ((wi (y1.1 + zz1)),(wi (y1.2 * (wi ((((q1_ground_CheckClass p0 y1).1.length:Nat):Int) * (((q1_ground_CheckClass p0 y1).2.length:Nat):Int)))))))))))))))))))))))) ∧
   (((decide (y1.1 < (p0.length:Int)))=false) →
   (K (zz0,(s_ground_unless (decide (y1.2≤300)) (16:Int))))))) n0 (zz0,zz1))))))
set_option maxHeartbeats 4000000 in
theorem w_ground_CheckClass_eq (p0:(List ((List Int)×(List Int)))) (K:(Int×Int)→Prop):tfn F_ground_CheckClass A_ground_CheckClass C_ground_CheckClass P_ground_CheckClass R_ground_CheckClass p0 K = w_ground_CheckClass p0 K := by kernel_rfl
def st_ground_CheckClass_0 (p0:(List ((List Int)×(List Int)))) (y1:(Int×Int)):(Int×Int) ⊕ (Int×Int) :=
 (cond (decide (y1.1 < (p0.length:Int))) (cond ((v_first ((s_ground_unless (cond (decide ((((List.length (p0.getD y1.1.toNat (([]:List Int),([]:List Int))).1):Nat):Int) > 0)) (decide ((((List.length (p0.getD y1.1.toNat (([]:List Int),([]:List Int))).2):Nat):Int) > 0)) false) (10:Int)) :: ((v_ls (1:Int) (20:Int) (p0.getD y1.1.toNat (([]:List Int),([]:List Int))).1) :: ((v_ls (0:Int) (10:Int) (p0.getD y1.1.toNat (([]:List Int),([]:List Int))).2) :: ((s_ground_unless (cond (!(y1.1 == (IntKind.i64.wrap ((p0.length:Int) - 1)))) true (decide ((p0.getD y1.1.toNat (([]:List Int),([]:List Int))).2 = ((0:Int) :: ([]:List Int))))) (3:Int)) :: ([]:List Int)))))) != 0) (Sum.inr (y1.1,(v_first ((s_ground_unless (cond (decide ((((List.length (p0.getD y1.1.toNat (([]:List Int),([]:List Int))).1):Nat):Int) > 0)) (decide ((((List.length (p0.getD y1.1.toNat (([]:List Int),([]:List Int))).2):Nat):Int) > 0)) false) (10:Int)) :: ((v_ls (1:Int) (20:Int) (p0.getD y1.1.toNat (([]:List Int),([]:List Int))).1) :: ((v_ls (0:Int) (10:Int) (p0.getD y1.1.toNat (([]:List Int),([]:List Int))).2) :: ((s_ground_unless (cond (!(y1.1 == (IntKind.i64.wrap ((p0.length:Int) - 1)))) true (decide ((p0.getD y1.1.toNat (([]:List Int),([]:List Int))).2 = ((0:Int) :: ([]:List Int))))) (3:Int)) :: ([]:List Int))))))))
  (Sum.inl ((IntKind.i64.wrap (y1.1 + 1)),(IntKind.i64.wrap (y1.2 * (IntKind.i64.wrap ((((List.length (p0.getD y1.1.toNat (([]:List Int),([]:List Int))).1):Nat):Int) * (((List.length (p0.getD y1.1.toNat (([]:List Int),([]:List Int))).2):Nat):Int))))))))
  (Sum.inr ((0:Int),(s_ground_unless (decide (y1.2≤300)) (16:Int)))))
abbrev sp_ground_CheckClass_0 (p0:(List ((List Int)×(List Int)))) (y1:(Int×Int)):List Prop := [(((decide (y1.1 < (p0.length:Int)))=true)→((0:Int)≤y1.1)),
  (((decide (y1.1 < (p0.length:Int)))=true)→(y1.1 < (p0.length:Int))),
  (((decide (y1.1 < (p0.length:Int)))=true)→(lenOk (p0.getD y1.1.toNat (([]:List Int),([]:List Int))).1)),
  (((decide (y1.1 < (p0.length:Int)))=true)→(lenOk (p0.getD y1.1.toNat (([]:List Int),([]:List Int))).2)),
  (((decide (y1.1 < (p0.length:Int)))=true)→(((!(y1.1 == (IntKind.i64.wrap ((p0.length:Int) - 1))))=false)→(lenOk (p0.getD y1.1.toNat (([]:List Int),([]:List Int))).2)))]
def s_ground_CheckClass (p0:(List ((List Int)×(List Int)))):(Int×Int) :=
 (cond ((v_first ((s_ground_unless (decide ((p0.length:Int) > 0)) (10:Int)) :: ((s_ground_unless (decide ((p0.length:Int)≤4)) (8:Int)) :: ([]:List Int)))) != 0) ((0:Int),(v_first ((s_ground_unless (decide ((p0.length:Int) > 0)) (10:Int)) :: ((s_ground_unless (decide ((p0.length:Int)≤4)) (8:Int)) :: ([]:List Int)))))
  (lpv ((0:Int),(0:Int)) (st_ground_CheckClass_0 p0) ((0:Int),(1:Int))))
abbrev pre_ground_CheckClass (p0:(List ((List Int)×(List Int)))):List Prop := [((((v_first ((s_ground_unless (decide ((p0.length:Int) > 0)) (10:Int)) :: ((s_ground_unless (decide ((p0.length:Int)≤4)) (8:Int)) :: ([]:List Int)))) != 0)=false)→(OkL (st_ground_CheckClass_0 p0) (sp_ground_CheckClass_0 p0) ((0:Int),(1:Int))))]
set_option maxHeartbeats 4000000 in
theorem d_ground_CheckClass (p0:(List ((List Int)×(List Int)))) (K:(Int×Int)→Prop) (hp:∀ p∈pre_ground_CheckClass p0,p) (h:K (s_ground_CheckClass p0)):w_ground_CheckClass p0 K := by
 unfold w_ground_CheckClass
 unfold s_ground_CheckClass at h
 obtain ⟨hp0,_⟩ := conj_of hp
 exact ⟨(lenOk_of 2 rfl (by decide)),(br' h (fun e0 h => h)
  (fun e0 h => (loop_gen (hp0 e0) h (fun y1 k1 hp h => by
 unfold st_ground_CheckClass_0 at h; obtain ⟨hp0,hp1,hp2,hp3,hp4,_⟩ := conj_of hp
 exact (br' h (fun e2 h => ⟨(hp0 e2),(hp1 e2),rf,rf,rf,rfl,(hp2 e2),(hp3 e2),rf,rf,rf,(hp4 e2),rfl,(lenOk_of 4 rfl (by decide)),(br' h (fun e3 h => h)
  (fun e3 h => h))⟩)
  (fun e2 h => h))))))⟩
/-- Classes: lists of at most 22 numbers. -/
structure v_few (l:List (List Int×List Int)):Prop where
 len:∀ x∈l,x.1.length≤22∧x.2.length≤22
/-- What is wrong with a layer of a class,and with a class. -/
def v_cle (n:Nat) (i:Int) (x:List Int×List Int):Int := cond (cond (decide ((x.1.length:Int) > 0)) (decide ((x.2.length:Int) > 0)) false) (cond (v_ls 1 20 x.1 != 0) (v_ls 1 20 x.1) (cond (v_ls 0 10 x.2 != 0) (v_ls 0 10 x.2) (cond (cond (!(i == (n:Int) - 1)) true (decide (x.2 = [0]))) 0 3))) 10
def v_ccs (n:Nat):Int→Int→List (List Int×List Int)→Int×Int
 | _,t,[] => (0,cond (decide (t≤300)) 0 16)
 | i,t,x :: r => cond (v_cle n i x != 0) (i,v_cle n i x) (v_ccs n (i + 1) (t * ((x.1.length:Int) * (x.2.length:Int))) r)
def v_cc (l:List (List Int×List Int)):Int×Int := cond ((l.length:Int) == 0) (0,10) (cond (decide ((l.length:Int) > 4)) (0,8) (v_ccs l.length 0 1 l))
theorem v_cb {j:Nat} (hj:j < 4) {t a b:Int} (ht:0≤t∧t≤484 ^ j) (ha:0≤a∧a≤22) (hb:0≤b∧b≤22):(0≤a * b∧a * b≤484)∧(0≤t * a∧t * a≤60000000000)∧(0≤t * (a * b)∧t * (a * b)≤60000000000)∧(t * (a * b)≤484 ^ (j + 1))∧t * a * b = t * (a * b) := by
 have m1 := mul_in (x := a) (y := b) ha.1 ha.2 hb.1 hb.2
 have hp:(484:Int) ^ j≤113379904 := by
  match j,hj with
  | 0,_ | 1,_ | 2,_ | 3,_ => decide
 have m2 := mul_in (x := t) (y := a * b) ht.1 ht.2 m1.1 (show a * b≤484 by omega)
 have m3 := mul_in (x := t) (y := a) ht.1 (show t≤113379904 by omega) ha.1 ha.2
 have m4 := mul_in (x := t) (y := a * b) ht.1 (show t≤113379904 by omega) m1.1 (show a * b≤484 by omega)
 refine ⟨by omega,by omega,by omega,?_,Int.mul_assoc _ _ _⟩
 rw [Int.pow_succ]; exact m2.2
theorem v_first_4 {a b:Bool} {x y:Int}:v_first [s_ground_unless a 10,x,y,s_ground_unless b 3]=cond a (cond (x != 0) x (cond (y != 0) y (cond b 0 3))) 10 := by
 rw [v_first_c,v_first_c,v_first_c,v_first_1,tx_unless,tx_unless]
 cases a <;> rfl
theorem l_ground_CheckClass_0 (p0:List (List Int×List Int)) (hl:p0.length≤4) (hf:v_few p0):OkL (st_ground_CheckClass_0 p0) (sp_ground_CheckClass_0 p0) (0,1)∧lpv (0,0) (st_ground_CheckClass_0 p0) (0,1)=v_ccs p0.length 0 1 p0 := by
 refine @for_is Int (Int×Int) (Int×Int) (0,0) (st_ground_CheckClass_0 p0) (sp_ground_CheckClass_0 p0) (fun i t => (i,t)) 0 p0.length (fun j t => 0≤t∧t≤484 ^ j) (fun j t => v_ccs p0.length j t (p0.drop j)) (by omega) (by omega) ?_ ?_ 1 ⟨by decide,by decide⟩
 ·intro t _
  simp only [sp_ground_CheckClass_0,st_ground_CheckClass_0,List.forall_mem_cons,show decide ((p0.length:Int) < (p0.length:Int))=false from decide_eq_false (by omega),cond_false,List.drop_length,v_ccs]
  refine ⟨?_,?_⟩
  ·and_intros
   all_goals first
    | (intro h; cases h; done)
    | (intro p hp; cases hp)
  ·rw [tx_unless]
 ·intro j t _ hj ht
  have hd1:decide ((j:Int) < (p0.length:Int))=true := decide_eq_true (by omega)
  have hw1:IntKind.i64.wrap ((j:Int) + 1)=((j + 1:Nat):Int) := wrap_id (by omega) (by omega)
  have hw2:IntKind.i64.wrap ((p0.length:Int) - 1)=(p0.length:Int) - 1 := wrap_id (by omega) (by omega)
  rw [drop_getD ([],[]) hj]
  have hx := hf.len _ (v_getD_mem (d := ([],[])) hj)
  simp only [sp_ground_CheckClass_0,st_ground_CheckClass_0,List.forall_mem_cons,hd1,cond_true,cond_false,Int.toNat_natCast,hw1,hw2]
  obtain ⟨b1,b2,b3,b4,b5⟩ := v_cb (j := j) (by omega) ht (a := ((p0.getD j ([],[])).1.length:Int)) (b := ((p0.getD j ([],[])).2.length:Int)) (by omega) (by omega)
  have w1:IntKind.i64.wrap (((p0.getD j ([],[])).1.length:Int) * ((p0.getD j ([],[])).2.length:Int))=((p0.getD j ([],[])).1.length:Int) * ((p0.getD j ([],[])).2.length:Int) := wrap_id (by omega) (by omega)
  have w2:IntKind.i64.wrap (t * (((p0.getD j ([],[])).1.length:Int) * ((p0.getD j ([],[])).2.length:Int)))=t * (((p0.getD j ([],[])).1.length:Int) * ((p0.getD j ([],[])).2.length:Int)) := wrap_id (by omega) (by omega)
  have w3:IntKind.i64.wrap (t * ((p0.getD j ([],[])).1.length:Int))=t * ((p0.getD j ([],[])).1.length:Int) := wrap_id (by omega) (by omega)
  have k1:lenOk (p0.getD j ([],[])).1 := lenOk_le hx.1 (by decide)
  have k2:lenOk (p0.getD j ([],[])).2 := lenOk_le hx.2 (by decide)
  refine ⟨?_,?_⟩
  ·and_intros
   all_goals first
    | (intro p hp; cases hp; done)
    | (intros; assumption)
    | (intros; omega)
  ·rw [v_first_4]
   have he:cond (cond (decide (((p0.getD j ([],[])).1.length:Int) > 0)) (decide (((p0.getD j ([],[])).2.length:Int) > 0)) false) (cond (v_ls 1 20 (p0.getD j ([],[])).1 != 0) (v_ls 1 20 (p0.getD j ([],[])).1) (cond (v_ls 0 10 (p0.getD j ([],[])).2 != 0) (v_ls 0 10 (p0.getD j ([],[])).2) (cond (cond (!((j:Int) == (p0.length:Int) - 1)) true (decide ((p0.getD j ([],[])).2 = [0]))) 0 3))) 10 = v_cle p0.length j (p0.getD j ([],[])) := rfl
   rw [he]
   show _ ∨ _ = Sum.inr (cond (v_cle p0.length j (p0.getD j ([],[])) != 0) (↑j,v_cle p0.length j (p0.getD j ([],[]))) (v_ccs p0.length ((j:Int) + 1) (t * (((p0.getD j ([],[])).1.length:Int) * ((p0.getD j ([],[])).2.length:Int))) (p0.drop (j + 1))))
   rw [show v_ccs p0.length j t ((p0.getD j ([],[])) :: p0.drop (j + 1))=cond (v_cle p0.length j (p0.getD j ([],[])) != 0) (↑j,v_cle p0.length j (p0.getD j ([],[]))) (v_ccs p0.length ((j:Int) + 1) (t * (((p0.getD j ([],[])).1.length:Int) * ((p0.getD j ([],[])).2.length:Int))) (p0.drop (j + 1))) from rfl]
   cases v_cle p0.length j (p0.getD j ([],[])) != 0
   ·left
    rw [cond_false,cond_false,w1,w2]
    exact ⟨_,rfl,⟨b3.1,b4⟩,by rw [show ((j + 1:Nat):Int)=(j:Int) + 1 by omega]⟩
   ·right
    rfl
abbrev t_ground_CheckClass (p0:List (List Int×List Int)):Int×Int := v_cc p0
abbrev qre_ground_CheckClass (p0:List (List Int×List Int)):List Prop := [v_few p0]
theorem pp_ground_CheckClass (p0:List (List Int×List Int)) (hq:∀ p∈qre_ground_CheckClass p0,p):∀ p∈pre_ground_CheckClass p0,p := by
 obtain ⟨h1,_⟩ := conj_of hq
 simp only [pre_ground_CheckClass,List.forall_mem_cons]
 refine ⟨fun h => ?_,by intro p hp; cases hp⟩
 have h2 := tx_unless0 (by decide) (tx_first1 h).2
 exact (l_ground_CheckClass_0 p0 (by have := of_decide_eq_true h2; omega) h1).1
theorem tt_ground_CheckClass (p0:List (List Int×List Int)) (hq:∀ p∈qre_ground_CheckClass p0,p):s_ground_CheckClass p0 = t_ground_CheckClass p0 := by
 obtain ⟨h1,_⟩ := conj_of hq
 unfold s_ground_CheckClass t_ground_CheckClass v_cc
 rw [tx_first2,tx_unless,tx_unless]
 rcases int0 (p0.length:Int) with ⟨h0,_,e0⟩ | ⟨h0,_,e0⟩ <;> rw [e0]
 ·rw [decide_eq_false (show ¬ (p0.length:Int) > 0 by omega)]; rfl
 ·rw [decide_eq_true (show (p0.length:Int) > 0 by omega)]
  rcases Decidable.em ((p0.length:Int)≤4) with c | c
  ·rw [decide_eq_true c,decide_eq_false (show ¬ (p0.length:Int) > 4 by omega),(l_ground_CheckClass_0 p0 (by omega) h1).2]; rfl
  ·rw [decide_eq_false c,decide_eq_true (show (p0.length:Int) > 4 by omega)]; rfl

abbrev con_ground_CheckClass:Con := ⟨P_ground_CheckClass,R_ground_CheckClass,fun x => qre_ground_CheckClass x,fun x => t_ground_CheckClass x⟩
theorem ok_ground_CheckClass:ConOk Try.prog 28 con_ground_CheckClass := ⟨k_ground_CheckClass,fun x hx => ret_tf (ps := P_ground_CheckClass) (rs := R_ground_CheckClass) (x := x) (y := t_ground_CheckClass x) e_ground_CheckClass hC_ground_CheckClass (tf_of (w_ground_CheckClass_eq x (fun z => z = t_ground_CheckClass x)) (d_ground_CheckClass x (fun z => z = t_ground_CheckClass x) (pp_ground_CheckClass x hx) (tt_ground_CheckClass x hx)))⟩
/- law04_Few -/
def C_law04_Few:Cons := []
theorem hC_law04_Few:ConsOk Try.prog C_law04_Few := ConsOk.nil
abbrev q0_law04_Few (p0:(List ((List Int)×(List Int)))) (y1:Int) := (decide ((((List.length (p0.getD y1.toNat (([]:List Int),([]:List Int))).1):Nat):Int) > 22))
def w_law04_Few (p0:(List ((List Int)×(List Int)))) (K:Bool→Prop):Prop :=
  ((((decide ((p0.length:Int) > 6))=true) →
 (K false)) ∧
 (((decide ((p0.length:Int) > 6))=false) →
 (∃ n0,(loopP (fun (y1:Int) k2 =>
   ((((decide (y1 < (p0.length:Int)))=true) →
   ((zz0≤y1) ∧
    ((y1 < (p0.length:Int)) ∧
    ((((q0_law04_Few p0 y1)=false) →
    ((q0_law04_Few p0 y1)=(q0_law04_Few p0 y1))) ∧
    ((((q0_law04_Few p0 y1)=false) →
    ((q0_law04_Few p0 y1)=(q0_law04_Few p0 y1))) ∧
    ((((q0_law04_Few p0 y1)=false) →
    ((q0_law04_Few p0 y1)=(q0_law04_Few p0 y1))) ∧
    ((((q0_law04_Few p0 y1)=false) →
    (zz0≤y1)) ∧
    ((((q0_law04_Few p0 y1)=false) →
    (y1 < (p0.length:Int))) ∧
    ((((q0_law04_Few p0 y1)=false) →
    ((q0_law04_Few p0 y1)=(q0_law04_Few p0 y1))) ∧
    ((((q0_law04_Few p0 y1)=false) →
    ((q0_law04_Few p0 y1)=(q0_law04_Few p0 y1))) ∧
    ((((q0_law04_Few p0 y1)=false) →
    ((q0_law04_Few p0 y1)=(q0_law04_Few p0 y1))) ∧
    ((((q0_law04_Few p0 y1)=false) →
    ((q0_law04_Few p0 y1)=(q0_law04_Few p0 y1))) ∧
    (((q0_law04_Few p0 y1)=(q0_law04_Few p0 y1)) ∧
    ((((cond (q0_law04_Few p0 y1) true (decide ((((List.length (p0.getD y1.toNat (([]:List Int),([]:List Int))).2):Nat):Int) > 22)))=true) →
    (K false)) ∧
    (((cond (q0_law04_Few p0 y1) true (decide ((((List.length (p0.getD y1.toNat (([]:List Int),([]:List Int))).2):Nat):Int) > 22)))=false) →
    (k2 (wi (y1 + zz1)))))))))))))))))) ∧
   (((decide (y1 < (p0.length:Int)))=false) →
   (K true)))) n0 zz0))))
set_option maxHeartbeats 4000000 in
theorem w_law04_Few_eq (p0:(List ((List Int)×(List Int)))) (K:Bool→Prop):tfn F_law04_Few A_law04_Few C_law04_Few P_law04_Few R_law04_Few p0 K = w_law04_Few p0 K := by kernel_rfl
def st_law04_Few_0 (p0:(List ((List Int)×(List Int)))) (y1:Int):Int ⊕ Bool :=
 (cond (decide (y1 < (p0.length:Int))) (cond (cond (decide ((((List.length (p0.getD y1.toNat (([]:List Int),([]:List Int))).1):Nat):Int) > 22)) true (decide ((((List.length (p0.getD y1.toNat (([]:List Int),([]:List Int))).2):Nat):Int) > 22))) (Sum.inr false)
  (Sum.inl (IntKind.i64.wrap (y1 + 1))))
  (Sum.inr true))
abbrev sp_law04_Few_0 (p0:(List ((List Int)×(List Int)))) (y1:Int):List Prop := [(((decide (y1 < (p0.length:Int)))=true)→((0:Int)≤y1)),
  (((decide (y1 < (p0.length:Int)))=true)→(y1 < (p0.length:Int))),
  (((decide (y1 < (p0.length:Int)))=true)→(((decide ((((List.length (p0.getD y1.toNat (([]:List Int),([]:List Int))).1):Nat):Int) > 22))=false)→((0:Int)≤y1))),
  (((decide (y1 < (p0.length:Int)))=true)→(((decide ((((List.length (p0.getD y1.toNat (([]:List Int),([]:List Int))).1):Nat):Int) > 22))=false)→(y1 < (p0.length:Int))))]
def s_law04_Few (p0:(List ((List Int)×(List Int)))):Bool :=
 (cond (decide ((p0.length:Int) > 6)) false
  (lpv false (st_law04_Few_0 p0) (0:Int)))
abbrev pre_law04_Few (p0:(List ((List Int)×(List Int)))):List Prop := [(((decide ((p0.length:Int) > 6))=false)→(OkL (st_law04_Few_0 p0) (sp_law04_Few_0 p0) (0:Int)))]
set_option maxHeartbeats 4000000 in
theorem d_law04_Few (p0:(List ((List Int)×(List Int)))) (K:Bool→Prop) (hp:∀ p∈pre_law04_Few p0,p) (h:K (s_law04_Few p0)):w_law04_Few p0 K := by
 unfold w_law04_Few
 unfold s_law04_Few at h
 obtain ⟨hp0,_⟩ := conj_of hp
 exact (br' h (fun e0 h => h)
  (fun e0 h => (loop_gen (hp0 e0) h (fun y1 k1 hp h => by
 unfold st_law04_Few_0 at h; obtain ⟨hp0,hp1,hp2,hp3,_⟩ := conj_of hp
 exact (br' h (fun e2 h => ⟨(hp0 e2),(hp1 e2),rf,rf,rf,(hp2 e2),(hp3 e2),rf,rf,rf,rf,rfl,(br' h (fun e3 h => h)
  (fun e3 h => h))⟩)
  (fun e2 h => h))))))
def v_few1 (_:Int) (x:List Int×List Int):Option Bool := cond (cond (decide ((x.1.length:Int) > 22)) true (decide ((x.2.length:Int) > 22))) (some false) none
def v_fewb (l:List (List Int×List Int)):Bool := cond (decide ((l.length:Int) > 6)) false (v_scan v_few1 true 0 l)
theorem l_law04_Few_0 (p0:List (List Int×List Int)) (hl:lenOk p0):OkL (st_law04_Few_0 p0) (sp_law04_Few_0 p0) 0∧lpv (false:Bool) (st_law04_Few_0 p0) 0 = v_scan v_few1 (true:Bool) 0 p0 := by
 refine scan_is p0 ([],[]) v_few1 (true:Bool) hl ?_ ?_
 ·refine ⟨by simp only [sp_law04_Few_0,List.forall_mem_cons,decide_eq_true_eq]; simp,by simp [st_law04_Few_0]⟩
 ·intro j hj
  have hj' : (j:Int) < p0.length := by omega
  have hw := wrap_nat (show (j:Int)≤9223372036854775806 by unfold lenOk at hl; omega)
  refine ⟨by simp only [sp_law04_Few_0,List.forall_mem_cons,decide_eq_true_eq,Int.toNat_natCast]; and_intros <;> first | (intro p hp; cases hp; done) | (intros; omega),?_⟩
  simp only [st_law04_Few_0,hj',decide_true,Int.toNat_natCast,cond_true,hw]
  unfold v_few1
  generalize (cond (decide (((p0.getD j ([],[])).1.length:Int) > 22)) true (decide (((p0.getD j ([],[])).2.length:Int) > 22)))=b
  cases b <;> rfl
theorem tx_few {l:List (List Int×List Int)} (h:v_fewb l = true):l.length≤6∧v_few l := by
 unfold v_fewb at h
 rcases Decidable.em ((l.length:Int) > 6) with c | c
 ·rw [decide_eq_true c] at h; cases h
 rw [decide_eq_false c] at h
 refine ⟨by omega,⟨fun x hx => ?_⟩⟩
 have key := v_scan_end (f := v_few1) (e := true) (P := fun (r:Bool) => r = true) l 0 h (fun j x v _ hv hv0 => by
  unfold v_few1 at hv
  cases c1:cond (decide ((x.1.length:Int) > 22)) true (decide ((x.2.length:Int) > 22)) <;> rw [c1] at hv
  ·cases hv
  ·simp only [cond_true,Option.some.injEq] at hv; subst hv; cases hv0)
 obtain ⟨k,hk,rfl⟩ := List.getElem_of_mem hx
 have h := key k hk
 unfold v_few1 at h
 rcases Decidable.em ((l[k].1.length:Int) > 22) with g | g
 ·rw [decide_eq_true g] at h; cases h
 rcases Decidable.em ((l[k].2.length:Int) > 22) with g2 | g2
 ·rw [decide_eq_false g,decide_eq_true g2] at h; cases h
 omega
abbrev t_law04_Few (p0:List (List Int×List Int)):Bool := v_fewb p0
abbrev qre_law04_Few (_p0:List (List Int×List Int)):List Prop := []
theorem pp_law04_Few (p0:List (List Int×List Int)) (_hq:∀ p∈qre_law04_Few p0,p):∀ p∈pre_law04_Few p0,p := by
 simp only [pre_law04_Few,List.forall_mem_cons]
 exact ⟨fun h => (l_law04_Few_0 p0 (lenOk_le (n := 6) (by have := of_decide_eq_false h; omega) (by decide))).1,(by intro p hp; cases hp)⟩
theorem tt_law04_Few (p0:List (List Int×List Int)) (_hq:∀ p∈qre_law04_Few p0,p):s_law04_Few p0 = t_law04_Few p0 := by
 unfold s_law04_Few t_law04_Few v_fewb
 rcases Decidable.em ((p0.length:Int) > 6) with c | c
 ·rw [decide_eq_true c]; rfl
 ·rw [decide_eq_false c,(l_law04_Few_0 p0 (lenOk_le (n := 6) (by omega) (by decide))).2]

abbrev con_law04_Few:Con := ⟨P_law04_Few,R_law04_Few,fun x => qre_law04_Few x,fun x => t_law04_Few x⟩
theorem ok_law04_Few:ConOk Try.prog 27 con_law04_Few := ⟨k_law04_Few,fun x hx => ret_tf (ps := P_law04_Few) (rs := R_law04_Few) (x := x) (y := t_law04_Few x) e_law04_Few hC_law04_Few (tf_of (w_law04_Few_eq x (fun z => z = t_law04_Few x)) (d_law04_Few x (fun z => z = t_law04_Few x) (pp_law04_Few x hx) (tt_law04_Few x hx)))⟩
/- ground_class_count -/
def C_ground_class_count:Cons := []
theorem hC_ground_class_count:ConsOk Try.prog C_ground_class_count := ConsOk.nil
def w_ground_class_count (p0:(List ((List Int)×(List Int)))) (K:Int→Prop):Prop :=
  (∃ n0,(loopP (fun (y1:(Int×Int)) k2 =>
  ((((decide (y1.1 < (p0.length:Int)))=true) →
  (((0:Int)≤y1.1) ∧
   ((y1.1 < (p0.length:Int)) ∧
   (k2 ((IntKind.i64.wrap (y1.1 + 1)),(IntKind.i64.wrap (y1.2 * (IntKind.i64.wrap ((((List.length (p0.getD y1.1.toNat (([]:List Int),([]:List Int))).1):Nat):Int) * (((List.length (p0.getD y1.1.toNat (([]:List Int),([]:List Int))).2):Nat):Int)))))))))) ∧
  (((decide (y1.1 < (p0.length:Int)))=false) →
  (K y1.2)))) n0 ((0:Int),(1:Int))))
set_option maxHeartbeats 4000000 in
theorem w_ground_class_count_eq (p0:(List ((List Int)×(List Int)))) (K:Int→Prop):tfn F_ground_class_count A_ground_class_count C_ground_class_count P_ground_class_count R_ground_class_count p0 K = w_ground_class_count p0 K := by kernel_rfl
def st_ground_class_count_0 (p0:(List ((List Int)×(List Int)))) (y0:(Int×Int)):(Int×Int) ⊕ Int :=
 (cond (decide (y0.1 < (p0.length:Int))) (Sum.inl ((IntKind.i64.wrap (y0.1 + 1)),(IntKind.i64.wrap (y0.2 * (IntKind.i64.wrap ((((List.length (p0.getD y0.1.toNat (([]:List Int),([]:List Int))).1):Nat):Int) * (((List.length (p0.getD y0.1.toNat (([]:List Int),([]:List Int))).2):Nat):Int)))))))
  (Sum.inr y0.2))
abbrev sp_ground_class_count_0 (p0:(List ((List Int)×(List Int)))) (y0:(Int×Int)):List Prop := [(((decide (y0.1 < (p0.length:Int)))=true)→((0:Int)≤y0.1)),
  (((decide (y0.1 < (p0.length:Int)))=true)→(y0.1 < (p0.length:Int)))]
def s_ground_class_count (p0:(List ((List Int)×(List Int)))):Int :=
 (lpv (0:Int) (st_ground_class_count_0 p0) ((0:Int),(1:Int)))
abbrev pre_ground_class_count (p0:(List ((List Int)×(List Int)))):List Prop := [(OkL (st_ground_class_count_0 p0) (sp_ground_class_count_0 p0) ((0:Int),(1:Int)))]
set_option maxHeartbeats 4000000 in
theorem d_ground_class_count (p0:(List ((List Int)×(List Int)))) (K:Int→Prop) (hp:∀ p∈pre_ground_class_count p0,p) (h:K (s_ground_class_count p0)):w_ground_class_count p0 K := by
 unfold w_ground_class_count
 unfold s_ground_class_count at h
 obtain ⟨hp0,_⟩ := conj_of hp
 exact (loop_gen (hp0) h (fun y0 k0 hp h => by
 unfold st_ground_class_count_0 at h; obtain ⟨hp0,hp1,_⟩ := conj_of hp
 exact (br' h (fun e1 h => ⟨(hp0 e1),(hp1 e1),h⟩)
  (fun e1 h => h))))
/-- The number of models of a class. -/
def v_cnt:Int→List (List Int×List Int)→Int
 | t,[] => t
 | t,x :: r => v_cnt (t * ((x.1.length:Int) * (x.2.length:Int))) r
def v_count (l:List (List Int×List Int)):Int := v_cnt 1 l
theorem l_ground_class_count_0 (p0:List (List Int×List Int)) (hl:p0.length≤4) (hf:v_few p0):OkL (st_ground_class_count_0 p0) (sp_ground_class_count_0 p0) (0,1)∧lpv 0 (st_ground_class_count_0 p0) (0,1)=v_count p0 := by
 refine @for_is Int (Int×Int) Int 0 (st_ground_class_count_0 p0) (sp_ground_class_count_0 p0) (fun i t => (i,t)) 0 p0.length (fun j t => 0≤t∧t≤484 ^ j) (fun j t => v_cnt t (p0.drop j)) (by omega) (by omega) ?_ ?_ 1 ⟨by decide,by decide⟩
 ·intro t _
  simp only [sp_ground_class_count_0,st_ground_class_count_0,List.forall_mem_cons,show decide ((p0.length:Int) < (p0.length:Int))=false from decide_eq_false (by omega),cond_false,List.drop_length,v_cnt]
  refine ⟨?_,trivial⟩
  and_intros
  all_goals first
   | (intro h; cases h; done)
   | (intro p hp; cases hp)
 ·intro j t _ hj ht
  have hd1:decide ((j:Int) < (p0.length:Int))=true := decide_eq_true (by omega)
  have hw1:IntKind.i64.wrap ((j:Int) + 1)=((j + 1:Nat):Int) := wrap_id (by omega) (by omega)
  rw [drop_getD ([],[]) hj]
  have hx := hf.len _ (v_getD_mem (d := ([],[])) hj)
  simp only [sp_ground_class_count_0,st_ground_class_count_0,List.forall_mem_cons,hd1,cond_true,cond_false,Int.toNat_natCast,hw1]
  obtain ⟨b1,b2,b3,b4,b5⟩ := v_cb (j := j) (by omega) ht (a := ((p0.getD j ([],[])).1.length:Int)) (b := ((p0.getD j ([],[])).2.length:Int)) (by omega) (by omega)
  have w1:IntKind.i64.wrap (((p0.getD j ([],[])).1.length:Int) * ((p0.getD j ([],[])).2.length:Int))=((p0.getD j ([],[])).1.length:Int) * ((p0.getD j ([],[])).2.length:Int) := wrap_id (by omega) (by omega)
  have w2:IntKind.i64.wrap (t * (((p0.getD j ([],[])).1.length:Int) * ((p0.getD j ([],[])).2.length:Int)))=t * (((p0.getD j ([],[])).1.length:Int) * ((p0.getD j ([],[])).2.length:Int)) := wrap_id (by omega) (by omega)
  have w3:IntKind.i64.wrap (t * ((p0.getD j ([],[])).1.length:Int))=t * ((p0.getD j ([],[])).1.length:Int) := wrap_id (by omega) (by omega)
  refine ⟨?_,.inl ⟨t * (((p0.getD j ([],[])).1.length:Int) * ((p0.getD j ([],[])).2.length:Int)),?_,⟨b3.1,b4⟩,rfl⟩⟩
  ·and_intros
   all_goals first
    | (intro p hp; cases hp; done)
    | (intros; omega)
  ·rw [w1,w2]
abbrev t_ground_class_count (p0:List (List Int×List Int)):Int := v_count p0
abbrev qre_ground_class_count (p0:List (List Int×List Int)):List Prop := [v_few p0,p0.length≤4]
theorem pp_ground_class_count (p0:List (List Int×List Int)) (hq:∀ p∈qre_ground_class_count p0,p):∀ p∈pre_ground_class_count p0,p := by
 obtain ⟨h1,h2,_⟩ := conj_of hq
 simp only [pre_ground_class_count,List.forall_mem_cons]
 exact ⟨(l_ground_class_count_0 p0 h2 h1).1,by intro p hp; cases hp⟩
theorem tt_ground_class_count (p0:List (List Int×List Int)) (hq:∀ p∈qre_ground_class_count p0,p):s_ground_class_count p0 = t_ground_class_count p0 := by
 obtain ⟨h1,h2,_⟩ := conj_of hq
 exact (l_ground_class_count_0 p0 h2 h1).2

abbrev con_ground_class_count:Con := ⟨P_ground_class_count,R_ground_class_count,fun x => qre_ground_class_count x,fun x => t_ground_class_count x⟩
theorem ok_ground_class_count:ConOk Try.prog 94 con_ground_class_count := ⟨k_ground_class_count,fun x hx => ret_tf (ps := P_ground_class_count) (rs := R_ground_class_count) (x := x) (y := t_ground_class_count x) e_ground_class_count hC_ground_class_count (tf_of (w_ground_class_count_eq x (fun z => z = t_ground_class_count x)) (d_ground_class_count x (fun z => z = t_ground_class_count x) (pp_ground_class_count x hx) (tt_ground_class_count x hx)))⟩
/- slices_Backwardapi_GroundChoice_api_GroundChoice -/
def C_slices_Backwardapi_GroundChoice_api_GroundChoice:Cons := []
theorem hC_slices_Backwardapi_GroundChoice_api_GroundChoice:ConsOk Try.prog C_slices_Backwardapi_GroundChoice_api_GroundChoice := ConsOk.nil
def w_slices_Backwardapi_GroundChoice_api_GroundChoice (p0:(List ((List Int)×(List Int)))) (K:((List ((List Int)×(List Int)))×PUnit)→Prop):Prop :=
  (K (p0,()))
set_option maxHeartbeats 4000000 in
theorem w_slices_Backwardapi_GroundChoice_api_GroundChoice_eq (p0:(List ((List Int)×(List Int)))) (K:((List ((List Int)×(List Int)))×PUnit)→Prop):tfn F_slices_Backwardapi_GroundChoice_api_GroundChoice A_slices_Backwardapi_GroundChoice_api_GroundChoice C_slices_Backwardapi_GroundChoice_api_GroundChoice P_slices_Backwardapi_GroundChoice_api_GroundChoice R_slices_Backwardapi_GroundChoice_api_GroundChoice p0 K = w_slices_Backwardapi_GroundChoice_api_GroundChoice p0 K := by kernel_rfl
def s_slices_Backwardapi_GroundChoice_api_GroundChoice (p0:(List ((List Int)×(List Int)))):((List ((List Int)×(List Int)))×PUnit) :=
 (p0,())
abbrev pre_slices_Backwardapi_GroundChoice_api_GroundChoice (_p0:(List ((List Int)×(List Int)))):List Prop := []
set_option maxHeartbeats 4000000 in
theorem d_slices_Backwardapi_GroundChoice_api_GroundChoice (p0:(List ((List Int)×(List Int)))) (K:((List ((List Int)×(List Int)))×PUnit)→Prop) (_hp:∀ p∈pre_slices_Backwardapi_GroundChoice_api_GroundChoice p0,p) (h:K (s_slices_Backwardapi_GroundChoice_api_GroundChoice p0)):w_slices_Backwardapi_GroundChoice_api_GroundChoice p0 K := by
 unfold w_slices_Backwardapi_GroundChoice_api_GroundChoice
 unfold s_slices_Backwardapi_GroundChoice_api_GroundChoice at h
 exact h
abbrev con_slices_Backwardapi_GroundChoice_api_GroundChoice:Con := ⟨P_slices_Backwardapi_GroundChoice_api_GroundChoice,R_slices_Backwardapi_GroundChoice_api_GroundChoice,fun x => pre_slices_Backwardapi_GroundChoice_api_GroundChoice x,fun x => s_slices_Backwardapi_GroundChoice_api_GroundChoice x⟩
theorem ok_slices_Backwardapi_GroundChoice_api_GroundChoice:ConOk Try.prog 133 con_slices_Backwardapi_GroundChoice_api_GroundChoice := ⟨k_slices_Backwardapi_GroundChoice_api_GroundChoice,fun x hx => ret_tf (ps := P_slices_Backwardapi_GroundChoice_api_GroundChoice) (rs := R_slices_Backwardapi_GroundChoice_api_GroundChoice) (x := x) (y := s_slices_Backwardapi_GroundChoice_api_GroundChoice x) e_slices_Backwardapi_GroundChoice_api_GroundChoice hC_slices_Backwardapi_GroundChoice_api_GroundChoice (tf_of (w_slices_Backwardapi_GroundChoice_api_GroundChoice_eq x (fun z => z = s_slices_Backwardapi_GroundChoice_api_GroundChoice x)) (d_slices_Backwardapi_GroundChoice_api_GroundChoice x (fun z => z = s_slices_Backwardapi_GroundChoice_api_GroundChoice x) hx rfl))⟩
/- slices_Backwardapi_GroundChoice_api_GroundChoice_1 -/
abbrev con_slices_Backwardapi_GroundChoice_api_GroundChoice_1:Con := ⟨.fn 152 [.sl (.pr (.sl (.int .i64)) (.sl (.int .i64)))] :: .one (.int .i64) :: [.agg (.pr (.sl (.int .i64)) (.sl (.int .i64)))],[.one (.sl (tyPs (.one (.int .i64) :: [.agg (.pr (.sl (.int .i64)) (.sl (.int .i64)))])))],fun x => [x.1.1.length≤1000000],fun x => v_bwd 0 x.1.1⟩
theorem ok_slices_Backwardapi_GroundChoice_api_GroundChoice_1:ConIOk Try.prog 152 con_slices_Backwardapi_GroundChoice_api_GroundChoice_1 := by
 refine ⟨rfl,k_slices_Backwardapi_GroundChoice_api_GroundChoice_1,rfl,fun x hx => ?_⟩
 obtain ⟨h1,_⟩ := conj_of hx
 exact it_bwd (c := 2) (Ty.enc (.pr (.sl (.int .i64)) (.sl (.int .i64)))) e_slices_Backwardapi_GroundChoice_api_GroundChoice_1 (fun _ => rfl) x.1 false (Nat.le_trans h1 (by decide))
/- ground_class_model_1 -/
def C_ground_class_model_1:Cons := []
theorem hC_ground_class_model_1:ConsOk Try.prog C_ground_class_model_1 := ConsOk.nil
def w_ground_class_model_1 (p0:(List Int)) (p1:Int) (K:(Int×Int)→Prop):Prop :=
  (((p0.length:Int) ≠ (0:Int)) ∧
 (((0:Int)≤(Int.tmod p1 (p0.length:Int))) ∧
 (((Int.tmod p1 (p0.length:Int)) < (p0.length:Int)) ∧
 (((p0.length:Int) ≠ (0:Int)) ∧
 (K ((p0.getD (Int.toNat (Int.tmod p1 (p0.length:Int))) (0:Int)),(IntKind.i64.wrap (Int.tdiv p1 (p0.length:Int)))))))))
set_option maxHeartbeats 4000000 in
theorem w_ground_class_model_1_eq (p0:(List Int)) (p1:Int) (K:(Int×Int)→Prop):tfnM2 F_ground_class_model_1 A_ground_class_model_1 C_ground_class_model_1 U_ground_class_model_1 T_ground_class_model_1 V_ground_class_model_1 p0 p1 K = w_ground_class_model_1 p0 p1 K := by kernel_rfl
def s_ground_class_model_1 (p0:(List Int)) (p1:Int):(Int×Int) :=
 ((p0.getD (Int.toNat (Int.tmod p1 (p0.length:Int))) (0:Int)),(IntKind.i64.wrap (Int.tdiv p1 (p0.length:Int))))
abbrev pre_ground_class_model_1 (p0:(List Int)) (p1:Int):List Prop := [((p0.length:Int) ≠ (0:Int)),
  ((0:Int)≤(Int.tmod p1 (p0.length:Int))),
  ((Int.tmod p1 (p0.length:Int)) < (p0.length:Int))]
set_option maxHeartbeats 4000000 in
theorem d_ground_class_model_1 (p0:(List Int)) (p1:Int) (K:(Int×Int)→Prop) (hp:∀ p∈pre_ground_class_model_1 p0 p1,p) (h:K (s_ground_class_model_1 p0 p1)):w_ground_class_model_1 p0 p1 K := by
 unfold w_ground_class_model_1
 unfold s_ground_class_model_1 at h
 obtain ⟨hp0,hp1,hp2,_⟩ := conj_of hp
 exact ⟨(hp0),(hp1),(hp2),(hp0),h⟩
abbrev con_ground_class_model_1:Con := ⟨[.one U_ground_class_model_1,.ptr T_ground_class_model_1],[.one V_ground_class_model_1,.agg T_ground_class_model_1],fun x => pre_ground_class_model_1 x.1 x.2,fun x => s_ground_class_model_1 x.1 x.2⟩
theorem ok_ground_class_model_1:ConMOk Try.prog 132 con_ground_class_model_1 := ⟨k_ground_class_model_1,rfl,fun z0 x0 hx0 => (fun (x:U_ground_class_model_1.den×T_ground_class_model_1.den) (hx:∀ p∈con_ground_class_model_1.pre x,p) => retm2_tf (u := U_ground_class_model_1) (t := T_ground_class_model_1) (r := V_ground_class_model_1) (z := x.1) (x := x.2) (y := s_ground_class_model_1 x.1 x.2) e_ground_class_model_1 hC_ground_class_model_1 (tfm2_of (w_ground_class_model_1_eq x.1 x.2 (fun z => z = s_ground_class_model_1 x.1 x.2)) (d_ground_class_model_1 x.1 x.2 (fun z => z = s_ground_class_model_1 x.1 x.2) hx rfl))) (z0,x0) hx0⟩
/- ground_class_model -/
def C_ground_class_model:Cons := [(133,[],con_slices_Backwardapi_GroundChoice_api_GroundChoice),(152,itMark,con_slices_Backwardapi_GroundChoice_api_GroundChoice_1),(132,ioMark,con_ground_class_model_1)]
theorem hC_ground_class_model:ConsOk Try.prog C_ground_class_model := ConsOk.cons ok_slices_Backwardapi_GroundChoice_api_GroundChoice <| ConsOk.consI ok_slices_Backwardapi_GroundChoice_api_GroundChoice_1 <| ConsOk.consM ok_ground_class_model_1 <| ConsOk.nil
def w_ground_class_model (p0:(List ((List Int)×(List Int)))) (p1:Int) (K:(List (Int×Int))→Prop):Prop :=
  (((0:Int)≤(p0.length:Int)) ∧
 ((((16:Int) * (p0.length:Int))≤281474976710656) ∧
 (((p0.length:Int)≤9223372036854775807) ∧
 ((p0.length≤1000000) ∧
 (RngP (fun (y0:(Int×(List (Int×Int)))) (z1:(Int×((List Int)×(List Int)))) k2 =>
  (((z1.2.2.length:Int) ≠ (0:Int)) ∧
  (((0:Int)≤(Int.tmod y0.1 (z1.2.2.length:Int))) ∧
  (((Int.tmod y0.1 (z1.2.2.length:Int)) < (z1.2.2.length:Int)) ∧
  (((0:Int)≤z1.1) ∧
  ((z1.1 < (y0.2.length:Int)) ∧
  (((z1.2.1.length:Int) ≠ (0:Int)) ∧
  (((0:Int)≤(Int.tmod (s_ground_class_model_1 z1.2.2 y0.1).2 (z1.2.1.length:Int))) ∧
  (((Int.tmod (s_ground_class_model_1 z1.2.2 y0.1).2 (z1.2.1.length:Int)) < (z1.2.1.length:Int)) ∧
  (((0:Int)≤z1.1) ∧
  ((z1.1 < (((List.length (List.set y0.2 z1.1.toNat ((y0.2.getD z1.1.toNat ((0:Int),(0:Int))).1,(s_ground_class_model_1 z1.2.2 y0.1).1))):Nat):Int)) ∧
  (k2 ((s_ground_class_model_1 z1.2.1 (s_ground_class_model_1 z1.2.2 y0.1).2).2,(List.set (List.set y0.2 z1.1.toNat ((y0.2.getD z1.1.toNat ((0:Int),(0:Int))).1,(s_ground_class_model_1 z1.2.2 y0.1).1)) z1.1.toNat ((s_ground_class_model_1 z1.2.1 (s_ground_class_model_1 z1.2.2 y0.1).2).1,(List.getD (List.set y0.2 z1.1.toNat ((y0.2.getD z1.1.toNat ((0:Int),(0:Int))).1,(s_ground_class_model_1 z1.2.2 y0.1).1)) z1.1.toNat ((0:Int),(0:Int))).2)))))))))))))))
  (fun (s3:(Int×(List (Int×Int)))) => (K s3.2)) (v_bwd (0:Int) p0) (p1,(List.replicate (Int.toNat (p0.length:Int)) ((0:Int),(0:Int)))))))))
set_option maxHeartbeats 4000000 in
theorem w_ground_class_model_eq (p0:(List ((List Int)×(List Int)))) (p1:Int) (K:(List (Int×Int))→Prop):tfn F_ground_class_model A_ground_class_model C_ground_class_model P_ground_class_model R_ground_class_model (p0,p1) K = w_ground_class_model p0 p1 K := by kernel_rfl
def st_ground_class_model_0 (_p0:(List ((List Int)×(List Int)))) (_p1:Int) (y0:(Int×(List (Int×Int)))) (z0:(Int×((List Int)×(List Int)))):(Int×(List (Int×Int))) ⊕ (List (Int×Int)) :=
 (Sum.inl ((s_ground_class_model_1 z0.2.1 (s_ground_class_model_1 z0.2.2 y0.1).2).2,(List.set (List.set y0.2 z0.1.toNat ((y0.2.getD z0.1.toNat ((0:Int),(0:Int))).1,(s_ground_class_model_1 z0.2.2 y0.1).1)) z0.1.toNat ((s_ground_class_model_1 z0.2.1 (s_ground_class_model_1 z0.2.2 y0.1).2).1,(List.getD (List.set y0.2 z0.1.toNat ((y0.2.getD z0.1.toNat ((0:Int),(0:Int))).1,(s_ground_class_model_1 z0.2.2 y0.1).1)) z0.1.toNat ((0:Int),(0:Int))).2))))
abbrev sp_ground_class_model_0 (_p0:(List ((List Int)×(List Int)))) (_p1:Int) (y0:(Int×(List (Int×Int)))) (z0:(Int×((List Int)×(List Int)))):List Prop := [((z0.2.2.length:Int) ≠ (0:Int)),
  ((0:Int)≤(Int.tmod y0.1 (z0.2.2.length:Int))),
  ((Int.tmod y0.1 (z0.2.2.length:Int)) < (z0.2.2.length:Int)),
  ((0:Int)≤z0.1),
  (z0.1 < (y0.2.length:Int)),
  ((z0.2.1.length:Int) ≠ (0:Int)),
  ((0:Int)≤(Int.tmod (s_ground_class_model_1 z0.2.2 y0.1).2 (z0.2.1.length:Int))),
  ((Int.tmod (s_ground_class_model_1 z0.2.2 y0.1).2 (z0.2.1.length:Int)) < (z0.2.1.length:Int)),
  (z0.1 < (((List.length (List.set y0.2 z0.1.toNat ((y0.2.getD z0.1.toNat ((0:Int),(0:Int))).1,(s_ground_class_model_1 z0.2.2 y0.1).1))):Nat):Int))]
def sf_ground_class_model_0 (_p0:(List ((List Int)×(List Int)))) (_p1:Int) (s0:(Int×(List (Int×Int)))):(List (Int×Int)) :=
 s0.2
abbrev sq_ground_class_model_0 (_p0:(List ((List Int)×(List Int)))) (_p1:Int) (_s0:(Int×(List (Int×Int)))):List Prop := []
def s_ground_class_model (p0:(List ((List Int)×(List Int)))) (p1:Int):(List (Int×Int)) :=
 (rngV (st_ground_class_model_0 p0 p1) (sf_ground_class_model_0 p0 p1) (v_bwd (0:Int) p0) (p1,(List.replicate (Int.toNat (p0.length:Int)) ((0:Int),(0:Int)))))
abbrev pre_ground_class_model (p0:(List ((List Int)×(List Int)))) (p1:Int):List Prop := [((0:Int)≤(p0.length:Int)),
  (((16:Int) * (p0.length:Int))≤281474976710656),
  ((p0.length:Int)≤9223372036854775807),
  (p0.length≤1000000),
  (OkR (st_ground_class_model_0 p0 p1) (sp_ground_class_model_0 p0 p1) (sq_ground_class_model_0 p0 p1) (v_bwd (0:Int) p0) (p1,(List.replicate (Int.toNat (p0.length:Int)) ((0:Int),(0:Int)))))]
set_option maxHeartbeats 4000000 in
theorem d_ground_class_model (p0:(List ((List Int)×(List Int)))) (p1:Int) (K:(List (Int×Int))→Prop) (hp:∀ p∈pre_ground_class_model p0 p1,p) (h:K (s_ground_class_model p0 p1)):w_ground_class_model p0 p1 K := by
 unfold w_ground_class_model
 unfold s_ground_class_model at h
 obtain ⟨hp0,hp1,hp2,hp3,hp4,_⟩ := conj_of hp
 exact ⟨(hp0),(hp1),(hp2),(hp3),(rng_gen (hp4) h (fun y0 z0 k0 hp h => by
 unfold st_ground_class_model_0 at h; obtain ⟨hp0,hp1,hp2,hp3,hp4,hp5,hp6,hp7,hp8,_⟩ := conj_of hp
 exact ⟨(hp0),(hp1),(hp2),(hp3),(hp4),(hp5),(hp6),(hp7),(hp3),(hp8),h⟩) (fun s0 hp h => by
 unfold sf_ground_class_model_0 at h
 exact h))⟩
/-- The model with a number: what is left of the number above some layers,and these layers. -/
def v_mod:List (List Int×List Int)→Int→Int×List (Int×Int)
 | [],k => (k,[])
 | x :: r,k => ((v_mod r k).1 / (x.2.length:Int) / (x.1.length:Int),(x.1.getD ((v_mod r k).1 / (x.2.length:Int) % (x.1.length:Int)).toNat 0,x.2.getD ((v_mod r k).1 % (x.2.length:Int)).toNat 0) :: (v_mod r k).2)
def v_mdl (l:List (List Int×List Int)) (k:Int):List (Int×Int) := (v_mod l k).2
/-- Classes of at most 4 layers with no empty list. -/
structure v_cne (l:List (List Int×List Int)):Prop where
 len:l.length≤4
 ne:∀ x∈l,0 < x.1.length∧0 < x.2.length
 few:v_few l
theorem v_mod_nn:∀ (l:List (List Int×List Int)) (k:Int),0≤k→0≤(v_mod l k).1∧(v_mod l k).1≤k
 | [],k,h => ⟨h,Int.le_refl _⟩
 | x :: r,k,h => by
  obtain ⟨h1,h2⟩ := v_mod_nn r k h
  have a1 := Int.ediv_nonneg h1 (show 0≤(x.2.length:Int) by omega)
  have a2 := Int.ediv_le_self (x.2.length:Int) h1
  have a3 := Int.ediv_nonneg a1 (show 0≤(x.1.length:Int) by omega)
  have a4 := Int.ediv_le_self (x.1.length:Int) a1
  exact ⟨a3,Int.le_trans a4 (Int.le_trans a2 h2)⟩
theorem v_mod_len:∀ (l:List (List Int×List Int)) (k:Int),(v_mod l k).2.length = l.length
 | [],_ => rfl
 | x :: r,k => by show ((_:Int×Int) :: (v_mod r k).2).length = _; rw [List.length_cons,v_mod_len r k,List.length_cons]
/-- What is written so far. -/
def v_mst (n:Nat) (k:Int) (r:List (List Int×List Int)):Int×List (Int×Int) := ((v_mod r k).1,List.replicate (n - r.length) (0,0) ++ (v_mod r k).2)
theorem v_rep_set {n:Nat} {l:List (Int×Int)} (z w:Int×Int):(List.replicate n ((0,0):Int×Int) ++ w :: l).set n z = List.replicate n (0,0) ++ z :: l := by
 rw [List.set_append_right _ _ (by simp)]
 simp
theorem v_rep_e (n:Nat) (l:List (Int×Int)):List.replicate (n + 1) ((0,0):Int×Int) ++ l = List.replicate n (0,0) ++ (0,0) :: l := by rw [List.replicate_succ',List.append_assoc]; rfl
theorem v_rep_get {n:Nat} {l:List (Int×Int)} (w:Int×Int):(List.replicate n ((0,0):Int×Int) ++ w :: l).getD n (0,0)=w := by
 rw [List.getD_eq_getElem?_getD,List.getElem?_append_right (by simp)]
 simp
theorem v_rep_len {n:Nat} {l:List (Int×Int)} (w:Int×Int):(List.replicate n ((0,0):Int×Int) ++ w :: l).length = n + 1 + l.length := by simp; omega
theorem l_ground_class_model_0 (p0:List (List Int×List Int)) (p1:Int) (hc:v_cne p0) (hk:0≤p1∧p1≤9223372036854775807):OkR (st_ground_class_model_0 p0 p1) (sp_ground_class_model_0 p0 p1) (sq_ground_class_model_0 p0 p1) (v_bwd 0 p0) (p1,List.replicate (Int.toNat (p0.length:Int)) (0,0))∧rngV (st_ground_class_model_0 p0 p1) (sf_ground_class_model_0 p0 p1) (v_bwd 0 p0) (p1,List.replicate (Int.toNat (p0.length:Int)) (0,0))=v_mdl p0 p1 := by
 have hl := hc.len
 have h := rng_bwd (st := st_ground_class_model_0 p0 p1) (sp := sp_ground_class_model_0 p0 p1) (fin := sf_ground_class_model_0 p0 p1) (fp := sq_ground_class_model_0 p0 p1) (v_mst p0.length p1) p0 ?_ (by simp [sq_ground_class_model_0])
 ·have e0:v_mst p0.length p1 []=(p1,List.replicate (Int.toNat (p0.length:Int)) (0,0)) := by unfold v_mst v_mod; simp
  rw [e0] at h
  refine ⟨h.1,h.2.trans ?_⟩
  show (v_mst p0.length p1 p0).2 = _
  unfold v_mst v_mdl
  simp
 ·intro a x r e
  have hlen:p0.length = a.length + 1 + r.length := by rw [e]; simp; omega
  have hq0 := v_mod_nn r p1 hk.1
  have hxn := hc.ne x (by rw [e]; simp)
  have hxf := hc.few.len x (by rw [e]; simp)
  have z2:(0:Int) < (x.2.length:Int) := by omega
  have z1:(0:Int) < (x.1.length:Int) := by omega
  have d1 := Int.ediv_nonneg hq0.1 (show 0≤(x.2.length:Int) by omega)
  have d2 := Int.ediv_le_self (x.2.length:Int) hq0.1
  have d3 := Int.ediv_nonneg d1 (show 0≤(x.1.length:Int) by omega)
  have d4 := Int.ediv_le_self (x.1.length:Int) d1
  have m1 := Int.emod_nonneg (v_mod r p1).1 (show (x.2.length:Int) ≠ 0 by omega)
  have m2 := Int.emod_lt_of_pos (v_mod r p1).1 z2
  have m3 := Int.emod_nonneg ((v_mod r p1).1 / (x.2.length:Int)) (show (x.1.length:Int) ≠ 0 by omega)
  have m4 := Int.emod_lt_of_pos ((v_mod r p1).1 / (x.2.length:Int)) z1
  have t1:Int.tmod (v_mod r p1).1 (x.2.length:Int)=(v_mod r p1).1 % (x.2.length:Int) := Int.tmod_eq_emod_of_nonneg hq0.1
  have t2:Int.tdiv (v_mod r p1).1 (x.2.length:Int)=(v_mod r p1).1 / (x.2.length:Int) := Int.tdiv_eq_ediv_of_nonneg hq0.1
  have w1:IntKind.i64.wrap ((v_mod r p1).1 / (x.2.length:Int))=(v_mod r p1).1 / (x.2.length:Int) := wrap_id (by omega) (by omega)
  have t3:Int.tmod ((v_mod r p1).1 / (x.2.length:Int)) (x.1.length:Int)=(v_mod r p1).1 / (x.2.length:Int) % (x.1.length:Int) := Int.tmod_eq_emod_of_nonneg d1
  have t4:Int.tdiv ((v_mod r p1).1 / (x.2.length:Int)) (x.1.length:Int)=(v_mod r p1).1 / (x.2.length:Int) / (x.1.length:Int) := Int.tdiv_eq_ediv_of_nonneg d1
  have w2:IntKind.i64.wrap ((v_mod r p1).1 / (x.2.length:Int) / (x.1.length:Int))=(v_mod r p1).1 / (x.2.length:Int) / (x.1.length:Int) := wrap_id (by omega) (by omega)
  have e1:v_mst p0.length p1 r = ((v_mod r p1).1,List.replicate (a.length + 1) (0,0) ++ (v_mod r p1).2) := by unfold v_mst; rw [show p0.length - r.length = a.length + 1 by omega]
  have e2:v_mst p0.length p1 (x :: r)=((v_mod r p1).1 / (x.2.length:Int) / (x.1.length:Int),List.replicate a.length (0,0) ++ (x.1.getD ((v_mod r p1).1 / (x.2.length:Int) % (x.1.length:Int)).toNat 0,x.2.getD ((v_mod r p1).1 % (x.2.length:Int)).toNat 0) :: (v_mod r p1).2) := by unfold v_mst; rw [show p0.length - (x :: r).length = a.length by rw [List.length_cons]; omega]; rfl
  rw [e1,e2]
  unfold sp_ground_class_model_0 st_ground_class_model_0 s_ground_class_model_1
  simp only [List.forall_mem_cons,t1,t2,w1,t3,t4,w2,Int.toNat_natCast,v_rep_e,v_rep_set,v_rep_get,v_rep_len]
  refine ⟨?_,trivial⟩
  and_intros
  all_goals first
   | (intro p hp; cases hp; done)
   | omega
abbrev t_ground_class_model (p0:List (List Int×List Int)) (p1:Int):List (Int×Int) := v_mdl p0 p1
abbrev qre_ground_class_model (p0:List (List Int×List Int)) (p1:Int):List Prop := [v_cne p0,0≤p1∧p1≤9223372036854775807]
theorem pp_ground_class_model (p0:List (List Int×List Int)) (p1:Int) (hq:∀ p∈qre_ground_class_model p0 p1,p):∀ p∈pre_ground_class_model p0 p1,p := by
 obtain ⟨h1,h2,_⟩ := conj_of hq
 have hl := h1.len
 simp only [pre_ground_class_model,List.forall_mem_cons]
 exact ⟨by omega,by omega,by omega,by omega,(l_ground_class_model_0 p0 p1 h1 h2).1,by intro p hp; cases hp⟩
theorem tt_ground_class_model (p0:List (List Int×List Int)) (p1:Int) (hq:∀ p∈qre_ground_class_model p0 p1,p):s_ground_class_model p0 p1 = t_ground_class_model p0 p1 := by
 obtain ⟨h1,h2,_⟩ := conj_of hq
 exact (l_ground_class_model_0 p0 p1 h1 h2).2

abbrev con_ground_class_model:Con := ⟨P_ground_class_model,R_ground_class_model,fun x => qre_ground_class_model x.1 x.2,fun x => t_ground_class_model x.1 x.2⟩
theorem ok_ground_class_model:ConOk Try.prog 96 con_ground_class_model := ⟨k_ground_class_model,fun x hx => ret_tf (ps := P_ground_class_model) (rs := R_ground_class_model) (x := x) (y := t_ground_class_model x.1 x.2) e_ground_class_model hC_ground_class_model (tf_of (w_ground_class_model_eq x.1 x.2 (fun z => z = t_ground_class_model x.1 x.2)) (d_ground_class_model x.1 x.2 (fun z => z = t_ground_class_model x.1 x.2) (pp_ground_class_model x.1 x.2 hx) (tt_ground_class_model x.1 x.2 hx)))⟩
/- ground_class_models -/
theorem v_cnt_nn:∀ (l:List (List Int×List Int)) (t:Int),0≤t→0≤v_cnt t l
 | [],_,h => h
 | x :: r,t,h => v_cnt_nn r _ (Int.mul_nonneg h (Int.mul_nonneg (by omega) (by omega)))
theorem v_count_nn (l:List (List Int×List Int)):0≤v_count l := v_cnt_nn l 1 (by omega)
/-- All models with their numbers. -/
def v_mdls (l:List (List Int×List Int)):List (Int×List (Int×Int)) := (List.range (v_count l).toNat).map fun (k:Nat) => ((k:Int),v_mdl l (k:Int))
abbrev con_ground_class_models:Con := ⟨.fn 1000000097 [(.sl (.pr (.sl (.int .i64)) (.sl (.int .i64))))] :: .one (.int .i64) :: [.agg (.sl (.pr (.int .i64) (.int .i64)))],[.one (.sl (tyPs (.one (.int .i64) :: [.agg (.sl (.pr (.int .i64) (.int .i64)))])))],fun x => [v_cne x.1.1,v_count x.1.1≤300],fun x => v_mdls x.1.1⟩
theorem ok_ground_class_models:ConIOk Try.prog 1000000097 con_ground_class_models := by
 refine ⟨rfl,k_ground_class_models,rfl,fun x hx => ?_⟩
 obtain ⟨h1,h2,_⟩ := conj_of hx
 have hn := v_count_nn x.1
 have h := it_ups e_ground_class_models rfl (.sl 2 (x.1.map (Ty.enc (.pr (.sl (.int .i64)) (.sl (.int .i64))))) false) (v_count x.1).toNat (by simp only at h2; omega)
  (fun k => .agg [.p (.sl 2 ((v_mdl x.1 (k:Int)).map (Ty.enc (.pr (.int .i64) (.int .i64)))) false)]) (fun k => .agg [.p (.sl 2 ((v_mdl x.1 (k:Int)).map (Ty.enc (.pr (.int .i64) (.int .i64)))) false)])
  (by
   rw [Int.toNat_of_nonneg hn]
   exact ok_ground_class_count.2 x.1 (by
    intro p hp
    simp only [List.mem_cons,List.not_mem_nil,or_false] at hp
    rcases hp with rfl | rfl
    ·exact h1.few
    ·exact h1.len))
  (fun k hk => ok_ground_class_model.2 (x.1,(k:Int)) (by
   have hk' : (k:Int) < v_count x.1 := by omega
   simp only at h2
   intro p hp
   simp only [List.mem_cons,List.not_mem_nil,or_false] at hp
   rcases hp with rfl | rfl
   ·exact h1
   ·omega))
  (fun k hp _ => rfl)
 have e:v_ups (v_count x.1).toNat (fun k => .agg [.p (.sl 2 ((v_mdl x.1 (k:Int)).map (Ty.enc (.pr (.int .i64) (.int .i64)))) false)])=(v_mdls x.1).map (valPs (.one (.int .i64) :: [.agg (.sl (.pr (.int .i64) (.int .i64)))])) := by
  unfold v_ups v_mdls
  rw [List.map_map]
  rfl
 rw [e] at h
 exact h
/- ref04_SameModel -/
/- ref04_Model -/
/- ref04_Count -/
def C_ref04_Count:Cons := []
theorem hC_ref04_Count:ConsOk Try.prog C_ref04_Count := ConsOk.nil
def w_ref04_Count (p0:(List ((List Int)×(List Int)))) (K:Int→Prop):Prop :=
  (∃ n0,(loopP (fun (y1:(Int×Int)) k2 =>
  ((((decide (y1.1 < (p0.length:Int)))=true) →
  (((0:Int)≤y1.1) ∧
   ((y1.1 < (p0.length:Int)) ∧
   (((0:Int)≤y1.1) ∧
   ((y1.1 < (p0.length:Int)) ∧
   (k2 ((IntKind.i64.wrap (y1.1 + 1)),(IntKind.i64.wrap ((IntKind.i64.wrap (y1.2 * (((List.length (p0.getD y1.1.toNat (([]:List Int),([]:List Int))).1):Nat):Int))) * (((List.length (p0.getD y1.1.toNat (([]:List Int),([]:List Int))).2):Nat):Int)))))))))) ∧
  (((decide (y1.1 < (p0.length:Int)))=false) →
  (K y1.2)))) n0 ((0:Int),(1:Int))))
set_option maxHeartbeats 4000000 in
theorem w_ref04_Count_eq (p0:(List ((List Int)×(List Int)))) (K:Int→Prop):tfn F_ref04_Count A_ref04_Count C_ref04_Count P_ref04_Count R_ref04_Count p0 K = w_ref04_Count p0 K := by kernel_rfl
def st_ref04_Count_0 (p0:(List ((List Int)×(List Int)))) (y0:(Int×Int)):(Int×Int) ⊕ Int :=
 (cond (decide (y0.1 < (p0.length:Int))) (Sum.inl ((IntKind.i64.wrap (y0.1 + 1)),(IntKind.i64.wrap ((IntKind.i64.wrap (y0.2 * (((List.length (p0.getD y0.1.toNat (([]:List Int),([]:List Int))).1):Nat):Int))) * (((List.length (p0.getD y0.1.toNat (([]:List Int),([]:List Int))).2):Nat):Int)))))
  (Sum.inr y0.2))
abbrev sp_ref04_Count_0 (p0:(List ((List Int)×(List Int)))) (y0:(Int×Int)):List Prop := [(((decide (y0.1 < (p0.length:Int)))=true)→((0:Int)≤y0.1)),
  (((decide (y0.1 < (p0.length:Int)))=true)→(y0.1 < (p0.length:Int)))]
def s_ref04_Count (p0:(List ((List Int)×(List Int)))):Int :=
 (lpv (0:Int) (st_ref04_Count_0 p0) ((0:Int),(1:Int)))
abbrev pre_ref04_Count (p0:(List ((List Int)×(List Int)))):List Prop := [(OkL (st_ref04_Count_0 p0) (sp_ref04_Count_0 p0) ((0:Int),(1:Int)))]
set_option maxHeartbeats 4000000 in
theorem d_ref04_Count (p0:(List ((List Int)×(List Int)))) (K:Int→Prop) (hp:∀ p∈pre_ref04_Count p0,p) (h:K (s_ref04_Count p0)):w_ref04_Count p0 K := by
 unfold w_ref04_Count
 unfold s_ref04_Count at h
 obtain ⟨hp0,_⟩ := conj_of hp
 exact (loop_gen (hp0) h (fun y0 k0 hp h => by
 unfold st_ref04_Count_0 at h; obtain ⟨hp0,hp1,_⟩ := conj_of hp
 exact (br' h (fun e1 h => ⟨(hp0 e1),(hp1 e1),(hp0 e1),(hp1 e1),h⟩)
  (fun e1 h => h))))
theorem l_ref04_Count_0 (p0:List (List Int×List Int)) (hl:p0.length≤4) (hf:v_few p0):OkL (st_ref04_Count_0 p0) (sp_ref04_Count_0 p0) (0,1)∧lpv 0 (st_ref04_Count_0 p0) (0,1)=v_count p0 := by
 refine @for_is Int (Int×Int) Int 0 (st_ref04_Count_0 p0) (sp_ref04_Count_0 p0) (fun i t => (i,t)) 0 p0.length (fun j t => 0≤t∧t≤484 ^ j) (fun j t => v_cnt t (p0.drop j)) (by omega) (by omega) ?_ ?_ 1 ⟨by decide,by decide⟩
 ·intro t _
  simp only [sp_ref04_Count_0,st_ref04_Count_0,List.forall_mem_cons,show decide ((p0.length:Int) < (p0.length:Int))=false from decide_eq_false (by omega),cond_false,List.drop_length,v_cnt]
  refine ⟨?_,trivial⟩
  and_intros
  all_goals first
   | (intro h; cases h; done)
   | (intro p hp; cases hp)
 ·intro j t _ hj ht
  have hd1:decide ((j:Int) < (p0.length:Int))=true := decide_eq_true (by omega)
  have hw1:IntKind.i64.wrap ((j:Int) + 1)=((j + 1:Nat):Int) := wrap_id (by omega) (by omega)
  rw [drop_getD ([],[]) hj]
  have hx := hf.len _ (v_getD_mem (d := ([],[])) hj)
  simp only [sp_ref04_Count_0,st_ref04_Count_0,List.forall_mem_cons,hd1,cond_true,cond_false,Int.toNat_natCast,hw1]
  obtain ⟨b1,b2,b3,b4,b5⟩ := v_cb (j := j) (by omega) ht (a := ((p0.getD j ([],[])).1.length:Int)) (b := ((p0.getD j ([],[])).2.length:Int)) (by omega) (by omega)
  have w1:IntKind.i64.wrap (((p0.getD j ([],[])).1.length:Int) * ((p0.getD j ([],[])).2.length:Int))=((p0.getD j ([],[])).1.length:Int) * ((p0.getD j ([],[])).2.length:Int) := wrap_id (by omega) (by omega)
  have w2:IntKind.i64.wrap (t * (((p0.getD j ([],[])).1.length:Int) * ((p0.getD j ([],[])).2.length:Int)))=t * (((p0.getD j ([],[])).1.length:Int) * ((p0.getD j ([],[])).2.length:Int)) := wrap_id (by omega) (by omega)
  have w3:IntKind.i64.wrap (t * ((p0.getD j ([],[])).1.length:Int))=t * ((p0.getD j ([],[])).1.length:Int) := wrap_id (by omega) (by omega)
  refine ⟨?_,.inl ⟨t * (((p0.getD j ([],[])).1.length:Int) * ((p0.getD j ([],[])).2.length:Int)),?_,⟨b3.1,b4⟩,rfl⟩⟩
  ·and_intros
   all_goals first
    | (intro p hp; cases hp; done)
    | (intros; omega)
  ·rw [w3,b5,w2]
abbrev t_ref04_Count (p0:List (List Int×List Int)):Int := v_count p0
abbrev qre_ref04_Count (p0:List (List Int×List Int)):List Prop := [v_few p0,p0.length≤4]
theorem pp_ref04_Count (p0:List (List Int×List Int)) (hq:∀ p∈qre_ref04_Count p0,p):∀ p∈pre_ref04_Count p0,p := by
 obtain ⟨h1,h2,_⟩ := conj_of hq
 simp only [pre_ref04_Count,List.forall_mem_cons]
 exact ⟨(l_ref04_Count_0 p0 h2 h1).1,by intro p hp; cases hp⟩
theorem tt_ref04_Count (p0:List (List Int×List Int)) (hq:∀ p∈qre_ref04_Count p0,p):s_ref04_Count p0 = t_ref04_Count p0 := by
 obtain ⟨h1,h2,_⟩ := conj_of hq
 exact (l_ref04_Count_0 p0 h2 h1).2

abbrev con_ref04_Count:Con := ⟨P_ref04_Count,R_ref04_Count,fun x => qre_ref04_Count x,fun x => t_ref04_Count x⟩
theorem ok_ref04_Count:ConOk Try.prog 34 con_ref04_Count := ⟨k_ref04_Count,fun x hx => ret_tf (ps := P_ref04_Count) (rs := R_ref04_Count) (x := x) (y := t_ref04_Count x) e_ref04_Count hC_ref04_Count (tf_of (w_ref04_Count_eq x (fun z => z = t_ref04_Count x)) (d_ref04_Count x (fun z => z = t_ref04_Count x) (pp_ref04_Count x hx) (tt_ref04_Count x hx)))⟩
/- ref04_Number -/
/- ground_open -/
def C_ground_open:Cons := [(28,[],con_ground_CheckClass)]
theorem hC_ground_open:ConsOk Try.prog C_ground_open := ConsOk.cons ok_ground_CheckClass <| ConsOk.nil
def w_ground_open (p0:(List ((List Int)×(List Int)))) (K:((List ((List Int)×(List Int)))×Int)→Prop):Prop :=
  ((v_few p0) ∧
 (K (p0,(v_cc p0).2)))
set_option maxHeartbeats 4000000 in
theorem w_ground_open_eq (p0:(List ((List Int)×(List Int)))) (K:((List ((List Int)×(List Int)))×Int)→Prop):tfn F_ground_open A_ground_open C_ground_open P_ground_open R_ground_open p0 K = w_ground_open p0 K := by kernel_rfl
def s_ground_open (p0:(List ((List Int)×(List Int)))):((List ((List Int)×(List Int)))×Int) :=
 (p0,(v_cc p0).2)
abbrev pre_ground_open (p0:(List ((List Int)×(List Int)))):List Prop := [(v_few p0)]
set_option maxHeartbeats 4000000 in
theorem d_ground_open (p0:(List ((List Int)×(List Int)))) (K:((List ((List Int)×(List Int)))×Int)→Prop) (hp:∀ p∈pre_ground_open p0,p) (h:K (s_ground_open p0)):w_ground_open p0 K := by
 unfold w_ground_open
 unfold s_ground_open at h
 obtain ⟨hp0,_⟩ := conj_of hp
 exact ⟨(hp0),h⟩
abbrev con_ground_open:Con := ⟨P_ground_open,R_ground_open,fun x => pre_ground_open x,fun x => s_ground_open x⟩
theorem ok_ground_open:ConOk Try.prog 93 con_ground_open := ⟨k_ground_open,fun x hx => ret_tf (ps := P_ground_open) (rs := R_ground_open) (x := x) (y := s_ground_open x) e_ground_open hC_ground_open (tf_of (w_ground_open_eq x (fun z => z = s_ground_open x)) (d_ground_open x (fun z => z = s_ground_open x) hx rfl))⟩
/- slices_Equalapi_GroundLayer_api_GroundLayer -/
/- ground_NumberOf -/
/-- Valid lists,layers and classes. -/
structure v_lsok (lo hi:Int) (l:List Int):Prop where
 mem:∀ n∈l,lo≤n∧n≤hi
 asc:∀ k,k + 1 < l.length→l.getD k 0 < l.getD (k + 1) 0
theorem tx_ls_ok {lo hi:Int} {l:List Int} (h:v_ls lo hi l = 0):v_lsok lo hi l := by
 unfold v_ls at h
 have key := v_scan_end (f := v_ls1 lo hi l) (e := (0:Int)) (P := fun (r:Int) => r = 0) l 0 h (fun j x v _ hv hv0 => by
  unfold v_ls1 at hv
  cases c1:s_base_Within x lo hi <;> rw [c1] at hv
  ·simp only [cond_false,Option.some.injEq] at hv; subst hv; cases hv0
  ·cases c2:cond (j == 0) true (decide (x > l.getD (j - 1).toNat 0)) <;> rw [c2] at hv
   ·simp only [cond_true,cond_false,Option.some.injEq] at hv; subst hv; cases hv0
   ·cases hv)
 refine ⟨fun n hn => ?_,fun k hk => ?_⟩
 ·obtain ⟨k,hk,rfl⟩ := List.getElem_of_mem hn
  have h := key k hk
  unfold v_ls1 at h
  cases c1:s_base_Within l[k] lo hi <;> rw [c1] at h
  ·cases h
  ·exact tx_within.1 c1
 ·have h := key (k + 1) hk
  unfold v_ls1 at h
  cases c1:s_base_Within l[k + 1] lo hi <;> rw [c1] at h
  ·cases h
  ·have z:(0 + ((k + 1:Nat):Int) == 0)=false := beq_eq_false_iff_ne.2 (by omega)
   rw [z,show (0 + ((k + 1:Nat):Int) - 1).toNat = k by omega] at h
   rw [show l.getD (k + 1) 0 = l[k + 1] by rw [List.getD_eq_getElem?_getD,List.getElem?_eq_getElem hk]; rfl]
   cases c2:decide (l[k + 1] > l.getD k 0) <;> rw [c2] at h
   ·cases h
   ·exact of_decide_eq_true c2
structure v_clay (last:Prop) (x:List Int×List Int):Prop where
 n1:0 < x.1.length
 n2:0 < x.2.length
 c:v_lsok 1 20 x.1
 t:v_lsok 0 10 x.2
 z:last→x.2 = [0]
theorem tx_cle_ok {n:Nat} {i:Int} {x:List Int×List Int} (h:v_cle n i x = 0):v_clay (i = (n:Int) - 1) x := by
 unfold v_cle at h
 cases c1:cond (decide ((x.1.length:Int) > 0)) (decide ((x.2.length:Int) > 0)) false <;> rw [c1] at h
 ·cases h
 have a:0 < x.1.length∧0 < x.2.length := by
  rcases Decidable.em ((x.1.length:Int) > 0) with g | g
  ·rw [decide_eq_true g] at c1
   have := of_decide_eq_true c1
   omega
  ·rw [decide_eq_false g] at c1; cases c1
 rw [cond_true] at h
 rcases int0 (v_ls 1 20 x.1) with ⟨z1,e1,_⟩ | ⟨z1,e1,_⟩ <;> rw [e1] at h
 rotate_left
 ·exact (z1 h).elim
 rw [cond_false] at h
 rcases int0 (v_ls 0 10 x.2) with ⟨z2,e2,_⟩ | ⟨z2,e2,_⟩ <;> rw [e2] at h
 rotate_left
 ·exact (z2 h).elim
 rw [cond_false] at h
 refine ⟨a.1,a.2,tx_ls_ok z1,tx_ls_ok z2,fun e => ?_⟩
 rw [beq_iff_eq.2 e] at h
 rcases Decidable.em (x.2 = [0]) with g | g
 ·exact g
 ·rw [decide_eq_false g] at h; cases h
theorem tx_ccs_ok {n:Nat}:∀ (l:List (List Int×List Int)) (i t:Int),(v_ccs n i t l).2 = 0→(∀ a x r,l = a ++ x :: r→v_clay (i + a.length = (n:Int) - 1) x)∧v_cnt t l≤300
 | [],i,t,h => by
  refine ⟨fun a x r e => (by cases a <;> cases e),?_⟩
  show t≤300
  unfold v_ccs at h
  rcases Decidable.em (t≤300) with g | g
  ·exact g
  ·rw [decide_eq_false g] at h; cases h
 | y :: s,i,t,h => by
  unfold v_ccs at h
  rcases int0 (v_cle n i y) with ⟨z,e,_⟩ | ⟨z,e,_⟩ <;> rw [e] at h
  rotate_left
  ·exact (z h).elim
  obtain ⟨h1,h2⟩ := tx_ccs_ok s _ _ h
  refine ⟨fun a x r e' => ?_,h2⟩
  cases a with
  | nil =>
   simp only [List.nil_append,List.cons.injEq] at e'
   obtain ⟨rfl,rfl⟩ := e'
   have := tx_cle_ok z
   rw [List.length_nil,Int.natCast_zero,Int.add_zero]; exact this
  | cons b a =>
   simp only [List.cons_append,List.cons.injEq] at e'
   obtain ⟨rfl,rfl⟩ := e'
   have := h1 a x r rfl
   rw [List.length_cons]
   rw [show i + ((a.length + 1:Nat):Int)=i + 1 + (a.length:Int) by omega]; exact this
structure v_clok (l:List (List Int×List Int)):Prop where
 ne:l ≠ []
 cne:v_cne l
 cnt:v_count l≤300
 lay:∀ a x r,l = a ++ x :: r→v_clay (r = []) x
theorem tx_cc_ok {l:List (List Int×List Int)} (hf:v_few l) (h:(v_cc l).2 = 0):v_clok l := by
 unfold v_cc at h
 rcases int0 (l.length:Int) with ⟨_,_,e0⟩ | ⟨h0,_,e0⟩
 ·rw [e0] at h; cases h
 rw [e0] at h
 rcases Decidable.em ((l.length:Int) > 4) with h4 | h4
 ·rw [decide_eq_true h4] at h; cases h
 rw [decide_eq_false h4] at h
 simp only [cond_false] at h
 obtain ⟨h1,h2⟩ := tx_ccs_ok l 0 1 h
 have lay:∀ a x r,l = a ++ x :: r→v_clay (r = []) x := fun a x r e => by
  have g := h1 a x r e
  refine ⟨g.n1,g.n2,g.c,g.t,fun er => g.z ?_⟩
  subst er
  have := congrArg List.length e
  simp at this
  omega
 refine ⟨by rintro rfl; exact h0 rfl,⟨by omega,fun x hx => ?_,hf⟩,h2,lay⟩
 obtain ⟨a,r,e⟩ := List.append_of_mem hx
 have g := lay a x r e
 exact ⟨g.n1,g.n2⟩
/- ref04_choiceErr -/
def C_ref04_choiceErr:Cons := [(81,[],con_ref04_isConductivity),(82,[],con_ref04_isThickness)]
theorem hC_ref04_choiceErr:ConsOk Try.prog C_ref04_choiceErr := ConsOk.cons ok_ref04_isConductivity <| ConsOk.cons ok_ref04_isThickness <| ConsOk.nil
abbrev q0_ref04_choiceErr (p0:(List Int)) (p1:Bool) (y1:Int) := (cond p1 (!(s_base_Within (p0.getD y1.toNat zz0) zz1 (20:Int))) false)
def w_ref04_choiceErr (p0:(List Int)) (p1:Bool) (K:Int→Prop):Prop :=
  (∃ n0,(loopP (fun (y1:Int) k2 =>
  ((((decide (y1 < (p0.length:Int)))=true) →
  (((p1 = true) →
   (p1 = p1)) ∧
   (((p1 = true) →
   (p1 = p1)) ∧
   (((p1 = true) →
   (zz0≤y1)) ∧
   (((p1 = true) →
   (y1 < (p0.length:Int))) ∧
   (((p1 = true) →
   (p1 = p1)) ∧
   (((p1 = true) →
   (p1 = p1)) ∧
   (((p1 = true) →
   (p1 = p1)) ∧
   ((p1 = p1) ∧
   ((((q0_ref04_choiceErr p0 p1 y1)=false) →
   ((q0_ref04_choiceErr p0 p1 y1)=(q0_ref04_choiceErr p0 p1 y1))) ∧
   ((((q0_ref04_choiceErr p0 p1 y1)=false) →
   ((q0_ref04_choiceErr p0 p1 y1)=(q0_ref04_choiceErr p0 p1 y1))) ∧
   (((((!(q0_ref04_choiceErr p0 p1 y1)) && (!p1))=true) →
   (((!(q0_ref04_choiceErr p0 p1 y1)) && (!p1))=((!(q0_ref04_choiceErr p0 p1 y1)) && (!p1)))) ∧
   (((((!(q0_ref04_choiceErr p0 p1 y1)) && (!p1))=true) →
   (((!(q0_ref04_choiceErr p0 p1 y1)) && (!p1))=((!(q0_ref04_choiceErr p0 p1 y1)) && (!p1)))) ∧
   (((((!(q0_ref04_choiceErr p0 p1 y1)) && (!p1))=true) →
   (zz0≤y1)) ∧
   (((((!(q0_ref04_choiceErr p0 p1 y1)) && (!p1))=true) →
   (y1 < (p0.length:Int))) ∧
   (((((!(q0_ref04_choiceErr p0 p1 y1)) && (!p1))=true) →
   (((!(q0_ref04_choiceErr p0 p1 y1)) && (!p1))=((!(q0_ref04_choiceErr p0 p1 y1)) && (!p1)))) ∧
   (((((!(q0_ref04_choiceErr p0 p1 y1)) && (!p1))=true) →
   (((!(q0_ref04_choiceErr p0 p1 y1)) && (!p1))=((!(q0_ref04_choiceErr p0 p1 y1)) && (!p1)))) ∧
   (((((!(q0_ref04_choiceErr p0 p1 y1)) && (!p1))=true) →
   (((!(q0_ref04_choiceErr p0 p1 y1)) && (!p1))=((!(q0_ref04_choiceErr p0 p1 y1)) && (!p1)))) ∧
   ((((q0_ref04_choiceErr p0 p1 y1)=false) →
   ((q0_ref04_choiceErr p0 p1 y1)=(q0_ref04_choiceErr p0 p1 y1))) ∧
   ((((q0_ref04_choiceErr p0 p1 y1)=false) →
   (((!(q0_ref04_choiceErr p0 p1 y1)) && (!p1))=(!p1))) ∧
   (((q0_ref04_choiceErr p0 p1 y1)=(q0_ref04_choiceErr p0 p1 y1)) ∧
   ((((cond (q0_ref04_choiceErr p0 p1 y1) true (cond (!p1) (!(s_base_Within (p0.getD y1.toNat zz0) zz0 (10:Int))) false))=true) →
   (K zz2)) ∧
   (((cond (q0_ref04_choiceErr p0 p1 y1) true (cond (!p1) (!(s_base_Within (p0.getD y1.toNat zz0) zz0 (10:Int))) false))=false) →
   ((((decide (y1 > zz0))=true) →
    ((decide (y1 > zz0))=(decide (y1 > zz0)))) ∧
    ((((decide (y1 > zz0))=true) →
    ((decide (y1 > zz0))=(decide (y1 > zz0)))) ∧
    ((((decide (y1 > zz0))=true) →
    (zz0≤y1)) ∧
    ((((decide (y1 > zz0))=true) →
    (y1 < (p0.length:Int))) ∧
    ((((decide (y1 > zz0))=true) →
    ((decide (y1 > zz0))=(decide (y1 > zz0)))) ∧
    ((((decide (y1 > zz0))=true) →
    ((decide (y1 > zz0))=(decide (y1 > zz0)))) ∧
    ((((decide (y1 > zz0))=true) →
    ((decide (y1 > zz0))=(decide (y1 > zz0)))) ∧
    ((((decide (y1 > zz0))=true) →
    ((decide (y1 > zz0))=(decide (y1 > zz0)))) ∧
    ((((decide (y1 > zz0))=true) →
    (zz0≤(wi (y1 - zz1)))) ∧
    ((((decide (y1 > zz0))=true) →
    ((wi (y1 - zz1)) < (p0.length:Int))) ∧
    ((((decide (y1 > zz0))=true) →
    ((decide (y1 > zz0))=(decide (y1 > zz0)))) ∧
    ((((decide (y1 > zz0))=true) →
    ((decide (y1 > zz0))=(decide (y1 > zz0)))) ∧
    ((((decide (y1 > zz0))=true) →
    ((decide (y1 > zz0))=(decide (y1 > zz0)))) ∧
    (((decide (y1 > zz0))=(decide (y1 > zz0))) ∧
    ((((cond (decide (y1 > zz0)) (decide ((p0.getD y1.toNat zz0)≤(p0.getD (Int.toNat (wi (y1 - zz1))) zz0))) false)=true) →
    (K (9:Int))) ∧
    (((cond (decide (y1 > zz0)) (decide ((p0.getD y1.toNat zz0)≤(p0.getD (Int.toNat (wi (y1 - zz1))) zz0))) false)=false) →
    (k2 (wi (y1 + zz1)))))))))))))))))))))))))))))))))))))))))) ∧
  (((decide (y1 < (p0.length:Int)))=false) →
  (K zz0)))) n0 zz0))
set_option maxHeartbeats 4000000 in
theorem w_ref04_choiceErr_eq (p0:(List Int)) (p1:Bool) (K:Int→Prop):tfn F_ref04_choiceErr A_ref04_choiceErr C_ref04_choiceErr P_ref04_choiceErr R_ref04_choiceErr (p0,p1) K = w_ref04_choiceErr p0 p1 K := by kernel_rfl
def st_ref04_choiceErr_0 (p0:(List Int)) (p1:Bool) (y0:Int):Int ⊕ Int :=
 (cond (decide (y0 < (p0.length:Int))) (cond (cond (cond p1 (!(s_base_Within (p0.getD y0.toNat (0:Int)) (1:Int) (20:Int))) false) true (cond (!p1) (!(s_base_Within (p0.getD y0.toNat (0:Int)) (0:Int) (10:Int))) false)) (Sum.inr (2:Int))
  (cond (cond (decide (y0 > 0)) (decide ((p0.getD y0.toNat (0:Int))≤(p0.getD (Int.toNat (IntKind.i64.wrap (y0 - 1))) (0:Int)))) false) (Sum.inr (9:Int))
  (Sum.inl (IntKind.i64.wrap (y0 + 1)))))
  (Sum.inr (0:Int)))
abbrev sp_ref04_choiceErr_0 (p0:(List Int)) (p1:Bool) (y0:Int):List Prop := [(((decide (y0 < (p0.length:Int)))=true)→((p1 = true)→((0:Int)≤y0))),
  (((decide (y0 < (p0.length:Int)))=true)→((p1 = true)→(y0 < (p0.length:Int)))),
  (((decide (y0 < (p0.length:Int)))=true)→((((!(cond p1 (!(s_base_Within (p0.getD y0.toNat (0:Int)) (1:Int) (20:Int))) false)) && (!p1))=true)→((0:Int)≤y0))),
  (((decide (y0 < (p0.length:Int)))=true)→((((!(cond p1 (!(s_base_Within (p0.getD y0.toNat (0:Int)) (1:Int) (20:Int))) false)) && (!p1))=true)→(y0 < (p0.length:Int)))),
  (((decide (y0 < (p0.length:Int)))=true)→(((cond p1 (!(s_base_Within (p0.getD y0.toNat (0:Int)) (1:Int) (20:Int))) false)=false)→(((!(cond p1 (!(s_base_Within (p0.getD y0.toNat (0:Int)) (1:Int) (20:Int))) false)) && (!p1))=(!p1)))),
  (((decide (y0 < (p0.length:Int)))=true)→(((cond (cond p1 (!(s_base_Within (p0.getD y0.toNat (0:Int)) (1:Int) (20:Int))) false) true (cond (!p1) (!(s_base_Within (p0.getD y0.toNat (0:Int)) (0:Int) (10:Int))) false))=false)→(((decide (y0 > 0))=true)→((0:Int)≤y0)))),
  (((decide (y0 < (p0.length:Int)))=true)→(((cond (cond p1 (!(s_base_Within (p0.getD y0.toNat (0:Int)) (1:Int) (20:Int))) false) true (cond (!p1) (!(s_base_Within (p0.getD y0.toNat (0:Int)) (0:Int) (10:Int))) false))=false)→(((decide (y0 > 0))=true)→(y0 < (p0.length:Int))))),
  (((decide (y0 < (p0.length:Int)))=true)→(((cond (cond p1 (!(s_base_Within (p0.getD y0.toNat (0:Int)) (1:Int) (20:Int))) false) true (cond (!p1) (!(s_base_Within (p0.getD y0.toNat (0:Int)) (0:Int) (10:Int))) false))=false)→(((decide (y0 > 0))=true)→((0:Int)≤(IntKind.i64.wrap (y0 - 1)))))),
  (((decide (y0 < (p0.length:Int)))=true)→(((cond (cond p1 (!(s_base_Within (p0.getD y0.toNat (0:Int)) (1:Int) (20:Int))) false) true (cond (!p1) (!(s_base_Within (p0.getD y0.toNat (0:Int)) (0:Int) (10:Int))) false))=false)→(((decide (y0 > 0))=true)→((IntKind.i64.wrap (y0 - 1)) < (p0.length:Int)))))]
def s_ref04_choiceErr (p0:(List Int)) (p1:Bool):Int :=
 (lpv (0:Int) (st_ref04_choiceErr_0 p0 p1) (0:Int))
abbrev pre_ref04_choiceErr (p0:(List Int)) (p1:Bool):List Prop := [(OkL (st_ref04_choiceErr_0 p0 p1) (sp_ref04_choiceErr_0 p0 p1) (0:Int))]
set_option maxHeartbeats 4000000 in
theorem d_ref04_choiceErr (p0:(List Int)) (p1:Bool) (K:Int→Prop) (hp:∀ p∈pre_ref04_choiceErr p0 p1,p) (h:K (s_ref04_choiceErr p0 p1)):w_ref04_choiceErr p0 p1 K := by
 unfold w_ref04_choiceErr
 unfold s_ref04_choiceErr at h
 obtain ⟨hp0,_⟩ := conj_of hp
 exact (loop_gen (hp0) h (fun y0 k0 hp h => by
 unfold st_ref04_choiceErr_0 at h; obtain ⟨hp0,hp1,hp2,hp3,hp4,hp5,hp6,hp7,hp8,_⟩ := conj_of hp
 exact (br' h (fun e1 h => ⟨rf,rf,(hp0 e1),(hp1 e1),rf,rf,rf,rfl,rf,rf,rf,rf,(hp2 e1),(hp3 e1),rf,rf,rf,rf,(hp4 e1),rfl,(br' h (fun e2 h => h)
  (fun e2 h => ⟨rf,rf,(hp5 e1 e2),(hp6 e1 e2),rf,rf,rf,rf,(hp7 e1 e2),(hp8 e1 e2),rf,rf,rf,rfl,(br' h (fun e3 h => h)
  (fun e3 h => h))⟩))⟩)
  (fun e1 h => h))))
theorem l_ref04_choiceErr_0 (p0:List Int) (p1:Bool) (hl:lenOk p0):OkL (st_ref04_choiceErr_0 p0 p1) (sp_ref04_choiceErr_0 p0 p1) 0∧lpv (0:Int) (st_ref04_choiceErr_0 p0 p1) 0 = v_scan (fun i n => cond p1 (v_ls1 1 20 p0 i n) (v_ls1 0 10 p0 i n)) (0:Int) 0 p0 := by
 refine scan_is p0 0 (fun i n => cond p1 (v_ls1 1 20 p0 i n) (v_ls1 0 10 p0 i n)) (0:Int) hl ?_ ?_
 ·refine ⟨by simp only [sp_ref04_choiceErr_0,List.forall_mem_cons,decide_eq_true_eq]; simp,by simp [st_ref04_choiceErr_0]⟩
 ·intro j hj
  have hj' : (j:Int) < p0.length := by omega
  have hw := wrap_nat (show (j:Int)≤9223372036854775806 by unfold lenOk at hl; omega)
  have hw2:IntKind.i64.wrap ((j:Int) - 1)=(j:Int) - 1 := wrap_id (by omega) (by unfold lenOk at hl; omega)
  refine ⟨by simp only [sp_ref04_choiceErr_0,List.forall_mem_cons,decide_eq_true_eq,Int.toNat_natCast]; rw [hw2]; cases p1 <;> and_intros <;> first | (intro p hp; cases hp; done) | (intros; first | omega | (simp_all; done) | (simp_all; omega)),?_⟩
  simp only [st_ref04_choiceErr_0,hj',decide_true,Int.toNat_natCast,cond_true,hw]
  unfold v_ls1
  rcases Nat.eq_zero_or_pos j with h0 | h0
  ·subst h0
   cases p1 <;> cases s_base_Within (p0.getD 0 0) 1 20 <;> cases s_base_Within (p0.getD 0 0) 0 10 <;> rfl
  ·have hz:((j:Int) == 0)=false := beq_eq_false_iff_ne.2 (by omega)
   have hz2:decide ((j:Int) > 0)=true := decide_eq_true (by omega)
   rw [hz,hw2,hz2]
   rcases Decidable.em (p0.getD j 0 > p0.getD ((j:Int) - 1).toNat 0) with c | c
   ·rw [decide_eq_true c,decide_eq_false (show ¬ p0.getD j 0≤p0.getD ((j:Int) - 1).toNat 0 by omega)]
    cases p1 <;> cases s_base_Within (p0.getD j 0) 1 20 <;> cases s_base_Within (p0.getD j 0) 0 10 <;> rfl
   ·rw [decide_eq_false c,decide_eq_true (show p0.getD j 0≤p0.getD ((j:Int) - 1).toNat 0 by omega)]
    cases p1 <;> cases s_base_Within (p0.getD j 0) 1 20 <;> cases s_base_Within (p0.getD j 0) 0 10 <;> rfl
abbrev t_ref04_choiceErr (p0:List Int) (p1:Bool):Int := cond p1 (v_ls 1 20 p0) (v_ls 0 10 p0)
abbrev qre_ref04_choiceErr (p0:List Int) (_p1:Bool):List Prop := [lenOk p0]
theorem pp_ref04_choiceErr (p0:List Int) (p1:Bool) (hq:∀ p∈qre_ref04_choiceErr p0 p1,p):∀ p∈pre_ref04_choiceErr p0 p1,p := by
 obtain ⟨h1,_⟩ := conj_of hq
 simp only [pre_ref04_choiceErr,List.forall_mem_cons]
 exact ⟨(l_ref04_choiceErr_0 p0 p1 h1).1,(by intro p hp; cases hp)⟩
theorem tt_ref04_choiceErr (p0:List Int) (p1:Bool) (hq:∀ p∈qre_ref04_choiceErr p0 p1,p):s_ref04_choiceErr p0 p1 = t_ref04_choiceErr p0 p1 := by
 obtain ⟨h1,_⟩ := conj_of hq
 refine (l_ref04_choiceErr_0 p0 p1 h1).2.trans ?_
 cases p1 <;> rfl

abbrev con_ref04_choiceErr:Con := ⟨P_ref04_choiceErr,R_ref04_choiceErr,fun x => qre_ref04_choiceErr x.1 x.2,fun x => t_ref04_choiceErr x.1 x.2⟩
theorem ok_ref04_choiceErr:ConOk Try.prog 99 con_ref04_choiceErr := ⟨k_ref04_choiceErr,fun x hx => ret_tf (ps := P_ref04_choiceErr) (rs := R_ref04_choiceErr) (x := x) (y := t_ref04_choiceErr x.1 x.2) e_ref04_choiceErr hC_ref04_choiceErr (tf_of (w_ref04_choiceErr_eq x.1 x.2 (fun z => z = t_ref04_choiceErr x.1 x.2)) (d_ref04_choiceErr x.1 x.2 (fun z => z = t_ref04_choiceErr x.1 x.2) (pp_ref04_choiceErr x.1 x.2 hx) (tt_ref04_choiceErr x.1 x.2 hx)))⟩
/- base_Ints -/
def C_base_Ints:Cons := []
theorem hC_base_Ints:ConsOk Try.prog C_base_Ints := ConsOk.nil
def w_base_Ints (p0:(List Int)) (p1:(List Int)) (K:Bool→Prop):Prop :=
  (((((p0.length:Int) != (p1.length:Int))=true) →
 (K false)) ∧
 ((((p0.length:Int) != (p1.length:Int))=false) →
 (∃ n0,(loopP (fun (y1:Int) k2 =>
   ((((decide (y1 < (p0.length:Int)))=true) →
   (((0:Int)≤y1) ∧
    ((y1 < (p0.length:Int)) ∧
    (((0:Int)≤y1) ∧
    ((y1 < (p1.length:Int)) ∧
    (((((p0.getD y1.toNat (0:Int)) != (p1.getD y1.toNat (0:Int)))=true) →
    (K false)) ∧
    ((((p0.getD y1.toNat (0:Int)) != (p1.getD y1.toNat (0:Int)))=false) →
    (k2 (IntKind.i64.wrap (y1 + 1)))))))))) ∧
   (((decide (y1 < (p0.length:Int)))=false) →
   (K true)))) n0 (0:Int)))))
set_option maxHeartbeats 4000000 in
theorem w_base_Ints_eq (p0:(List Int)) (p1:(List Int)) (K:Bool→Prop):tfn F_base_Ints A_base_Ints C_base_Ints P_base_Ints R_base_Ints (p0,p1) K = w_base_Ints p0 p1 K := by kernel_rfl
def st_base_Ints_0 (p0:(List Int)) (p1:(List Int)) (y1:Int):Int ⊕ Bool :=
 (cond (decide (y1 < (p0.length:Int))) (cond ((p0.getD y1.toNat (0:Int)) != (p1.getD y1.toNat (0:Int))) (Sum.inr false)
  (Sum.inl (IntKind.i64.wrap (y1 + 1))))
  (Sum.inr true))
abbrev sp_base_Ints_0 (p0:(List Int)) (p1:(List Int)) (y1:Int):List Prop := [(((decide (y1 < (p0.length:Int)))=true)→((0:Int)≤y1)),
  (((decide (y1 < (p0.length:Int)))=true)→(y1 < (p0.length:Int))),
  (((decide (y1 < (p0.length:Int)))=true)→(y1 < (p1.length:Int)))]
def s_base_Ints (p0:(List Int)) (p1:(List Int)):Bool :=
 (cond ((p0.length:Int) != (p1.length:Int)) false
  (lpv false (st_base_Ints_0 p0 p1) (0:Int)))
abbrev pre_base_Ints (p0:(List Int)) (p1:(List Int)):List Prop := [((((p0.length:Int) != (p1.length:Int))=false)→(OkL (st_base_Ints_0 p0 p1) (sp_base_Ints_0 p0 p1) (0:Int)))]
set_option maxHeartbeats 4000000 in
theorem d_base_Ints (p0:(List Int)) (p1:(List Int)) (K:Bool→Prop) (hp:∀ p∈pre_base_Ints p0 p1,p) (h:K (s_base_Ints p0 p1)):w_base_Ints p0 p1 K := by
 unfold w_base_Ints
 unfold s_base_Ints at h
 obtain ⟨hp0,_⟩ := conj_of hp
 exact (br' h (fun e0 h => h)
  (fun e0 h => (loop_gen (hp0 e0) h (fun y1 k1 hp h => by
 unfold st_base_Ints_0 at h; obtain ⟨hp0,hp1,hp2,_⟩ := conj_of hp
 exact (br' h (fun e2 h => ⟨(hp0 e2),(hp1 e2),(hp0 e2),(hp2 e2),(br' h (fun e3 h => h)
  (fun e3 h => h))⟩)
  (fun e2 h => h))))))
theorem l_base_Ints_0 (p0 p1:List Int) (hl:lenOk p0) (he:p0.length = p1.length):OkL (st_base_Ints_0 p0 p1) (sp_base_Ints_0 p0 p1) 0∧lpv false (st_base_Ints_0 p0 p1) 0 = v_scan (fun i x => cond (!((x == (p1.getD i.toNat 0)))) (some false) none) true 0 p0 := by
 refine scan_is p0 0 (fun i x => cond (!((x == (p1.getD i.toNat 0)))) (some false) none) true hl ?_ ?_
 ·refine ⟨by simp only [sp_base_Ints_0,List.forall_mem_cons,decide_eq_true_eq]; simp,by simp [st_base_Ints_0]⟩
 ·intro j hj
  have hj' : (j:Int) < p0.length := by omega
  refine ⟨by simp only [sp_base_Ints_0,List.forall_mem_cons,decide_eq_true_eq,Int.toNat_natCast]; simp <;> omega,?_⟩
  simp only [st_base_Ints_0,hj',decide_true,Int.toNat_natCast,cond_true,wrap_nat (show (j:Int)≤9223372036854775806 by unfold lenOk at hl; omega)]
  generalize p0.getD j 0 = x
  generalize p1.getD j 0 = z
  simp only [bne]
  cases (x == z) <;> rfl
abbrev t_base_Ints (p0 p1:List Int):Bool := decide (p0 = p1)
abbrev qre_base_Ints (p0 _p1:List Int):List Prop := [lenOk p0]
theorem pp_base_Ints (p0 p1:List Int) (hq:∀ p∈qre_base_Ints p0 p1,p):∀ p∈pre_base_Ints p0 p1,p := by
 simp only [pre_base_Ints,List.forall_mem_cons]
 refine ⟨fun h => (l_base_Ints_0 p0 p1 (conj_of hq).1 ?_).1,by simp⟩
 have h' : (p0.length:Int)=p1.length := by simpa using h
 omega
theorem tt_base_Ints (p0 p1:List Int) (hq:∀ p∈qre_base_Ints p0 p1,p):s_base_Ints p0 p1 = t_base_Ints p0 p1 := by
 unfold s_base_Ints t_base_Ints
 by_cases h:p0.length = p1.length
 ·rw [show ((p0.length:Int) != (p1.length:Int))=false by simp [h]]
  refine (l_base_Ints_0 p0 p1 (conj_of hq).1 h).2.trans ?_
  exact v_scan_eq 0 (fun x y => (x == y)) (fun x y => by by_cases h:x = y <;> simp [h]) p0 p1 h
 ·rw [show ((p0.length:Int) != (p1.length:Int))=true by simp; omega]
  have:p0 ≠ p1 := fun e => h (congrArg List.length e)
  simp [this]

abbrev con_base_Ints:Con := ⟨P_base_Ints,R_base_Ints,fun x => qre_base_Ints x.1 x.2,fun x => t_base_Ints x.1 x.2⟩
theorem ok_base_Ints:ConOk Try.prog 58 con_base_Ints := ⟨k_base_Ints,fun x hx => ret_tf (ps := P_base_Ints) (rs := R_base_Ints) (x := x) (y := t_base_Ints x.1 x.2) e_base_Ints hC_base_Ints (tf_of (w_base_Ints_eq x.1 x.2 (fun z => z = t_base_Ints x.1 x.2)) (d_base_Ints x.1 x.2 (fun z => z = t_base_Ints x.1 x.2) (pp_base_Ints x.1 x.2 hx) (tt_base_Ints x.1 x.2 hx)))⟩
end Go.Proofs.Ytehblgccaiiikaa
