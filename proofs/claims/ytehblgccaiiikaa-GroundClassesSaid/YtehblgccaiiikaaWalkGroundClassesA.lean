/- What the functions that GroundClasses reaches compute: contracts, each function once. No condition. -/
import Derived.Test.YtehblgccaiiikaaLayB
import Derived.Test.YtehblgccaiiikaaAwGrGroundClasses
import Derived.KernelRfl
namespace Go.Proofs.Ytehblgccaiiikaa
open Go Go.Mx
set_option maxRecDepth 100000
abbrev wi (n:Int):Int := IntKind.i64.wrap n
abbrev zz0:Int := 0
abbrev zz1:Int := 1
abbrev zz2:Int := 2
abbrev zz3:Int := 3
theorem nof {p:Prop} (h:false = true):p := Bool.noConfusion h
theorem rf {p:Prop} {α:Sort _} {a:α} (_:p):a = a := rfl
/- ground_divisor -/
/-- Whether a layer,layers,are valid. -/
structure v_lok (x:Int×Int):Prop where
 c:1≤x.1∧x.1≤20
 t:0≤x.2∧x.2≤10
/-- The same thicknesses,and conductivities that are no less. -/
inductive v_above:List (Int×Int)→List (Int×Int)→Prop
 | nil:v_above [] []
 | cons {x y:Int×Int} {l r:List (Int×Int)} (h1:x.1≤y.1) (h2:x.2 = y.2) (h:v_above l r):v_above (x :: l) (y :: r)
/- base_Within -/
def C_base_Within:Cons := []
theorem hC_base_Within:ConsOk Try.prog C_base_Within := ConsOk.nil
def w_base_Within (p0:Int) (p1:Int) (p2:Int) (K:Bool→Prop):Prop :=
  ((((decide (p1≤p0))=true) →
 ((decide (p1≤p0))=(decide (p1≤p0)))) ∧
 ((((decide (p1≤p0))=true) →
 ((decide (p1≤p0))=(decide (p1≤p0)))) ∧
 (((decide (p1≤p0))=(decide (p1≤p0))) ∧
 (K (cond (decide (p1≤p0)) (decide (p0≤p2)) false)))))
set_option maxHeartbeats 4000000 in
theorem w_base_Within_eq (p0:Int) (p1:Int) (p2:Int) (K:Bool→Prop):tfn F_base_Within A_base_Within C_base_Within P_base_Within R_base_Within (p0,p1,p2) K = w_base_Within p0 p1 p2 K := by kernel_rfl
def s_base_Within (p0:Int) (p1:Int) (p2:Int):Bool :=
 (cond (decide (p1≤p0)) (decide (p0≤p2)) false)
abbrev pre_base_Within (_p0:Int) (_p1:Int) (_p2:Int):List Prop := []
set_option maxHeartbeats 4000000 in
theorem d_base_Within (p0:Int) (p1:Int) (p2:Int) (K:Bool→Prop) (_hp:∀ p∈pre_base_Within p0 p1 p2,p) (h:K (s_base_Within p0 p1 p2)):w_base_Within p0 p1 p2 K := by
 unfold w_base_Within
 unfold s_base_Within at h
 exact ⟨rf,rf,rfl,h⟩
abbrev con_base_Within:Con := ⟨P_base_Within,R_base_Within,fun x => pre_base_Within x.1 x.2.1 x.2.2,fun x => s_base_Within x.1 x.2.1 x.2.2⟩
theorem ok_base_Within:ConOk Try.prog 35 con_base_Within := ⟨k_base_Within,fun x hx => ret_tf (ps := P_base_Within) (rs := R_base_Within) (x := x) (y := s_base_Within x.1 x.2.1 x.2.2) e_base_Within hC_base_Within (tf_of (w_base_Within_eq x.1 x.2.1 x.2.2 (fun z => z = s_base_Within x.1 x.2.1 x.2.2)) (d_base_Within x.1 x.2.1 x.2.2 (fun z => z = s_base_Within x.1 x.2.1 x.2.2) hx rfl))⟩
theorem tx_within {n lo hi:Int}:s_base_Within n lo hi = true ↔ lo≤n∧n≤hi := by unfold s_base_Within; simp
/- ref04_isConductivity -/
def C_ref04_isConductivity:Cons := [(35,[],con_base_Within)]
theorem hC_ref04_isConductivity:ConsOk Try.prog C_ref04_isConductivity := ConsOk.cons ok_base_Within <| ConsOk.nil
def w_ref04_isConductivity (p0:Int) (K:Bool→Prop):Prop :=
  (K (s_base_Within p0 (1:Int) (20:Int)))
set_option maxHeartbeats 4000000 in
theorem w_ref04_isConductivity_eq (p0:Int) (K:Bool→Prop):tfn F_ref04_isConductivity A_ref04_isConductivity C_ref04_isConductivity P_ref04_isConductivity R_ref04_isConductivity p0 K = w_ref04_isConductivity p0 K := by kernel_rfl
def s_ref04_isConductivity (p0:Int):Bool :=
 (s_base_Within p0 (1:Int) (20:Int))
abbrev pre_ref04_isConductivity (_p0:Int):List Prop := []
set_option maxHeartbeats 4000000 in
theorem d_ref04_isConductivity (p0:Int) (K:Bool→Prop) (_hp:∀ p∈pre_ref04_isConductivity p0,p) (h:K (s_ref04_isConductivity p0)):w_ref04_isConductivity p0 K := by
 unfold w_ref04_isConductivity
 unfold s_ref04_isConductivity at h
 exact h
abbrev con_ref04_isConductivity:Con := ⟨P_ref04_isConductivity,R_ref04_isConductivity,fun x => pre_ref04_isConductivity x,fun x => s_ref04_isConductivity x⟩
theorem ok_ref04_isConductivity:ConOk Try.prog 81 con_ref04_isConductivity := ⟨k_ref04_isConductivity,fun x hx => ret_tf (ps := P_ref04_isConductivity) (rs := R_ref04_isConductivity) (x := x) (y := s_ref04_isConductivity x) e_ref04_isConductivity hC_ref04_isConductivity (tf_of (w_ref04_isConductivity_eq x (fun z => z = s_ref04_isConductivity x)) (d_ref04_isConductivity x (fun z => z = s_ref04_isConductivity x) hx rfl))⟩
/- ref04_isThickness -/
def C_ref04_isThickness:Cons := [(35,[],con_base_Within)]
theorem hC_ref04_isThickness:ConsOk Try.prog C_ref04_isThickness := ConsOk.cons ok_base_Within <| ConsOk.nil
def w_ref04_isThickness (p0:Int) (K:Bool→Prop):Prop :=
  (K (s_base_Within p0 (0:Int) (10:Int)))
set_option maxHeartbeats 4000000 in
theorem w_ref04_isThickness_eq (p0:Int) (K:Bool→Prop):tfn F_ref04_isThickness A_ref04_isThickness C_ref04_isThickness P_ref04_isThickness R_ref04_isThickness p0 K = w_ref04_isThickness p0 K := by kernel_rfl
def s_ref04_isThickness (p0:Int):Bool :=
 (s_base_Within p0 (0:Int) (10:Int))
abbrev pre_ref04_isThickness (_p0:Int):List Prop := []
set_option maxHeartbeats 4000000 in
theorem d_ref04_isThickness (p0:Int) (K:Bool→Prop) (_hp:∀ p∈pre_ref04_isThickness p0,p) (h:K (s_ref04_isThickness p0)):w_ref04_isThickness p0 K := by
 unfold w_ref04_isThickness
 unfold s_ref04_isThickness at h
 exact h
abbrev con_ref04_isThickness:Con := ⟨P_ref04_isThickness,R_ref04_isThickness,fun x => pre_ref04_isThickness x,fun x => s_ref04_isThickness x⟩
theorem ok_ref04_isThickness:ConOk Try.prog 82 con_ref04_isThickness := ⟨k_ref04_isThickness,fun x hx => ret_tf (ps := P_ref04_isThickness) (rs := R_ref04_isThickness) (x := x) (y := s_ref04_isThickness x) e_ref04_isThickness hC_ref04_isThickness (tf_of (w_ref04_isThickness_eq x (fun z => z = s_ref04_isThickness x)) (d_ref04_isThickness x (fun z => z = s_ref04_isThickness x) hx rfl))⟩
/- ref04_CheckModel -/
def C_ref04_CheckModel:Cons := [(81,[],con_ref04_isConductivity),(82,[],con_ref04_isThickness)]
theorem hC_ref04_CheckModel:ConsOk Try.prog C_ref04_CheckModel := ConsOk.cons ok_ref04_isConductivity <| ConsOk.cons ok_ref04_isThickness <| ConsOk.nil
abbrev q0_ref04_CheckModel (p0:(List (Int×Int))) (y1:Int) := (!(s_base_Within (p0.getD y1.toNat (zz0,zz0)).1 zz1 (20:Int)))
def w_ref04_CheckModel (p0:(List (Int×Int))) (K:(Int×Int)→Prop):Prop :=
  (((((p0.length:Int) == zz0)=true) →
 (K (zz0,(10:Int)))) ∧
 ((((p0.length:Int) == zz0)=false) →
 ((((decide ((p0.length:Int) > 4))=true) →
  (K (zz0,(8:Int)))) ∧
  (((decide ((p0.length:Int) > 4))=false) →
  (∃ n0,(loopP (fun (y1:Int) k2 =>
    ((((decide (y1 < (p0.length:Int)))=true) →
    ((zz0≤y1) ∧
     ((y1 < (p0.length:Int)) ∧
     ((((q0_ref04_CheckModel p0 y1)=false) →
     ((q0_ref04_CheckModel p0 y1)=(q0_ref04_CheckModel p0 y1))) ∧
     ((((q0_ref04_CheckModel p0 y1)=false) →
     ((q0_ref04_CheckModel p0 y1)=(q0_ref04_CheckModel p0 y1))) ∧
     ((((q0_ref04_CheckModel p0 y1)=false) →
     ((q0_ref04_CheckModel p0 y1)=(q0_ref04_CheckModel p0 y1))) ∧
     ((((q0_ref04_CheckModel p0 y1)=false) →
     (zz0≤y1)) ∧
     ((((q0_ref04_CheckModel p0 y1)=false) →
     (y1 < (p0.length:Int))) ∧
     ((((q0_ref04_CheckModel p0 y1)=false) →
     ((q0_ref04_CheckModel p0 y1)=(q0_ref04_CheckModel p0 y1))) ∧
     ((((q0_ref04_CheckModel p0 y1)=false) →
     ((q0_ref04_CheckModel p0 y1)=(q0_ref04_CheckModel p0 y1))) ∧
     ((((q0_ref04_CheckModel p0 y1)=false) →
     ((q0_ref04_CheckModel p0 y1)=(q0_ref04_CheckModel p0 y1))) ∧
     ((((q0_ref04_CheckModel p0 y1)=false) →
     ((q0_ref04_CheckModel p0 y1)=(q0_ref04_CheckModel p0 y1))) ∧
     (((q0_ref04_CheckModel p0 y1)=(q0_ref04_CheckModel p0 y1)) ∧
     ((((cond (q0_ref04_CheckModel p0 y1) true (!(s_base_Within (p0.getD y1.toNat (zz0,zz0)).2 zz0 (10:Int))))=true) →
     (K (y1,zz2))) ∧
     (((cond (q0_ref04_CheckModel p0 y1) true (!(s_base_Within (p0.getD y1.toNat (zz0,zz0)).2 zz0 (10:Int))))=false) →
     ((((y1 == (wi ((p0.length:Int) - zz1)))=true) →
      ((y1 == (wi ((p0.length:Int) - zz1)))=(y1 == (wi ((p0.length:Int) - zz1))))) ∧
      ((((y1 == (wi ((p0.length:Int) - zz1)))=true) →
      ((y1 == (wi ((p0.length:Int) - zz1)))=(y1 == (wi ((p0.length:Int) - zz1))))) ∧
      ((((y1 == (wi ((p0.length:Int) - zz1)))=true) →
      ((y1 == (wi ((p0.length:Int) - zz1)))=(y1 == (wi ((p0.length:Int) - zz1))))) ∧
      ((((y1 == (wi ((p0.length:Int) - zz1)))=true) →
      (zz0≤y1)) ∧
      ((((y1 == (wi ((p0.length:Int) - zz1)))=true) →
      (y1 < (p0.length:Int))) ∧
      ((((y1 == (wi ((p0.length:Int) - zz1)))=true) →
      ((y1 == (wi ((p0.length:Int) - zz1)))=(y1 == (wi ((p0.length:Int) - zz1))))) ∧
      ((((y1 == (wi ((p0.length:Int) - zz1)))=true) →
      ((y1 == (wi ((p0.length:Int) - zz1)))=(y1 == (wi ((p0.length:Int) - zz1))))) ∧
      ((((y1 == (wi ((p0.length:Int) - zz1)))=true) →
      ((y1 == (wi ((p0.length:Int) - zz1)))=(y1 == (wi ((p0.length:Int) - zz1))))) ∧
      (((y1 == (wi ((p0.length:Int) - zz1)))=(y1 == (wi ((p0.length:Int) - zz1)))) ∧
      ((((cond (y1 == (wi ((p0.length:Int) - zz1))) ((p0.getD y1.toNat (zz0,zz0)).2 != zz0) false)=true) →
      (K (y1,zz3))) ∧
      (((cond (y1 == (wi ((p0.length:Int) - zz1))) ((p0.getD y1.toNat (zz0,zz0)).2 != zz0) false)=false) →
      (k2 (wi (y1 + zz1))))))))))))))))))))))))))))) ∧
    (((decide (y1 < (p0.length:Int)))=false) →
    (K (zz0,zz0))))) n0 zz0))))))
set_option maxHeartbeats 4000000 in
theorem w_ref04_CheckModel_eq (p0:(List (Int×Int))) (K:(Int×Int)→Prop):tfn F_ref04_CheckModel A_ref04_CheckModel C_ref04_CheckModel P_ref04_CheckModel R_ref04_CheckModel p0 K = w_ref04_CheckModel p0 K := by kernel_rfl
def st_ref04_CheckModel_0 (p0:(List (Int×Int))) (y2:Int):Int ⊕ (Int×Int) :=
 (cond (decide (y2 < (p0.length:Int))) (cond (cond (!(s_base_Within (p0.getD y2.toNat ((0:Int),(0:Int))).1 (1:Int) (20:Int))) true (!(s_base_Within (p0.getD y2.toNat ((0:Int),(0:Int))).2 (0:Int) (10:Int)))) (Sum.inr (y2,(2:Int)))
  (cond (cond (y2 == (IntKind.i64.wrap ((p0.length:Int) - 1))) ((p0.getD y2.toNat ((0:Int),(0:Int))).2 != 0) false) (Sum.inr (y2,(3:Int)))
  (Sum.inl (IntKind.i64.wrap (y2 + 1)))))
  (Sum.inr ((0:Int),(0:Int))))
abbrev sp_ref04_CheckModel_0 (p0:(List (Int×Int))) (y2:Int):List Prop := [(((decide (y2 < (p0.length:Int)))=true)→((0:Int)≤y2)),
  (((decide (y2 < (p0.length:Int)))=true)→(y2 < (p0.length:Int))),
  (((decide (y2 < (p0.length:Int)))=true)→(((!(s_base_Within (p0.getD y2.toNat ((0:Int),(0:Int))).1 (1:Int) (20:Int)))=false)→((0:Int)≤y2))),
  (((decide (y2 < (p0.length:Int)))=true)→(((!(s_base_Within (p0.getD y2.toNat ((0:Int),(0:Int))).1 (1:Int) (20:Int)))=false)→(y2 < (p0.length:Int)))),
  (((decide (y2 < (p0.length:Int)))=true)→(((cond (!(s_base_Within (p0.getD y2.toNat ((0:Int),(0:Int))).1 (1:Int) (20:Int))) true (!(s_base_Within (p0.getD y2.toNat ((0:Int),(0:Int))).2 (0:Int) (10:Int))))=false)→(((y2 == (IntKind.i64.wrap ((p0.length:Int) - 1)))=true)→((0:Int)≤y2)))),
  (((decide (y2 < (p0.length:Int)))=true)→(((cond (!(s_base_Within (p0.getD y2.toNat ((0:Int),(0:Int))).1 (1:Int) (20:Int))) true (!(s_base_Within (p0.getD y2.toNat ((0:Int),(0:Int))).2 (0:Int) (10:Int))))=false)→(((y2 == (IntKind.i64.wrap ((p0.length:Int) - 1)))=true)→(y2 < (p0.length:Int)))))]
def s_ref04_CheckModel (p0:(List (Int×Int))):(Int×Int) :=
 (cond ((p0.length:Int) == 0) ((0:Int),(10:Int))
  (cond (decide ((p0.length:Int) > 4)) ((0:Int),(8:Int))
  (lpv ((0:Int),(0:Int)) (st_ref04_CheckModel_0 p0) (0:Int))))
abbrev pre_ref04_CheckModel (p0:(List (Int×Int))):List Prop := [((((p0.length:Int) == 0)=false)→(((decide ((p0.length:Int) > 4))=false)→(OkL (st_ref04_CheckModel_0 p0) (sp_ref04_CheckModel_0 p0) (0:Int))))]
set_option maxHeartbeats 4000000 in
theorem d_ref04_CheckModel (p0:(List (Int×Int))) (K:(Int×Int)→Prop) (hp:∀ p∈pre_ref04_CheckModel p0,p) (h:K (s_ref04_CheckModel p0)):w_ref04_CheckModel p0 K := by
 unfold w_ref04_CheckModel
 unfold s_ref04_CheckModel at h
 obtain ⟨hp0,_⟩ := conj_of hp
 exact (br' h (fun e0 h => h)
  (fun e0 h => (br' h (fun e1 h => h)
  (fun e1 h => (loop_gen (hp0 e0 e1) h (fun y2 k2 hp h => by
 unfold st_ref04_CheckModel_0 at h; obtain ⟨hp0,hp1,hp2,hp3,hp4,hp5,_⟩ := conj_of hp
 exact (br' h (fun e3 h => ⟨(hp0 e3),(hp1 e3),rf,rf,rf,(hp2 e3),(hp3 e3),rf,rf,rf,rf,rfl,(br' h (fun e4 h => h)
  (fun e4 h => ⟨rf,rf,rf,(hp4 e3 e4),(hp5 e3 e4),rf,rf,rf,rfl,(br' h (fun e5 h => h)
  (fun e5 h => h))⟩))⟩)
  (fun e3 h => h))))))))
/-- What is wrong with a layer; with layers. -/
def v_cm1 (n:Int) (i:Int) (x:Int×Int):Option (Int×Int) := cond (cond (s_base_Within x.1 1 20) (s_base_Within x.2 0 10) false) (cond (cond (i == n - 1) (x.2 == 0) true) none (some (i,3))) (some (i,2))
def v_cm (l:List (Int×Int)):Int×Int := cond ((l.length:Int) == 0) (0,10) (cond (decide ((l.length:Int) > 4)) (0,8) (v_scan (v_cm1 l.length) (0,0) 0 l))
theorem l_ref04_CheckModel_0 (p0:List (Int×Int)) (hl:p0.length≤4):OkL (st_ref04_CheckModel_0 p0) (sp_ref04_CheckModel_0 p0) 0∧lpv ((0,0):Int×Int) (st_ref04_CheckModel_0 p0) 0 = v_scan (v_cm1 p0.length) (0,0) 0 p0 := by
 refine scan_is p0 (0,0) (v_cm1 p0.length) ((0,0):Int×Int) (lenOk_le hl (by decide)) ?_ ?_
 ·refine ⟨by simp only [sp_ref04_CheckModel_0,List.forall_mem_cons,decide_eq_true_eq]; simp,by simp [st_ref04_CheckModel_0]⟩
 ·intro j hj
  have hj' : (j:Int) < p0.length := by omega
  refine ⟨by simp only [sp_ref04_CheckModel_0,List.forall_mem_cons,decide_eq_true_eq,Int.toNat_natCast]; simp <;> omega,?_⟩
  simp only [st_ref04_CheckModel_0,hj',decide_true,Int.toNat_natCast,cond_true,wrap_nat (show (j:Int)≤9223372036854775806 by omega),v_cm1]
  rw [wrap_id (n := (p0.length:Int) - 1) (by omega) (by omega)]
  rcases int0 (p0.getD j (0,0)).2 with ⟨_,e1,e2⟩ | ⟨_,e1,e2⟩ <;> rw [e1,e2] <;> cases s_base_Within (p0.getD j (0,0)).1 1 20 <;> cases s_base_Within (p0.getD j (0,0)).2 0 10 <;> cases ((j:Int) == (p0.length:Int) - 1) <;> rfl
abbrev t_ref04_CheckModel (p0:List (Int×Int)):Int×Int := v_cm p0
abbrev qre_ref04_CheckModel (_p0:List (Int×Int)):List Prop := []
theorem pp_ref04_CheckModel (p0:List (Int×Int)) (_hq:∀ p∈qre_ref04_CheckModel p0,p):∀ p∈pre_ref04_CheckModel p0,p := by
 simp only [pre_ref04_CheckModel,List.forall_mem_cons]
 exact ⟨fun _ h => (l_ref04_CheckModel_0 p0 (by have := of_decide_eq_false h; omega)).1,by simp⟩
theorem tt_ref04_CheckModel (p0:List (Int×Int)) (_hq:∀ p∈qre_ref04_CheckModel p0,p):s_ref04_CheckModel p0 = t_ref04_CheckModel p0 := by
 unfold s_ref04_CheckModel t_ref04_CheckModel v_cm
 cases h:decide ((p0.length:Int) > 4)
 ·rw [(l_ref04_CheckModel_0 p0 (by have := of_decide_eq_false h; omega)).2]
 ·rfl

abbrev con_ref04_CheckModel:Con := ⟨P_ref04_CheckModel,R_ref04_CheckModel,fun x => qre_ref04_CheckModel x,fun x => t_ref04_CheckModel x⟩
theorem ok_ref04_CheckModel:ConOk Try.prog 17 con_ref04_CheckModel := ⟨k_ref04_CheckModel,fun x hx => ret_tf (ps := P_ref04_CheckModel) (rs := R_ref04_CheckModel) (x := x) (y := t_ref04_CheckModel x) e_ref04_CheckModel hC_ref04_CheckModel (tf_of (w_ref04_CheckModel_eq x (fun z => z = t_ref04_CheckModel x)) (d_ref04_CheckModel x (fun z => z = t_ref04_CheckModel x) (pp_ref04_CheckModel x hx) (tt_ref04_CheckModel x hx)))⟩
/- ground_within -/
def C_ground_within:Cons := []
theorem hC_ground_within:ConsOk Try.prog C_ground_within := ConsOk.nil
def w_ground_within (p0:Int) (p1:Int) (p2:Int) (K:Bool→Prop):Prop :=
  ((((decide (p1≤p0))=true) →
 ((decide (p1≤p0))=(decide (p1≤p0)))) ∧
 ((((decide (p1≤p0))=true) →
 ((decide (p1≤p0))=(decide (p1≤p0)))) ∧
 (((decide (p1≤p0))=(decide (p1≤p0))) ∧
 (K (cond (decide (p1≤p0)) (decide (p0≤p2)) false)))))
set_option maxHeartbeats 4000000 in
theorem w_ground_within_eq (p0:Int) (p1:Int) (p2:Int) (K:Bool→Prop):tfn F_ground_within A_ground_within C_ground_within P_ground_within R_ground_within (p0,p1,p2) K = w_ground_within p0 p1 p2 K := by kernel_rfl
def s_ground_within (p0:Int) (p1:Int) (p2:Int):Bool :=
 (cond (decide (p1≤p0)) (decide (p0≤p2)) false)
abbrev pre_ground_within (_p0:Int) (_p1:Int) (_p2:Int):List Prop := []
set_option maxHeartbeats 4000000 in
theorem d_ground_within (p0:Int) (p1:Int) (p2:Int) (K:Bool→Prop) (_hp:∀ p∈pre_ground_within p0 p1 p2,p) (h:K (s_ground_within p0 p1 p2)):w_ground_within p0 p1 p2 K := by
 unfold w_ground_within
 unfold s_ground_within at h
 exact ⟨rf,rf,rfl,h⟩
abbrev con_ground_within:Con := ⟨P_ground_within,R_ground_within,fun x => pre_ground_within x.1 x.2.1 x.2.2,fun x => s_ground_within x.1 x.2.1 x.2.2⟩
theorem ok_ground_within:ConOk Try.prog 95 con_ground_within := ⟨k_ground_within,fun x hx => ret_tf (ps := P_ground_within) (rs := R_ground_within) (x := x) (y := s_ground_within x.1 x.2.1 x.2.2) e_ground_within hC_ground_within (tf_of (w_ground_within_eq x.1 x.2.1 x.2.2 (fun z => z = s_ground_within x.1 x.2.1 x.2.2)) (d_ground_within x.1 x.2.1 x.2.2 (fun z => z = s_ground_within x.1 x.2.1 x.2.2) hx rfl))⟩
theorem tx_withinG {n lo hi:Int}:s_ground_within n lo hi = s_base_Within n lo hi := rfl
/- ground_unless -/
def C_ground_unless:Cons := []
theorem hC_ground_unless:ConsOk Try.prog C_ground_unless := ConsOk.nil
def w_ground_unless (p0:Bool) (p1:Int) (K:Int→Prop):Prop :=
  (((p0 = true) →
 (K (0:Int))) ∧
 ((p0 = false) →
 (K p1)))
set_option maxHeartbeats 4000000 in
theorem w_ground_unless_eq (p0:Bool) (p1:Int) (K:Int→Prop):tfn F_ground_unless A_ground_unless C_ground_unless P_ground_unless R_ground_unless (p0,p1) K = w_ground_unless p0 p1 K := by kernel_rfl
def s_ground_unless (p0:Bool) (p1:Int):Int :=
 (cond p0 (0:Int)
  p1)
abbrev pre_ground_unless (_p0:Bool) (_p1:Int):List Prop := []
set_option maxHeartbeats 4000000 in
theorem d_ground_unless (p0:Bool) (p1:Int) (K:Int→Prop) (_hp:∀ p∈pre_ground_unless p0 p1,p) (h:K (s_ground_unless p0 p1)):w_ground_unless p0 p1 K := by
 unfold w_ground_unless
 unfold s_ground_unless at h
 exact (br' h (fun e0 h => h)
  (fun e0 h => h))
abbrev con_ground_unless:Con := ⟨P_ground_unless,R_ground_unless,fun x => pre_ground_unless x.1 x.2,fun x => s_ground_unless x.1 x.2⟩
theorem ok_ground_unless:ConOk Try.prog 74 con_ground_unless := ⟨k_ground_unless,fun x hx => ret_tf (ps := P_ground_unless) (rs := R_ground_unless) (x := x) (y := s_ground_unless x.1 x.2) e_ground_unless hC_ground_unless (tf_of (w_ground_unless_eq x.1 x.2 (fun z => z = s_ground_unless x.1 x.2)) (d_ground_unless x.1 x.2 (fun z => z = s_ground_unless x.1 x.2) hx rfl))⟩
theorem tx_unless0 {a:Bool} {x:Int} (hx:x ≠ 0) (h:s_ground_unless a x = 0):a = true := by
 cases a
 ·exact (hx h).elim
 ·rfl
theorem tx_unless {a:Bool} {x:Int}:s_ground_unless a x = cond a 0 x := by cases a <;> rfl
/- ground_first -/
def C_ground_first:Cons := []
theorem hC_ground_first:ConsOk Try.prog C_ground_first := ConsOk.nil
def w_ground_first (p0:(List Int)) (K:Int→Prop):Prop :=
  (∃ n0,(loopP (fun (y1:Int) k2 =>
  ((((decide (y1 < (p0.length:Int)))=true) →
  (((0:Int)≤y1) ∧
   ((y1 < (p0.length:Int)) ∧
   (((((p0.getD y1.toNat (0:Int)) != 0)=true) →
   (K (p0.getD y1.toNat (0:Int)))) ∧
   ((((p0.getD y1.toNat (0:Int)) != 0)=false) →
   (k2 (IntKind.i64.wrap (y1 + 1)))))))) ∧
  (((decide (y1 < (p0.length:Int)))=false) →
  (K (0:Int))))) n0 (0:Int)))
set_option maxHeartbeats 4000000 in
theorem w_ground_first_eq (p0:(List Int)) (K:Int→Prop):tfn F_ground_first A_ground_first C_ground_first P_ground_first R_ground_first p0 K = w_ground_first p0 K := by kernel_rfl
def st_ground_first_0 (p0:(List Int)) (y0:Int):Int ⊕ Int :=
 (cond (decide (y0 < (p0.length:Int))) (cond ((p0.getD y0.toNat (0:Int)) != 0) (Sum.inr (p0.getD y0.toNat (0:Int)))
  (Sum.inl (IntKind.i64.wrap (y0 + 1))))
  (Sum.inr (0:Int)))
abbrev sp_ground_first_0 (p0:(List Int)) (y0:Int):List Prop := [(((decide (y0 < (p0.length:Int)))=true)→((0:Int)≤y0)),
  (((decide (y0 < (p0.length:Int)))=true)→(y0 < (p0.length:Int)))]
def s_ground_first (p0:(List Int)):Int :=
 (lpv (0:Int) (st_ground_first_0 p0) (0:Int))
abbrev pre_ground_first (p0:(List Int)):List Prop := [(OkL (st_ground_first_0 p0) (sp_ground_first_0 p0) (0:Int))]
set_option maxHeartbeats 4000000 in
theorem d_ground_first (p0:(List Int)) (K:Int→Prop) (hp:∀ p∈pre_ground_first p0,p) (h:K (s_ground_first p0)):w_ground_first p0 K := by
 unfold w_ground_first
 unfold s_ground_first at h
 obtain ⟨hp0,_⟩ := conj_of hp
 exact (loop_gen (hp0) h (fun y0 k0 hp h => by
 unfold st_ground_first_0 at h; obtain ⟨hp0,hp1,_⟩ := conj_of hp
 exact (br' h (fun e1 h => ⟨(hp0 e1),(hp1 e1),(br' h (fun e2 h => h)
  (fun e2 h => h))⟩)
  (fun e1 h => h))))
theorem l_ground_first_0 (p0:List Int) (hl:lenOk p0):OkL (st_ground_first_0 p0) (sp_ground_first_0 p0) 0∧lpv (0:Int) (st_ground_first_0 p0) 0 = v_scan (fun _ x => cond (x != 0) (some x) none) (0:Int) 0 p0 := by
 refine scan_is p0 0 (fun _ x => cond (x != 0) (some x) none) (0:Int) hl ?_ ?_
 ·refine ⟨by simp only [sp_ground_first_0,List.forall_mem_cons,decide_eq_true_eq]; simp,by simp [st_ground_first_0]⟩
 ·intro j hj
  have hj' : (j:Int) < p0.length := by omega
  refine ⟨by simp only [sp_ground_first_0,List.forall_mem_cons,decide_eq_true_eq,Int.toNat_natCast]; simp <;> omega,?_⟩
  simp only [st_ground_first_0,hj',decide_true,Int.toNat_natCast,cond_true,wrap_nat (show (j:Int)≤9223372036854775806 by unfold lenOk at hl; omega)]
  generalize p0.getD j 0 = x
  cases (x != 0) <;> rfl
abbrev t_ground_first (p0:List Int):Int := v_first p0
abbrev qre_ground_first (p0:List Int):List Prop := [lenOk p0]
theorem pp_ground_first (p0:List Int) (hq:∀ p∈qre_ground_first p0,p):∀ p∈pre_ground_first p0,p := by
 simp only [pre_ground_first,List.forall_mem_cons]
 exact ⟨(l_ground_first_0 p0 (conj_of hq).1).1,by simp⟩
theorem tt_ground_first (p0:List Int) (hq:∀ p∈qre_ground_first p0,p):s_ground_first p0 = t_ground_first p0 := by
 exact (l_ground_first_0 p0 (conj_of hq).1).2.trans (v_first_scan p0 0)

abbrev con_ground_first:Con := ⟨P_ground_first,R_ground_first,fun x => qre_ground_first x,fun x => t_ground_first x⟩
theorem ok_ground_first:ConOk Try.prog 73 con_ground_first := ⟨k_ground_first,fun x hx => ret_tf (ps := P_ground_first) (rs := R_ground_first) (x := x) (y := t_ground_first x) e_ground_first hC_ground_first (tf_of (w_ground_first_eq x (fun z => z = t_ground_first x)) (d_ground_first x (fun z => z = t_ground_first x) (pp_ground_first x hx) (tt_ground_first x hx)))⟩
/- ground_isConductivity -/
def C_ground_isConductivity:Cons := [(95,[],con_ground_within)]
theorem hC_ground_isConductivity:ConsOk Try.prog C_ground_isConductivity := ConsOk.cons ok_ground_within <| ConsOk.nil
def w_ground_isConductivity (p0:Int) (K:Bool→Prop):Prop :=
  (K (s_ground_within p0 (1:Int) (20:Int)))
set_option maxHeartbeats 4000000 in
theorem w_ground_isConductivity_eq (p0:Int) (K:Bool→Prop):tfn F_ground_isConductivity A_ground_isConductivity C_ground_isConductivity P_ground_isConductivity R_ground_isConductivity p0 K = w_ground_isConductivity p0 K := by kernel_rfl
def s_ground_isConductivity (p0:Int):Bool :=
 (s_ground_within p0 (1:Int) (20:Int))
abbrev pre_ground_isConductivity (_p0:Int):List Prop := []
set_option maxHeartbeats 4000000 in
theorem d_ground_isConductivity (p0:Int) (K:Bool→Prop) (_hp:∀ p∈pre_ground_isConductivity p0,p) (h:K (s_ground_isConductivity p0)):w_ground_isConductivity p0 K := by
 unfold w_ground_isConductivity
 unfold s_ground_isConductivity at h
 exact h
abbrev con_ground_isConductivity:Con := ⟨P_ground_isConductivity,R_ground_isConductivity,fun x => pre_ground_isConductivity x,fun x => s_ground_isConductivity x⟩
theorem ok_ground_isConductivity:ConOk Try.prog 75 con_ground_isConductivity := ⟨k_ground_isConductivity,fun x hx => ret_tf (ps := P_ground_isConductivity) (rs := R_ground_isConductivity) (x := x) (y := s_ground_isConductivity x) e_ground_isConductivity hC_ground_isConductivity (tf_of (w_ground_isConductivity_eq x (fun z => z = s_ground_isConductivity x)) (d_ground_isConductivity x (fun z => z = s_ground_isConductivity x) hx rfl))⟩
/- ground_isThickness -/
def C_ground_isThickness:Cons := [(95,[],con_ground_within)]
theorem hC_ground_isThickness:ConsOk Try.prog C_ground_isThickness := ConsOk.cons ok_ground_within <| ConsOk.nil
def w_ground_isThickness (p0:Int) (K:Bool→Prop):Prop :=
  (K (s_ground_within p0 (0:Int) (10:Int)))
set_option maxHeartbeats 4000000 in
theorem w_ground_isThickness_eq (p0:Int) (K:Bool→Prop):tfn F_ground_isThickness A_ground_isThickness C_ground_isThickness P_ground_isThickness R_ground_isThickness p0 K = w_ground_isThickness p0 K := by kernel_rfl
def s_ground_isThickness (p0:Int):Bool :=
 (s_ground_within p0 (0:Int) (10:Int))
abbrev pre_ground_isThickness (_p0:Int):List Prop := []
set_option maxHeartbeats 4000000 in
theorem d_ground_isThickness (p0:Int) (K:Bool→Prop) (_hp:∀ p∈pre_ground_isThickness p0,p) (h:K (s_ground_isThickness p0)):w_ground_isThickness p0 K := by
 unfold w_ground_isThickness
 unfold s_ground_isThickness at h
 exact h
abbrev con_ground_isThickness:Con := ⟨P_ground_isThickness,R_ground_isThickness,fun x => pre_ground_isThickness x,fun x => s_ground_isThickness x⟩
theorem ok_ground_isThickness:ConOk Try.prog 76 con_ground_isThickness := ⟨k_ground_isThickness,fun x hx => ret_tf (ps := P_ground_isThickness) (rs := R_ground_isThickness) (x := x) (y := s_ground_isThickness x) e_ground_isThickness hC_ground_isThickness (tf_of (w_ground_isThickness_eq x (fun z => z = s_ground_isThickness x)) (d_ground_isThickness x (fun z => z = s_ground_isThickness x) hx rfl))⟩
/- ground_CheckModel -/
def C_ground_CheckModel:Cons := [(74,[],con_ground_unless),(73,[],con_ground_first),(75,[],con_ground_isConductivity),(76,[],con_ground_isThickness)]
theorem hC_ground_CheckModel:ConsOk Try.prog C_ground_CheckModel := ConsOk.cons ok_ground_unless <| ConsOk.cons ok_ground_first <| ConsOk.cons ok_ground_isConductivity <| ConsOk.cons ok_ground_isThickness <| ConsOk.nil
abbrev q0_ground_CheckModel (p0:(List (Int×Int))) (y1:Int) := (s_ground_within (p0.getD y1.toNat (zz0,zz0)).1 zz1 (20:Int))
abbrev q1_ground_CheckModel (p0:(List (Int×Int))) := ((s_ground_unless (decide ((p0.length:Int) > zz0)) (10:Int)) :: ((s_ground_unless (decide ((p0.length:Int)≤4)) (8:Int)) :: ([]:List Int)))
abbrev q2_ground_CheckModel (p0:(List (Int×Int))) (y1:Int) := (s_ground_unless (cond (q0_ground_CheckModel p0 y1) (s_ground_within (p0.getD y1.toNat (zz0,zz0)).2 zz0 (10:Int)) false) zz2)
def w_ground_CheckModel (p0:(List (Int×Int))) (K:(Int×Int)→Prop):Prop :=
  ((lenOk (q1_ground_CheckModel p0)) ∧
 (((((v_first (q1_ground_CheckModel p0)) != zz0)=true) →
 (K (zz0,(v_first (q1_ground_CheckModel p0))))) ∧
 ((((v_first (q1_ground_CheckModel p0)) != zz0)=false) →
 (∃ n0,(loopP (fun (y1:Int) k2 =>
   ((((decide (y1 < (p0.length:Int)))=true) →
   ((zz0≤y1) ∧
    ((y1 < (p0.length:Int)) ∧
    ((((q0_ground_CheckModel p0 y1)=true) →
    ((q0_ground_CheckModel p0 y1)=(q0_ground_CheckModel p0 y1))) ∧
    ((((q0_ground_CheckModel p0 y1)=true) →
    ((q0_ground_CheckModel p0 y1)=(q0_ground_CheckModel p0 y1))) ∧
    (((q0_ground_CheckModel p0 y1)=(q0_ground_CheckModel p0 y1)) ∧
    ((((!(y1 == (wi ((p0.length:Int) - zz1))))=false) →
    ((!(y1 == (wi ((p0.length:Int) - zz1))))=(!(y1 == (wi ((p0.length:Int) - zz1)))))) ∧
    ((((!(y1 == (wi ((p0.length:Int) - zz1))))=false) →
    ((!(y1 == (wi ((p0.length:Int) - zz1))))=(!(y1 == (wi ((p0.length:Int) - zz1)))))) ∧
    (((!(y1 == (wi ((p0.length:Int) - zz1))))=(!(y1 == (wi ((p0.length:Int) - zz1))))) ∧
    ((lenOk ((q2_ground_CheckModel p0 y1) :: ((s_ground_unless (cond (!(y1 == (wi ((p0.length:Int) - zz1)))) true ((p0.getD y1.toNat (zz0,zz0)).2 == zz0)) zz3) :: ([]:List Int)))) ∧
    (((((v_first ((q2_ground_CheckModel p0 y1) :: ((s_ground_unless (cond (!(y1 == (wi ((p0.length:Int) - zz1)))) true ((p0.getD y1.toNat (zz0,zz0)).2 == zz0)) zz3) :: ([]:List Int)))) != zz0)=true) →
    (K (y1,(v_first ((q2_ground_CheckModel p0 y1) :: ((s_ground_unless (cond (!(y1 == (wi ((p0.length:Int) - zz1)))) true ((p0.getD y1.toNat (zz0,zz0)).2 == zz0)) zz3) :: ([]:List Int))))))) ∧
    ((((v_first ((q2_ground_CheckModel p0 y1) :: ((s_ground_unless (cond (!(y1 == (wi ((p0.length:Int) - zz1)))) true ((p0.getD y1.toNat (zz0,zz0)).2 == zz0)) zz3) :: ([]:List Int)))) != zz0)=false) →
    (k2 (wi (y1 + zz1))))))))))))))) ∧
   (((decide (y1 < (p0.length:Int)))=false) →
   (K (zz0,zz0))))) n0 zz0)))))
set_option maxHeartbeats 4000000 in
theorem w_ground_CheckModel_eq (p0:(List (Int×Int))) (K:(Int×Int)→Prop):tfn F_ground_CheckModel A_ground_CheckModel C_ground_CheckModel P_ground_CheckModel R_ground_CheckModel p0 K = w_ground_CheckModel p0 K := by kernel_rfl
def st_ground_CheckModel_0 (p0:(List (Int×Int))) (y1:Int):Int ⊕ (Int×Int) :=
 (cond (decide (y1 < (p0.length:Int))) (cond ((v_first ((s_ground_unless (cond (s_ground_within (p0.getD y1.toNat ((0:Int),(0:Int))).1 (1:Int) (20:Int)) (s_ground_within (p0.getD y1.toNat ((0:Int),(0:Int))).2 (0:Int) (10:Int)) false) (2:Int)) :: ((s_ground_unless (cond (!(y1 == (IntKind.i64.wrap ((p0.length:Int) - 1)))) true ((p0.getD y1.toNat ((0:Int),(0:Int))).2 == 0)) (3:Int)) :: ([]:List Int)))) != 0) (Sum.inr (y1,(v_first ((s_ground_unless (cond (s_ground_within (p0.getD y1.toNat ((0:Int),(0:Int))).1 (1:Int) (20:Int)) (s_ground_within (p0.getD y1.toNat ((0:Int),(0:Int))).2 (0:Int) (10:Int)) false) (2:Int)) :: ((s_ground_unless (cond (!(y1 == (IntKind.i64.wrap ((p0.length:Int) - 1)))) true ((p0.getD y1.toNat ((0:Int),(0:Int))).2 == 0)) (3:Int)) :: ([]:List Int))))))
  (Sum.inl (IntKind.i64.wrap (y1 + 1))))
  (Sum.inr ((0:Int),(0:Int))))
abbrev sp_ground_CheckModel_0 (p0:(List (Int×Int))) (y1:Int):List Prop := [(((decide (y1 < (p0.length:Int)))=true)→((0:Int)≤y1)),
  (((decide (y1 < (p0.length:Int)))=true)→(y1 < (p0.length:Int)))]
def s_ground_CheckModel (p0:(List (Int×Int))):(Int×Int) :=
 (cond ((v_first ((s_ground_unless (decide ((p0.length:Int) > 0)) (10:Int)) :: ((s_ground_unless (decide ((p0.length:Int)≤4)) (8:Int)) :: ([]:List Int)))) != 0) ((0:Int),(v_first ((s_ground_unless (decide ((p0.length:Int) > 0)) (10:Int)) :: ((s_ground_unless (decide ((p0.length:Int)≤4)) (8:Int)) :: ([]:List Int)))))
  (lpv ((0:Int),(0:Int)) (st_ground_CheckModel_0 p0) (0:Int)))
abbrev pre_ground_CheckModel (p0:(List (Int×Int))):List Prop := [((((v_first ((s_ground_unless (decide ((p0.length:Int) > 0)) (10:Int)) :: ((s_ground_unless (decide ((p0.length:Int)≤4)) (8:Int)) :: ([]:List Int)))) != 0)=false)→(OkL (st_ground_CheckModel_0 p0) (sp_ground_CheckModel_0 p0) (0:Int)))]
set_option maxHeartbeats 4000000 in
theorem d_ground_CheckModel (p0:(List (Int×Int))) (K:(Int×Int)→Prop) (hp:∀ p∈pre_ground_CheckModel p0,p) (h:K (s_ground_CheckModel p0)):w_ground_CheckModel p0 K := by
 unfold w_ground_CheckModel
 unfold s_ground_CheckModel at h
 obtain ⟨hp0,_⟩ := conj_of hp
 exact ⟨(lenOk_of 2 rfl (by decide)),(br' h (fun e0 h => h)
  (fun e0 h => (loop_gen (hp0 e0) h (fun y1 k1 hp h => by
 unfold st_ground_CheckModel_0 at h; obtain ⟨hp0,hp1,_⟩ := conj_of hp
 exact (br' h (fun e2 h => ⟨(hp0 e2),(hp1 e2),rf,rf,rfl,rf,rf,rfl,(lenOk_of 2 rfl (by decide)),(br' h (fun e3 h => h)
  (fun e3 h => h))⟩)
  (fun e2 h => h))))))⟩
theorem l_ground_CheckModel_0 (p0:List (Int×Int)) (hl:p0.length≤4):OkL (st_ground_CheckModel_0 p0) (sp_ground_CheckModel_0 p0) 0∧lpv ((0,0):Int×Int) (st_ground_CheckModel_0 p0) 0 = v_scan (v_cm1 p0.length) (0,0) 0 p0 := by
 refine scan_is p0 (0,0) (v_cm1 p0.length) ((0,0):Int×Int) (lenOk_le hl (by decide)) ?_ ?_
 ·refine ⟨by simp only [sp_ground_CheckModel_0,List.forall_mem_cons,decide_eq_true_eq]; simp,by simp [st_ground_CheckModel_0]⟩
 ·intro j hj
  have hj' : (j:Int) < p0.length := by omega
  refine ⟨by simp only [sp_ground_CheckModel_0,List.forall_mem_cons,decide_eq_true_eq,Int.toNat_natCast]; simp [lenOk] <;> omega,?_⟩
  simp only [st_ground_CheckModel_0,hj',decide_true,Int.toNat_natCast,cond_true,wrap_nat (show (j:Int)≤9223372036854775806 by omega),v_cm1]
  rw [wrap_id (n := (p0.length:Int) - 1) (by omega) (by omega)]
  unfold s_ground_unless
  simp only [tx_withinG]
  cases s_base_Within (p0.getD j (0,0)).1 1 20 <;> cases s_base_Within (p0.getD j (0,0)).2 0 10 <;> cases ((j:Int) == (p0.length:Int) - 1) <;> cases ((p0.getD j (0,0)).2 == 0) <;> rfl
abbrev t_ground_CheckModel (p0:List (Int×Int)):Int×Int := v_cm p0
abbrev qre_ground_CheckModel (_p0:List (Int×Int)):List Prop := []
theorem tx_cmh {n:Int} (h:0≤n):v_first [s_ground_unless (decide (n > 0)) 10,s_ground_unless (decide (n≤4)) 8]=cond (n == 0) 10 (cond (decide (n > 4)) 8 0) := by
 unfold s_ground_unless
 rcases int0 n with ⟨h0,_,e0⟩ | ⟨h0,_,e0⟩
 ·subst h0; rfl
 ·rw [e0,decide_eq_true (show n > 0 by omega)]
  rcases dec0 (a := 4) (b := n) with ⟨_,_,_,e1,e2⟩ | ⟨_,_,_,e1,e2⟩ <;> rw [e1,e2] <;> rfl
theorem pp_ground_CheckModel (p0:List (Int×Int)) (_hq:∀ p∈qre_ground_CheckModel p0,p):∀ p∈pre_ground_CheckModel p0,p := by
 simp only [pre_ground_CheckModel,List.forall_mem_cons]
 refine ⟨fun h => ?_,by simp⟩
 rw [tx_cmh (by omega)] at h
 refine (l_ground_CheckModel_0 p0 ?_).1
 cases c:decide ((p0.length:Int) > 4)
 ·have := of_decide_eq_false c; omega
 ·rw [c] at h
  cases c2:((p0.length:Int) == 0) <;> rw [c2] at h <;> cases h
theorem tt_ground_CheckModel (p0:List (Int×Int)) (_hq:∀ p∈qre_ground_CheckModel p0,p):s_ground_CheckModel p0 = t_ground_CheckModel p0 := by
 unfold s_ground_CheckModel t_ground_CheckModel v_cm
 rw [tx_cmh (by omega)]
 cases h:decide ((p0.length:Int) > 4)
 ·rw [(l_ground_CheckModel_0 p0 (by have := of_decide_eq_false h; omega)).2]
  cases ((p0.length:Int) == 0) <;> rfl
 ·cases ((p0.length:Int) == 0) <;> rfl

abbrev con_ground_CheckModel:Con := ⟨P_ground_CheckModel,R_ground_CheckModel,fun x => qre_ground_CheckModel x,fun x => t_ground_CheckModel x⟩
theorem ok_ground_CheckModel:ConOk Try.prog 14 con_ground_CheckModel := ⟨k_ground_CheckModel,fun x hx => ret_tf (ps := P_ground_CheckModel) (rs := R_ground_CheckModel) (x := x) (y := t_ground_CheckModel x) e_ground_CheckModel hC_ground_CheckModel (tf_of (w_ground_CheckModel_eq x (fun z => z = t_ground_CheckModel x)) (d_ground_CheckModel x (fun z => z = t_ground_CheckModel x) (pp_ground_CheckModel x hx) (tt_ground_CheckModel x hx)))⟩
/- ground_modelErr -/
def C_ground_modelErr:Cons := [(14,[],con_ground_CheckModel)]
theorem hC_ground_modelErr:ConsOk Try.prog C_ground_modelErr := ConsOk.cons ok_ground_CheckModel <| ConsOk.nil
def w_ground_modelErr (p0:(List (Int×Int))) (K:Int→Prop):Prop :=
  (K (v_cm p0).2)
set_option maxHeartbeats 4000000 in
theorem w_ground_modelErr_eq (p0:(List (Int×Int))) (K:Int→Prop):tfn F_ground_modelErr A_ground_modelErr C_ground_modelErr P_ground_modelErr R_ground_modelErr p0 K = w_ground_modelErr p0 K := by kernel_rfl
def s_ground_modelErr (p0:(List (Int×Int))):Int :=
 (v_cm p0).2
abbrev pre_ground_modelErr (_p0:(List (Int×Int))):List Prop := []
set_option maxHeartbeats 4000000 in
theorem d_ground_modelErr (p0:(List (Int×Int))) (K:Int→Prop) (_hp:∀ p∈pre_ground_modelErr p0,p) (h:K (s_ground_modelErr p0)):w_ground_modelErr p0 K := by
 unfold w_ground_modelErr
 unfold s_ground_modelErr at h
 exact h
abbrev con_ground_modelErr:Con := ⟨P_ground_modelErr,R_ground_modelErr,fun x => pre_ground_modelErr x,fun x => s_ground_modelErr x⟩
theorem ok_ground_modelErr:ConOk Try.prog 77 con_ground_modelErr := ⟨k_ground_modelErr,fun x hx => ret_tf (ps := P_ground_modelErr) (rs := R_ground_modelErr) (x := x) (y := s_ground_modelErr x) e_ground_modelErr hC_ground_modelErr (tf_of (w_ground_modelErr_eq x (fun z => z = s_ground_modelErr x)) (d_ground_modelErr x (fun z => z = s_ground_modelErr x) hx rfl))⟩
/- ground_scaleErr -/
/- slices_Backwardapi_GroundLayer_api_GroundLayer -/
/- slices_Backwardapi_GroundLayer_api_GroundLayer_1 -/
/- ground_reduced -/
/- ground_response -/
/-- Whether a model is valid,and a scale. -/
structure v_mok (l:List (Int×Int)):Prop where
 ne:l ≠ []
 len:l.length≤4
 ok:∀ x∈l,v_lok x
 last:∀ (a:List (Int×Int)) (x:Int×Int),l = a ++ [x]→x.2 = 0
/- ground_quotient_frac -/
/- ground_ResponseAt -/
theorem tx_first2 {x y:Int}:v_first [x,y]=cond (x != 0) x y := by
 simp only [v_first]
 cases h:(x != 0)
 ·cases h2:(y != 0)
  ·simp at h2; subst h2; rfl
  ·rfl
 ·rfl
theorem tx_first1 {x y:Int} (h:(v_first [x,y] != 0)=false):x = 0∧y = 0 := by
 rw [tx_first2] at h
 rcases int0 x with ⟨h0,e,_⟩ | ⟨h0,e,_⟩
 ·rw [e] at h; exact ⟨h0,by simpa using h⟩
 ·rw [e] at h; simp only [cond_true] at h; rw [e] at h; cases h
/- ground_listErr__ground_isConductivity -/
def C_ground_listErr__ground_isConductivity:Cons := [(75,[],con_ground_isConductivity),(74,[],con_ground_unless),(73,[],con_ground_first)]
theorem hC_ground_listErr__ground_isConductivity:ConsOk Try.prog C_ground_listErr__ground_isConductivity := ConsOk.cons ok_ground_isConductivity <| ConsOk.cons ok_ground_unless <| ConsOk.cons ok_ground_first <| ConsOk.nil
def w_ground_listErr__ground_isConductivity (p0:(List Int)) (_p1:PUnit) (K:Int→Prop):Prop :=
  (∃ n0,(loopP (fun (y1:Int) k2 =>
  ((((decide (y1 < (p0.length:Int)))=true) →
  (((0:Int)≤y1) ∧
   ((y1 < (p0.length:Int)) ∧
   ((((y1 == 0)=false) →
   ((y1 == 0)=(y1 == 0))) ∧
   ((((y1 == 0)=false) →
   ((y1 == 0)=(y1 == 0))) ∧
   ((((y1 == 0)=false) →
   ((y1 == 0)=(y1 == 0))) ∧
   ((((y1 == 0)=false) →
   ((y1 == 0)=(y1 == 0))) ∧
   ((((y1 == 0)=false) →
   ((0:Int)≤(max (0:Int) (IntKind.i64.wrap (y1 - 1))))) ∧
   ((((y1 == 0)=false) →
   ((max (0:Int) (IntKind.i64.wrap (y1 - 1))) < (p0.length:Int))) ∧
   ((((y1 == 0)=false) →
   ((y1 == 0)=(y1 == 0))) ∧
   ((((y1 == 0)=false) →
   ((y1 == 0)=(y1 == 0))) ∧
   ((((y1 == 0)=false) →
   ((y1 == 0)=(y1 == 0))) ∧
   (((y1 == 0)=(y1 == 0)) ∧
   ((lenOk ((s_ground_unless (s_ground_within (p0.getD y1.toNat (0:Int)) (1:Int) (20:Int)) (2:Int)) :: ((s_ground_unless (cond (y1 == 0) true (decide ((p0.getD y1.toNat (0:Int)) > (p0.getD (Int.toNat (max (0:Int) (IntKind.i64.wrap (y1 - 1)))) (0:Int))))) (9:Int)) :: ([]:List Int)))) ∧
   (((((v_first ((s_ground_unless (s_ground_within (p0.getD y1.toNat (0:Int)) (1:Int) (20:Int)) (2:Int)) :: ((s_ground_unless (cond (y1 == 0) true (decide ((p0.getD y1.toNat (0:Int)) > (p0.getD (Int.toNat (max (0:Int) (IntKind.i64.wrap (y1 - 1)))) (0:Int))))) (9:Int)) :: ([]:List Int)))) != 0)=true) →
   (K (v_first ((s_ground_unless (s_ground_within (p0.getD y1.toNat (0:Int)) (1:Int) (20:Int)) (2:Int)) :: ((s_ground_unless (cond (y1 == 0) true (decide ((p0.getD y1.toNat (0:Int)) > (p0.getD (Int.toNat (max (0:Int) (IntKind.i64.wrap (y1 - 1)))) (0:Int))))) (9:Int)) :: ([]:List Int)))))) ∧
   ((((v_first ((s_ground_unless (s_ground_within (p0.getD y1.toNat (0:Int)) (1:Int) (20:Int)) (2:Int)) :: ((s_ground_unless (cond (y1 == 0) true (decide ((p0.getD y1.toNat (0:Int)) > (p0.getD (Int.toNat (max (0:Int) (IntKind.i64.wrap (y1 - 1)))) (0:Int))))) (9:Int)) :: ([]:List Int)))) != 0)=false) →
   (k2 (IntKind.i64.wrap (y1 + 1))))))))))))))))))) ∧
  (((decide (y1 < (p0.length:Int)))=false) →
  (K (0:Int))))) n0 (0:Int)))
set_option maxHeartbeats 4000000 in
theorem w_ground_listErr__ground_isConductivity_eq (p0:(List Int)) (p1:PUnit) (K:Int→Prop):tfn F_ground_listErr__ground_isConductivity A_ground_listErr__ground_isConductivity C_ground_listErr__ground_isConductivity P_ground_listErr__ground_isConductivity R_ground_listErr__ground_isConductivity (p0,p1) K = w_ground_listErr__ground_isConductivity p0 p1 K := by kernel_rfl
def st_ground_listErr__ground_isConductivity_0 (p0:(List Int)) (_p1:PUnit) (y0:Int):Int ⊕ Int :=
 (cond (decide (y0 < (p0.length:Int))) (cond ((v_first ((s_ground_unless (s_ground_within (p0.getD y0.toNat (0:Int)) (1:Int) (20:Int)) (2:Int)) :: ((s_ground_unless (cond (y0 == 0) true (decide ((p0.getD y0.toNat (0:Int)) > (p0.getD (Int.toNat (max (0:Int) (IntKind.i64.wrap (y0 - 1)))) (0:Int))))) (9:Int)) :: ([]:List Int)))) != 0) (Sum.inr (v_first ((s_ground_unless (s_ground_within (p0.getD y0.toNat (0:Int)) (1:Int) (20:Int)) (2:Int)) :: ((s_ground_unless (cond (y0 == 0) true (decide ((p0.getD y0.toNat (0:Int)) > (p0.getD (Int.toNat (max (0:Int) (IntKind.i64.wrap (y0 - 1)))) (0:Int))))) (9:Int)) :: ([]:List Int)))))
  (Sum.inl (IntKind.i64.wrap (y0 + 1))))
  (Sum.inr (0:Int)))
abbrev sp_ground_listErr__ground_isConductivity_0 (p0:(List Int)) (_p1:PUnit) (y0:Int):List Prop := [(((decide (y0 < (p0.length:Int)))=true)→((0:Int)≤y0)),
  (((decide (y0 < (p0.length:Int)))=true)→(y0 < (p0.length:Int))),
  (((decide (y0 < (p0.length:Int)))=true)→(((y0 == 0)=false)→((0:Int)≤(max (0:Int) (IntKind.i64.wrap (y0 - 1)))))),
  (((decide (y0 < (p0.length:Int)))=true)→(((y0 == 0)=false)→((max (0:Int) (IntKind.i64.wrap (y0 - 1))) < (p0.length:Int))))]
def s_ground_listErr__ground_isConductivity (p0:(List Int)) (p1:PUnit):Int :=
 (lpv (0:Int) (st_ground_listErr__ground_isConductivity_0 p0 p1) (0:Int))
abbrev pre_ground_listErr__ground_isConductivity (p0:(List Int)) (p1:PUnit):List Prop := [(OkL (st_ground_listErr__ground_isConductivity_0 p0 p1) (sp_ground_listErr__ground_isConductivity_0 p0 p1) (0:Int))]
set_option maxHeartbeats 4000000 in
theorem d_ground_listErr__ground_isConductivity (p0:(List Int)) (p1:PUnit) (K:Int→Prop) (hp:∀ p∈pre_ground_listErr__ground_isConductivity p0 p1,p) (h:K (s_ground_listErr__ground_isConductivity p0 p1)):w_ground_listErr__ground_isConductivity p0 p1 K := by
 unfold w_ground_listErr__ground_isConductivity
 unfold s_ground_listErr__ground_isConductivity at h
 obtain ⟨hp0,_⟩ := conj_of hp
 exact (loop_gen (hp0) h (fun y0 k0 hp h => by
 unfold st_ground_listErr__ground_isConductivity_0 at h; obtain ⟨hp0,hp1,hp2,hp3,_⟩ := conj_of hp
 exact (br' h (fun e1 h => ⟨(hp0 e1),(hp1 e1),rf,rf,rf,rf,(hp2 e1),(hp3 e1),rf,rf,rf,rfl,(lenOk_of 2 rfl (by decide)),(br' h (fun e2 h => h)
  (fun e2 h => h))⟩)
  (fun e1 h => h))))
/-- What is wrong with an ascending list of numbers within bounds. -/
def v_ls1 (lo hi:Int) (l:List Int) (i:Int) (n:Int):Option Int := cond (s_base_Within n lo hi) (cond (cond (i == 0) true (decide (n > l.getD (i - 1).toNat 0))) none (some 9)) (some 2)
def v_ls (lo hi:Int) (l:List Int):Int := v_scan (v_ls1 lo hi l) 0 0 l
theorem v_first_c (x:Int) (r:List Int):v_first (x :: r)=cond (x != 0) x (v_first r) := rfl
theorem v_first_1 (x:Int):v_first [x]=x := by
 rw [v_first_c]
 rcases int0 x with ⟨h,e,_⟩ | ⟨h,e,_⟩ <;> rw [e]
 ·rw [h]; rfl
 ·rfl
theorem l_ground_listErr__ground_isConductivity_0 (p0:List Int) (p1:PUnit) (hl:lenOk p0):OkL (st_ground_listErr__ground_isConductivity_0 p0 p1) (sp_ground_listErr__ground_isConductivity_0 p0 p1) 0∧lpv (0:Int) (st_ground_listErr__ground_isConductivity_0 p0 p1) 0 = v_scan (v_ls1 1 20 p0) (0:Int) 0 p0 := by
 refine scan_is p0 0 (v_ls1 1 20 p0) (0:Int) hl ?_ ?_
 ·refine ⟨by simp only [sp_ground_listErr__ground_isConductivity_0,List.forall_mem_cons,decide_eq_true_eq]; simp,by simp [st_ground_listErr__ground_isConductivity_0]⟩
 ·intro j hj
  have hj' : (j:Int) < p0.length := by omega
  have hw := wrap_nat (show (j:Int)≤9223372036854775806 by unfold lenOk at hl; omega)
  have hw2:IntKind.i64.wrap ((j:Int) - 1)=(j:Int) - 1 := wrap_id (by omega) (by unfold lenOk at hl; omega)
  refine ⟨by simp only [sp_ground_listErr__ground_isConductivity_0,List.forall_mem_cons,decide_eq_true_eq,Int.toNat_natCast]; rw [hw2]; and_intros <;> first | (intro p hp; cases hp; done) | (intros; first | omega | (simp_all; done) | (simp_all; omega)),?_⟩
  simp only [st_ground_listErr__ground_isConductivity_0,hj',decide_true,Int.toNat_natCast,cond_true,hw]
  unfold v_ls1
  simp only [tx_unless,tx_first2,tx_withinG]
  rcases Nat.eq_zero_or_pos j with h0 | h0
  ·subst h0
   cases s_base_Within (p0.getD 0 0) 1 20 <;> rfl
  ·have hz:((j:Int) == 0)=false := beq_eq_false_iff_ne.2 (by omega)
   have hm:(max 0 ((j:Int) - 1)).toNat = ((j:Int) - 1).toNat := by rw [Int.max_eq_right (by omega)]
   rw [hz,hw2,hm]
   cases s_base_Within (p0.getD j 0) 1 20 <;> cases decide (p0.getD j 0 > p0.getD ((j:Int) - 1).toNat 0) <;> rfl
abbrev t_ground_listErr__ground_isConductivity (p0:List Int) (_p1:PUnit):Int := v_ls 1 20 p0
abbrev qre_ground_listErr__ground_isConductivity (p0:List Int) (_p1:PUnit):List Prop := [lenOk p0]
theorem pp_ground_listErr__ground_isConductivity (p0:List Int) (p1:PUnit) (hq:∀ p∈qre_ground_listErr__ground_isConductivity p0 p1,p):∀ p∈pre_ground_listErr__ground_isConductivity p0 p1,p := by
 obtain ⟨h1,_⟩ := conj_of hq
 simp only [pre_ground_listErr__ground_isConductivity,List.forall_mem_cons]
 exact ⟨(l_ground_listErr__ground_isConductivity_0 p0 p1 h1).1,(by intro p hp; cases hp)⟩
theorem tt_ground_listErr__ground_isConductivity (p0:List Int) (p1:PUnit) (hq:∀ p∈qre_ground_listErr__ground_isConductivity p0 p1,p):s_ground_listErr__ground_isConductivity p0 p1 = t_ground_listErr__ground_isConductivity p0 p1 := by
 obtain ⟨h1,_⟩ := conj_of hq
 exact (l_ground_listErr__ground_isConductivity_0 p0 p1 h1).2

abbrev con_ground_listErr__ground_isConductivity:Con := ⟨P_ground_listErr__ground_isConductivity,R_ground_listErr__ground_isConductivity,fun x => qre_ground_listErr__ground_isConductivity x.1 x.2,fun x => t_ground_listErr__ground_isConductivity x.1 x.2⟩
theorem ok_ground_listErr__ground_isConductivity:ConOk Try.prog 91 con_ground_listErr__ground_isConductivity := ⟨k_ground_listErr__ground_isConductivity,fun x hx => ret_tf (ps := P_ground_listErr__ground_isConductivity) (rs := R_ground_listErr__ground_isConductivity) (x := x) (y := t_ground_listErr__ground_isConductivity x.1 x.2) e_ground_listErr__ground_isConductivity hC_ground_listErr__ground_isConductivity (tf_of (w_ground_listErr__ground_isConductivity_eq x.1 x.2 (fun z => z = t_ground_listErr__ground_isConductivity x.1 x.2)) (d_ground_listErr__ground_isConductivity x.1 x.2 (fun z => z = t_ground_listErr__ground_isConductivity x.1 x.2) (pp_ground_listErr__ground_isConductivity x.1 x.2 hx) (tt_ground_listErr__ground_isConductivity x.1 x.2 hx)))⟩
/- ground_listErr__ground_isThickness -/
def C_ground_listErr__ground_isThickness:Cons := [(76,[],con_ground_isThickness),(74,[],con_ground_unless),(73,[],con_ground_first)]
theorem hC_ground_listErr__ground_isThickness:ConsOk Try.prog C_ground_listErr__ground_isThickness := ConsOk.cons ok_ground_isThickness <| ConsOk.cons ok_ground_unless <| ConsOk.cons ok_ground_first <| ConsOk.nil
def w_ground_listErr__ground_isThickness (p0:(List Int)) (_p1:PUnit) (K:Int→Prop):Prop :=
  (∃ n0,(loopP (fun (y1:Int) k2 =>
  ((((decide (y1 < (p0.length:Int)))=true) →
  (((0:Int)≤y1) ∧
   ((y1 < (p0.length:Int)) ∧
   ((((y1 == 0)=false) →
   ((y1 == 0)=(y1 == 0))) ∧
   ((((y1 == 0)=false) →
   ((y1 == 0)=(y1 == 0))) ∧
   ((((y1 == 0)=false) →
   ((y1 == 0)=(y1 == 0))) ∧
   ((((y1 == 0)=false) →
   ((y1 == 0)=(y1 == 0))) ∧
   ((((y1 == 0)=false) →
   ((0:Int)≤(max (0:Int) (IntKind.i64.wrap (y1 - 1))))) ∧
   ((((y1 == 0)=false) →
   ((max (0:Int) (IntKind.i64.wrap (y1 - 1))) < (p0.length:Int))) ∧
   ((((y1 == 0)=false) →
   ((y1 == 0)=(y1 == 0))) ∧
   ((((y1 == 0)=false) →
   ((y1 == 0)=(y1 == 0))) ∧
   ((((y1 == 0)=false) →
   ((y1 == 0)=(y1 == 0))) ∧
   (((y1 == 0)=(y1 == 0)) ∧
   ((lenOk ((s_ground_unless (s_ground_within (p0.getD y1.toNat (0:Int)) (0:Int) (10:Int)) (2:Int)) :: ((s_ground_unless (cond (y1 == 0) true (decide ((p0.getD y1.toNat (0:Int)) > (p0.getD (Int.toNat (max (0:Int) (IntKind.i64.wrap (y1 - 1)))) (0:Int))))) (9:Int)) :: ([]:List Int)))) ∧
   (((((v_first ((s_ground_unless (s_ground_within (p0.getD y1.toNat (0:Int)) (0:Int) (10:Int)) (2:Int)) :: ((s_ground_unless (cond (y1 == 0) true (decide ((p0.getD y1.toNat (0:Int)) > (p0.getD (Int.toNat (max (0:Int) (IntKind.i64.wrap (y1 - 1)))) (0:Int))))) (9:Int)) :: ([]:List Int)))) != 0)=true) →
   (K (v_first ((s_ground_unless (s_ground_within (p0.getD y1.toNat (0:Int)) (0:Int) (10:Int)) (2:Int)) :: ((s_ground_unless (cond (y1 == 0) true (decide ((p0.getD y1.toNat (0:Int)) > (p0.getD (Int.toNat (max (0:Int) (IntKind.i64.wrap (y1 - 1)))) (0:Int))))) (9:Int)) :: ([]:List Int)))))) ∧
   ((((v_first ((s_ground_unless (s_ground_within (p0.getD y1.toNat (0:Int)) (0:Int) (10:Int)) (2:Int)) :: ((s_ground_unless (cond (y1 == 0) true (decide ((p0.getD y1.toNat (0:Int)) > (p0.getD (Int.toNat (max (0:Int) (IntKind.i64.wrap (y1 - 1)))) (0:Int))))) (9:Int)) :: ([]:List Int)))) != 0)=false) →
   (k2 (IntKind.i64.wrap (y1 + 1))))))))))))))))))) ∧
  (((decide (y1 < (p0.length:Int)))=false) →
  (K (0:Int))))) n0 (0:Int)))
set_option maxHeartbeats 4000000 in
theorem w_ground_listErr__ground_isThickness_eq (p0:(List Int)) (p1:PUnit) (K:Int→Prop):tfn F_ground_listErr__ground_isThickness A_ground_listErr__ground_isThickness C_ground_listErr__ground_isThickness P_ground_listErr__ground_isThickness R_ground_listErr__ground_isThickness (p0,p1) K = w_ground_listErr__ground_isThickness p0 p1 K := by kernel_rfl
def st_ground_listErr__ground_isThickness_0 (p0:(List Int)) (_p1:PUnit) (y0:Int):Int ⊕ Int :=
 (cond (decide (y0 < (p0.length:Int))) (cond ((v_first ((s_ground_unless (s_ground_within (p0.getD y0.toNat (0:Int)) (0:Int) (10:Int)) (2:Int)) :: ((s_ground_unless (cond (y0 == 0) true (decide ((p0.getD y0.toNat (0:Int)) > (p0.getD (Int.toNat (max (0:Int) (IntKind.i64.wrap (y0 - 1)))) (0:Int))))) (9:Int)) :: ([]:List Int)))) != 0) (Sum.inr (v_first ((s_ground_unless (s_ground_within (p0.getD y0.toNat (0:Int)) (0:Int) (10:Int)) (2:Int)) :: ((s_ground_unless (cond (y0 == 0) true (decide ((p0.getD y0.toNat (0:Int)) > (p0.getD (Int.toNat (max (0:Int) (IntKind.i64.wrap (y0 - 1)))) (0:Int))))) (9:Int)) :: ([]:List Int)))))
  (Sum.inl (IntKind.i64.wrap (y0 + 1))))
  (Sum.inr (0:Int)))
abbrev sp_ground_listErr__ground_isThickness_0 (p0:(List Int)) (_p1:PUnit) (y0:Int):List Prop := [(((decide (y0 < (p0.length:Int)))=true)→((0:Int)≤y0)),
  (((decide (y0 < (p0.length:Int)))=true)→(y0 < (p0.length:Int))),
  (((decide (y0 < (p0.length:Int)))=true)→(((y0 == 0)=false)→((0:Int)≤(max (0:Int) (IntKind.i64.wrap (y0 - 1)))))),
  (((decide (y0 < (p0.length:Int)))=true)→(((y0 == 0)=false)→((max (0:Int) (IntKind.i64.wrap (y0 - 1))) < (p0.length:Int))))]
def s_ground_listErr__ground_isThickness (p0:(List Int)) (p1:PUnit):Int :=
 (lpv (0:Int) (st_ground_listErr__ground_isThickness_0 p0 p1) (0:Int))
abbrev pre_ground_listErr__ground_isThickness (p0:(List Int)) (p1:PUnit):List Prop := [(OkL (st_ground_listErr__ground_isThickness_0 p0 p1) (sp_ground_listErr__ground_isThickness_0 p0 p1) (0:Int))]
set_option maxHeartbeats 4000000 in
theorem d_ground_listErr__ground_isThickness (p0:(List Int)) (p1:PUnit) (K:Int→Prop) (hp:∀ p∈pre_ground_listErr__ground_isThickness p0 p1,p) (h:K (s_ground_listErr__ground_isThickness p0 p1)):w_ground_listErr__ground_isThickness p0 p1 K := by
 unfold w_ground_listErr__ground_isThickness
 unfold s_ground_listErr__ground_isThickness at h
 obtain ⟨hp0,_⟩ := conj_of hp
 exact (loop_gen (hp0) h (fun y0 k0 hp h => by
 unfold st_ground_listErr__ground_isThickness_0 at h; obtain ⟨hp0,hp1,hp2,hp3,_⟩ := conj_of hp
 exact (br' h (fun e1 h => ⟨(hp0 e1),(hp1 e1),rf,rf,rf,rf,(hp2 e1),(hp3 e1),rf,rf,rf,rfl,(lenOk_of 2 rfl (by decide)),(br' h (fun e2 h => h)
  (fun e2 h => h))⟩)
  (fun e1 h => h))))
theorem l_ground_listErr__ground_isThickness_0 (p0:List Int) (p1:PUnit) (hl:lenOk p0):OkL (st_ground_listErr__ground_isThickness_0 p0 p1) (sp_ground_listErr__ground_isThickness_0 p0 p1) 0∧lpv (0:Int) (st_ground_listErr__ground_isThickness_0 p0 p1) 0 = v_scan (v_ls1 0 10 p0) (0:Int) 0 p0 := by
 refine scan_is p0 0 (v_ls1 0 10 p0) (0:Int) hl ?_ ?_
 ·refine ⟨by simp only [sp_ground_listErr__ground_isThickness_0,List.forall_mem_cons,decide_eq_true_eq]; simp,by simp [st_ground_listErr__ground_isThickness_0]⟩
 ·intro j hj
  have hj' : (j:Int) < p0.length := by omega
  have hw := wrap_nat (show (j:Int)≤9223372036854775806 by unfold lenOk at hl; omega)
  have hw2:IntKind.i64.wrap ((j:Int) - 1)=(j:Int) - 1 := wrap_id (by omega) (by unfold lenOk at hl; omega)
  refine ⟨by simp only [sp_ground_listErr__ground_isThickness_0,List.forall_mem_cons,decide_eq_true_eq,Int.toNat_natCast]; rw [hw2]; and_intros <;> first | (intro p hp; cases hp; done) | (intros; first | omega | (simp_all; done) | (simp_all; omega)),?_⟩
  simp only [st_ground_listErr__ground_isThickness_0,hj',decide_true,Int.toNat_natCast,cond_true,hw]
  unfold v_ls1
  simp only [tx_unless,tx_first2,tx_withinG]
  rcases Nat.eq_zero_or_pos j with h0 | h0
  ·subst h0
   cases s_base_Within (p0.getD 0 0) 0 10 <;> rfl
  ·have hz:((j:Int) == 0)=false := beq_eq_false_iff_ne.2 (by omega)
   have hm:(max 0 ((j:Int) - 1)).toNat = ((j:Int) - 1).toNat := by rw [Int.max_eq_right (by omega)]
   rw [hz,hw2,hm]
   cases s_base_Within (p0.getD j 0) 0 10 <;> cases decide (p0.getD j 0 > p0.getD ((j:Int) - 1).toNat 0) <;> rfl
abbrev t_ground_listErr__ground_isThickness (p0:List Int) (_p1:PUnit):Int := v_ls 0 10 p0
abbrev qre_ground_listErr__ground_isThickness (p0:List Int) (_p1:PUnit):List Prop := [lenOk p0]
theorem pp_ground_listErr__ground_isThickness (p0:List Int) (p1:PUnit) (hq:∀ p∈qre_ground_listErr__ground_isThickness p0 p1,p):∀ p∈pre_ground_listErr__ground_isThickness p0 p1,p := by
 obtain ⟨h1,_⟩ := conj_of hq
 simp only [pre_ground_listErr__ground_isThickness,List.forall_mem_cons]
 exact ⟨(l_ground_listErr__ground_isThickness_0 p0 p1 h1).1,(by intro p hp; cases hp)⟩
theorem tt_ground_listErr__ground_isThickness (p0:List Int) (p1:PUnit) (hq:∀ p∈qre_ground_listErr__ground_isThickness p0 p1,p):s_ground_listErr__ground_isThickness p0 p1 = t_ground_listErr__ground_isThickness p0 p1 := by
 obtain ⟨h1,_⟩ := conj_of hq
 exact (l_ground_listErr__ground_isThickness_0 p0 p1 h1).2

abbrev con_ground_listErr__ground_isThickness:Con := ⟨P_ground_listErr__ground_isThickness,R_ground_listErr__ground_isThickness,fun x => qre_ground_listErr__ground_isThickness x.1 x.2,fun x => t_ground_listErr__ground_isThickness x.1 x.2⟩
theorem ok_ground_listErr__ground_isThickness:ConOk Try.prog 91 con_ground_listErr__ground_isThickness := ⟨k_ground_listErr__ground_isThickness,fun x hx => ret_tf (ps := P_ground_listErr__ground_isThickness) (rs := R_ground_listErr__ground_isThickness) (x := x) (y := t_ground_listErr__ground_isThickness x.1 x.2) e_ground_listErr__ground_isThickness hC_ground_listErr__ground_isThickness (tf_of (w_ground_listErr__ground_isThickness_eq x.1 x.2 (fun z => z = t_ground_listErr__ground_isThickness x.1 x.2)) (d_ground_listErr__ground_isThickness x.1 x.2 (fun z => z = t_ground_listErr__ground_isThickness x.1 x.2) (pp_ground_listErr__ground_isThickness x.1 x.2 hx) (tt_ground_listErr__ground_isThickness x.1 x.2 hx)))⟩
/- slices_Equalint_int -/
def C_slices_Equalint_int:Cons := []
theorem hC_slices_Equalint_int:ConsOk Try.prog C_slices_Equalint_int := ConsOk.nil
def w_slices_Equalint_int (p0:(List Int)) (p1:(List Int)) (K:Bool→Prop):Prop :=
  (((((p0.length:Int) != (p1.length:Int))=true) →
 (K false)) ∧
 ((((p0.length:Int) != (p1.length:Int))=false) →
 (∃ n0,(loopP (fun (y1:Int) k2 =>
   ((((decide (y1 < (p0.length:Int)))=true) →
   (((0:Int)≤y1) ∧
    ((y1 < (p0.length:Int)) ∧
    (((0:Int)≤y1) ∧
    ((y1 < (p1.length:Int)) ∧
    (((((p0.getD y1.toNat (0:Int)) != (p1.getD y1.toNat (0:Int)))=true) →
    (K false)) ∧
    ((((p0.getD y1.toNat (0:Int)) != (p1.getD y1.toNat (0:Int)))=false) →
    (k2 (IntKind.i64.wrap (y1 + 1)))))))))) ∧
   (((decide (y1 < (p0.length:Int)))=false) →
   (K true)))) n0 (0:Int)))))
set_option maxHeartbeats 4000000 in
theorem w_slices_Equalint_int_eq (p0:(List Int)) (p1:(List Int)) (K:Bool→Prop):tfn F_slices_Equalint_int A_slices_Equalint_int C_slices_Equalint_int P_slices_Equalint_int R_slices_Equalint_int (p0,p1) K = w_slices_Equalint_int p0 p1 K := by kernel_rfl
def st_slices_Equalint_int_0 (p0:(List Int)) (p1:(List Int)) (y1:Int):Int ⊕ Bool :=
 (cond (decide (y1 < (p0.length:Int))) (cond ((p0.getD y1.toNat (0:Int)) != (p1.getD y1.toNat (0:Int))) (Sum.inr false)
  (Sum.inl (IntKind.i64.wrap (y1 + 1))))
  (Sum.inr true))
abbrev sp_slices_Equalint_int_0 (p0:(List Int)) (p1:(List Int)) (y1:Int):List Prop := [(((decide (y1 < (p0.length:Int)))=true)→((0:Int)≤y1)),
  (((decide (y1 < (p0.length:Int)))=true)→(y1 < (p0.length:Int))),
  (((decide (y1 < (p0.length:Int)))=true)→(y1 < (p1.length:Int)))]
def s_slices_Equalint_int (p0:(List Int)) (p1:(List Int)):Bool :=
 (cond ((p0.length:Int) != (p1.length:Int)) false
  (lpv false (st_slices_Equalint_int_0 p0 p1) (0:Int)))
abbrev pre_slices_Equalint_int (p0:(List Int)) (p1:(List Int)):List Prop := [((((p0.length:Int) != (p1.length:Int))=false)→(OkL (st_slices_Equalint_int_0 p0 p1) (sp_slices_Equalint_int_0 p0 p1) (0:Int)))]
set_option maxHeartbeats 4000000 in
theorem d_slices_Equalint_int (p0:(List Int)) (p1:(List Int)) (K:Bool→Prop) (hp:∀ p∈pre_slices_Equalint_int p0 p1,p) (h:K (s_slices_Equalint_int p0 p1)):w_slices_Equalint_int p0 p1 K := by
 unfold w_slices_Equalint_int
 unfold s_slices_Equalint_int at h
 obtain ⟨hp0,_⟩ := conj_of hp
 exact (br' h (fun e0 h => h)
  (fun e0 h => (loop_gen (hp0 e0) h (fun y1 k1 hp h => by
 unfold st_slices_Equalint_int_0 at h; obtain ⟨hp0,hp1,hp2,_⟩ := conj_of hp
 exact (br' h (fun e2 h => ⟨(hp0 e2),(hp1 e2),(hp0 e2),(hp2 e2),(br' h (fun e3 h => h)
  (fun e3 h => h))⟩)
  (fun e2 h => h))))))
theorem l_slices_Equalint_int_0 (p0 p1:List Int) (hl:lenOk p0) (he:p0.length = p1.length):OkL (st_slices_Equalint_int_0 p0 p1) (sp_slices_Equalint_int_0 p0 p1) 0∧lpv false (st_slices_Equalint_int_0 p0 p1) 0 = v_scan (fun i x => cond (!((x == (p1.getD i.toNat 0)))) (some false) none) true 0 p0 := by
 refine scan_is p0 0 (fun i x => cond (!((x == (p1.getD i.toNat 0)))) (some false) none) true hl ?_ ?_
 ·refine ⟨by simp only [sp_slices_Equalint_int_0,List.forall_mem_cons,decide_eq_true_eq]; simp,by simp [st_slices_Equalint_int_0]⟩
 ·intro j hj
  have hj' : (j:Int) < p0.length := by omega
  refine ⟨by simp only [sp_slices_Equalint_int_0,List.forall_mem_cons,decide_eq_true_eq,Int.toNat_natCast]; simp <;> omega,?_⟩
  simp only [st_slices_Equalint_int_0,hj',decide_true,Int.toNat_natCast,cond_true,wrap_nat (show (j:Int)≤9223372036854775806 by unfold lenOk at hl; omega)]
  generalize p0.getD j 0 = x
  generalize p1.getD j 0 = z
  simp only [bne]
  cases (x == z) <;> rfl
abbrev t_slices_Equalint_int (p0 p1:List Int):Bool := decide (p0 = p1)
abbrev qre_slices_Equalint_int (p0 _p1:List Int):List Prop := [lenOk p0]
theorem pp_slices_Equalint_int (p0 p1:List Int) (hq:∀ p∈qre_slices_Equalint_int p0 p1,p):∀ p∈pre_slices_Equalint_int p0 p1,p := by
 simp only [pre_slices_Equalint_int,List.forall_mem_cons]
 refine ⟨fun h => (l_slices_Equalint_int_0 p0 p1 (conj_of hq).1 ?_).1,by simp⟩
 have h' : (p0.length:Int)=p1.length := by simpa using h
 omega
theorem tt_slices_Equalint_int (p0 p1:List Int) (hq:∀ p∈qre_slices_Equalint_int p0 p1,p):s_slices_Equalint_int p0 p1 = t_slices_Equalint_int p0 p1 := by
 unfold s_slices_Equalint_int t_slices_Equalint_int
 by_cases h:p0.length = p1.length
 ·rw [show ((p0.length:Int) != (p1.length:Int))=false by simp [h]]
  refine (l_slices_Equalint_int_0 p0 p1 (conj_of hq).1 h).2.trans ?_
  exact v_scan_eq 0 (fun x y => (x == y)) (fun x y => by by_cases h:x = y <;> simp [h]) p0 p1 h
 ·rw [show ((p0.length:Int) != (p1.length:Int))=true by simp; omega]
  have:p0 ≠ p1 := fun e => h (congrArg List.length e)
  simp [this]

abbrev con_slices_Equalint_int:Con := ⟨P_slices_Equalint_int,R_slices_Equalint_int,fun x => qre_slices_Equalint_int x.1 x.2,fun x => t_slices_Equalint_int x.1 x.2⟩
theorem ok_slices_Equalint_int:ConOk Try.prog 92 con_slices_Equalint_int := ⟨k_slices_Equalint_int,fun x hx => ret_tf (ps := P_slices_Equalint_int) (rs := R_slices_Equalint_int) (x := x) (y := t_slices_Equalint_int x.1 x.2) e_slices_Equalint_int hC_slices_Equalint_int (tf_of (w_slices_Equalint_int_eq x.1 x.2 (fun z => z = t_slices_Equalint_int x.1 x.2)) (d_slices_Equalint_int x.1 x.2 (fun z => z = t_slices_Equalint_int x.1 x.2) (pp_slices_Equalint_int x.1 x.2 hx) (tt_slices_Equalint_int x.1 x.2 hx)))⟩
/- base_trimmed -/
/-! Digits to the base 10^9,the lowest one first. -/
def v_val:List Int→Int
 | [] => 0
 | d :: r => d + 1000000000 * v_val r
def v_dgok (l:List Int):Prop := ∀ d∈l,0≤d∧d < 1000000000
def v_digs (n:Nat):List Int := if h:n = 0 then [] else ((n % 1000000000:Nat):Int) :: v_digs (n / 1000000000)
termination_by n
decreasing_by exact Nat.div_lt_self (Nat.pos_of_ne_zero h) (by decide)
theorem v_digs_0:v_digs 0 = [] := by unfold v_digs; rfl
theorem v_digs_pos {n:Nat} (h:n ≠ 0):v_digs n = ((n % 1000000000:Nat):Int) :: v_digs (n / 1000000000) := by rw [v_digs,dif_neg h]
theorem v_digs_ok (n:Nat):v_dgok (v_digs n) := by
 induction n using Nat.strongRecOn with
 | _ n ih =>
  by_cases h:n = 0
  ·subst h; rw [v_digs_0]; intro d hd; cases hd
  ·rw [v_digs_pos h]
   intro d hd
   rcases List.mem_cons.1 hd with rfl | hd
   ·omega
   ·exact ih _ (Nat.div_lt_self (Nat.pos_of_ne_zero h) (by decide)) d hd
theorem v_digs_val (n:Nat):v_val (v_digs n)=n := by
 induction n using Nat.strongRecOn with
 | _ n ih =>
  by_cases h:n = 0
  ·subst h; rw [v_digs_0]; rfl
  ·rw [v_digs_pos h]
   show _ + 1000000000 * v_val _ = _
   rw [ih _ (Nat.div_lt_self (Nat.pos_of_ne_zero h) (by decide))]
   omega
theorem v_val_nn:∀ {l:List Int},v_dgok l→0≤v_val l
 | [],_ => Int.le_refl _
 | d :: r,h => by
  have := h d (by simp)
  have := v_val_nn (l := r) fun x hx => h x (by simp [hx])
  show 0≤d + 1000000000 * v_val r
  omega
/-- What so many digits can say. -/
def v_pow (k:Nat):Int := 1000000000 ^ k
theorem v_pow_s (k:Nat):v_pow (k + 1)=1000000000 * v_pow k := by unfold v_pow; rw [Int.pow_succ,Int.mul_comm]
theorem v_pow_pos (k:Nat):1≤v_pow k := by
 induction k with
 | zero => exact Int.le_refl _
 | succ k ih => rw [v_pow_s]; omega
theorem v_pow_add (a b:Nat):v_pow (a + b)=v_pow a * v_pow b := by unfold v_pow; rw [Int.pow_add]
theorem v_pow_le {a b:Nat} (h:a≤b):v_pow a≤v_pow b := by
 obtain ⟨c,rfl⟩ : ∃ c,b = a + c := ⟨b - a,by omega⟩
 rw [v_pow_add]
 have h1 := v_pow_pos a
 have h2 := v_pow_pos c
 have := Int.mul_le_mul_of_nonneg_left h2 (show 0≤v_pow a by omega)
 omega
theorem v_val_lt:∀ {l:List Int},v_dgok l→v_val l < v_pow l.length
 | [],_ => by decide
 | d :: r,h => by
  have := h d (by simp)
  have := v_val_lt (l := r) fun x hx => h x (by simp [hx])
  show d + 1000000000 * v_val r < v_pow (r.length + 1)
  rw [v_pow_s]; omega
theorem v_digs_low (n:Nat):v_digs n = [] ∨ v_pow ((v_digs n).length - 1)≤n := by
 induction n using Nat.strongRecOn with
 | _ n ih =>
  by_cases h:n = 0
  ·subst h; exact .inl v_digs_0
  ·right
   rw [v_digs_pos h,List.length_cons,Nat.add_sub_cancel]
   rcases ih (n / 1000000000) (Nat.div_lt_self (Nat.pos_of_ne_zero h) (by decide)) with e | e
   ·rw [e]; show (1:Int)≤n; omega
   ·generalize hL:(v_digs (n / 1000000000)).length = L at *
    rcases Nat.eq_zero_or_pos L with h0 | h0
    ·rw [h0]; show (1:Int)≤n; omega
    ·rw [show L = L - 1 + 1 by omega,v_pow_s]
     omega
theorem v_digs_high (n:Nat):(n:Int) < v_pow (v_digs n).length := by
 have := v_val_lt (v_digs_ok n)
 rwa [v_digs_val] at this
theorem v_pow_lt {a b:Nat} (h:v_pow a < v_pow b):a < b := by
 rcases Nat.lt_or_ge a b with g | g
 ·exact g
 ·have := v_pow_le g; omega
theorem v_digs_len {n k:Nat} (h:(n:Int) < v_pow k):(v_digs n).length≤k := by
 rcases v_digs_low n with e | e
 ·rw [e]; simp
 ·have := v_pow_lt (show v_pow ((v_digs n).length - 1) < v_pow k by omega)
  omega
theorem v_digs_len_lt {m n:Nat} (h:(v_digs m).length < (v_digs n).length):m < n := by
 have h1 := v_digs_high m
 rcases v_digs_low n with e | e
 ·rw [e] at h; simp at h
 ·have := v_pow_le (show (v_digs m).length≤(v_digs n).length - 1 by omega)
  omega
/-- A whole number,as its sign and its digits. -/
def v_wide (n:Int):Int×List Int := (n.sign,v_digs n.natAbs)
def v_wval (p:Int×List Int):Int := p.1 * v_val p.2
theorem v_wval_wide (n:Int):v_wval (v_wide n)=n := by
 unfold v_wval v_wide
 simp only
 rw [v_digs_val]
 exact Int.sign_mul_natAbs n
/-- Rounds from a number down to 0; t: what is carried besides. -/
theorem down_is {τ σ ρ:Type} {dd:ρ} {st:σ→σ ⊕ ρ} {sp:σ→List Prop} (mk:Int→τ→σ) (n:Nat) (I:Nat→τ→Prop) (F:Nat→τ→ρ) (hl:n≤4611686018427387904)
  (hn:∀ t,I 0 t→(∀ p∈sp (mk (-1) t),p)∧st (mk (-1) t) = .inr (F 0 t))
  (hc:∀ (j:Nat) (t:τ),j < n→I (j + 1) t→(∀ p∈sp (mk j t),p)∧((∃ t',st (mk j t) = .inl (mk ((j:Int) - 1) t')∧I j t'∧F j t' = F (j + 1) t) ∨ st (mk j t) = .inr (F (j + 1) t))) (t:τ) (h:I n t):OkL st sp (mk ((n:Int) - 1) t)∧lpv dd st (mk ((n:Int) - 1) t)=F n t := by
 have key:∀ (j f:Nat) (t:τ),j≤n→j < f→I j t→OkN st sp f (mk ((j:Int) - 1) t)∧runL dd st f (mk ((j:Int) - 1) t)=F j t := by
  intro j
  induction j with
  | zero =>
   intro f t _ hf hi
   obtain ⟨g1,g2⟩ := hn t hi
   cases f with
   | zero => omega
   | succ f => unfold OkN runL; rw [show ((0:Nat):Int) - 1 = -1 from rfl,g2]; exact ⟨⟨g1,trivial⟩,rfl⟩
  | succ j ih =>
   intro f t hjn hf hi
   obtain ⟨g1,g2⟩ := hc j t (by omega) hi
   cases f with
   | zero => omega
   | succ f =>
    unfold OkN runL
    rw [show ((j + 1:Nat):Int) - 1 = (j:Int) by omega]
    rcases g2 with ⟨t',e,i',f'⟩ | e
    ·rw [e]
     obtain ⟨q1,q2⟩ := ih f t' (by omega) (by omega) i'
     exact ⟨⟨g1,q1⟩,by rw [← f']; exact q2⟩
    ·rw [e]; exact ⟨⟨g1,trivial⟩,rfl⟩
 exact key n fuel t (Nat.le_refl _) (by unfold fuel; omega) h
/- base_cmpDigits -/
/-- Digits that are those of their number. -/
structure v_can (l:List Int):Prop where
 eq:l = v_digs (v_val l).toNat
 len:l.length≤1000000000000
theorem v_can.ok {l:List Int} (h:v_can l):v_dgok l := by rw [h.eq]; exact v_digs_ok _
theorem v_can.lt {a b:List Int} (ha:v_can a) (hb:v_can b) (h:a.length < b.length):v_val a < v_val b := by
 have h1 := v_val_nn ha.ok
 have h2 := v_val_nn hb.ok
 have := v_digs_len_lt (m := (v_val a).toNat) (n := (v_val b).toNat) (by rw [← ha.eq,← hb.eq]; exact h)
 omega
/- base_wideOf -/
/- base_WideNeg -/
/-- A number that is as it should be. -/
structure v_wok (p:Int×List Int):Prop where
 eq:p = v_wide (v_wval p)
 ln:p.2.length≤1000000000000
/-- How many digits a number has. -/
def v_dl (n:Int):Nat := (v_digs n.natAbs).length
theorem v_wok.ex {p:Int×List Int} (h:v_wok p):∃ n:Int,p = v_wide n∧v_dl n≤1000000000000 := ⟨_,h.eq,by have := h.ln; rw [h.eq] at this; exact this⟩
/- base_digit -/
/- base_addDigits -/
/- base_subDigits -/
/- base_WideAdd -/
/- base_WideMul -/
/- base_WideSub -/
/- base_Size -/
/- base_WideOf -/
end Go.Proofs.Ytehblgccaiiikaa
