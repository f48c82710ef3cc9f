/- What the functions that GroundData reaches compute: contracts, each function once. No condition. -/
import Derived.Test.YtehblgccaiiikaaLayB
import Derived.Test.YtehblgccaiiikaaAwGrGroundData
import Derived.KernelRfl
namespace Go.Proofs.Ytehblgccaiiikaa
open Go Go.Mx
set_option maxRecDepth 100000
abbrev wi (n:Int):Int := IntKind.i64.wrap n
abbrev zz0:Int := 0
abbrev zz1:Int := 1
abbrev zz2:Int := 2
abbrev zz3:Int := 3
theorem nof {p:Prop} (h:false = true):p := Bool.noConfusion h
theorem rf {p:Prop} {α:Sort _} {a:α} (_:p):a = a := rfl
/- law04_few -/
def C_law04_few:Cons := []
theorem hC_law04_few:ConsOk Try.prog C_law04_few := ConsOk.nil
def w_law04_few (p0:(List (Int×Int))) (K:Bool→Prop):Prop :=
  (K (decide ((List.length p0:Int)≤6)))
set_option maxHeartbeats 4000000 in
theorem w_law04_few_eq (p0:(List (Int×Int))) (K:Bool→Prop):tfn F_law04_few A_law04_few C_law04_few P_law04_few R_law04_few p0 K = w_law04_few p0 K := by kernel_rfl
def s_law04_few (p0:(List (Int×Int))):Bool :=
 (decide ((List.length p0:Int)≤6))
abbrev pre_law04_few (_p0:(List (Int×Int))):List Prop := []
set_option maxHeartbeats 4000000 in
theorem d_law04_few (p0:(List (Int×Int))) (K:Bool→Prop) (_hp:∀ p∈pre_law04_few p0,p) (h:K (s_law04_few p0)):w_law04_few p0 K := by
 unfold w_law04_few
 unfold s_law04_few at h
 exact h
abbrev con_law04_few:Con := ⟨P_law04_few,R_law04_few,fun x => pre_law04_few x,fun x => s_law04_few x⟩
theorem ok_law04_few:ConOk Try.prog 13 con_law04_few := ⟨k_law04_few,fun x hx => ret_tf (ps := P_law04_few) (rs := R_law04_few) (x := x) (y := s_law04_few x) e_law04_few hC_law04_few (tf_of (w_law04_few_eq x (fun z => z = s_law04_few x)) (d_law04_few x (fun z => z = s_law04_few x) hx rfl))⟩
/- law04_fewData -/
def C_law04_fewData:Cons := []
theorem hC_law04_fewData:ConsOk Try.prog C_law04_fewData := ConsOk.nil
def w_law04_fewData (p0:(List (Int×(Int×Int)))) (K:Bool→Prop):Prop :=
  (K (decide ((List.length p0:Int)≤8)))
set_option maxHeartbeats 4000000 in
theorem w_law04_fewData_eq (p0:(List (Int×(Int×Int)))) (K:Bool→Prop):tfn F_law04_fewData A_law04_fewData C_law04_fewData P_law04_fewData R_law04_fewData p0 K = w_law04_fewData p0 K := by kernel_rfl
def s_law04_fewData (p0:(List (Int×(Int×Int)))):Bool :=
 (decide ((List.length p0:Int)≤8))
abbrev pre_law04_fewData (_p0:(List (Int×(Int×Int)))):List Prop := []
set_option maxHeartbeats 4000000 in
theorem d_law04_fewData (p0:(List (Int×(Int×Int)))) (K:Bool→Prop) (_hp:∀ p∈pre_law04_fewData p0,p) (h:K (s_law04_fewData p0)):w_law04_fewData p0 K := by
 unfold w_law04_fewData
 unfold s_law04_fewData at h
 exact h
abbrev con_law04_fewData:Con := ⟨P_law04_fewData,R_law04_fewData,fun x => pre_law04_fewData x,fun x => s_law04_fewData x⟩
theorem ok_law04_fewData:ConOk Try.prog 47 con_law04_fewData := ⟨k_law04_fewData,fun x hx => ret_tf (ps := P_law04_fewData) (rs := R_law04_fewData) (x := x) (y := s_law04_fewData x) e_law04_fewData hC_law04_fewData (tf_of (w_law04_fewData_eq x (fun z => z = s_law04_fewData x)) (d_law04_fewData x (fun z => z = s_law04_fewData x) hx rfl))⟩
/- ref04_CopyData -/
def C_ref04_CopyData:Cons := []
theorem hC_ref04_CopyData:ConsOk Try.prog C_ref04_CopyData := ConsOk.nil
def w_ref04_CopyData (p0:(List (Int×(Int×Int)))) (K:(List (Int×(Int×Int)))→Prop):Prop :=
  (((((List.length ([]:List (Int×(Int×Int)))) + p0.length) * 24)≤140737488355328) ∧
 (K (([]:List (Int×(Int×Int))) ++ p0)))
set_option maxHeartbeats 4000000 in
theorem w_ref04_CopyData_eq (p0:(List (Int×(Int×Int)))) (K:(List (Int×(Int×Int)))→Prop):tfnO F_ref04_CopyData A_ref04_CopyData C_ref04_CopyData P_ref04_CopyData E_ref04_CopyData p0 K = w_ref04_CopyData p0 K := by kernel_rfl
def s_ref04_CopyData (p0:(List (Int×(Int×Int)))):(List (Int×(Int×Int))) :=
 (([]:List (Int×(Int×Int))) ++ p0)
abbrev pre_ref04_CopyData (p0:(List (Int×(Int×Int)))):List Prop := [((((List.length ([]:List (Int×(Int×Int)))) + p0.length) * 24)≤140737488355328)]
set_option maxHeartbeats 4000000 in
theorem d_ref04_CopyData (p0:(List (Int×(Int×Int)))) (K:(List (Int×(Int×Int)))→Prop) (hp:∀ p∈pre_ref04_CopyData p0,p) (h:K (s_ref04_CopyData p0)):w_ref04_CopyData p0 K := by
 unfold w_ref04_CopyData
 unfold s_ref04_CopyData at h
 obtain ⟨hp0,_⟩ := conj_of hp
 exact ⟨(hp0),h⟩
abbrev con_ref04_CopyData:Con := ⟨P_ref04_CopyData,[.one (.sl E_ref04_CopyData)],fun x => pre_ref04_CopyData x,fun x => s_ref04_CopyData x⟩
theorem ok_ref04_CopyData:ConOOk Try.prog 49 con_ref04_CopyData := conO_tf (e := E_ref04_CopyData) (ps := P_ref04_CopyData) k_ref04_CopyData e_ref04_CopyData hC_ref04_CopyData (fun x hx => tfo_of (w_ref04_CopyData_eq x (fun z => z = s_ref04_CopyData x)) (d_ref04_CopyData x (fun z => z = s_ref04_CopyData x) hx rfl))
/- base_Within -/
def C_base_Within:Cons := []
theorem hC_base_Within:ConsOk Try.prog C_base_Within := ConsOk.nil
def w_base_Within (p0:Int) (p1:Int) (p2:Int) (K:Bool→Prop):Prop :=
  ((((decide (p1≤p0))=true) →
 ((decide (p1≤p0))=(decide (p1≤p0)))) ∧
 ((((decide (p1≤p0))=true) →
 ((decide (p1≤p0))=(decide (p1≤p0)))) ∧
 (((decide (p1≤p0))=(decide (p1≤p0))) ∧
 (K (cond (decide (p1≤p0)) (decide (p0≤p2)) false)))))
set_option maxHeartbeats 4000000 in
theorem w_base_Within_eq (p0:Int) (p1:Int) (p2:Int) (K:Bool→Prop):tfn F_base_Within A_base_Within C_base_Within P_base_Within R_base_Within (p0,p1,p2) K = w_base_Within p0 p1 p2 K := by kernel_rfl
def s_base_Within (p0:Int) (p1:Int) (p2:Int):Bool :=
 (cond (decide (p1≤p0)) (decide (p0≤p2)) false)
abbrev pre_base_Within (_p0:Int) (_p1:Int) (_p2:Int):List Prop := []
set_option maxHeartbeats 4000000 in
theorem d_base_Within (p0:Int) (p1:Int) (p2:Int) (K:Bool→Prop) (_hp:∀ p∈pre_base_Within p0 p1 p2,p) (h:K (s_base_Within p0 p1 p2)):w_base_Within p0 p1 p2 K := by
 unfold w_base_Within
 unfold s_base_Within at h
 exact ⟨rf,rf,rfl,h⟩
abbrev con_base_Within:Con := ⟨P_base_Within,R_base_Within,fun x => pre_base_Within x.1 x.2.1 x.2.2,fun x => s_base_Within x.1 x.2.1 x.2.2⟩
theorem ok_base_Within:ConOk Try.prog 35 con_base_Within := ⟨k_base_Within,fun x hx => ret_tf (ps := P_base_Within) (rs := R_base_Within) (x := x) (y := s_base_Within x.1 x.2.1 x.2.2) e_base_Within hC_base_Within (tf_of (w_base_Within_eq x.1 x.2.1 x.2.2 (fun z => z = s_base_Within x.1 x.2.1 x.2.2)) (d_base_Within x.1 x.2.1 x.2.2 (fun z => z = s_base_Within x.1 x.2.1 x.2.2) hx rfl))⟩
theorem tx_within {n lo hi:Int}:s_base_Within n lo hi = true ↔ lo≤n∧n≤hi := by unfold s_base_Within; simp
/- ref04_ScaleErr -/
def C_ref04_ScaleErr:Cons := [(35,[],con_base_Within)]
theorem hC_ref04_ScaleErr:ConsOk Try.prog C_ref04_ScaleErr := ConsOk.cons ok_base_Within <| ConsOk.nil
def w_ref04_ScaleErr (p0:Int) (K:Int→Prop):Prop :=
  ((((!(s_base_Within p0 (1:Int) (20:Int)))=true) →
 (K (2:Int))) ∧
 (((!(s_base_Within p0 (1:Int) (20:Int)))=false) →
 (K (0:Int))))
set_option maxHeartbeats 4000000 in
theorem w_ref04_ScaleErr_eq (p0:Int) (K:Int→Prop):tfn F_ref04_ScaleErr A_ref04_ScaleErr C_ref04_ScaleErr P_ref04_ScaleErr R_ref04_ScaleErr p0 K = w_ref04_ScaleErr p0 K := by kernel_rfl
def s_ref04_ScaleErr (p0:Int):Int :=
 (cond (!(s_base_Within p0 (1:Int) (20:Int))) (2:Int)
  (0:Int))
abbrev pre_ref04_ScaleErr (_p0:Int):List Prop := []
set_option maxHeartbeats 4000000 in
theorem d_ref04_ScaleErr (p0:Int) (K:Int→Prop) (_hp:∀ p∈pre_ref04_ScaleErr p0,p) (h:K (s_ref04_ScaleErr p0)):w_ref04_ScaleErr p0 K := by
 unfold w_ref04_ScaleErr
 unfold s_ref04_ScaleErr at h
 exact (br' h (fun e0 h => h)
  (fun e0 h => h))
abbrev con_ref04_ScaleErr:Con := ⟨P_ref04_ScaleErr,R_ref04_ScaleErr,fun x => pre_ref04_ScaleErr x,fun x => s_ref04_ScaleErr x⟩
theorem ok_ref04_ScaleErr:ConOk Try.prog 18 con_ref04_ScaleErr := ⟨k_ref04_ScaleErr,fun x hx => ret_tf (ps := P_ref04_ScaleErr) (rs := R_ref04_ScaleErr) (x := x) (y := s_ref04_ScaleErr x) e_ref04_ScaleErr hC_ref04_ScaleErr (tf_of (w_ref04_ScaleErr_eq x (fun z => z = s_ref04_ScaleErr x)) (d_ref04_ScaleErr x (fun z => z = s_ref04_ScaleErr x) hx rfl))⟩
/- ref04_CheckData -/
def C_ref04_CheckData:Cons := [(18,[],con_ref04_ScaleErr),(35,[],con_base_Within)]
theorem hC_ref04_CheckData:ConsOk Try.prog C_ref04_CheckData := ConsOk.cons ok_ref04_ScaleErr <| ConsOk.cons ok_base_Within <| ConsOk.nil
abbrev q2_ref04_CheckData (p0:(List (Int×(Int×Int)))) (y1:Int) := ((cond (!(s_base_Within (p0.getD y1.toNat (zz0,(zz0,zz0))).1 zz1 (20:Int))) zz2 zz0) != zz0)
abbrev q0_ref04_CheckData (p0:(List (Int×(Int×Int)))) (y1:Int) := (cond (q2_ref04_CheckData p0 y1) true (!(s_base_Within (p0.getD y1.toNat (zz0,(zz0,zz0))).2.1 zz0 (100000:Int))))
abbrev q1_ref04_CheckData (p0:(List (Int×(Int×Int)))) (y1:Int) := (decide ((p0.getD y1.toNat (zz0,(zz0,zz0))).2.1 > (p0.getD y1.toNat (zz0,(zz0,zz0))).2.2))
abbrev q3_ref04_CheckData (p0:(List (Int×(Int×Int)))) (y1:Int) := (((!(q1_ref04_CheckData p0 y1)) && (decide (y1 > zz0)))=((!(q1_ref04_CheckData p0 y1)) && (decide (y1 > zz0))))
abbrev q4_ref04_CheckData (p0:(List (Int×(Int×Int)))) (y1:Int) := (((!(q1_ref04_CheckData p0 y1)) && (decide (y1 > zz0)))=true)
def w_ref04_CheckData (p0:(List (Int×(Int×Int)))) (K:(Int×Int)→Prop):Prop :=
  (((((List.length p0:Int) == zz0)=true) →
 (K (zz0,(10:Int)))) ∧
 ((((List.length p0:Int) == zz0)=false) →
 ((((decide ((List.length p0:Int) > 6))=true) →
  (K (zz0,(8:Int)))) ∧
  (((decide ((List.length p0:Int) > 6))=false) →
  (∃ n0,(loopP (fun (y1:Int) k2 =>
    ((((decide (y1 < (List.length p0:Int)))=true) →
    ((zz0≤y1) ∧
     ((y1 < (List.length p0:Int)) ∧
     ((((q2_ref04_CheckData p0 y1)=false) →
     ((q2_ref04_CheckData p0 y1)=(q2_ref04_CheckData p0 y1))) ∧
     ((((q2_ref04_CheckData p0 y1)=false) →
     ((q2_ref04_CheckData p0 y1)=(q2_ref04_CheckData p0 y1))) ∧
     ((((q2_ref04_CheckData p0 y1)=false) →
     (zz0≤y1)) ∧
     ((((q2_ref04_CheckData p0 y1)=false) →
     (y1 < (List.length p0:Int))) ∧
     ((((q2_ref04_CheckData p0 y1)=false) →
     ((q2_ref04_CheckData p0 y1)=(q2_ref04_CheckData p0 y1))) ∧
     ((((q2_ref04_CheckData p0 y1)=false) →
     ((q2_ref04_CheckData p0 y1)=(q2_ref04_CheckData p0 y1))) ∧
     ((((q2_ref04_CheckData p0 y1)=false) →
     ((q2_ref04_CheckData p0 y1)=(q2_ref04_CheckData p0 y1))) ∧
     ((((q2_ref04_CheckData p0 y1)=false) →
     ((q2_ref04_CheckData p0 y1)=(q2_ref04_CheckData p0 y1))) ∧
     ((((q2_ref04_CheckData p0 y1)=false) →
     ((q2_ref04_CheckData p0 y1)=(q2_ref04_CheckData p0 y1))) ∧
     (((q2_ref04_CheckData p0 y1)=(q2_ref04_CheckData p0 y1)) ∧
     ((((q0_ref04_CheckData p0 y1)=false) →
     ((q0_ref04_CheckData p0 y1)=(q0_ref04_CheckData p0 y1))) ∧
     ((((q0_ref04_CheckData p0 y1)=false) →
     ((q0_ref04_CheckData p0 y1)=(q0_ref04_CheckData p0 y1))) ∧
     ((((q0_ref04_CheckData p0 y1)=false) →
     (zz0≤y1)) ∧
     ((((q0_ref04_CheckData p0 y1)=false) →
     (y1 < (List.length p0:Int))) ∧
     ((((q0_ref04_CheckData p0 y1)=false) →
     ((q0_ref04_CheckData p0 y1)=(q0_ref04_CheckData p0 y1))) ∧
     ((((q0_ref04_CheckData p0 y1)=false) →
     ((q0_ref04_CheckData p0 y1)=(q0_ref04_CheckData p0 y1))) ∧
     ((((q0_ref04_CheckData p0 y1)=false) →
     ((q0_ref04_CheckData p0 y1)=(q0_ref04_CheckData p0 y1))) ∧
     ((((q0_ref04_CheckData p0 y1)=false) →
     ((q0_ref04_CheckData p0 y1)=(q0_ref04_CheckData p0 y1))) ∧
     ((((q0_ref04_CheckData p0 y1)=false) →
     ((q0_ref04_CheckData p0 y1)=(q0_ref04_CheckData p0 y1))) ∧
     (((q0_ref04_CheckData p0 y1)=(q0_ref04_CheckData p0 y1)) ∧
     ((((cond (q0_ref04_CheckData p0 y1) true (!(s_base_Within (p0.getD y1.toNat (zz0,(zz0,zz0))).2.2 zz0 (100000:Int))))=true) →
     (K (y1,zz2))) ∧
     (((cond (q0_ref04_CheckData p0 y1) true (!(s_base_Within (p0.getD y1.toNat (zz0,(zz0,zz0))).2.2 zz0 (100000:Int))))=false) →
     ((zz0≤y1) ∧
      ((y1 < (List.length p0:Int)) ∧
      ((zz0≤y1) ∧
      ((y1 < (List.length p0:Int)) ∧
      ((((q1_ref04_CheckData p0 y1)=false) →
      ((q1_ref04_CheckData p0 y1)=(q1_ref04_CheckData p0 y1))) ∧
      ((((q1_ref04_CheckData p0 y1)=false) →
      ((q1_ref04_CheckData p0 y1)=(q1_ref04_CheckData p0 y1))) ∧
      (((q4_ref04_CheckData p0 y1) →
      (q3_ref04_CheckData p0 y1)) ∧
      (((q4_ref04_CheckData p0 y1) →
      (q3_ref04_CheckData p0 y1)) ∧
      (((q4_ref04_CheckData p0 y1) →
      (zz0≤y1)) ∧
      (((q4_ref04_CheckData p0 y1) →
      (y1 < (List.length p0:Int))) ∧
      (((q4_ref04_CheckData p0 y1) →
      (q3_ref04_CheckData p0 y1)) ∧
      (((q4_ref04_CheckData p0 y1) →
      (q3_ref04_CheckData p0 y1)) ∧
      (((q4_ref04_CheckData p0 y1) →
      (q3_ref04_CheckData p0 y1)) ∧
      (((q4_ref04_CheckData p0 y1) →
      (q3_ref04_CheckData p0 y1)) ∧
      (((q4_ref04_CheckData p0 y1) →
      (q3_ref04_CheckData p0 y1)) ∧
      (((q4_ref04_CheckData p0 y1) →
      (zz0≤(wi (y1 - zz1)))) ∧
      (((q4_ref04_CheckData p0 y1) →
      ((wi (y1 - zz1)) < (List.length p0:Int))) ∧
      (((q4_ref04_CheckData p0 y1) →
      (q3_ref04_CheckData p0 y1)) ∧
      (((q4_ref04_CheckData p0 y1) →
      (q3_ref04_CheckData p0 y1)) ∧
      (((q4_ref04_CheckData p0 y1) →
      (q3_ref04_CheckData p0 y1)) ∧
      (((q4_ref04_CheckData p0 y1) →
      (q3_ref04_CheckData p0 y1)) ∧
      ((((q1_ref04_CheckData p0 y1)=false) →
      ((q1_ref04_CheckData p0 y1)=(q1_ref04_CheckData p0 y1))) ∧
      ((((q1_ref04_CheckData p0 y1)=false) →
      (((!(q1_ref04_CheckData p0 y1)) && (decide (y1 > zz0)))=(decide (y1 > zz0)))) ∧
      (((q1_ref04_CheckData p0 y1)=(q1_ref04_CheckData p0 y1)) ∧
      ((((cond (q1_ref04_CheckData p0 y1) true (cond (decide (y1 > zz0)) (decide ((p0.getD y1.toNat (zz0,(zz0,zz0))).1≤(p0.getD (Int.toNat (wi (y1 - zz1))) (zz0,(zz0,zz0))).1)) false))=true) →
      (K (y1,(9:Int)))) ∧
      (((cond (q1_ref04_CheckData p0 y1) true (cond (decide (y1 > zz0)) (decide ((p0.getD y1.toNat (zz0,(zz0,zz0))).1≤(p0.getD (Int.toNat (wi (y1 - zz1))) (zz0,(zz0,zz0))).1)) false))=false) →
      (k2 (wi (y1 + zz1)))))))))))))))))))))))))))))))))))))))))))))))))))))) ∧
    (((decide (y1 < (List.length p0:Int)))=false) →
    (K (zz0,zz0))))) n0 zz0))))))
set_option maxHeartbeats 4000000 in
theorem w_ref04_CheckData_eq (p0:(List (Int×(Int×Int)))) (K:(Int×Int)→Prop):tfn F_ref04_CheckData A_ref04_CheckData C_ref04_CheckData P_ref04_CheckData R_ref04_CheckData p0 K = w_ref04_CheckData p0 K := by kernel_rfl
def st_ref04_CheckData_0 (p0:(List (Int×(Int×Int)))) (y2:Int):Int ⊕ (Int×Int) :=
 (cond (decide (y2 < (List.length p0:Int))) (cond (cond (cond ((cond (!(s_base_Within (p0.getD y2.toNat ((0:Int),((0:Int),(0:Int)))).1 (1:Int) (20:Int))) (2:Int) (0:Int)) != 0) true (!(s_base_Within (p0.getD y2.toNat ((0:Int),((0:Int),(0:Int)))).2.1 (0:Int) (100000:Int)))) true (!(s_base_Within (p0.getD y2.toNat ((0:Int),((0:Int),(0:Int)))).2.2 (0:Int) (100000:Int)))) (Sum.inr (y2,(2:Int)))
  (cond (cond (decide ((p0.getD y2.toNat ((0:Int),((0:Int),(0:Int)))).2.1 > (p0.getD y2.toNat ((0:Int),((0:Int),(0:Int)))).2.2)) true (cond (decide (y2 > 0)) (decide ((p0.getD y2.toNat ((0:Int),((0:Int),(0:Int)))).1≤(p0.getD (Int.toNat (IntKind.i64.wrap (y2 - 1))) ((0:Int),((0:Int),(0:Int)))).1)) false)) (Sum.inr (y2,(9:Int)))
  (Sum.inl (IntKind.i64.wrap (y2 + 1)))))
  (Sum.inr ((0:Int),(0:Int))))
abbrev qs0_ref04_CheckData_0 (p0:(List (Int×(Int×Int)))) (y2:Int):Bool := (decide ((p0.getD y2.toNat ((0:Int),((0:Int),(0:Int)))).2.1 > (p0.getD y2.toNat ((0:Int),((0:Int),(0:Int)))).2.2))
abbrev sp_ref04_CheckData_0 (p0:(List (Int×(Int×Int)))) (y2:Int):List Prop := [(((decide (y2 < (List.length p0:Int)))=true)→((0:Int)≤y2)),
  (((decide (y2 < (List.length p0:Int)))=true)→(y2 < (List.length p0:Int))),
  (((decide (y2 < (List.length p0:Int)))=true)→((((cond (!(s_base_Within (p0.getD y2.toNat ((0:Int),((0:Int),(0:Int)))).1 (1:Int) (20:Int))) (2:Int) (0:Int)) != 0)=false)→((0:Int)≤y2))),
  (((decide (y2 < (List.length p0:Int)))=true)→((((cond (!(s_base_Within (p0.getD y2.toNat ((0:Int),((0:Int),(0:Int)))).1 (1:Int) (20:Int))) (2:Int) (0:Int)) != 0)=false)→(y2 < (List.length p0:Int)))),
  (((decide (y2 < (List.length p0:Int)))=true)→(((cond ((cond (!(s_base_Within (p0.getD y2.toNat ((0:Int),((0:Int),(0:Int)))).1 (1:Int) (20:Int))) (2:Int) (0:Int)) != 0) true (!(s_base_Within (p0.getD y2.toNat ((0:Int),((0:Int),(0:Int)))).2.1 (0:Int) (100000:Int))))=false)→((0:Int)≤y2))),
  (((decide (y2 < (List.length p0:Int)))=true)→(((cond ((cond (!(s_base_Within (p0.getD y2.toNat ((0:Int),((0:Int),(0:Int)))).1 (1:Int) (20:Int))) (2:Int) (0:Int)) != 0) true (!(s_base_Within (p0.getD y2.toNat ((0:Int),((0:Int),(0:Int)))).2.1 (0:Int) (100000:Int))))=false)→(y2 < (List.length p0:Int)))),
  (((decide (y2 < (List.length p0:Int)))=true)→(((cond (cond ((cond (!(s_base_Within (p0.getD y2.toNat ((0:Int),((0:Int),(0:Int)))).1 (1:Int) (20:Int))) (2:Int) (0:Int)) != 0) true (!(s_base_Within (p0.getD y2.toNat ((0:Int),((0:Int),(0:Int)))).2.1 (0:Int) (100000:Int)))) true (!(s_base_Within (p0.getD y2.toNat ((0:Int),((0:Int),(0:Int)))).2.2 (0:Int) (100000:Int))))=false)→((0:Int)≤y2))),
  (((decide (y2 < (List.length p0:Int)))=true)→(((cond (cond ((cond (!(s_base_Within (p0.getD y2.toNat ((0:Int),((0:Int),(0:Int)))).1 (1:Int) (20:Int))) (2:Int) (0:Int)) != 0) true (!(s_base_Within (p0.getD y2.toNat ((0:Int),((0:Int),(0:Int)))).2.1 (0:Int) (100000:Int)))) true (!(s_base_Within (p0.getD y2.toNat ((0:Int),((0:Int),(0:Int)))).2.2 (0:Int) (100000:Int))))=false)→(y2 < (List.length p0:Int)))),
  (((decide (y2 < (List.length p0:Int)))=true)→(((cond (cond ((cond (!(s_base_Within (p0.getD y2.toNat ((0:Int),((0:Int),(0:Int)))).1 (1:Int) (20:Int))) (2:Int) (0:Int)) != 0) true (!(s_base_Within (p0.getD y2.toNat ((0:Int),((0:Int),(0:Int)))).2.1 (0:Int) (100000:Int)))) true (!(s_base_Within (p0.getD y2.toNat ((0:Int),((0:Int),(0:Int)))).2.2 (0:Int) (100000:Int))))=false)→((((!(qs0_ref04_CheckData_0 p0 y2)) && (decide (y2 > 0)))=true)→((0:Int)≤y2)))),
  (((decide (y2 < (List.length p0:Int)))=true)→(((cond (cond ((cond (!(s_base_Within (p0.getD y2.toNat ((0:Int),((0:Int),(0:Int)))).1 (1:Int) (20:Int))) (2:Int) (0:Int)) != 0) true (!(s_base_Within (p0.getD y2.toNat ((0:Int),((0:Int),(0:Int)))).2.1 (0:Int) (100000:Int)))) true (!(s_base_Within (p0.getD y2.toNat ((0:Int),((0:Int),(0:Int)))).2.2 (0:Int) (100000:Int))))=false)→((((!(qs0_ref04_CheckData_0 p0 y2)) && (decide (y2 > 0)))=true)→(y2 < (List.length p0:Int))))),
  (((decide (y2 < (List.length p0:Int)))=true)→(((cond (cond ((cond (!(s_base_Within (p0.getD y2.toNat ((0:Int),((0:Int),(0:Int)))).1 (1:Int) (20:Int))) (2:Int) (0:Int)) != 0) true (!(s_base_Within (p0.getD y2.toNat ((0:Int),((0:Int),(0:Int)))).2.1 (0:Int) (100000:Int)))) true (!(s_base_Within (p0.getD y2.toNat ((0:Int),((0:Int),(0:Int)))).2.2 (0:Int) (100000:Int))))=false)→((((!(qs0_ref04_CheckData_0 p0 y2)) && (decide (y2 > 0)))=true)→((0:Int)≤(IntKind.i64.wrap (y2 - 1)))))),
  (((decide (y2 < (List.length p0:Int)))=true)→(((cond (cond ((cond (!(s_base_Within (p0.getD y2.toNat ((0:Int),((0:Int),(0:Int)))).1 (1:Int) (20:Int))) (2:Int) (0:Int)) != 0) true (!(s_base_Within (p0.getD y2.toNat ((0:Int),((0:Int),(0:Int)))).2.1 (0:Int) (100000:Int)))) true (!(s_base_Within (p0.getD y2.toNat ((0:Int),((0:Int),(0:Int)))).2.2 (0:Int) (100000:Int))))=false)→((((!(qs0_ref04_CheckData_0 p0 y2)) && (decide (y2 > 0)))=true)→((IntKind.i64.wrap (y2 - 1)) < (List.length p0:Int))))),
  (((decide (y2 < (List.length p0:Int)))=true)→(((cond (cond ((cond (!(s_base_Within (p0.getD y2.toNat ((0:Int),((0:Int),(0:Int)))).1 (1:Int) (20:Int))) (2:Int) (0:Int)) != 0) true (!(s_base_Within (p0.getD y2.toNat ((0:Int),((0:Int),(0:Int)))).2.1 (0:Int) (100000:Int)))) true (!(s_base_Within (p0.getD y2.toNat ((0:Int),((0:Int),(0:Int)))).2.2 (0:Int) (100000:Int))))=false)→(((qs0_ref04_CheckData_0 p0 y2)=false)→(((!(qs0_ref04_CheckData_0 p0 y2)) && (decide (y2 > 0)))=(decide (y2 > 0))))))]
def s_ref04_CheckData (p0:(List (Int×(Int×Int)))):(Int×Int) :=
 (cond ((List.length p0:Int) == 0) ((0:Int),(10:Int))
  (cond (decide ((List.length p0:Int) > 6)) ((0:Int),(8:Int))
  (lpv ((0:Int),(0:Int)) (st_ref04_CheckData_0 p0) (0:Int))))
abbrev pre_ref04_CheckData (p0:(List (Int×(Int×Int)))):List Prop := [((((List.length p0:Int) == 0)=false)→(((decide ((List.length p0:Int) > 6))=false)→(OkL (st_ref04_CheckData_0 p0) (sp_ref04_CheckData_0 p0) (0:Int))))]
set_option maxHeartbeats 4000000 in
theorem d_ref04_CheckData (p0:(List (Int×(Int×Int)))) (K:(Int×Int)→Prop) (hp:∀ p∈pre_ref04_CheckData p0,p) (h:K (s_ref04_CheckData p0)):w_ref04_CheckData p0 K := by
 unfold w_ref04_CheckData
 unfold s_ref04_CheckData at h
 obtain ⟨hp0,_⟩ := conj_of hp
 exact (br' h (fun e0 h => h)
  (fun e0 h => (br' h (fun e1 h => h)
  (fun e1 h => (loop_gen (hp0 e0 e1) h (fun y2 k2 hp h => by
 unfold st_ref04_CheckData_0 at h; obtain ⟨hp0,hp1,hp2,hp3,hp4,hp5,hp6,hp7,hp8,hp9,hp10,hp11,hp12,_⟩ := conj_of hp
 exact (br' h (fun e3 h => ⟨(hp0 e3),(hp1 e3),rf,rf,(hp2 e3),(hp3 e3),rf,rf,rf,rf,rf,rfl,rf,rf,(hp4 e3),(hp5 e3),rf,rf,rf,rf,rf,rfl,(br' h (fun e4 h => h)
  (fun e4 h => ⟨(hp6 e3 e4),(hp7 e3 e4),(hp6 e3 e4),(hp7 e3 e4),rf,rf,rf,rf,(hp8 e3 e4),(hp9 e3 e4),rf,rf,rf,rf,rf,(hp10 e3 e4),(hp11 e3 e4),rf,rf,rf,rf,rf,(hp12 e3 e4),rfl,(br' h (fun e5 h => h)
  (fun e5 h => h))⟩))⟩)
  (fun e3 h => h))))))))
/-- What is wrong with a datum; with data. -/
def v_cd1 (l:List (Int×Int×Int)) (i:Int) (x:Int×Int×Int):Option (Int×Int) := cond (cond (s_base_Within x.1 1 20) (cond (s_base_Within x.2.1 0 100000) (s_base_Within x.2.2 0 100000) false) false) (cond (cond (decide (x.2.1≤x.2.2)) (cond (i == 0) true (decide (x.1 > (l.getD (i - 1).toNat (0,0,0)).1))) false) none (some (i,9))) (some (i,2))
def v_cd (l:List (Int×Int×Int)):Int×Int := cond ((l.length:Int) == 0) (0,10) (cond (decide ((l.length:Int) > 6)) (0,8) (v_scan (v_cd1 l) (0,0) 0 l))
theorem l_ref04_CheckData_0 (p0:List (Int×Int×Int)) (hl:lenOk p0):OkL (st_ref04_CheckData_0 p0) (sp_ref04_CheckData_0 p0) 0∧lpv ((0,0):Int×Int) (st_ref04_CheckData_0 p0) 0 = v_scan (v_cd1 p0) ((0,0):Int×Int) 0 p0 := by
 refine scan_is p0 (0,0,0) (v_cd1 p0) ((0,0):Int×Int) hl ?_ ?_
 ·refine ⟨by simp only [sp_ref04_CheckData_0,List.forall_mem_cons,decide_eq_true_eq]; simp,by simp [st_ref04_CheckData_0]⟩
 ·intro j hj
  have hj' : (j:Int) < p0.length := by omega
  have hw := wrap_nat (show (j:Int)≤9223372036854775806 by unfold lenOk at hl; omega)
  have hw2:IntKind.i64.wrap ((j:Int) - 1)=(j:Int) - 1 := wrap_id (by omega) (by unfold lenOk at hl; omega)
  refine ⟨by simp only [sp_ref04_CheckData_0,List.forall_mem_cons,decide_eq_true_eq,Int.toNat_natCast]; rw [hw2]; and_intros <;> first | (intro p hp; cases hp; done) | (intros; first | omega | (simp_all; done) | (simp_all; omega)),?_⟩
  simp only [st_ref04_CheckData_0,hj',decide_true,Int.toNat_natCast,cond_true,hw]
  unfold v_cd1
  rw [hw2]
  rcases int0 (j:Int) with ⟨hj0,_,z⟩ | ⟨hj0,_,z⟩ <;> rw [z]
  ·rw [decide_eq_false (show ¬ (j:Int) > 0 by omega)]
   rcases dec0 (a := (p0.getD j (0,0,0)).2.2) (b := (p0.getD j (0,0,0)).2.1) with ⟨_,_,_,d3,d4⟩ | ⟨_,_,_,d3,d4⟩ <;> rw [d4] <;> simp only [d3] <;> cases s_base_Within (p0.getD j (0,0,0)).1 1 20 <;> cases s_base_Within (p0.getD j (0,0,0)).2.1 0 100000 <;> cases s_base_Within (p0.getD j (0,0,0)).2.2 0 100000 <;> rfl
  ·rw [decide_eq_true (show (j:Int) > 0 by omega)]
   rcases dec0 (a := (p0.getD j (0,0,0)).2.2) (b := (p0.getD j (0,0,0)).2.1) with ⟨_,_,_,d3,d4⟩ | ⟨_,_,_,d3,d4⟩ <;> rw [d4] <;> simp only [d3] <;> rcases dec0 (a := (p0.getD ((j:Int) - 1).toNat (0,0,0)).1) (b := (p0.getD j (0,0,0)).1) with ⟨_,c1,c2,c3,c4⟩ | ⟨_,c1,c2,c3,c4⟩ <;> simp only [c3,c4] <;> cases s_base_Within (p0.getD j (0,0,0)).1 1 20 <;> cases s_base_Within (p0.getD j (0,0,0)).2.1 0 100000 <;> cases s_base_Within (p0.getD j (0,0,0)).2.2 0 100000 <;> rfl
abbrev t_ref04_CheckData (p0:List (Int×Int×Int)):Int×Int := v_cd p0
abbrev qre_ref04_CheckData (_p0:List (Int×Int×Int)):List Prop := []
theorem pp_ref04_CheckData (p0:List (Int×Int×Int)) (_hq:∀ p∈qre_ref04_CheckData p0,p):∀ p∈pre_ref04_CheckData p0,p := by
 simp only [pre_ref04_CheckData,List.forall_mem_cons]
 exact ⟨fun _ h => (l_ref04_CheckData_0 p0 (lenOk_le (n := 6) (by have := of_decide_eq_false h; omega) (by decide))).1,by simp⟩
theorem tt_ref04_CheckData (p0:List (Int×Int×Int)) (_hq:∀ p∈qre_ref04_CheckData p0,p):s_ref04_CheckData p0 = t_ref04_CheckData p0 := by
 unfold s_ref04_CheckData t_ref04_CheckData v_cd
 cases h:decide ((p0.length:Int) > 6)
 ·rw [(l_ref04_CheckData_0 p0 (lenOk_le (n := 6) (by have := of_decide_eq_false h; omega) (by decide))).2]
 ·rfl

abbrev con_ref04_CheckData:Con := ⟨P_ref04_CheckData,R_ref04_CheckData,fun x => qre_ref04_CheckData x,fun x => t_ref04_CheckData x⟩
theorem ok_ref04_CheckData:ConOk Try.prog 54 con_ref04_CheckData := ⟨k_ref04_CheckData,fun x hx => ret_tf (ps := P_ref04_CheckData) (rs := R_ref04_CheckData) (x := x) (y := t_ref04_CheckData x) e_ref04_CheckData hC_ref04_CheckData (tf_of (w_ref04_CheckData_eq x (fun z => z = t_ref04_CheckData x)) (d_ref04_CheckData x (fun z => z = t_ref04_CheckData x) (pp_ref04_CheckData x hx) (tt_ref04_CheckData x hx)))⟩
/- ground_within -/
def C_ground_within:Cons := []
theorem hC_ground_within:ConsOk Try.prog C_ground_within := ConsOk.nil
def w_ground_within (p0:Int) (p1:Int) (p2:Int) (K:Bool→Prop):Prop :=
  ((((decide (p1≤p0))=true) →
 ((decide (p1≤p0))=(decide (p1≤p0)))) ∧
 ((((decide (p1≤p0))=true) →
 ((decide (p1≤p0))=(decide (p1≤p0)))) ∧
 (((decide (p1≤p0))=(decide (p1≤p0))) ∧
 (K (cond (decide (p1≤p0)) (decide (p0≤p2)) false)))))
set_option maxHeartbeats 4000000 in
theorem w_ground_within_eq (p0:Int) (p1:Int) (p2:Int) (K:Bool→Prop):tfn F_ground_within A_ground_within C_ground_within P_ground_within R_ground_within (p0,p1,p2) K = w_ground_within p0 p1 p2 K := by kernel_rfl
def s_ground_within (p0:Int) (p1:Int) (p2:Int):Bool :=
 (cond (decide (p1≤p0)) (decide (p0≤p2)) false)
abbrev pre_ground_within (_p0:Int) (_p1:Int) (_p2:Int):List Prop := []
set_option maxHeartbeats 4000000 in
theorem d_ground_within (p0:Int) (p1:Int) (p2:Int) (K:Bool→Prop) (_hp:∀ p∈pre_ground_within p0 p1 p2,p) (h:K (s_ground_within p0 p1 p2)):w_ground_within p0 p1 p2 K := by
 unfold w_ground_within
 unfold s_ground_within at h
 exact ⟨rf,rf,rfl,h⟩
abbrev con_ground_within:Con := ⟨P_ground_within,R_ground_within,fun x => pre_ground_within x.1 x.2.1 x.2.2,fun x => s_ground_within x.1 x.2.1 x.2.2⟩
theorem ok_ground_within:ConOk Try.prog 95 con_ground_within := ⟨k_ground_within,fun x hx => ret_tf (ps := P_ground_within) (rs := R_ground_within) (x := x) (y := s_ground_within x.1 x.2.1 x.2.2) e_ground_within hC_ground_within (tf_of (w_ground_within_eq x.1 x.2.1 x.2.2 (fun z => z = s_ground_within x.1 x.2.1 x.2.2)) (d_ground_within x.1 x.2.1 x.2.2 (fun z => z = s_ground_within x.1 x.2.1 x.2.2) hx rfl))⟩
theorem tx_withinG {n lo hi:Int}:s_ground_within n lo hi = s_base_Within n lo hi := rfl
/- ref04_isConductivity -/
def C_ref04_isConductivity:Cons := [(35,[],con_base_Within)]
theorem hC_ref04_isConductivity:ConsOk Try.prog C_ref04_isConductivity := ConsOk.cons ok_base_Within <| ConsOk.nil
def w_ref04_isConductivity (p0:Int) (K:Bool→Prop):Prop :=
  (K (s_base_Within p0 (1:Int) (20:Int)))
set_option maxHeartbeats 4000000 in
theorem w_ref04_isConductivity_eq (p0:Int) (K:Bool→Prop):tfn F_ref04_isConductivity A_ref04_isConductivity C_ref04_isConductivity P_ref04_isConductivity R_ref04_isConductivity p0 K = w_ref04_isConductivity p0 K := by kernel_rfl
def s_ref04_isConductivity (p0:Int):Bool :=
 (s_base_Within p0 (1:Int) (20:Int))
abbrev pre_ref04_isConductivity (_p0:Int):List Prop := []
set_option maxHeartbeats 4000000 in
theorem d_ref04_isConductivity (p0:Int) (K:Bool→Prop) (_hp:∀ p∈pre_ref04_isConductivity p0,p) (h:K (s_ref04_isConductivity p0)):w_ref04_isConductivity p0 K := by
 unfold w_ref04_isConductivity
 unfold s_ref04_isConductivity at h
 exact h
abbrev con_ref04_isConductivity:Con := ⟨P_ref04_isConductivity,R_ref04_isConductivity,fun x => pre_ref04_isConductivity x,fun x => s_ref04_isConductivity x⟩
theorem ok_ref04_isConductivity:ConOk Try.prog 81 con_ref04_isConductivity := ⟨k_ref04_isConductivity,fun x hx => ret_tf (ps := P_ref04_isConductivity) (rs := R_ref04_isConductivity) (x := x) (y := s_ref04_isConductivity x) e_ref04_isConductivity hC_ref04_isConductivity (tf_of (w_ref04_isConductivity_eq x (fun z => z = s_ref04_isConductivity x)) (d_ref04_isConductivity x (fun z => z = s_ref04_isConductivity x) hx rfl))⟩
/- ref04_isThickness -/
def C_ref04_isThickness:Cons := [(35,[],con_base_Within)]
theorem hC_ref04_isThickness:ConsOk Try.prog C_ref04_isThickness := ConsOk.cons ok_base_Within <| ConsOk.nil
def w_ref04_isThickness (p0:Int) (K:Bool→Prop):Prop :=
  (K (s_base_Within p0 (0:Int) (10:Int)))
set_option maxHeartbeats 4000000 in
theorem w_ref04_isThickness_eq (p0:Int) (K:Bool→Prop):tfn F_ref04_isThickness A_ref04_isThickness C_ref04_isThickness P_ref04_isThickness R_ref04_isThickness p0 K = w_ref04_isThickness p0 K := by kernel_rfl
def s_ref04_isThickness (p0:Int):Bool :=
 (s_base_Within p0 (0:Int) (10:Int))
abbrev pre_ref04_isThickness (_p0:Int):List Prop := []
set_option maxHeartbeats 4000000 in
theorem d_ref04_isThickness (p0:Int) (K:Bool→Prop) (_hp:∀ p∈pre_ref04_isThickness p0,p) (h:K (s_ref04_isThickness p0)):w_ref04_isThickness p0 K := by
 unfold w_ref04_isThickness
 unfold s_ref04_isThickness at h
 exact h
abbrev con_ref04_isThickness:Con := ⟨P_ref04_isThickness,R_ref04_isThickness,fun x => pre_ref04_isThickness x,fun x => s_ref04_isThickness x⟩
theorem ok_ref04_isThickness:ConOk Try.prog 82 con_ref04_isThickness := ⟨k_ref04_isThickness,fun x hx => ret_tf (ps := P_ref04_isThickness) (rs := R_ref04_isThickness) (x := x) (y := s_ref04_isThickness x) e_ref04_isThickness hC_ref04_isThickness (tf_of (w_ref04_isThickness_eq x (fun z => z = s_ref04_isThickness x)) (d_ref04_isThickness x (fun z => z = s_ref04_isThickness x) hx rfl))⟩
/- ref04_CheckModel -/
def C_ref04_CheckModel:Cons := [(81,[],con_ref04_isConductivity),(82,[],con_ref04_isThickness)]
theorem hC_ref04_CheckModel:ConsOk Try.prog C_ref04_CheckModel := ConsOk.cons ok_ref04_isConductivity <| ConsOk.cons ok_ref04_isThickness <| ConsOk.nil
abbrev q0_ref04_CheckModel (p0:(List (Int×Int))) (y1:Int) := (!(s_base_Within (p0.getD y1.toNat (zz0,zz0)).1 zz1 (20:Int)))
def w_ref04_CheckModel (p0:(List (Int×Int))) (K:(Int×Int)→Prop):Prop :=
  (((((List.length p0:Int) == zz0)=true) →
 (K (zz0,(10:Int)))) ∧
 ((((List.length p0:Int) == zz0)=false) →
 ((((decide ((List.length p0:Int) > 4))=true) →
  (K (zz0,(8:Int)))) ∧
  (((decide ((List.length p0:Int) > 4))=false) →
  (∃ n0,(loopP (fun (y1:Int) k2 =>
    ((((decide (y1 < (List.length p0:Int)))=true) →
    ((zz0≤y1) ∧
     ((y1 < (List.length p0:Int)) ∧
     ((((q0_ref04_CheckModel p0 y1)=false) →
     ((q0_ref04_CheckModel p0 y1)=(q0_ref04_CheckModel p0 y1))) ∧
     ((((q0_ref04_CheckModel p0 y1)=false) →
     ((q0_ref04_CheckModel p0 y1)=(q0_ref04_CheckModel p0 y1))) ∧
     ((((q0_ref04_CheckModel p0 y1)=false) →
     ((q0_ref04_CheckModel p0 y1)=(q0_ref04_CheckModel p0 y1))) ∧
     ((((q0_ref04_CheckModel p0 y1)=false) →
     (zz0≤y1)) ∧
     ((((q0_ref04_CheckModel p0 y1)=false) →
     (y1 < (List.length p0:Int))) ∧
     ((((q0_ref04_CheckModel p0 y1)=false) →
     ((q0_ref04_CheckModel p0 y1)=(q0_ref04_CheckModel p0 y1))) ∧
     ((((q0_ref04_CheckModel p0 y1)=false) →
     ((q0_ref04_CheckModel p0 y1)=(q0_ref04_CheckModel p0 y1))) ∧
     ((((q0_ref04_CheckModel p0 y1)=false) →
     ((q0_ref04_CheckModel p0 y1)=(q0_ref04_CheckModel p0 y1))) ∧
     ((((q0_ref04_CheckModel p0 y1)=false) →
     ((q0_ref04_CheckModel p0 y1)=(q0_ref04_CheckModel p0 y1))) ∧
     (((q0_ref04_CheckModel p0 y1)=(q0_ref04_CheckModel p0 y1)) ∧
     ((((cond (q0_ref04_CheckModel p0 y1) true (!(s_base_Within (p0.getD y1.toNat (zz0,zz0)).2 zz0 (10:Int))))=true) →
     (K (y1,zz2))) ∧
     (((cond (q0_ref04_CheckModel p0 y1) true (!(s_base_Within (p0.getD y1.toNat (zz0,zz0)).2 zz0 (10:Int))))=false) →
     ((((y1 == (wi ((List.length p0:Int) - zz1)))=true) →
      ((y1 == (wi ((List.length p0:Int) - zz1)))=(y1 == (wi ((List.length p0:Int) - zz1))))) ∧
      ((((y1 == (wi ((List.length p0:Int) - zz1)))=true) →
      ((y1 == (wi ((List.length p0:Int) - zz1)))=(y1 == (wi ((List.length p0:Int) - zz1))))) ∧
      ((((y1 == (wi ((List.length p0:Int) - zz1)))=true) →
      ((y1 == (wi ((List.length p0:Int) - zz1)))=(y1 == (wi ((List.length p0:Int) - zz1))))) ∧
      ((((y1 == (wi ((List.length p0:Int) - zz1)))=true) →
      (zz0≤y1)) ∧
      ((((y1 == (wi ((List.length p0:Int) - zz1)))=true) →
      (y1 < (List.length p0:Int))) ∧
      ((((y1 == (wi ((List.length p0:Int) - zz1)))=true) →
      ((y1 == (wi ((List.length p0:Int) - zz1)))=(y1 == (wi ((List.length p0:Int) - zz1))))) ∧
      ((((y1 == (wi ((List.length p0:Int) - zz1)))=true) →
      ((y1 == (wi ((List.length p0:Int) - zz1)))=(y1 == (wi ((List.length p0:Int) - zz1))))) ∧
      ((((y1 == (wi ((List.length p0:Int) - zz1)))=true) →
      ((y1 == (wi ((List.length p0:Int) - zz1)))=(y1 == (wi ((List.length p0:Int) - zz1))))) ∧
      (((y1 == (wi ((List.length p0:Int) - zz1)))=(y1 == (wi ((List.length p0:Int) - zz1)))) ∧
      ((((cond (y1 == (wi ((List.length p0:Int) - zz1))) ((p0.getD y1.toNat (zz0,zz0)).2 != zz0) false)=true) →
      (K (y1,zz3))) ∧
      (((cond (y1 == (wi ((List.length p0:Int) - zz1))) ((p0.getD y1.toNat (zz0,zz0)).2 != zz0) false)=false) →
      (k2 (wi (y1 + zz1))))))))))))))))))))))))))))) ∧
    (((decide (y1 < (List.length p0:Int)))=false) →
    (K (zz0,zz0))))) n0 zz0))))))
set_option maxHeartbeats 4000000 in
theorem w_ref04_CheckModel_eq (p0:(List (Int×Int))) (K:(Int×Int)→Prop):tfn F_ref04_CheckModel A_ref04_CheckModel C_ref04_CheckModel P_ref04_CheckModel R_ref04_CheckModel p0 K = w_ref04_CheckModel p0 K := by kernel_rfl
def st_ref04_CheckModel_0 (p0:(List (Int×Int))) (y2:Int):Int ⊕ (Int×Int) :=
 (cond (decide (y2 < (List.length p0:Int))) (cond (cond (!(s_base_Within (p0.getD y2.toNat ((0:Int),(0:Int))).1 (1:Int) (20:Int))) true (!(s_base_Within (p0.getD y2.toNat ((0:Int),(0:Int))).2 (0:Int) (10:Int)))) (Sum.inr (y2,(2:Int)))
  (cond (cond (y2 == (IntKind.i64.wrap ((List.length p0:Int) - 1))) ((p0.getD y2.toNat ((0:Int),(0:Int))).2 != 0) false) (Sum.inr (y2,(3:Int)))
  (Sum.inl (IntKind.i64.wrap (y2 + 1)))))
  (Sum.inr ((0:Int),(0:Int))))
abbrev sp_ref04_CheckModel_0 (p0:(List (Int×Int))) (y2:Int):List Prop := [(((decide (y2 < (List.length p0:Int)))=true)→((0:Int)≤y2)),
  (((decide (y2 < (List.length p0:Int)))=true)→(y2 < (List.length p0:Int))),
  (((decide (y2 < (List.length p0:Int)))=true)→(((!(s_base_Within (p0.getD y2.toNat ((0:Int),(0:Int))).1 (1:Int) (20:Int)))=false)→((0:Int)≤y2))),
  (((decide (y2 < (List.length p0:Int)))=true)→(((!(s_base_Within (p0.getD y2.toNat ((0:Int),(0:Int))).1 (1:Int) (20:Int)))=false)→(y2 < (List.length p0:Int)))),
  (((decide (y2 < (List.length p0:Int)))=true)→(((cond (!(s_base_Within (p0.getD y2.toNat ((0:Int),(0:Int))).1 (1:Int) (20:Int))) true (!(s_base_Within (p0.getD y2.toNat ((0:Int),(0:Int))).2 (0:Int) (10:Int))))=false)→(((y2 == (IntKind.i64.wrap ((List.length p0:Int) - 1)))=true)→((0:Int)≤y2)))),
  (((decide (y2 < (List.length p0:Int)))=true)→(((cond (!(s_base_Within (p0.getD y2.toNat ((0:Int),(0:Int))).1 (1:Int) (20:Int))) true (!(s_base_Within (p0.getD y2.toNat ((0:Int),(0:Int))).2 (0:Int) (10:Int))))=false)→(((y2 == (IntKind.i64.wrap ((List.length p0:Int) - 1)))=true)→(y2 < (List.length p0:Int)))))]
def s_ref04_CheckModel (p0:(List (Int×Int))):(Int×Int) :=
 (cond ((List.length p0:Int) == 0) ((0:Int),(10:Int))
  (cond (decide ((List.length p0:Int) > 4)) ((0:Int),(8:Int))
  (lpv ((0:Int),(0:Int)) (st_ref04_CheckModel_0 p0) (0:Int))))
abbrev pre_ref04_CheckModel (p0:(List (Int×Int))):List Prop := [((((List.length p0:Int) == 0)=false)→(((decide ((List.length p0:Int) > 4))=false)→(OkL (st_ref04_CheckModel_0 p0) (sp_ref04_CheckModel_0 p0) (0:Int))))]
set_option maxHeartbeats 4000000 in
theorem d_ref04_CheckModel (p0:(List (Int×Int))) (K:(Int×Int)→Prop) (hp:∀ p∈pre_ref04_CheckModel p0,p) (h:K (s_ref04_CheckModel p0)):w_ref04_CheckModel p0 K := by
 unfold w_ref04_CheckModel
 unfold s_ref04_CheckModel at h
 obtain ⟨hp0,_⟩ := conj_of hp
 exact (br' h (fun e0 h => h)
  (fun e0 h => (br' h (fun e1 h => h)
  (fun e1 h => (loop_gen (hp0 e0 e1) h (fun y2 k2 hp h => by
 unfold st_ref04_CheckModel_0 at h; obtain ⟨hp0,hp1,hp2,hp3,hp4,hp5,_⟩ := conj_of hp
 exact (br' h (fun e3 h => ⟨(hp0 e3),(hp1 e3),rf,rf,rf,(hp2 e3),(hp3 e3),rf,rf,rf,rf,rfl,(br' h (fun e4 h => h)
  (fun e4 h => ⟨rf,rf,rf,(hp4 e3 e4),(hp5 e3 e4),rf,rf,rf,rfl,(br' h (fun e5 h => h)
  (fun e5 h => h))⟩))⟩)
  (fun e3 h => h))))))))
/-- What is wrong with a layer; with layers. -/
def v_cm1 (n:Int) (i:Int) (x:Int×Int):Option (Int×Int) := cond (cond (s_base_Within x.1 1 20) (s_base_Within x.2 0 10) false) (cond (cond (i == n - 1) (x.2 == 0) true) none (some (i,3))) (some (i,2))
def v_cm (l:List (Int×Int)):Int×Int := cond ((l.length:Int) == 0) (0,10) (cond (decide ((l.length:Int) > 4)) (0,8) (v_scan (v_cm1 l.length) (0,0) 0 l))
theorem l_ref04_CheckModel_0 (p0:List (Int×Int)) (hl:p0.length≤4):OkL (st_ref04_CheckModel_0 p0) (sp_ref04_CheckModel_0 p0) 0∧lpv ((0,0):Int×Int) (st_ref04_CheckModel_0 p0) 0 = v_scan (v_cm1 p0.length) (0,0) 0 p0 := by
 refine scan_is p0 (0,0) (v_cm1 p0.length) ((0,0):Int×Int) (lenOk_le hl (by decide)) ?_ ?_
 ·refine ⟨by simp only [sp_ref04_CheckModel_0,List.forall_mem_cons,decide_eq_true_eq]; simp,by simp [st_ref04_CheckModel_0]⟩
 ·intro j hj
  have hj' : (j:Int) < p0.length := by omega
  refine ⟨by simp only [sp_ref04_CheckModel_0,List.forall_mem_cons,decide_eq_true_eq,Int.toNat_natCast]; simp <;> omega,?_⟩
  simp only [st_ref04_CheckModel_0,hj',decide_true,Int.toNat_natCast,cond_true,wrap_nat (show (j:Int)≤9223372036854775806 by omega),v_cm1]
  rw [wrap_id (n := (p0.length:Int) - 1) (by omega) (by omega)]
  rcases int0 (p0.getD j (0,0)).2 with ⟨_,e1,e2⟩ | ⟨_,e1,e2⟩ <;> rw [e1,e2] <;> cases s_base_Within (p0.getD j (0,0)).1 1 20 <;> cases s_base_Within (p0.getD j (0,0)).2 0 10 <;> cases ((j:Int) == (p0.length:Int) - 1) <;> rfl
abbrev t_ref04_CheckModel (p0:List (Int×Int)):Int×Int := v_cm p0
abbrev qre_ref04_CheckModel (_p0:List (Int×Int)):List Prop := []
theorem pp_ref04_CheckModel (p0:List (Int×Int)) (_hq:∀ p∈qre_ref04_CheckModel p0,p):∀ p∈pre_ref04_CheckModel p0,p := by
 simp only [pre_ref04_CheckModel,List.forall_mem_cons]
 exact ⟨fun _ h => (l_ref04_CheckModel_0 p0 (by have := of_decide_eq_false h; omega)).1,by simp⟩
theorem tt_ref04_CheckModel (p0:List (Int×Int)) (_hq:∀ p∈qre_ref04_CheckModel p0,p):s_ref04_CheckModel p0 = t_ref04_CheckModel p0 := by
 unfold s_ref04_CheckModel t_ref04_CheckModel v_cm
 cases h:decide ((p0.length:Int) > 4)
 ·rw [(l_ref04_CheckModel_0 p0 (by have := of_decide_eq_false h; omega)).2]
 ·rfl

abbrev con_ref04_CheckModel:Con := ⟨P_ref04_CheckModel,R_ref04_CheckModel,fun x => qre_ref04_CheckModel x,fun x => t_ref04_CheckModel x⟩
theorem ok_ref04_CheckModel:ConOk Try.prog 17 con_ref04_CheckModel := ⟨k_ref04_CheckModel,fun x hx => ret_tf (ps := P_ref04_CheckModel) (rs := R_ref04_CheckModel) (x := x) (y := t_ref04_CheckModel x) e_ref04_CheckModel hC_ref04_CheckModel (tf_of (w_ref04_CheckModel_eq x (fun z => z = t_ref04_CheckModel x)) (d_ref04_CheckModel x (fun z => z = t_ref04_CheckModel x) (pp_ref04_CheckModel x hx) (tt_ref04_CheckModel x hx)))⟩
/- ground_unless -/
def C_ground_unless:Cons := []
theorem hC_ground_unless:ConsOk Try.prog C_ground_unless := ConsOk.nil
def w_ground_unless (p0:Bool) (p1:Int) (K:Int→Prop):Prop :=
  (((p0 = true) →
 (K (0:Int))) ∧
 ((p0 = false) →
 (K p1)))
set_option maxHeartbeats 4000000 in
theorem w_ground_unless_eq (p0:Bool) (p1:Int) (K:Int→Prop):tfn F_ground_unless A_ground_unless C_ground_unless P_ground_unless R_ground_unless (p0,p1) K = w_ground_unless p0 p1 K := by kernel_rfl
def s_ground_unless (p0:Bool) (p1:Int):Int :=
 (cond p0 (0:Int)
  p1)
abbrev pre_ground_unless (_p0:Bool) (_p1:Int):List Prop := []
set_option maxHeartbeats 4000000 in
theorem d_ground_unless (p0:Bool) (p1:Int) (K:Int→Prop) (_hp:∀ p∈pre_ground_unless p0 p1,p) (h:K (s_ground_unless p0 p1)):w_ground_unless p0 p1 K := by
 unfold w_ground_unless
 unfold s_ground_unless at h
 exact (br' h (fun e0 h => h)
  (fun e0 h => h))
abbrev con_ground_unless:Con := ⟨P_ground_unless,R_ground_unless,fun x => pre_ground_unless x.1 x.2,fun x => s_ground_unless x.1 x.2⟩
theorem ok_ground_unless:ConOk Try.prog 74 con_ground_unless := ⟨k_ground_unless,fun x hx => ret_tf (ps := P_ground_unless) (rs := R_ground_unless) (x := x) (y := s_ground_unless x.1 x.2) e_ground_unless hC_ground_unless (tf_of (w_ground_unless_eq x.1 x.2 (fun z => z = s_ground_unless x.1 x.2)) (d_ground_unless x.1 x.2 (fun z => z = s_ground_unless x.1 x.2) hx rfl))⟩
/- ground_first -/
def C_ground_first:Cons := []
theorem hC_ground_first:ConsOk Try.prog C_ground_first := ConsOk.nil
def w_ground_first (p0:(List Int)) (K:Int→Prop):Prop :=
  (∃ n0,(loopP (fun (y1:Int) k2 =>
  ((((decide (y1 < (List.length p0:Int)))=true) →
  (((0:Int)≤y1) ∧
   ((y1 < (List.length p0:Int)) ∧
   (((((p0.getD y1.toNat 0) != 0)=true) →
   (K (p0.getD y1.toNat 0))) ∧
   ((((p0.getD y1.toNat 0) != 0)=false) →
   (k2 (IntKind.i64.wrap (y1 + 1)))))))) ∧
  (((decide (y1 < (List.length p0:Int)))=false) →
  (K (0:Int))))) n0 (0:Int)))
set_option maxHeartbeats 4000000 in
theorem w_ground_first_eq (p0:(List Int)) (K:Int→Prop):tfn F_ground_first A_ground_first C_ground_first P_ground_first R_ground_first p0 K = w_ground_first p0 K := by kernel_rfl
def st_ground_first_0 (p0:(List Int)) (y0:Int):Int ⊕ Int :=
 (cond (decide (y0 < (List.length p0:Int))) (cond ((p0.getD y0.toNat 0) != 0) (Sum.inr (p0.getD y0.toNat 0))
  (Sum.inl (IntKind.i64.wrap (y0 + 1))))
  (Sum.inr (0:Int)))
abbrev sp_ground_first_0 (p0:(List Int)) (y0:Int):List Prop := [(((decide (y0 < (List.length p0:Int)))=true)→((0:Int)≤y0)),
  (((decide (y0 < (List.length p0:Int)))=true)→(y0 < (List.length p0:Int)))]
def s_ground_first (p0:(List Int)):Int :=
 (lpv (0:Int) (st_ground_first_0 p0) (0:Int))
abbrev pre_ground_first (p0:(List Int)):List Prop := [(OkL (st_ground_first_0 p0) (sp_ground_first_0 p0) (0:Int))]
set_option maxHeartbeats 4000000 in
theorem d_ground_first (p0:(List Int)) (K:Int→Prop) (hp:∀ p∈pre_ground_first p0,p) (h:K (s_ground_first p0)):w_ground_first p0 K := by
 unfold w_ground_first
 unfold s_ground_first at h
 obtain ⟨hp0,_⟩ := conj_of hp
 exact (loop_gen (hp0) h (fun y0 k0 hp h => by
 unfold st_ground_first_0 at h; obtain ⟨hp0,hp1,_⟩ := conj_of hp
 exact (br' h (fun e1 h => ⟨(hp0 e1),(hp1 e1),(br' h (fun e2 h => h)
  (fun e2 h => h))⟩)
  (fun e1 h => h))))
theorem l_ground_first_0 (p0:List Int) (hl:lenOk p0):OkL (st_ground_first_0 p0) (sp_ground_first_0 p0) 0∧lpv (0:Int) (st_ground_first_0 p0) 0 = v_scan (fun _ x => cond (x != 0) (some x) none) (0:Int) 0 p0 := by
 refine scan_is p0 0 (fun _ x => cond (x != 0) (some x) none) (0:Int) hl ?_ ?_
 ·refine ⟨by simp only [sp_ground_first_0,List.forall_mem_cons,decide_eq_true_eq]; simp,by simp [st_ground_first_0]⟩
 ·intro j hj
  have hj' : (j:Int) < p0.length := by omega
  refine ⟨by simp only [sp_ground_first_0,List.forall_mem_cons,decide_eq_true_eq,Int.toNat_natCast]; simp <;> omega,?_⟩
  simp only [st_ground_first_0,hj',decide_true,Int.toNat_natCast,cond_true,wrap_nat (show (j:Int)≤9223372036854775806 by unfold lenOk at hl; omega)]
  generalize p0.getD j 0 = x
  cases (x != 0) <;> rfl
abbrev t_ground_first (p0:List Int):Int := v_first p0
abbrev qre_ground_first (p0:List Int):List Prop := [lenOk p0]
theorem pp_ground_first (p0:List Int) (hq:∀ p∈qre_ground_first p0,p):∀ p∈pre_ground_first p0,p := by
 simp only [pre_ground_first,List.forall_mem_cons]
 exact ⟨(l_ground_first_0 p0 (conj_of hq).1).1,by simp⟩
theorem tt_ground_first (p0:List Int) (hq:∀ p∈qre_ground_first p0,p):s_ground_first p0 = t_ground_first p0 := by
 exact (l_ground_first_0 p0 (conj_of hq).1).2.trans (v_first_scan p0 0)

abbrev con_ground_first:Con := ⟨P_ground_first,R_ground_first,fun x => qre_ground_first x,fun x => t_ground_first x⟩
theorem ok_ground_first:ConOk Try.prog 73 con_ground_first := ⟨k_ground_first,fun x hx => ret_tf (ps := P_ground_first) (rs := R_ground_first) (x := x) (y := t_ground_first x) e_ground_first hC_ground_first (tf_of (w_ground_first_eq x (fun z => z = t_ground_first x)) (d_ground_first x (fun z => z = t_ground_first x) (pp_ground_first x hx) (tt_ground_first x hx)))⟩
/- ground_isConductivity -/
def C_ground_isConductivity:Cons := [(95,[],con_ground_within)]
theorem hC_ground_isConductivity:ConsOk Try.prog C_ground_isConductivity := ConsOk.cons ok_ground_within <| ConsOk.nil
def w_ground_isConductivity (p0:Int) (K:Bool→Prop):Prop :=
  (K (s_ground_within p0 (1:Int) (20:Int)))
set_option maxHeartbeats 4000000 in
theorem w_ground_isConductivity_eq (p0:Int) (K:Bool→Prop):tfn F_ground_isConductivity A_ground_isConductivity C_ground_isConductivity P_ground_isConductivity R_ground_isConductivity p0 K = w_ground_isConductivity p0 K := by kernel_rfl
def s_ground_isConductivity (p0:Int):Bool :=
 (s_ground_within p0 (1:Int) (20:Int))
abbrev pre_ground_isConductivity (_p0:Int):List Prop := []
set_option maxHeartbeats 4000000 in
theorem d_ground_isConductivity (p0:Int) (K:Bool→Prop) (_hp:∀ p∈pre_ground_isConductivity p0,p) (h:K (s_ground_isConductivity p0)):w_ground_isConductivity p0 K := by
 unfold w_ground_isConductivity
 unfold s_ground_isConductivity at h
 exact h
abbrev con_ground_isConductivity:Con := ⟨P_ground_isConductivity,R_ground_isConductivity,fun x => pre_ground_isConductivity x,fun x => s_ground_isConductivity x⟩
theorem ok_ground_isConductivity:ConOk Try.prog 75 con_ground_isConductivity := ⟨k_ground_isConductivity,fun x hx => ret_tf (ps := P_ground_isConductivity) (rs := R_ground_isConductivity) (x := x) (y := s_ground_isConductivity x) e_ground_isConductivity hC_ground_isConductivity (tf_of (w_ground_isConductivity_eq x (fun z => z = s_ground_isConductivity x)) (d_ground_isConductivity x (fun z => z = s_ground_isConductivity x) hx rfl))⟩
/- ground_isThickness -/
def C_ground_isThickness:Cons := [(95,[],con_ground_within)]
theorem hC_ground_isThickness:ConsOk Try.prog C_ground_isThickness := ConsOk.cons ok_ground_within <| ConsOk.nil
def w_ground_isThickness (p0:Int) (K:Bool→Prop):Prop :=
  (K (s_ground_within p0 (0:Int) (10:Int)))
set_option maxHeartbeats 4000000 in
theorem w_ground_isThickness_eq (p0:Int) (K:Bool→Prop):tfn F_ground_isThickness A_ground_isThickness C_ground_isThickness P_ground_isThickness R_ground_isThickness p0 K = w_ground_isThickness p0 K := by kernel_rfl
def s_ground_isThickness (p0:Int):Bool :=
 (s_ground_within p0 (0:Int) (10:Int))
abbrev pre_ground_isThickness (_p0:Int):List Prop := []
set_option maxHeartbeats 4000000 in
theorem d_ground_isThickness (p0:Int) (K:Bool→Prop) (_hp:∀ p∈pre_ground_isThickness p0,p) (h:K (s_ground_isThickness p0)):w_ground_isThickness p0 K := by
 unfold w_ground_isThickness
 unfold s_ground_isThickness at h
 exact h
abbrev con_ground_isThickness:Con := ⟨P_ground_isThickness,R_ground_isThickness,fun x => pre_ground_isThickness x,fun x => s_ground_isThickness x⟩
theorem ok_ground_isThickness:ConOk Try.prog 76 con_ground_isThickness := ⟨k_ground_isThickness,fun x hx => ret_tf (ps := P_ground_isThickness) (rs := R_ground_isThickness) (x := x) (y := s_ground_isThickness x) e_ground_isThickness hC_ground_isThickness (tf_of (w_ground_isThickness_eq x (fun z => z = s_ground_isThickness x)) (d_ground_isThickness x (fun z => z = s_ground_isThickness x) hx rfl))⟩
/- ground_CheckModel -/
def C_ground_CheckModel:Cons := [(74,[],con_ground_unless),(73,[],con_ground_first),(75,[],con_ground_isConductivity),(76,[],con_ground_isThickness)]
theorem hC_ground_CheckModel:ConsOk Try.prog C_ground_CheckModel := ConsOk.cons ok_ground_unless <| ConsOk.cons ok_ground_first <| ConsOk.cons ok_ground_isConductivity <| ConsOk.cons ok_ground_isThickness <| ConsOk.nil
abbrev q0_ground_CheckModel (p0:(List (Int×Int))) (y1:Int) := (s_ground_within (p0.getD y1.toNat (zz0,zz0)).1 zz1 (20:Int))
abbrev q1_ground_CheckModel (p0:(List (Int×Int))) := ((s_ground_unless (decide ((List.length p0:Int) > zz0)) (10:Int)) :: ((s_ground_unless (decide ((List.length p0:Int)≤4)) (8:Int)) :: ([]:List Int)))
abbrev q2_ground_CheckModel (p0:(List (Int×Int))) (y1:Int) := (s_ground_unless (cond (q0_ground_CheckModel p0 y1) (s_ground_within (p0.getD y1.toNat (zz0,zz0)).2 zz0 (10:Int)) false) zz2)
def w_ground_CheckModel (p0:(List (Int×Int))) (K:(Int×Int)→Prop):Prop :=
  ((lenOk (q1_ground_CheckModel p0)) ∧
 (((((v_first (q1_ground_CheckModel p0)) != zz0)=true) →
 (K (zz0,(v_first (q1_ground_CheckModel p0))))) ∧
 ((((v_first (q1_ground_CheckModel p0)) != zz0)=false) →
 (∃ n0,(loopP (fun (y1:Int) k2 =>
   ((((decide (y1 < (List.length p0:Int)))=true) →
   ((zz0≤y1) ∧
    ((y1 < (List.length p0:Int)) ∧
    ((((q0_ground_CheckModel p0 y1)=true) →
    ((q0_ground_CheckModel p0 y1)=(q0_ground_CheckModel p0 y1))) ∧
    ((((q0_ground_CheckModel p0 y1)=true) →
    ((q0_ground_CheckModel p0 y1)=(q0_ground_CheckModel p0 y1))) ∧
    (((q0_ground_CheckModel p0 y1)=(q0_ground_CheckModel p0 y1)) ∧
    ((((!(y1 == (wi ((List.length p0:Int) - zz1))))=false) →
    ((!(y1 == (wi ((List.length p0:Int) - zz1))))=(!(y1 == (wi ((List.length p0:Int) - zz1)))))) ∧
    ((((!(y1 == (wi ((List.length p0:Int) - zz1))))=false) →
    ((!(y1 == (wi ((List.length p0:Int) - zz1))))=(!(y1 == (wi ((List.length p0:Int) - zz1)))))) ∧
    (((!(y1 == (wi ((List.length p0:Int) - zz1))))=(!(y1 == (wi ((List.length p0:Int) - zz1))))) ∧
    ((lenOk ((q2_ground_CheckModel p0 y1) :: ((s_ground_unless (cond (!(y1 == (wi ((List.length p0:Int) - zz1)))) true ((p0.getD y1.toNat (zz0,zz0)).2 == zz0)) zz3) :: ([]:List Int)))) ∧
    (((((v_first ((q2_ground_CheckModel p0 y1) :: ((s_ground_unless (cond (!(y1 == (wi ((List.length p0:Int) - zz1)))) true ((p0.getD y1.toNat (zz0,zz0)).2 == zz0)) zz3) :: ([]:List Int)))) != zz0)=true) →
    (K (y1,(v_first ((q2_ground_CheckModel p0 y1) :: ((s_ground_unless (cond (!(y1 == (wi ((List.length p0:Int) - zz1)))) true ((p0.getD y1.toNat (zz0,zz0)).2 == zz0)) zz3) :: ([]:List Int))))))) ∧
    ((((v_first ((q2_ground_CheckModel p0 y1) :: ((s_ground_unless (cond (!(y1 == (wi ((List.length p0:Int) - zz1)))) true ((p0.getD y1.toNat (zz0,zz0)).2 == zz0)) zz3) :: ([]:List Int)))) != zz0)=false) →
    (k2 (wi (y1 + zz1))))))))))))))) ∧
   (((decide (y1 < (List.length p0:Int)))=false) →
   (K (zz0,zz0))))) n0 zz0)))))
set_option maxHeartbeats 4000000 in
theorem w_ground_CheckModel_eq (p0:(List (Int×Int))) (K:(Int×Int)→Prop):tfn F_ground_CheckModel A_ground_CheckModel C_ground_CheckModel P_ground_CheckModel R_ground_CheckModel p0 K = w_ground_CheckModel p0 K := by kernel_rfl
def st_ground_CheckModel_0 (p0:(List (Int×Int))) (y1:Int):Int ⊕ (Int×Int) :=
 (cond (decide (y1 < (List.length p0:Int))) (cond ((v_first ((s_ground_unless (cond (s_ground_within (p0.getD y1.toNat ((0:Int),(0:Int))).1 (1:Int) (20:Int)) (s_ground_within (p0.getD y1.toNat ((0:Int),(0:Int))).2 (0:Int) (10:Int)) false) (2:Int)) :: ((s_ground_unless (cond (!(y1 == (IntKind.i64.wrap ((List.length p0:Int) - 1)))) true ((p0.getD y1.toNat ((0:Int),(0:Int))).2 == 0)) (3:Int)) :: ([]:List Int)))) != 0) (Sum.inr (y1,(v_first ((s_ground_unless (cond (s_ground_within (p0.getD y1.toNat ((0:Int),(0:Int))).1 (1:Int) (20:Int)) (s_ground_within (p0.getD y1.toNat ((0:Int),(0:Int))).2 (0:Int) (10:Int)) false) (2:Int)) :: ((s_ground_unless (cond (!(y1 == (IntKind.i64.wrap ((List.length p0:Int) - 1)))) true ((p0.getD y1.toNat ((0:Int),(0:Int))).2 == 0)) (3:Int)) :: ([]:List Int))))))
  (Sum.inl (IntKind.i64.wrap (y1 + 1))))
  (Sum.inr ((0:Int),(0:Int))))
abbrev sp_ground_CheckModel_0 (p0:(List (Int×Int))) (y1:Int):List Prop := [(((decide (y1 < (List.length p0:Int)))=true)→((0:Int)≤y1)),
  (((decide (y1 < (List.length p0:Int)))=true)→(y1 < (List.length p0:Int)))]
def s_ground_CheckModel (p0:(List (Int×Int))):(Int×Int) :=
 (cond ((v_first ((s_ground_unless (decide ((List.length p0:Int) > 0)) (10:Int)) :: ((s_ground_unless (decide ((List.length p0:Int)≤4)) (8:Int)) :: ([]:List Int)))) != 0) ((0:Int),(v_first ((s_ground_unless (decide ((List.length p0:Int) > 0)) (10:Int)) :: ((s_ground_unless (decide ((List.length p0:Int)≤4)) (8:Int)) :: ([]:List Int)))))
  (lpv ((0:Int),(0:Int)) (st_ground_CheckModel_0 p0) (0:Int)))
abbrev pre_ground_CheckModel (p0:(List (Int×Int))):List Prop := [((((v_first ((s_ground_unless (decide ((List.length p0:Int) > 0)) (10:Int)) :: ((s_ground_unless (decide ((List.length p0:Int)≤4)) (8:Int)) :: ([]:List Int)))) != 0)=false)→(OkL (st_ground_CheckModel_0 p0) (sp_ground_CheckModel_0 p0) (0:Int)))]
set_option maxHeartbeats 4000000 in
theorem d_ground_CheckModel (p0:(List (Int×Int))) (K:(Int×Int)→Prop) (hp:∀ p∈pre_ground_CheckModel p0,p) (h:K (s_ground_CheckModel p0)):w_ground_CheckModel p0 K := by
 unfold w_ground_CheckModel
 unfold s_ground_CheckModel at h
 obtain ⟨hp0,_⟩ := conj_of hp
 exact ⟨(lenOk_of 2 rfl (by decide)),(br' h (fun e0 h => h)
  (fun e0 h => (loop_gen (hp0 e0) h (fun y1 k1 hp h => by
 unfold st_ground_CheckModel_0 at h; obtain ⟨hp0,hp1,_⟩ := conj_of hp
 exact (br' h (fun e2 h => ⟨(hp0 e2),(hp1 e2),rf,rf,rfl,rf,rf,rfl,(lenOk_of 2 rfl (by decide)),(br' h (fun e3 h => h)
  (fun e3 h => h))⟩)
  (fun e2 h => h))))))⟩
theorem l_ground_CheckModel_0 (p0:List (Int×Int)) (hl:p0.length≤4):OkL (st_ground_CheckModel_0 p0) (sp_ground_CheckModel_0 p0) 0∧lpv ((0,0):Int×Int) (st_ground_CheckModel_0 p0) 0 = v_scan (v_cm1 p0.length) (0,0) 0 p0 := by
 refine scan_is p0 (0,0) (v_cm1 p0.length) ((0,0):Int×Int) (lenOk_le hl (by decide)) ?_ ?_
 ·refine ⟨by simp only [sp_ground_CheckModel_0,List.forall_mem_cons,decide_eq_true_eq]; simp,by simp [st_ground_CheckModel_0]⟩
 ·intro j hj
  have hj' : (j:Int) < p0.length := by omega
  refine ⟨by simp only [sp_ground_CheckModel_0,List.forall_mem_cons,decide_eq_true_eq,Int.toNat_natCast]; simp [lenOk] <;> omega,?_⟩
  simp only [st_ground_CheckModel_0,hj',decide_true,Int.toNat_natCast,cond_true,wrap_nat (show (j:Int)≤9223372036854775806 by omega),v_cm1]
  rw [wrap_id (n := (p0.length:Int) - 1) (by omega) (by omega)]
  unfold s_ground_unless
  simp only [tx_withinG]
  cases s_base_Within (p0.getD j (0,0)).1 1 20 <;> cases s_base_Within (p0.getD j (0,0)).2 0 10 <;> cases ((j:Int) == (p0.length:Int) - 1) <;> cases ((p0.getD j (0,0)).2 == 0) <;> rfl
abbrev t_ground_CheckModel (p0:List (Int×Int)):Int×Int := v_cm p0
abbrev qre_ground_CheckModel (_p0:List (Int×Int)):List Prop := []
theorem tx_cmh {n:Int} (h:0≤n):v_first [s_ground_unless (decide (n > 0)) 10,s_ground_unless (decide (n≤4)) 8]=cond (n == 0) 10 (cond (decide (n > 4)) 8 0) := by
 unfold s_ground_unless
 rcases int0 n with ⟨h0,_,e0⟩ | ⟨h0,_,e0⟩
 ·subst h0; rfl
 ·rw [e0,decide_eq_true (show n > 0 by omega)]
  rcases dec0 (a := 4) (b := n) with ⟨_,_,_,e1,e2⟩ | ⟨_,_,_,e1,e2⟩ <;> rw [e1,e2] <;> rfl
theorem pp_ground_CheckModel (p0:List (Int×Int)) (_hq:∀ p∈qre_ground_CheckModel p0,p):∀ p∈pre_ground_CheckModel p0,p := by
 simp only [pre_ground_CheckModel,List.forall_mem_cons]
 refine ⟨fun h => ?_,by simp⟩
 rw [tx_cmh (by omega)] at h
 refine (l_ground_CheckModel_0 p0 ?_).1
 cases c:decide ((p0.length:Int) > 4)
 ·have := of_decide_eq_false c; omega
 ·rw [c] at h
  cases c2:((p0.length:Int) == 0) <;> rw [c2] at h <;> cases h
theorem tt_ground_CheckModel (p0:List (Int×Int)) (_hq:∀ p∈qre_ground_CheckModel p0,p):s_ground_CheckModel p0 = t_ground_CheckModel p0 := by
 unfold s_ground_CheckModel t_ground_CheckModel v_cm
 rw [tx_cmh (by omega)]
 cases h:decide ((p0.length:Int) > 4)
 ·rw [(l_ground_CheckModel_0 p0 (by have := of_decide_eq_false h; omega)).2]
  cases ((p0.length:Int) == 0) <;> rfl
 ·cases ((p0.length:Int) == 0) <;> rfl

abbrev con_ground_CheckModel:Con := ⟨P_ground_CheckModel,R_ground_CheckModel,fun x => qre_ground_CheckModel x,fun x => t_ground_CheckModel x⟩
theorem ok_ground_CheckModel:ConOk Try.prog 14 con_ground_CheckModel := ⟨k_ground_CheckModel,fun x hx => ret_tf (ps := P_ground_CheckModel) (rs := R_ground_CheckModel) (x := x) (y := t_ground_CheckModel x) e_ground_CheckModel hC_ground_CheckModel (tf_of (w_ground_CheckModel_eq x (fun z => z = t_ground_CheckModel x)) (d_ground_CheckModel x (fun z => z = t_ground_CheckModel x) (pp_ground_CheckModel x hx) (tt_ground_CheckModel x hx)))⟩
/- ground_scaleErr -/
def C_ground_scaleErr:Cons := [(95,[],con_ground_within),(74,[],con_ground_unless)]
theorem hC_ground_scaleErr:ConsOk Try.prog C_ground_scaleErr := ConsOk.cons ok_ground_within <| ConsOk.cons ok_ground_unless <| ConsOk.nil
def w_ground_scaleErr (p0:Int) (K:Int→Prop):Prop :=
  (K (s_ground_unless (s_ground_within p0 (1:Int) (20:Int)) (2:Int)))
set_option maxHeartbeats 4000000 in
theorem w_ground_scaleErr_eq (p0:Int) (K:Int→Prop):tfn F_ground_scaleErr A_ground_scaleErr C_ground_scaleErr P_ground_scaleErr R_ground_scaleErr p0 K = w_ground_scaleErr p0 K := by kernel_rfl
def s_ground_scaleErr (p0:Int):Int :=
 (s_ground_unless (s_ground_within p0 (1:Int) (20:Int)) (2:Int))
abbrev pre_ground_scaleErr (_p0:Int):List Prop := []
set_option maxHeartbeats 4000000 in
theorem d_ground_scaleErr (p0:Int) (K:Int→Prop) (_hp:∀ p∈pre_ground_scaleErr p0,p) (h:K (s_ground_scaleErr p0)):w_ground_scaleErr p0 K := by
 unfold w_ground_scaleErr
 unfold s_ground_scaleErr at h
 exact h
abbrev con_ground_scaleErr:Con := ⟨P_ground_scaleErr,R_ground_scaleErr,fun x => pre_ground_scaleErr x,fun x => s_ground_scaleErr x⟩
theorem ok_ground_scaleErr:ConOk Try.prog 78 con_ground_scaleErr := ⟨k_ground_scaleErr,fun x hx => ret_tf (ps := P_ground_scaleErr) (rs := R_ground_scaleErr) (x := x) (y := s_ground_scaleErr x) e_ground_scaleErr hC_ground_scaleErr (tf_of (w_ground_scaleErr_eq x (fun z => z = s_ground_scaleErr x)) (d_ground_scaleErr x (fun z => z = s_ground_scaleErr x) hx rfl))⟩
/- ground_CheckData_1 -/
def C_ground_CheckData_1:Cons := [(95,[],con_ground_within)]
theorem hC_ground_CheckData_1:ConsOk Try.prog C_ground_CheckData_1 := ConsOk.cons ok_ground_within <| ConsOk.nil
def w_ground_CheckData_1 (p0:Int) (K:Bool→Prop):Prop :=
  (K (s_ground_within p0 (0:Int) (100000:Int)))
set_option maxHeartbeats 4000000 in
theorem w_ground_CheckData_1_eq (p0:Int) (K:Bool→Prop):tfn F_ground_CheckData_1 A_ground_CheckData_1 C_ground_CheckData_1 P_ground_CheckData_1 R_ground_CheckData_1 p0 K = w_ground_CheckData_1 p0 K := by kernel_rfl
def s_ground_CheckData_1 (p0:Int):Bool :=
 (s_ground_within p0 (0:Int) (100000:Int))
abbrev pre_ground_CheckData_1 (_p0:Int):List Prop := []
set_option maxHeartbeats 4000000 in
theorem d_ground_CheckData_1 (p0:Int) (K:Bool→Prop) (_hp:∀ p∈pre_ground_CheckData_1 p0,p) (h:K (s_ground_CheckData_1 p0)):w_ground_CheckData_1 p0 K := by
 unfold w_ground_CheckData_1
 unfold s_ground_CheckData_1 at h
 exact h
abbrev con_ground_CheckData_1:Con := ⟨P_ground_CheckData_1,R_ground_CheckData_1,fun x => pre_ground_CheckData_1 x,fun x => s_ground_CheckData_1 x⟩
theorem ok_ground_CheckData_1:ConOk Try.prog 110 con_ground_CheckData_1 := ⟨k_ground_CheckData_1,fun x hx => ret_tf (ps := P_ground_CheckData_1) (rs := R_ground_CheckData_1) (x := x) (y := s_ground_CheckData_1 x) e_ground_CheckData_1 hC_ground_CheckData_1 (tf_of (w_ground_CheckData_1_eq x (fun z => z = s_ground_CheckData_1 x)) (d_ground_CheckData_1 x (fun z => z = s_ground_CheckData_1 x) hx rfl))⟩
/- ground_CheckData -/
def C_ground_CheckData:Cons := [(74,[],con_ground_unless),(73,[],con_ground_first),(78,[],con_ground_scaleErr),(110,[],con_ground_CheckData_1)]
theorem hC_ground_CheckData:ConsOk Try.prog C_ground_CheckData := ConsOk.cons ok_ground_unless <| ConsOk.cons ok_ground_first <| ConsOk.cons ok_ground_scaleErr <| ConsOk.cons ok_ground_CheckData_1 <| ConsOk.nil
abbrev q1_ground_CheckData (p0:(List (Int×(Int×Int)))) (y1:Int) := (p0.getD y1.toNat (zz0,(zz0,zz0)))
abbrev q0_ground_CheckData (p0:(List (Int×(Int×Int)))) (y1:Int) := (s_ground_within (q1_ground_CheckData p0 y1).2.1 zz0 (100000:Int))
abbrev q2_ground_CheckData (p0:(List (Int×(Int×Int)))) := ((s_ground_unless (decide ((List.length p0:Int) > zz0)) (10:Int)) :: ((s_ground_unless (decide ((List.length p0:Int)≤6)) (8:Int)) :: ([]:List Int)))
abbrev q3_ground_CheckData (p0:(List (Int×(Int×Int)))) (y1:Int) := (s_ground_unless (cond (q0_ground_CheckData p0 y1) (s_ground_within (q1_ground_CheckData p0 y1).2.2 zz0 (100000:Int)) false) zz2)
def w_ground_CheckData (p0:(List (Int×(Int×Int)))) (K:(Int×Int)→Prop):Prop :=
  ((lenOk (q2_ground_CheckData p0)) ∧
 (((((v_first (q2_ground_CheckData p0)) != zz0)=true) →
 (K (zz0,(v_first (q2_ground_CheckData p0))))) ∧
 ((((v_first (q2_ground_CheckData p0)) != zz0)=false) →
 (∃ n0,(loopP (fun (y1:Int) k2 =>
   ((((decide (y1 < (List.length p0:Int)))=true) →
   ((zz0≤y1) ∧
    ((y1 < (List.length p0:Int)) ∧
    ((((y1 == zz0)=false) →
    ((y1 == zz0)=(y1 == zz0))) ∧
    ((((y1 == zz0)=false) →
    ((y1 == zz0)=(y1 == zz0))) ∧
    ((((y1 == zz0)=false) →
    ((y1 == zz0)=(y1 == zz0))) ∧
    ((((y1 == zz0)=false) →
    ((y1 == zz0)=(y1 == zz0))) ∧
    ((((y1 == zz0)=false) →
    (zz0≤(wi (y1 - zz1)))) ∧
    ((((y1 == zz0)=false) →
    ((wi (y1 - zz1)) < (List.length p0:Int))) ∧
    ((((y1 == zz0)=false) →
    ((y1 == zz0)=(y1 == zz0))) ∧
    ((((y1 == zz0)=false) →
    ((y1 == zz0)=(y1 == zz0))) ∧
    ((((y1 == zz0)=false) →
    ((y1 == zz0)=(y1 == zz0))) ∧
    ((((y1 == zz0)=false) →
    ((y1 == zz0)=(y1 == zz0))) ∧
    (((y1 == zz0)=(y1 == zz0)) ∧
    ((((q0_ground_CheckData p0 y1)=true) →
    ((q0_ground_CheckData p0 y1)=(q0_ground_CheckData p0 y1))) ∧
    ((((q0_ground_CheckData p0 y1)=true) →
    ((q0_ground_CheckData p0 y1)=(q0_ground_CheckData p0 y1))) ∧
    ((((q0_ground_CheckData p0 y1)=true) →
    ((q0_ground_CheckData p0 y1)=(q0_ground_CheckData p0 y1))) ∧
    ((((q0_ground_CheckData p0 y1)=true) →
    ((q0_ground_CheckData p0 y1)=(q0_ground_CheckData p0 y1))) ∧
    (((q0_ground_CheckData p0 y1)=(q0_ground_CheckData p0 y1)) ∧
    (((decide ((q1_ground_CheckData p0 y1).2.1≤(q1_ground_CheckData p0 y1).2.2))=(decide ((q1_ground_CheckData p0 y1).2.1≤(q1_ground_CheckData p0 y1).2.2))) ∧
    ((lenOk ((s_ground_unless (s_ground_within (q1_ground_CheckData p0 y1).1 zz1 (20:Int)) zz2) :: ((q3_ground_CheckData p0 y1) :: ((s_ground_unless (cond (decide ((q1_ground_CheckData p0 y1).2.1≤(q1_ground_CheckData p0 y1).2.2)) (cond (y1 == zz0) true (decide ((q1_ground_CheckData p0 y1).1 > (p0.getD (Int.toNat (wi (y1 - zz1))) (zz0,(zz0,zz0))).1))) false) (9:Int)) :: ([]:List Int))))) ∧
    (((((v_first ((s_ground_unless (s_ground_within (q1_ground_CheckData p0 y1).1 zz1 (20:Int)) zz2) :: ((q3_ground_CheckData p0 y1) :: ((s_ground_unless (cond (decide ((q1_ground_CheckData p0 y1).2.1≤(q1_ground_CheckData p0 y1).2.2)) (cond (y1 == zz0) true (decide ((q1_ground_CheckData p0 y1).1 > (p0.getD (Int.toNat (wi (y1 - zz1))) (zz0,(zz0,zz0))).1))) false) (9:Int)) :: ([]:List Int))))) != zz0)=true) →
    (K (y1,(v_first ((s_ground_unless (s_ground_within (q1_ground_CheckData p0 y1).1 zz1 (20:Int)) zz2) :: ((q3_ground_CheckData p0 y1) :: ((s_ground_unless (cond (decide ((q1_ground_CheckData p0 y1).2.1≤(q1_ground_CheckData p0 y1).2.2)) (cond (y1 == zz0) true (decide ((q1_ground_CheckData p0 y1).1 > (p0.getD (Int.toNat (wi (y1 - zz1))) (zz0,(zz0,zz0))).1))) false) (9:Int)) :: ([]:List Int)))))))) ∧
    ((((v_first ((s_ground_unless (s_ground_within (q1_ground_CheckData p0 y1).1 zz1 (20:Int)) zz2) :: ((q3_ground_CheckData p0 y1) :: ((s_ground_unless (cond (decide ((q1_ground_CheckData p0 y1).2.1≤(q1_ground_CheckData p0 y1).2.2)) (cond (y1 == zz0) true (decide ((q1_ground_CheckData p0 y1).1 > (p0.getD (Int.toNat (wi (y1 - zz1))) (zz0,(zz0,zz0))).1))) false) (9:Int)) :: ([]:List Int))))) != zz0)=false) →
    (k2 (wi (y1 + zz1)))))))))))))))))))))))))) ∧
   (((decide (y1 < (List.length p0:Int)))=false) →
   (K (zz0,zz0))))) n0 zz0)))))
set_option maxHeartbeats 4000000 in
theorem w_ground_CheckData_eq (p0:(List (Int×(Int×Int)))) (K:(Int×Int)→Prop):tfn F_ground_CheckData A_ground_CheckData C_ground_CheckData P_ground_CheckData R_ground_CheckData p0 K = w_ground_CheckData p0 K := by kernel_rfl
def st_ground_CheckData_0 (p0:(List (Int×(Int×Int)))) (y1:Int):Int ⊕ (Int×Int) :=
 (cond (decide (y1 < (List.length p0:Int))) (cond ((v_first ((s_ground_unless (s_ground_within (p0.getD y1.toNat ((0:Int),((0:Int),(0:Int)))).1 (1:Int) (20:Int)) (2:Int)) :: ((s_ground_unless (cond (s_ground_within (p0.getD y1.toNat ((0:Int),((0:Int),(0:Int)))).2.1 (0:Int) (100000:Int)) (s_ground_within (p0.getD y1.toNat ((0:Int),((0:Int),(0:Int)))).2.2 (0:Int) (100000:Int)) false) (2:Int)) :: ((s_ground_unless (cond (decide ((p0.getD y1.toNat ((0:Int),((0:Int),(0:Int)))).2.1≤(p0.getD y1.toNat ((0:Int),((0:Int),(0:Int)))).2.2)) (cond (y1 == 0) true (decide ((p0.getD y1.toNat ((0:Int),((0:Int),(0:Int)))).1 > (p0.getD (Int.toNat (IntKind.i64.wrap (y1 - 1))) ((0:Int),((0:Int),(0:Int)))).1))) false) (9:Int)) :: ([]:List Int))))) != 0) (Sum.inr (y1,(v_first ((s_ground_unless (s_ground_within (p0.getD y1.toNat ((0:Int),((0:Int),(0:Int)))).1 (1:Int) (20:Int)) (2:Int)) :: ((s_ground_unless (cond (s_ground_within (p0.getD y1.toNat ((0:Int),((0:Int),(0:Int)))).2.1 (0:Int) (100000:Int)) (s_ground_within (p0.getD y1.toNat ((0:Int),((0:Int),(0:Int)))).2.2 (0:Int) (100000:Int)) false) (2:Int)) :: ((s_ground_unless (cond (decide ((p0.getD y1.toNat ((0:Int),((0:Int),(0:Int)))).2.1≤(p0.getD y1.toNat ((0:Int),((0:Int),(0:Int)))).2.2)) (cond (y1 == 0) true (decide ((p0.getD y1.toNat ((0:Int),((0:Int),(0:Int)))).1 > (p0.getD (Int.toNat (IntKind.i64.wrap (y1 - 1))) ((0:Int),((0:Int),(0:Int)))).1))) false) (9:Int)) :: ([]:List Int)))))))
  (Sum.inl (IntKind.i64.wrap (y1 + 1))))
  (Sum.inr ((0:Int),(0:Int))))
abbrev sp_ground_CheckData_0 (p0:(List (Int×(Int×Int)))) (y1:Int):List Prop := [(((decide (y1 < (List.length p0:Int)))=true)→((0:Int)≤y1)),
  (((decide (y1 < (List.length p0:Int)))=true)→(y1 < (List.length p0:Int))),
  (((decide (y1 < (List.length p0:Int)))=true)→(((y1 == 0)=false)→((0:Int)≤(IntKind.i64.wrap (y1 - 1))))),
  (((decide (y1 < (List.length p0:Int)))=true)→(((y1 == 0)=false)→((IntKind.i64.wrap (y1 - 1)) < (List.length p0:Int))))]
def s_ground_CheckData (p0:(List (Int×(Int×Int)))):(Int×Int) :=
 (cond ((v_first ((s_ground_unless (decide ((List.length p0:Int) > 0)) (10:Int)) :: ((s_ground_unless (decide ((List.length p0:Int)≤6)) (8:Int)) :: ([]:List Int)))) != 0) ((0:Int),(v_first ((s_ground_unless (decide ((List.length p0:Int) > 0)) (10:Int)) :: ((s_ground_unless (decide ((List.length p0:Int)≤6)) (8:Int)) :: ([]:List Int)))))
  (lpv ((0:Int),(0:Int)) (st_ground_CheckData_0 p0) (0:Int)))
abbrev pre_ground_CheckData (p0:(List (Int×(Int×Int)))):List Prop := [((((v_first ((s_ground_unless (decide ((List.length p0:Int) > 0)) (10:Int)) :: ((s_ground_unless (decide ((List.length p0:Int)≤6)) (8:Int)) :: ([]:List Int)))) != 0)=false)→(OkL (st_ground_CheckData_0 p0) (sp_ground_CheckData_0 p0) (0:Int)))]
set_option maxHeartbeats 4000000 in
theorem d_ground_CheckData (p0:(List (Int×(Int×Int)))) (K:(Int×Int)→Prop) (hp:∀ p∈pre_ground_CheckData p0,p) (h:K (s_ground_CheckData p0)):w_ground_CheckData p0 K := by
 unfold w_ground_CheckData
 unfold s_ground_CheckData at h
 obtain ⟨hp0,_⟩ := conj_of hp
 exact ⟨(lenOk_of 2 rfl (by decide)),(br' h (fun e0 h => h)
  (fun e0 h => (loop_gen (hp0 e0) h (fun y1 k1 hp h => by
 unfold st_ground_CheckData_0 at h; obtain ⟨hp0,hp1,hp2,hp3,_⟩ := conj_of hp
 exact (br' h (fun e2 h => ⟨(hp0 e2),(hp1 e2),rf,rf,rf,rf,(hp2 e2),(hp3 e2),rf,rf,rf,rf,rfl,rf,rf,rf,rf,rfl,rfl,(lenOk_of 3 rfl (by decide)),(br' h (fun e3 h => h)
  (fun e3 h => h))⟩)
  (fun e2 h => h))))))⟩
theorem tx_cdh {n:Int} (h:0≤n):v_first [s_ground_unless (decide (n > 0)) 10,s_ground_unless (decide (n≤6)) 8]=cond (n == 0) 10 (cond (decide (n > 6)) 8 0) := by
 unfold s_ground_unless
 rcases int0 n with ⟨h0,_,e0⟩ | ⟨h0,_,e0⟩
 ·subst h0; rfl
 ·rw [e0,decide_eq_true (show n > 0 by omega)]
  rcases dec0 (a := 6) (b := n) with ⟨_,_,_,e1,e2⟩ | ⟨_,_,_,e1,e2⟩ <;> rw [e1,e2] <;> rfl
theorem l_ground_CheckData_0 (p0:List (Int×Int×Int)) (hl:lenOk p0):OkL (st_ground_CheckData_0 p0) (sp_ground_CheckData_0 p0) 0∧lpv ((0,0):Int×Int) (st_ground_CheckData_0 p0) 0 = v_scan (v_cd1 p0) ((0,0):Int×Int) 0 p0 := by
 refine scan_is p0 (0,0,0) (v_cd1 p0) ((0,0):Int×Int) hl ?_ ?_
 ·refine ⟨by simp only [sp_ground_CheckData_0,List.forall_mem_cons,decide_eq_true_eq]; simp,by simp [st_ground_CheckData_0]⟩
 ·intro j hj
  have hj' : (j:Int) < p0.length := by omega
  have hw := wrap_nat (show (j:Int)≤9223372036854775806 by unfold lenOk at hl; omega)
  have hw2:IntKind.i64.wrap ((j:Int) - 1)=(j:Int) - 1 := wrap_id (by omega) (by unfold lenOk at hl; omega)
  refine ⟨by simp only [sp_ground_CheckData_0,List.forall_mem_cons,decide_eq_true_eq,Int.toNat_natCast]; rw [hw2]; and_intros <;> first | (intro p hp; cases hp; done) | (intros; first | omega | (simp_all; done) | (simp_all; omega)),?_⟩
  simp only [st_ground_CheckData_0,hj',decide_true,Int.toNat_natCast,cond_true,hw]
  unfold v_cd1
  rw [hw2]
  rcases int0 (j:Int) with ⟨hj0,_,z⟩ | ⟨hj0,_,z⟩ <;> rw [z]
  ·unfold s_ground_unless
   simp only [tx_withinG]
   cases decide ((p0.getD j (0,0,0)).2.1≤(p0.getD j (0,0,0)).2.2) <;> cases s_base_Within (p0.getD j (0,0,0)).1 1 20 <;> cases s_base_Within (p0.getD j (0,0,0)).2.1 0 100000 <;> cases s_base_Within (p0.getD j (0,0,0)).2.2 0 100000 <;> rfl
  ·unfold s_ground_unless
   simp only [tx_withinG]
   cases decide ((p0.getD j (0,0,0)).2.1≤(p0.getD j (0,0,0)).2.2) <;> cases decide ((p0.getD j (0,0,0)).1 > (p0.getD ((j:Int) - 1).toNat (0,0,0)).1) <;> cases s_base_Within (p0.getD j (0,0,0)).1 1 20 <;> cases s_base_Within (p0.getD j (0,0,0)).2.1 0 100000 <;> cases s_base_Within (p0.getD j (0,0,0)).2.2 0 100000 <;> rfl
abbrev t_ground_CheckData (p0:List (Int×Int×Int)):Int×Int := v_cd p0
abbrev qre_ground_CheckData (_p0:List (Int×Int×Int)):List Prop := []
theorem pp_ground_CheckData (p0:List (Int×Int×Int)) (_hq:∀ p∈qre_ground_CheckData p0,p):∀ p∈pre_ground_CheckData p0,p := by
 simp only [pre_ground_CheckData,List.forall_mem_cons]
 refine ⟨fun h => ?_,by simp⟩
 rw [tx_cdh (by omega)] at h
 refine (l_ground_CheckData_0 p0 (lenOk_le (n := 6) ?_ (by decide))).1
 cases c:decide ((p0.length:Int) > 6)
 ·have := of_decide_eq_false c; omega
 ·rw [c] at h
  cases c2:((p0.length:Int) == 0) <;> rw [c2] at h <;> cases h
theorem tt_ground_CheckData (p0:List (Int×Int×Int)) (_hq:∀ p∈qre_ground_CheckData p0,p):s_ground_CheckData p0 = t_ground_CheckData p0 := by
 unfold s_ground_CheckData t_ground_CheckData v_cd
 rw [tx_cdh (by omega)]
 cases h:decide ((p0.length:Int) > 6)
 ·rw [(l_ground_CheckData_0 p0 (lenOk_le (n := 6) (by have := of_decide_eq_false h; omega) (by decide))).2]
  cases ((p0.length:Int) == 0) <;> rfl
 ·cases ((p0.length:Int) == 0) <;> rfl

abbrev con_ground_CheckData:Con := ⟨P_ground_CheckData,R_ground_CheckData,fun x => qre_ground_CheckData x,fun x => t_ground_CheckData x⟩
theorem ok_ground_CheckData:ConOk Try.prog 52 con_ground_CheckData := ⟨k_ground_CheckData,fun x hx => ret_tf (ps := P_ground_CheckData) (rs := R_ground_CheckData) (x := x) (y := t_ground_CheckData x) e_ground_CheckData hC_ground_CheckData (tf_of (w_ground_CheckData_eq x (fun z => z = t_ground_CheckData x)) (d_ground_CheckData x (fun z => z = t_ground_CheckData x) (pp_ground_CheckData x hx) (tt_ground_CheckData x hx)))⟩
/- ref04_CopyModel -/
def C_ref04_CopyModel:Cons := []
theorem hC_ref04_CopyModel:ConsOk Try.prog C_ref04_CopyModel := ConsOk.nil
def w_ref04_CopyModel (p0:(List (Int×Int))) (K:(List (Int×Int))→Prop):Prop :=
  (((((List.length ([]:List (Int×Int))) + p0.length) * 16)≤140737488355328) ∧
 (K (([]:List (Int×Int)) ++ p0)))
set_option maxHeartbeats 4000000 in
theorem w_ref04_CopyModel_eq (p0:(List (Int×Int))) (K:(List (Int×Int))→Prop):tfnA F_ref04_CopyModel A_ref04_CopyModel C_ref04_CopyModel P_ref04_CopyModel E_ref04_CopyModel p0 K = w_ref04_CopyModel p0 K := by kernel_rfl
def s_ref04_CopyModel (p0:(List (Int×Int))):(List (Int×Int)) :=
 (([]:List (Int×Int)) ++ p0)
abbrev pre_ref04_CopyModel (p0:(List (Int×Int))):List Prop := [((((List.length ([]:List (Int×Int))) + p0.length) * 16)≤140737488355328)]
set_option maxHeartbeats 4000000 in
theorem d_ref04_CopyModel (p0:(List (Int×Int))) (K:(List (Int×Int))→Prop) (hp:∀ p∈pre_ref04_CopyModel p0,p) (h:K (s_ref04_CopyModel p0)):w_ref04_CopyModel p0 K := by
 unfold w_ref04_CopyModel
 unfold s_ref04_CopyModel at h
 obtain ⟨hp0,_⟩ := conj_of hp
 exact ⟨(hp0),h⟩
abbrev con_ref04_CopyModel:Con := ⟨P_ref04_CopyModel,[.agg (.sl E_ref04_CopyModel)],fun x => pre_ref04_CopyModel x,fun x => s_ref04_CopyModel x⟩
theorem ok_ref04_CopyModel:ConOOk Try.prog 15 con_ref04_CopyModel := conA_tf (e := E_ref04_CopyModel) (ps := P_ref04_CopyModel) k_ref04_CopyModel e_ref04_CopyModel hC_ref04_CopyModel (fun x hx => tfa_of (w_ref04_CopyModel_eq x (fun z => z = s_ref04_CopyModel x)) (d_ref04_CopyModel x (fun z => z = s_ref04_CopyModel x) hx rfl))
/- ground_modelErr -/
def C_ground_modelErr:Cons := [(14,[],con_ground_CheckModel)]
theorem hC_ground_modelErr:ConsOk Try.prog C_ground_modelErr := ConsOk.cons ok_ground_CheckModel <| ConsOk.nil
def w_ground_modelErr (p0:(List (Int×Int))) (K:Int→Prop):Prop :=
  (K (v_cm p0).2)
set_option maxHeartbeats 4000000 in
theorem w_ground_modelErr_eq (p0:(List (Int×Int))) (K:Int→Prop):tfn F_ground_modelErr A_ground_modelErr C_ground_modelErr P_ground_modelErr R_ground_modelErr p0 K = w_ground_modelErr p0 K := by kernel_rfl
def s_ground_modelErr (p0:(List (Int×Int))):Int :=
 (v_cm p0).2
abbrev pre_ground_modelErr (_p0:(List (Int×Int))):List Prop := []
set_option maxHeartbeats 4000000 in
theorem d_ground_modelErr (p0:(List (Int×Int))) (K:Int→Prop) (_hp:∀ p∈pre_ground_modelErr p0,p) (h:K (s_ground_modelErr p0)):w_ground_modelErr p0 K := by
 unfold w_ground_modelErr
 unfold s_ground_modelErr at h
 exact h
abbrev con_ground_modelErr:Con := ⟨P_ground_modelErr,R_ground_modelErr,fun x => pre_ground_modelErr x,fun x => s_ground_modelErr x⟩
theorem ok_ground_modelErr:ConOk Try.prog 77 con_ground_modelErr := ⟨k_ground_modelErr,fun x hx => ret_tf (ps := P_ground_modelErr) (rs := R_ground_modelErr) (x := x) (y := s_ground_modelErr x) e_ground_modelErr hC_ground_modelErr (tf_of (w_ground_modelErr_eq x (fun z => z = s_ground_modelErr x)) (d_ground_modelErr x (fun z => z = s_ground_modelErr x) hx rfl))⟩
/- ground_dataErr -/
def C_ground_dataErr:Cons := [(52,[],con_ground_CheckData)]
theorem hC_ground_dataErr:ConsOk Try.prog C_ground_dataErr := ConsOk.cons ok_ground_CheckData <| ConsOk.nil
def w_ground_dataErr (p0:(List (Int×(Int×Int)))) (K:Int→Prop):Prop :=
  (K (v_cd p0).2)
set_option maxHeartbeats 4000000 in
theorem w_ground_dataErr_eq (p0:(List (Int×(Int×Int)))) (K:Int→Prop):tfn F_ground_dataErr A_ground_dataErr C_ground_dataErr P_ground_dataErr R_ground_dataErr p0 K = w_ground_dataErr p0 K := by kernel_rfl
def s_ground_dataErr (p0:(List (Int×(Int×Int)))):Int :=
 (v_cd p0).2
abbrev pre_ground_dataErr (_p0:(List (Int×(Int×Int)))):List Prop := []
set_option maxHeartbeats 4000000 in
theorem d_ground_dataErr (p0:(List (Int×(Int×Int)))) (K:Int→Prop) (_hp:∀ p∈pre_ground_dataErr p0,p) (h:K (s_ground_dataErr p0)):w_ground_dataErr p0 K := by
 unfold w_ground_dataErr
 unfold s_ground_dataErr at h
 exact h
abbrev con_ground_dataErr:Con := ⟨P_ground_dataErr,R_ground_dataErr,fun x => pre_ground_dataErr x,fun x => s_ground_dataErr x⟩
theorem ok_ground_dataErr:ConOk Try.prog 101 con_ground_dataErr := ⟨k_ground_dataErr,fun x hx => ret_tf (ps := P_ground_dataErr) (rs := R_ground_dataErr) (x := x) (y := s_ground_dataErr x) e_ground_dataErr hC_ground_dataErr (tf_of (w_ground_dataErr_eq x (fun z => z = s_ground_dataErr x)) (d_ground_dataErr x (fun z => z = s_ground_dataErr x) hx rfl))⟩
/- slices_Backwardapi_GroundLayer_api_GroundLayer -/
def C_slices_Backwardapi_GroundLayer_api_GroundLayer:Cons := []
theorem hC_slices_Backwardapi_GroundLayer_api_GroundLayer:ConsOk Try.prog C_slices_Backwardapi_GroundLayer_api_GroundLayer := ConsOk.nil
def w_slices_Backwardapi_GroundLayer_api_GroundLayer (p0:(List (Int×Int))) (K:((List (Int×Int))×PUnit)→Prop):Prop :=
  (K (p0,()))
set_option maxHeartbeats 4000000 in
theorem w_slices_Backwardapi_GroundLayer_api_GroundLayer_eq (p0:(List (Int×Int))) (K:((List (Int×Int))×PUnit)→Prop):tfn F_slices_Backwardapi_GroundLayer_api_GroundLayer A_slices_Backwardapi_GroundLayer_api_GroundLayer C_slices_Backwardapi_GroundLayer_api_GroundLayer P_slices_Backwardapi_GroundLayer_api_GroundLayer R_slices_Backwardapi_GroundLayer_api_GroundLayer p0 K = w_slices_Backwardapi_GroundLayer_api_GroundLayer p0 K := by kernel_rfl
def s_slices_Backwardapi_GroundLayer_api_GroundLayer (p0:(List (Int×Int))):((List (Int×Int))×PUnit) :=
 (p0,())
abbrev pre_slices_Backwardapi_GroundLayer_api_GroundLayer (_p0:(List (Int×Int))):List Prop := []
set_option maxHeartbeats 4000000 in
theorem d_slices_Backwardapi_GroundLayer_api_GroundLayer (p0:(List (Int×Int))) (K:((List (Int×Int))×PUnit)→Prop) (_hp:∀ p∈pre_slices_Backwardapi_GroundLayer_api_GroundLayer p0,p) (h:K (s_slices_Backwardapi_GroundLayer_api_GroundLayer p0)):w_slices_Backwardapi_GroundLayer_api_GroundLayer p0 K := by
 unfold w_slices_Backwardapi_GroundLayer_api_GroundLayer
 unfold s_slices_Backwardapi_GroundLayer_api_GroundLayer at h
 exact h
abbrev con_slices_Backwardapi_GroundLayer_api_GroundLayer:Con := ⟨P_slices_Backwardapi_GroundLayer_api_GroundLayer,R_slices_Backwardapi_GroundLayer_api_GroundLayer,fun x => pre_slices_Backwardapi_GroundLayer_api_GroundLayer x,fun x => s_slices_Backwardapi_GroundLayer_api_GroundLayer x⟩
theorem ok_slices_Backwardapi_GroundLayer_api_GroundLayer:ConOk Try.prog 125 con_slices_Backwardapi_GroundLayer_api_GroundLayer := ⟨k_slices_Backwardapi_GroundLayer_api_GroundLayer,fun x hx => ret_tf (ps := P_slices_Backwardapi_GroundLayer_api_GroundLayer) (rs := R_slices_Backwardapi_GroundLayer_api_GroundLayer) (x := x) (y := s_slices_Backwardapi_GroundLayer_api_GroundLayer x) e_slices_Backwardapi_GroundLayer_api_GroundLayer hC_slices_Backwardapi_GroundLayer_api_GroundLayer (tf_of (w_slices_Backwardapi_GroundLayer_api_GroundLayer_eq x (fun z => z = s_slices_Backwardapi_GroundLayer_api_GroundLayer x)) (d_slices_Backwardapi_GroundLayer_api_GroundLayer x (fun z => z = s_slices_Backwardapi_GroundLayer_api_GroundLayer x) hx rfl))⟩
/- slices_Backwardapi_GroundLayer_api_GroundLayer_1 -/
abbrev con_slices_Backwardapi_GroundLayer_api_GroundLayer_1:Con := ⟨.fn 144 [.sl (.pr (.int .i64) (.int .i64))] :: .one (.int .i64) :: [.agg (.pr (.int .i64) (.int .i64))],[.one (.sl (tyPs (.one (.int .i64) :: [.agg (.pr (.int .i64) (.int .i64))])))],fun x => [x.1.1.length≤1000000],fun x => v_bwd 0 x.1.1⟩
theorem ok_slices_Backwardapi_GroundLayer_api_GroundLayer_1:ConIOk Try.prog 144 con_slices_Backwardapi_GroundLayer_api_GroundLayer_1 := by
 refine ⟨rfl,k_slices_Backwardapi_GroundLayer_api_GroundLayer_1,rfl,fun x hx => ?_⟩
 obtain ⟨h1,_⟩ := conj_of hx
 exact it_bwd (c := 2) (Ty.enc (.pr (.int .i64) (.int .i64))) e_slices_Backwardapi_GroundLayer_api_GroundLayer_1 (fun _ => rfl) x.1 false (Nat.le_trans h1 (by decide))
/- ground_divisor -/
def C_ground_divisor:Cons := []
theorem hC_ground_divisor:ConsOk Try.prog C_ground_divisor := ConsOk.nil
def w_ground_divisor (p0:Int) (p1:Int) (K:Int→Prop):Prop :=
  (∃ n0,(loopP (fun (y1:(Int×Int)) k2 =>
  ((((y1.1 != 0)=true) →
  ((y1.1 ≠ (0:Int)) ∧
   (k2 ((Int.tmod y1.2 y1.1),y1.1)))) ∧
  (((y1.1 != 0)=false) →
  (K (max y1.2 (1:Int)))))) n0 (p1,p0)))
set_option maxHeartbeats 4000000 in
theorem w_ground_divisor_eq (p0:Int) (p1:Int) (K:Int→Prop):tfn F_ground_divisor A_ground_divisor C_ground_divisor P_ground_divisor R_ground_divisor (p0,p1) K = w_ground_divisor p0 p1 K := by kernel_rfl
def st_ground_divisor_0 (_p0:Int) (_p1:Int) (y0:(Int×Int)):(Int×Int) ⊕ Int :=
 (cond (y0.1 != 0) (Sum.inl ((Int.tmod y0.2 y0.1),y0.1))
  (Sum.inr (max y0.2 (1:Int))))
abbrev sp_ground_divisor_0 (_p0:Int) (_p1:Int) (y0:(Int×Int)):List Prop := [(((y0.1 != 0)=true)→(y0.1 ≠ (0:Int)))]
def s_ground_divisor (p0:Int) (p1:Int):Int :=
 (lpv (0:Int) (st_ground_divisor_0 p0 p1) (p1,p0))
abbrev pre_ground_divisor (p0:Int) (p1:Int):List Prop := [(OkL (st_ground_divisor_0 p0 p1) (sp_ground_divisor_0 p0 p1) (p1,p0))]
set_option maxHeartbeats 4000000 in
theorem d_ground_divisor (p0:Int) (p1:Int) (K:Int→Prop) (hp:∀ p∈pre_ground_divisor p0 p1,p) (h:K (s_ground_divisor p0 p1)):w_ground_divisor p0 p1 K := by
 unfold w_ground_divisor
 unfold s_ground_divisor at h
 obtain ⟨hp0,_⟩ := conj_of hp
 exact (loop_gen (hp0) h (fun y0 k0 hp h => by
 unfold st_ground_divisor_0 at h; obtain ⟨hp0,_⟩ := conj_of hp
 exact (br' h (fun e1 h => ⟨(hp0 e1),h⟩)
  (fun e1 h => h))))
/-- How two numbers compare. -/
def v_cmp (a b:Int):Int := cond (decide (a < b)) (-1) (cond (decide (a > b)) 1 0)
theorem v_cmp_lt {a b:Int}:v_cmp a b < 0 ↔ a < b := by
 unfold v_cmp
 rcases Int.lt_trichotomy a b with h | h | h
 ·simp [h]
 ·subst h; simp
 ·rw [decide_eq_false (show ¬ a < b by omega),decide_eq_true (show a > b from h)]; simp; omega
theorem v_cmp_gt {a b:Int}:0 < v_cmp a b ↔ b < a := by
 unfold v_cmp
 rcases Int.lt_trichotomy a b with h | h | h
 ·rw [decide_eq_true h]; simp; omega
 ·subst h; simp
 ·rw [decide_eq_false (show ¬ a < b by omega),decide_eq_true (show a > b from h)]; simp; omega
/-- A rational number as a pair,in lowest terms. -/
def v_frac (q:Rat):Int×Int := (q.num,(q.den:Int))
theorem v_frac_pos (q:Rat):0 < (v_frac q).2 := by have := q.den_pos; unfold v_frac; simp only; omega
theorem v_low_frac {n d:Int} (hd:0 < d):v_low (n,d)=v_frac ((n:Rat) / (d:Rat)) := by
 unfold v_low v_frac v_gcd
 rw [← Rat.divInt_eq_div,Rat.num_divInt,Rat.den_divInt,if_neg (by omega),Int.sign_eq_one_of_pos hd,Int.one_mul]
 simp only
 rw [Int.gcd_comm d n]
 congr 1
 rw [Int.natCast_ediv]
 congr 1
 omega
/-- The rational number of a pair. -/
def v_rq (x:Int×Int):Rat := (x.1:Rat) / (x.2:Rat)
theorem v_rq_frac (q:Rat):v_rq (v_frac q)=q := by
 unfold v_rq v_frac
 simp only
 rw [← Rat.divInt_eq_div,Rat.num_divInt_den]
theorem v_rcast {a b:Int}:(a:Rat)≤(b:Rat) ↔ a≤b := Rat.intCast_le_intCast
theorem v_rpos {a:Int} (h:0 < a):(0:Rat) < (a:Rat) := Rat.intCast_pos.2 h
theorem v_rnn {a:Int} (h:0≤a):(0:Rat)≤(a:Rat) := Rat.intCast_nonneg.2 h
theorem v_rle_frac {p q:Rat}:p≤q ↔ (v_frac p).1 * (v_frac q).2≤(v_frac q).1 * (v_frac p).2 := Rat.le_iff p q
theorem v_rlt_frac {p q:Rat}:p < q ↔ (v_frac p).1 * (v_frac q).2 < (v_frac q).1 * (v_frac p).2 := Rat.lt_iff p q
/-- A quotient of two whole numbers. -/
theorem v_rdiv_le {a b:Rat} {c:Rat} (hb:0 < b):a / b≤c ↔ a≤c * b := by
 rw [← Rat.not_lt,← Rat.not_lt,Rat.lt_div_iff hb]
theorem v_rle_div {a b:Rat} {c:Rat} (hb:0 < b):c≤a / b ↔ c * b≤a := by
 rw [← Rat.not_lt,← Rat.not_lt,Rat.div_lt_iff hb]
/-- Of equal numbers the lowest terms are the smallest. -/
theorem v_frac_le {n d:Int} (hn:0≤n) (hd:0 < d):0≤(v_frac ((n:Rat) / (d:Rat))).1∧(v_frac ((n:Rat) / (d:Rat))).1≤n∧(v_frac ((n:Rat) / (d:Rat))).2≤d := by
 rw [← v_low_frac hd]
 have hg:0 < v_gcd n d := v_gcd_pos (by omega)
 unfold v_low
 simp only
 exact ⟨Int.ediv_nonneg hn (by omega),Int.ediv_le_self _ hn,Int.ediv_le_self _ (by omega)⟩
/-- One layer above what lies below. -/
def v_step (s:Int) (x:Int×Int) (r:Rat):Rat := (x.1:Rat) * (r * ((x.2 + s:Int):Rat) + (x.1:Rat) * (x.2:Rat)) / ((x.1:Rat) * ((x.2 + s:Int):Rat) + r * (x.2:Rat))
/-- The response of layers at a scale. -/
def v_resp (s:Int):List (Int×Int)→Rat
 | [] => 0
 | x :: r => match r with
  | [] => (x.1:Rat)
  | _ :: _ => v_step s x (v_resp s r)
theorem v_resp_c (s:Int) (x:Int×Int) {r:List (Int×Int)} (h:r ≠ []):v_resp s (x :: r)=v_step s x (v_resp s r) := by
 cases r with
 | nil => exact absurd rfl h
 | cons y r => rfl
theorem v_step_den {s:Int} {x:Int×Int} {r:Rat} (hs:0 < s) (hc:0 < x.1) (ht:0≤x.2) (hr:0≤r):(0:Rat) < (x.1:Rat) * ((x.2 + s:Int):Rat) + r * (x.2:Rat) := by
 have h1:(0:Rat) < (x.1:Rat) * ((x.2 + s:Int):Rat) := Rat.mul_pos (v_rpos hc) (v_rpos (by omega))
 have h2:(0:Rat)≤r * (x.2:Rat) := Rat.mul_nonneg hr (v_rnn ht)
 grind
/-- Between bounds of the conductivity and of what lies below. -/
theorem v_step_lo {s:Int} {x:Int×Int} {r lo:Rat} (hs:0 < s) (hc:0 < x.1) (ht:0≤x.2) (hl:0 < lo) (h1:lo≤(x.1:Rat)) (h2:lo≤r):lo≤v_step s x r := by
 have hd := v_step_den (s := s) (x := x) (r := r) hs hc ht (by grind)
 unfold v_step
 rw [v_rle_div hd]
 have hS:((x.2 + s:Int):Rat)=(x.2:Rat) + (s:Rat) := Rat.intCast_add _ _
 have ps := v_rpos hs
 have pt := v_rnn ht
 rw [hS]
 generalize (x.1:Rat)=c at *
 generalize (x.2:Rat)=t at *
 generalize (s:Rat)=S at *
 -- c (r (t+S) + c t) - lo (c (t+S) + r t)=c (r - lo) (t+S) + t (c c - lo r)
 have e1:0≤c * (r - lo) * S := Rat.mul_nonneg (Rat.mul_nonneg (by grind) (by grind)) (by grind)
 have e2:0≤t * (c * (c - lo)) := Rat.mul_nonneg pt (Rat.mul_nonneg (by grind) (by grind))
 have e3:0≤t * (r * (c - lo)) := Rat.mul_nonneg pt (Rat.mul_nonneg (by grind) (by grind))
 grind
theorem v_step_hi {s:Int} {x:Int×Int} {r hi:Rat} (hs:0 < s) (hc:0 < x.1) (ht:0≤x.2) (hr:0 < r) (h1:(x.1:Rat)≤hi) (h2:r≤hi):v_step s x r≤hi := by
 have hd := v_step_den (s := s) (x := x) (r := r) hs hc ht (by grind)
 have hc' := v_rpos hc
 unfold v_step
 rw [v_rdiv_le hd]
 have hS:((x.2 + s:Int):Rat)=(x.2:Rat) + (s:Rat) := Rat.intCast_add _ _
 have ps := v_rpos hs
 have pt := v_rnn ht
 rw [hS]
 generalize (x.1:Rat)=c at *
 generalize (x.2:Rat)=t at *
 generalize (s:Rat)=S at *
 have e1:0≤c * (hi - r) * S := Rat.mul_nonneg (Rat.mul_nonneg (by grind) (by grind)) (by grind)
 have e2:0≤t * (c * (hi - c)) := Rat.mul_nonneg pt (Rat.mul_nonneg (by grind) (by grind))
 have e3:0≤t * (r * (hi - c)) := Rat.mul_nonneg pt (Rat.mul_nonneg (by grind) (by grind))
 grind
/-- Whether a layer,layers,are valid. -/
structure v_lok (x:Int×Int):Prop where
 c:1≤x.1∧x.1≤20
 t:0≤x.2∧x.2≤10
theorem v_resp_lo {s:Int} {lo:Rat} (hs:0 < s) (hl:0 < lo):∀ {l:List (Int×Int)},l ≠ []→(∀ x∈l,v_lok x)→(∀ x∈l,lo≤(x.1:Rat))→lo≤v_resp s l
 | [],h,_,_ => absurd rfl h
 | [x],_,_,h => h x (by simp)
 | x :: y :: r,_,hk,h => by
  rw [v_resp_c s x (by simp)]
  have hx := hk x (by simp)
  exact v_step_lo hs (by have := hx.c; omega) hx.t.1 hl (h x (by simp)) (v_resp_lo hs hl (by simp) (fun z hz => hk z (List.mem_cons_of_mem _ hz)) (fun z hz => h z (List.mem_cons_of_mem _ hz)))
theorem v_resp_1le {s:Int} (hs:0 < s) {l:List (Int×Int)} (h:l ≠ []) (hk:∀ x∈l,v_lok x):1≤v_resp s l :=
 v_resp_lo hs (by decide) h hk (fun x hx => by have := v_rcast.2 (hk x hx).c.1; simpa using this)
theorem v_resp_hi {s:Int} {hi:Rat} (hs:0 < s):∀ {l:List (Int×Int)},l ≠ []→(∀ x∈l,v_lok x)→(∀ x∈l,(x.1:Rat)≤hi)→v_resp s l≤hi
 | [],h,_,_ => absurd rfl h
 | [x],_,_,h => h x (by simp)
 | x :: y :: r,_,hk,h => by
  rw [v_resp_c s x (by simp)]
  have hx := hk x (by simp)
  have h1 := v_resp_1le (s := s) (l := y :: r) hs (by simp) (fun z hz => hk z (List.mem_cons_of_mem _ hz))
  exact v_step_hi hs (by have := hx.c; omega) hx.t.1 (by grind) (h x (by simp)) (v_resp_hi hs (by simp) (fun z hz => hk z (List.mem_cons_of_mem _ hz)) (fun z hz => h z (List.mem_cons_of_mem _ hz)))
theorem v_resp_le20 {s:Int} (hs:0 < s) {l:List (Int×Int)} (h:l ≠ []) (hk:∀ x∈l,v_lok x):v_resp s l≤20 :=
 v_resp_hi hs h hk (fun x hx => by have := v_rcast.2 (hk x hx).c.2; simpa using this)
/-- The same thicknesses,and conductivities that are no less. -/
inductive v_above:List (Int×Int)→List (Int×Int)→Prop
 | nil:v_above [] []
 | cons {x y:Int×Int} {l r:List (Int×Int)} (h1:x.1≤y.1) (h2:x.2 = y.2) (h:v_above l r):v_above (x :: l) (y :: r)
/-- How great the parts are,at most: of n layers,800^(n - 1). -/
theorem v_step_parts {s:Int} {x:Int×Int} {r:Rat} (hs:1≤s∧s≤20) (hx:v_lok x) (h1:1≤r) (h2:r≤20) {D:Int} (hD:(v_frac r).2≤D) :
  0 < x.1 * (v_frac r).2 * (x.2 + s) + (v_frac r).1 * x.2∧x.1 * (v_frac r).2 * (x.2 + s) + (v_frac r).1 * x.2≤800 * D∧0≤x.1 * ((v_frac r).1 * (x.2 + s) + x.1 * x.2 * (v_frac r).2)∧x.1 * ((v_frac r).1 * (x.2 + s) + x.1 * x.2 * (v_frac r).2)≤16000 * D ∧
  v_step s x r = ((x.1 * ((v_frac r).1 * (x.2 + s) + x.1 * x.2 * (v_frac r).2):Int):Rat) / ((x.1 * (v_frac r).2 * (x.2 + s) + (v_frac r).1 * x.2:Int):Rat)∧0≤(v_frac r).1∧(v_frac r).1≤20 * D := by
 have hp := v_frac_pos r
 have hr:r = v_rq (v_frac r) := (v_rq_frac r).symm
 have hn:(v_frac r).1≤20 * (v_frac r).2 := by
  have := v_rle_frac.1 h2
  have e:v_frac 20 = (20,1) := rfl
  rw [e] at this
  simp only at this
  omega
 have hn0:0≤(v_frac r).1 := Rat.num_nonneg.2 (by grind)
 generalize hN:(v_frac r).1 = N at *
 generalize hM:(v_frac r).2 = M at *
 have hc := hx.c
 have ht := hx.t
 have m1 := mul_in (x := x.1) (y := M) (by omega) hc.2 (by omega) (Int.le_refl M)
 have m2 := mul_in (x := x.1 * M) (y := x.2 + s) m1.1 m1.2 (by omega) (show x.2 + s≤30 by omega)
 have m3 := mul_in (x := N) (y := x.2) hn0 hn ht.1 ht.2
 have m4 := mul_in (x := N) (y := x.2 + s) hn0 hn (by omega) (show x.2 + s≤30 by omega)
 have m5 := mul_in (x := x.1) (y := x.2) (by omega) hc.2 ht.1 ht.2
 have m6 := mul_in (x := x.1 * x.2) (y := M) m5.1 m5.2 (by omega) (Int.le_refl M)
 have m7 := mul_in (x := x.1) (y := N * (x.2 + s) + x.1 * x.2 * M) (a := 20) (b := 20 * M * 30 + 20 * 10 * M) (by omega) hc.2 (by omega) (by omega)
 have m8:0 < x.1 * M * (x.2 + s) := Int.mul_pos (Int.mul_pos (by omega) hp) (by omega)
 refine ⟨by omega,by omega,m7.1,by omega,?_,hn0,by omega⟩
 have hMr := v_rpos hp
 have hd := v_step_den (s := s) (x := x) (r := r) (by omega) (by omega) ht.1 (by grind)
 have hd2:(0:Rat) < ((x.1 * M * (x.2 + s) + N * x.2:Int):Rat) := v_rpos (by omega)
 have hrq:r * (M:Rat)=(N:Rat) := by
  rw [hr]; unfold v_rq; rw [hN,hM]; exact Rat.div_mul_cancel (by grind)
 unfold v_step
 have c1:((x.1 * ((N * (x.2 + s)) + x.1 * x.2 * M):Int):Rat)=(x.1:Rat) * ((N:Rat) * ((x.2 + s:Int):Rat) + (x.1:Rat) * (x.2:Rat) * (M:Rat)) := by
  rw [Rat.intCast_mul,Rat.intCast_add,Rat.intCast_mul,Rat.intCast_mul,Rat.intCast_mul]
 have c2:((x.1 * M * (x.2 + s) + N * x.2:Int):Rat)=(x.1:Rat) * (M:Rat) * ((x.2 + s:Int):Rat) + (N:Rat) * (x.2:Rat) := by
  rw [Rat.intCast_add,Rat.intCast_mul,Rat.intCast_mul,Rat.intCast_mul]
 rw [c1]
 rw [c2] at hd2 ⊢
 rw [← hrq] at hd2 ⊢
 generalize ((x.2 + s:Int):Rat)=S at *
 generalize (x.1:Rat)=c at *
 generalize (x.2:Rat)=t at *
 generalize (M:Rat)=m at *
 have e1:c * m * S + r * m * t = (c * S + r * t) * m := by grind
 have e2:c * (r * m * S + c * t * m)=(c * (r * S + c * t)) * m := by grind
 rw [e1,e2]
 rw [Rat.div_def,Rat.div_def,Rat.inv_mul_rev]
 have:m * m⁻¹ = 1 := Rat.mul_inv_cancel _ (by grind)
 grind
theorem l_ground_divisor_0 (p0 p1:Int) (h0:0≤p0) (h1:0 < p1) (h2:p1≤9223372036854775807):OkL (st_ground_divisor_0 p0 p1) (sp_ground_divisor_0 p0 p1) (p1,p0)∧lpv 0 (st_ground_divisor_0 p0 p1) (p1,p0)=v_gcd p0 p1 := by
 refine loop_is (fun (y:Int×Int) => 0≤y.1∧0≤y.2∧0 < v_gcd y.2 y.1) (fun (y:Int×Int) => y.1.natAbs) (fun (y:Int×Int) => v_gcd y.2 y.1) ?_ ⟨by omega,h0,v_gcd_pos (by omega)⟩ (by unfold fuel; simp only; omega)
 rintro ⟨x,y⟩ ⟨g1,g2,g3⟩
 refine ⟨by simp only [sp_ground_divisor_0,List.forall_mem_cons]; simp,?_⟩
 simp only at g1 g2 g3 ⊢
 unfold st_ground_divisor_0
 simp only
 rcases int0 x with ⟨rfl,e,_⟩ | ⟨hx,e,_⟩
 ·rw [e]
  have e0:v_gcd y 0 = y := by unfold v_gcd; rw [Int.gcd_zero_right]; omega
  rw [e0] at g3 ⊢
  simp only [cond_false]
  omega
 ·rw [e]
  have := v_tmod_lt (a := y) hx
  have hs := v_gcd_step y x
  have hn:0≤y.tmod x := Int.tmod_nonneg _ g2
  exact ⟨⟨hn,g1,by rw [hs]; exact g3⟩,this,hs⟩
abbrev t_ground_divisor (p0 p1:Int):Int := v_gcd p0 p1
abbrev qre_ground_divisor (p0 p1:Int):List Prop := [0≤p0∧0 < p1∧p1≤9223372036854775807]
theorem pp_ground_divisor (p0 p1:Int) (hq:∀ p∈qre_ground_divisor p0 p1,p):∀ p∈pre_ground_divisor p0 p1,p := by
 obtain ⟨h1,h2,h3⟩ := (conj_of hq).1
 simp only [pre_ground_divisor,List.forall_mem_cons]
 exact ⟨(l_ground_divisor_0 p0 p1 h1 h2 h3).1,by simp⟩
theorem tt_ground_divisor (p0 p1:Int) (hq:∀ p∈qre_ground_divisor p0 p1,p):s_ground_divisor p0 p1 = t_ground_divisor p0 p1 := by
 obtain ⟨h1,h2,h3⟩ := (conj_of hq).1
 exact (l_ground_divisor_0 p0 p1 h1 h2 h3).2

abbrev con_ground_divisor:Con := ⟨P_ground_divisor,R_ground_divisor,fun x => qre_ground_divisor x.1 x.2,fun x => t_ground_divisor x.1 x.2⟩
theorem ok_ground_divisor:ConOk Try.prog 145 con_ground_divisor := ⟨k_ground_divisor,fun x hx => ret_tf (ps := P_ground_divisor) (rs := R_ground_divisor) (x := x) (y := t_ground_divisor x.1 x.2) e_ground_divisor hC_ground_divisor (tf_of (w_ground_divisor_eq x.1 x.2 (fun z => z = t_ground_divisor x.1 x.2)) (d_ground_divisor x.1 x.2 (fun z => z = t_ground_divisor x.1 x.2) (pp_ground_divisor x.1 x.2 hx) (tt_ground_divisor x.1 x.2 hx)))⟩
/- ground_reduced -/
def C_ground_reduced:Cons := [(145,[],con_ground_divisor)]
theorem hC_ground_reduced:ConsOk Try.prog C_ground_reduced := ConsOk.cons ok_ground_divisor <| ConsOk.nil
def w_ground_reduced (p0:Int) (p1:Int) (K:(Int×Int)→Prop):Prop :=
  ((((0:Int)≤p0) ∧
 (((0:Int) < p1) ∧
 (p1≤9223372036854775807))) ∧
 (((v_gcd p0 p1) ≠ (0:Int)) ∧
 (((v_gcd p0 p1) ≠ (0:Int)) ∧
 (K ((IntKind.i64.wrap (Int.tdiv p0 (v_gcd p0 p1))),(IntKind.i64.wrap (Int.tdiv p1 (v_gcd p0 p1))))))))
set_option maxHeartbeats 4000000 in
theorem w_ground_reduced_eq (p0:Int) (p1:Int) (K:(Int×Int)→Prop):tfn F_ground_reduced A_ground_reduced C_ground_reduced P_ground_reduced R_ground_reduced (p0,p1) K = w_ground_reduced p0 p1 K := by kernel_rfl
def s_ground_reduced (p0:Int) (p1:Int):(Int×Int) :=
 ((IntKind.i64.wrap (Int.tdiv p0 (v_gcd p0 p1))),(IntKind.i64.wrap (Int.tdiv p1 (v_gcd p0 p1))))
abbrev pre_ground_reduced (p0:Int) (p1:Int):List Prop := [(((0:Int)≤p0)∧(((0:Int) < p1)∧(p1≤9223372036854775807))),
  ((v_gcd p0 p1) ≠ (0:Int))]
set_option maxHeartbeats 4000000 in
theorem d_ground_reduced (p0:Int) (p1:Int) (K:(Int×Int)→Prop) (hp:∀ p∈pre_ground_reduced p0 p1,p) (h:K (s_ground_reduced p0 p1)):w_ground_reduced p0 p1 K := by
 unfold w_ground_reduced
 unfold s_ground_reduced at h
 obtain ⟨hp0,hp1,_⟩ := conj_of hp
 exact ⟨(hp0),(hp1),(hp1),h⟩
/-- A quotient of two numbers,in lowest terms. -/
def v_redu (a b:Int):Int×Int := v_frac ((a:Rat) / (b:Rat))
abbrev t_ground_reduced (p0 p1:Int):Int×Int := v_redu p0 p1
abbrev qre_ground_reduced (p0 p1:Int):List Prop := [(0≤p0∧p0≤9223372036854775807)∧0 < p1∧p1≤9223372036854775807]
theorem pp_ground_reduced (p0 p1:Int) (hq:∀ p∈qre_ground_reduced p0 p1,p):∀ p∈pre_ground_reduced p0 p1,p := by
 obtain ⟨h1,h2,h3⟩ := (conj_of hq).1
 simp only [pre_ground_reduced,List.forall_mem_cons]
 have := v_gcd_pos (a := p0) (b := p1) (by omega)
 exact ⟨⟨h1.1,h2,h3⟩,by omega,by simp⟩
theorem tt_ground_reduced (p0 p1:Int) (hq:∀ p∈qre_ground_reduced p0 p1,p):s_ground_reduced p0 p1 = t_ground_reduced p0 p1 := by
 obtain ⟨h1,h2,h3⟩ := (conj_of hq).1
 unfold s_ground_reduced t_ground_reduced v_redu
 rw [← v_low_frac h2]
 unfold v_low
 have hg := v_gcd_pos (a := p0) (b := p1) (by omega)
 simp only
 rw [Int.tdiv_eq_ediv_of_dvd (v_gcd_dvd_left _ _),Int.tdiv_eq_ediv_of_dvd (v_gcd_dvd_right _ _)]
 have b1 := Int.ediv_nonneg h1.1 (show 0≤v_gcd p0 p1 by omega)
 have b2 := Int.ediv_le_self (v_gcd p0 p1) h1.1
 have b3 := Int.ediv_nonneg (show 0≤p1 by omega) (show 0≤v_gcd p0 p1 by omega)
 have b4 := Int.ediv_le_self (v_gcd p0 p1) (show 0≤p1 by omega)
 rw [wrap_id (by omega) (by omega),wrap_id (by omega) (by omega)]

abbrev con_ground_reduced:Con := ⟨P_ground_reduced,R_ground_reduced,fun x => qre_ground_reduced x.1 x.2,fun x => t_ground_reduced x.1 x.2⟩
theorem ok_ground_reduced:ConOk Try.prog 126 con_ground_reduced := ⟨k_ground_reduced,fun x hx => ret_tf (ps := P_ground_reduced) (rs := R_ground_reduced) (x := x) (y := t_ground_reduced x.1 x.2) e_ground_reduced hC_ground_reduced (tf_of (w_ground_reduced_eq x.1 x.2 (fun z => z = t_ground_reduced x.1 x.2)) (d_ground_reduced x.1 x.2 (fun z => z = t_ground_reduced x.1 x.2) (pp_ground_reduced x.1 x.2 hx) (tt_ground_reduced x.1 x.2 hx)))⟩
/- ground_response -/
def C_ground_response:Cons := [(125,[],con_slices_Backwardapi_GroundLayer_api_GroundLayer),(144,itMark,con_slices_Backwardapi_GroundLayer_api_GroundLayer_1),(126,[],con_ground_reduced)]
theorem hC_ground_response:ConsOk Try.prog C_ground_response := ConsOk.cons ok_slices_Backwardapi_GroundLayer_api_GroundLayer <| ConsOk.consI ok_slices_Backwardapi_GroundLayer_api_GroundLayer_1 <| ConsOk.cons ok_ground_reduced <| ConsOk.nil
def w_ground_response (p0:(List (Int×Int))) (p1:Int) (K:(Int×Int)→Prop):Prop :=
  ((p0.length≤1000000) ∧
 (RngP (fun (y0:(Int×Int)) (z1:(Int×(Int×Int))) k2 =>
  ((((z1.1 == (IntKind.i64.wrap ((List.length p0:Int) - 1)))=true) →
  (k2 (z1.2.1,(1:Int)))) ∧
  (((z1.1 == (IntKind.i64.wrap ((List.length p0:Int) - 1)))=false) →
  (((((0:Int)≤(IntKind.i64.wrap (z1.2.1 * (IntKind.i64.wrap ((IntKind.i64.wrap (y0.1 * (IntKind.i64.wrap (z1.2.2 + p1)))) + (IntKind.i64.wrap ((IntKind.i64.wrap (z1.2.1 * z1.2.2)) * y0.2))))))) ∧
   ((IntKind.i64.wrap (z1.2.1 * (IntKind.i64.wrap ((IntKind.i64.wrap (y0.1 * (IntKind.i64.wrap (z1.2.2 + p1)))) + (IntKind.i64.wrap ((IntKind.i64.wrap (z1.2.1 * z1.2.2)) * y0.2))))))≤9223372036854775807)) ∧
   (((0:Int) < (IntKind.i64.wrap ((IntKind.i64.wrap ((IntKind.i64.wrap (z1.2.1 * y0.2)) * (IntKind.i64.wrap (z1.2.2 + p1)))) + (IntKind.i64.wrap (y0.1 * z1.2.2))))) ∧
   ((IntKind.i64.wrap ((IntKind.i64.wrap ((IntKind.i64.wrap (z1.2.1 * y0.2)) * (IntKind.i64.wrap (z1.2.2 + p1)))) + (IntKind.i64.wrap (y0.1 * z1.2.2))))≤9223372036854775807))) ∧
   (k2 (v_redu (IntKind.i64.wrap (z1.2.1 * (IntKind.i64.wrap ((IntKind.i64.wrap (y0.1 * (IntKind.i64.wrap (z1.2.2 + p1)))) + (IntKind.i64.wrap ((IntKind.i64.wrap (z1.2.1 * z1.2.2)) * y0.2)))))) (IntKind.i64.wrap ((IntKind.i64.wrap ((IntKind.i64.wrap (z1.2.1 * y0.2)) * (IntKind.i64.wrap (z1.2.2 + p1)))) + (IntKind.i64.wrap (y0.1 * z1.2.2))))))))))
  (fun (s3:(Int×Int)) => (K s3)) (v_bwd (0:Int) p0) ((0:Int),(0:Int))))
set_option maxHeartbeats 4000000 in
theorem w_ground_response_eq (p0:(List (Int×Int))) (p1:Int) (K:(Int×Int)→Prop):tfn F_ground_response A_ground_response C_ground_response P_ground_response R_ground_response (p0,p1) K = w_ground_response p0 p1 K := by kernel_rfl
def st_ground_response_0 (p0:(List (Int×Int))) (p1:Int) (y0:(Int×Int)) (z0:(Int×(Int×Int))):(Int×Int) ⊕ (Int×Int) :=
 (cond (z0.1 == (IntKind.i64.wrap ((List.length p0:Int) - 1))) (Sum.inl (z0.2.1,(1:Int)))
  (Sum.inl (v_redu (IntKind.i64.wrap (z0.2.1 * (IntKind.i64.wrap ((IntKind.i64.wrap (y0.1 * (IntKind.i64.wrap (z0.2.2 + p1)))) + (IntKind.i64.wrap ((IntKind.i64.wrap (z0.2.1 * z0.2.2)) * y0.2)))))) (IntKind.i64.wrap ((IntKind.i64.wrap ((IntKind.i64.wrap (z0.2.1 * y0.2)) * (IntKind.i64.wrap (z0.2.2 + p1)))) + (IntKind.i64.wrap (y0.1 * z0.2.2)))))))
abbrev sp_ground_response_0 (p0:(List (Int×Int))) (p1:Int) (y0:(Int×Int)) (z0:(Int×(Int×Int))):List Prop := [(((z0.1 == (IntKind.i64.wrap ((List.length p0:Int) - 1)))=false)→((((0:Int)≤(IntKind.i64.wrap (z0.2.1 * (IntKind.i64.wrap ((IntKind.i64.wrap (y0.1 * (IntKind.i64.wrap (z0.2.2 + p1)))) + (IntKind.i64.wrap ((IntKind.i64.wrap (z0.2.1 * z0.2.2)) * y0.2)))))))∧((IntKind.i64.wrap (z0.2.1 * (IntKind.i64.wrap ((IntKind.i64.wrap (y0.1 * (IntKind.i64.wrap (z0.2.2 + p1)))) + (IntKind.i64.wrap ((IntKind.i64.wrap (z0.2.1 * z0.2.2)) * y0.2))))))≤9223372036854775807))∧(((0:Int) < (IntKind.i64.wrap ((IntKind.i64.wrap ((IntKind.i64.wrap (z0.2.1 * y0.2)) * (IntKind.i64.wrap (z0.2.2 + p1)))) + (IntKind.i64.wrap (y0.1 * z0.2.2)))))∧((IntKind.i64.wrap ((IntKind.i64.wrap ((IntKind.i64.wrap (z0.2.1 * y0.2)) * (IntKind.i64.wrap (z0.2.2 + p1)))) + (IntKind.i64.wrap (y0.1 * z0.2.2))))≤9223372036854775807))))]
def sf_ground_response_0 (_p0:(List (Int×Int))) (_p1:Int) (s0:(Int×Int)):(Int×Int) :=
 s0
abbrev sq_ground_response_0 (_p0:(List (Int×Int))) (_p1:Int) (_s0:(Int×Int)):List Prop := []
def s_ground_response (p0:(List (Int×Int))) (p1:Int):(Int×Int) :=
 (rngV (st_ground_response_0 p0 p1) (sf_ground_response_0 p0 p1) (v_bwd (0:Int) p0) ((0:Int),(0:Int)))
abbrev pre_ground_response (p0:(List (Int×Int))) (p1:Int):List Prop := [(p0.length≤1000000),
  (OkR (st_ground_response_0 p0 p1) (sp_ground_response_0 p0 p1) (sq_ground_response_0 p0 p1) (v_bwd (0:Int) p0) ((0:Int),(0:Int)))]
set_option maxHeartbeats 4000000 in
theorem d_ground_response (p0:(List (Int×Int))) (p1:Int) (K:(Int×Int)→Prop) (hp:∀ p∈pre_ground_response p0 p1,p) (h:K (s_ground_response p0 p1)):w_ground_response p0 p1 K := by
 unfold w_ground_response
 unfold s_ground_response at h
 obtain ⟨hp0,hp1,_⟩ := conj_of hp
 exact ⟨(hp0),(rng_gen (hp1) h (fun y0 z0 k0 hp h => by
 unfold st_ground_response_0 at h; obtain ⟨hp0,_⟩ := conj_of hp
 exact (br' h (fun e1 h => h)
  (fun e1 h => ⟨(hp0 e1),h⟩))) (fun s0 hp h => by
 unfold sf_ground_response_0 at h
 exact h))⟩
/-- Whether a model is valid,and a scale. -/
structure v_mok (l:List (Int×Int)):Prop where
 ne:l ≠ []
 len:l.length≤4
 ok:∀ x∈l,v_lok x
 last:∀ (a:List (Int×Int)) (x:Int×Int),l = a ++ [x]→x.2 = 0
abbrev v_sok (s:Int):Prop := 1≤s∧s≤20
/-- The parts of the response of n + 1 layers are at most so great. -/
theorem v_resp_parts {s:Int} (hs:v_sok s):∀ {l:List (Int×Int)},l ≠ []→(∀ x∈l,v_lok x)→(v_frac (v_resp s l)).2≤800 ^ (l.length - 1)
 | [],h,_ => absurd rfl h
 | [x],_,_ => by
  have e:(v_frac (v_resp s [x])).2 = 1 := rfl
  rw [e]
  show (1:Int)≤800 ^ 0
  decide
 | x :: y :: r,_,hk => by
  rw [v_resp_c s x (by simp)]
  have ih := v_resp_parts hs (l := y :: r) (by simp) (fun z hz => hk z (List.mem_cons_of_mem _ hz))
  have h1 := v_resp_1le (s := s) (l := y :: r) (by omega) (by simp) (fun z hz => hk z (List.mem_cons_of_mem _ hz))
  have h2 := v_resp_le20 (s := s) (l := y :: r) (by omega) (by simp) (fun z hz => hk z (List.mem_cons_of_mem _ hz))
  obtain ⟨p1,p2,p3,p4,p5,_⟩ := v_step_parts hs (hk x (by simp)) h1 h2 ih
  rw [p5]
  have := (v_frac_le p3 p1).2.2
  have e:(800:Int) ^ ((x :: y :: r).length - 1)=800 * 800 ^ ((y :: r).length - 1) := by
   rw [List.length_cons,Nat.add_sub_cancel,show (y :: r).length = (y :: r).length - 1 + 1 by simp,Int.pow_succ,Int.mul_comm]; simp
  rw [e]; omega
theorem v_pow800 {n:Nat} (h:n≤3):(800:Int) ^ n≤512000000 := by
 match n,h with
 | 0,_ | 1,_ | 2,_ | 3,_ => decide
theorem v_resp_small {s:Int} (hs:v_sok s) {l:List (Int×Int)} (h:v_mok l):1≤(v_frac (v_resp s l)).2∧(v_frac (v_resp s l)).2≤512000000∧0 < (v_frac (v_resp s l)).1∧(v_frac (v_resp s l)).1≤20 * (v_frac (v_resp s l)).2 := by
 have h1 := v_resp_parts hs h.ne h.ok
 have h2 := v_pow800 (n := l.length - 1) (by have := h.len; omega)
 have h3 := v_frac_pos (v_resp s l)
 have h4 := v_rle_frac.1 (v_resp_le20 (s := s) (by omega) h.ne h.ok)
 have h5 := v_rle_frac.1 (v_resp_1le (s := s) (by omega) h.ne h.ok)
 have e4:v_frac 20 = (20,1) := rfl
 have e5:v_frac 1 = (1,1) := rfl
 rw [e4] at h4
 rw [e5] at h5
 simp only at h4 h5
 omega
/-- What is carried from below. -/
def v_rst (s:Int):List (Int×Int)→Int×Int
 | [] => (0,0)
 | x :: r => v_frac (v_resp s (x :: r))
theorem l_ground_response_0 (p0:List (Int×Int)) (p1:Int) (hm:v_mok p0) (hs:v_sok p1):OkR (st_ground_response_0 p0 p1) (sp_ground_response_0 p0 p1) (sq_ground_response_0 p0 p1) (v_bwd 0 p0) (0,0)∧rngV (st_ground_response_0 p0 p1) (sf_ground_response_0 p0 p1) (v_bwd 0 p0) (0,0)=v_rst p1 p0 := by
 have hl := hm.len
 refine rng_bwd (v_rst p1) p0 ?_ (by simp [sq_ground_response_0])
 intro a x r e
 have hlen:p0.length = a.length + 1 + r.length := by rw [e]; simp; omega
 have hw:IntKind.i64.wrap ((p0.length:Int) - 1)=(p0.length:Int) - 1 := wrap_id (by omega) (by omega)
 have hx:v_lok x := hm.ok x (by rw [e]; simp)
 simp only [sp_ground_response_0,st_ground_response_0,hw,List.forall_mem_cons]
 cases r with
 | nil =>
  have:((a.length:Int) == (p0.length:Int) - 1)=true := by rw [beq_iff_eq,hlen]; simp only [List.length_nil]; omega
  rw [this]
  refine ⟨by simp,?_⟩
  simp only [cond_true]
  rfl
 | cons y r =>
  have:((a.length:Int) == (p0.length:Int) - 1)=false := by rw [beq_eq_false_iff_ne,hlen]; simp only [List.length_cons]; omega
  rw [this]
  have hk:∀ z∈y :: r,v_lok z := fun z hz => hm.ok z (by rw [e]; simp at hz ⊢; rcases hz with h | h <;> simp [h])
  have h1 := v_resp_1le (s := p1) (l := y :: r) (by omega) (by simp) hk
  have h2 := v_resp_le20 (s := p1) (l := y :: r) (by omega) (by simp) hk
  have h3 := v_resp_parts hs (l := y :: r) (by simp) hk
  have h4:(v_frac (v_resp p1 (y :: r))).2≤640000 := by
   have:(y :: r).length - 1≤2 := by have := hlen; simp only [List.length_cons] at this ⊢; omega
   have:(800:Int) ^ ((y :: r).length - 1)≤640000 := by
    match (y :: r).length - 1,this with
    | 0,_ | 1,_ | 2,_ => decide
   omega
  obtain ⟨q1,q2,q3,q4,q5,q6,q7⟩ := v_step_parts hs hx h1 h2 h4
  have hp := v_frac_pos (v_resp p1 (y :: r))
  have e2:v_rst p1 (y :: r)=v_frac (v_resp p1 (y :: r)) := rfl
  have e3:v_rst p1 (x :: y :: r)=v_frac (v_step p1 x (v_resp p1 (y :: r))) := by
   show v_frac (v_resp p1 (x :: y :: r))=_
   rw [v_resp_c p1 x (by simp)]
  rw [e2,e3,q5]
  simp only [w_add_l,w_add_r,w_mul_l,w_mul_r]
  generalize (v_frac (v_resp p1 (y :: r))).1 = N at *
  generalize (v_frac (v_resp p1 (y :: r))).2 = M at *
  have w1:IntKind.i64.wrap (x.1 * (N * (x.2 + p1) + x.1 * x.2 * M))=x.1 * (N * (x.2 + p1) + x.1 * x.2 * M) := wrap_id (by omega) (by omega)
  have w2:IntKind.i64.wrap (x.1 * M * (x.2 + p1) + N * x.2)=x.1 * M * (x.2 + p1) + N * x.2 := wrap_id (by omega) (by omega)
  rw [w1,w2]
  refine ⟨⟨fun _ => ⟨⟨q3,by omega⟩,q1,by omega⟩,by simp⟩,rfl⟩
abbrev t_ground_response (p0:List (Int×Int)) (p1:Int):Int×Int := v_frac (v_resp p1 p0)
abbrev qre_ground_response (p0:List (Int×Int)) (p1:Int):List Prop := [v_mok p0,v_sok p1]
theorem pp_ground_response (p0:List (Int×Int)) (p1:Int) (hq:∀ p∈qre_ground_response p0 p1,p):∀ p∈pre_ground_response p0 p1,p := by
 obtain ⟨h1,h2,_⟩ := conj_of hq
 simp only [pre_ground_response,List.forall_mem_cons]
 exact ⟨by have := h1.len; omega,(l_ground_response_0 p0 p1 h1 h2).1,by simp⟩
theorem tt_ground_response (p0:List (Int×Int)) (p1:Int) (hq:∀ p∈qre_ground_response p0 p1,p):s_ground_response p0 p1 = t_ground_response p0 p1 := by
 obtain ⟨h1,h2,_⟩ := conj_of hq
 refine (l_ground_response_0 p0 p1 h1 h2).2.trans ?_
 cases p0 with
 | nil => exact absurd rfl h1.ne
 | cons x r => rfl

abbrev con_ground_response:Con := ⟨P_ground_response,R_ground_response,fun x => qre_ground_response x.1 x.2,fun x => t_ground_response x.1 x.2⟩
theorem ok_ground_response:ConOk Try.prog 79 con_ground_response := ⟨k_ground_response,fun x hx => ret_tf (ps := P_ground_response) (rs := R_ground_response) (x := x) (y := t_ground_response x.1 x.2) e_ground_response hC_ground_response (tf_of (w_ground_response_eq x.1 x.2 (fun z => z = t_ground_response x.1 x.2)) (d_ground_response x.1 x.2 (fun z => z = t_ground_response x.1 x.2) (pp_ground_response x.1 x.2 hx) (tt_ground_response x.1 x.2 hx)))⟩
/- ground_quotient_frac -/
def C_ground_quotient_frac:Cons := []
theorem hC_ground_quotient_frac:ConsOk Try.prog C_ground_quotient_frac := ConsOk.nil
def w_ground_quotient_frac (p0:(Int×Int)) (K:((Int×Int)×Int)→Prop):Prop :=
  ((((decide (p0.1 > 1000000000))=false) →
 ((decide (p0.1 > 1000000000))=(decide (p0.1 > 1000000000)))) ∧
 ((((decide (p0.1 > 1000000000))=false) →
 ((decide (p0.1 > 1000000000))=(decide (p0.1 > 1000000000)))) ∧
 (((decide (p0.1 > 1000000000))=(decide (p0.1 > 1000000000))) ∧
 ((((cond (decide (p0.1 > 1000000000)) true (decide (p0.2 > 1000000000)))=true) →
 (K (((0:Int),(0:Int)),(8:Int)))) ∧
 (((cond (decide (p0.1 > 1000000000)) true (decide (p0.2 > 1000000000)))=false) →
 (K (p0,(0:Int))))))))
set_option maxHeartbeats 4000000 in
theorem w_ground_quotient_frac_eq (p0:(Int×Int)) (K:((Int×Int)×Int)→Prop):tfn F_ground_quotient_frac A_ground_quotient_frac C_ground_quotient_frac P_ground_quotient_frac R_ground_quotient_frac p0 K = w_ground_quotient_frac p0 K := by kernel_rfl
def s_ground_quotient_frac (p0:(Int×Int)):((Int×Int)×Int) :=
 (cond (cond (decide (p0.1 > 1000000000)) true (decide (p0.2 > 1000000000))) (((0:Int),(0:Int)),(8:Int))
  (p0,(0:Int)))
abbrev pre_ground_quotient_frac (_p0:(Int×Int)):List Prop := []
set_option maxHeartbeats 4000000 in
theorem d_ground_quotient_frac (p0:(Int×Int)) (K:((Int×Int)×Int)→Prop) (_hp:∀ p∈pre_ground_quotient_frac p0,p) (h:K (s_ground_quotient_frac p0)):w_ground_quotient_frac p0 K := by
 unfold w_ground_quotient_frac
 unfold s_ground_quotient_frac at h
 exact ⟨rf,rf,rfl,(br' h (fun e0 h => h)
  (fun e0 h => h))⟩
abbrev con_ground_quotient_frac:Con := ⟨P_ground_quotient_frac,R_ground_quotient_frac,fun x => pre_ground_quotient_frac x,fun x => s_ground_quotient_frac x⟩
theorem ok_ground_quotient_frac:ConOk Try.prog 80 con_ground_quotient_frac := ⟨k_ground_quotient_frac,fun x hx => ret_tf (ps := P_ground_quotient_frac) (rs := R_ground_quotient_frac) (x := x) (y := s_ground_quotient_frac x) e_ground_quotient_frac hC_ground_quotient_frac (tf_of (w_ground_quotient_frac_eq x (fun z => z = s_ground_quotient_frac x)) (d_ground_quotient_frac x (fun z => z = s_ground_quotient_frac x) hx rfl))⟩
/- ground_ResponseAt -/
theorem tx_cm_ok {l:List (Int×Int)} (h:(v_cm l).2 = 0):v_mok l := by
 unfold v_cm at h
 rcases int0 (l.length:Int) with ⟨_,_,e0⟩ | ⟨h0,_,e0⟩
 ·rw [e0] at h; cases h
 rw [e0] at h
 rcases dec0 (a := 4) (b := (l.length:Int)) with ⟨_,_,_,_,e1⟩ | ⟨h1,_,_,_,e1⟩
 ·rw [e1] at h; cases h
 rw [e1] at h
 simp only [cond_false] at h
 have key := v_scan_end (f := v_cm1 l.length) (e := ((0,0):Int×Int)) (P := fun (r:Int×Int) => r.2 = 0) l 0 h (fun j x v _ hv hv0 => by
  unfold v_cm1 at hv
  cases c1:cond (s_base_Within x.1 1 20) (s_base_Within x.2 0 10) false <;> rw [c1] at hv
  ·simp only [cond_false,Option.some.injEq] at hv; subst hv; cases hv0
  ·cases c2:cond (j == (l.length:Int) - 1) (x.2 == 0) true <;> rw [c2] at hv
   ·simp only [cond_true,cond_false,Option.some.injEq] at hv; subst hv; cases hv0
   ·cases hv)
 have hk:∀ k,(hk:k < l.length)→v_lok l[k]∧(k + 1 = l.length→l[k].2 = 0) := by
  intro k hk
  have h := key k hk
  unfold v_cm1 at h
  cases c1:cond (s_base_Within l[k].1 1 20) (s_base_Within l[k].2 0 10) false <;> rw [c1] at h
  ·cases h
  ·cases c2:cond (0 + (k:Int) == (l.length:Int) - 1) (l[k].2 == 0) true <;> rw [c2] at h
   ·cases h
   ·have c1' : s_base_Within l[k].1 1 20 = true∧s_base_Within l[k].2 0 10 = true := by
     cases g1:s_base_Within l[k].1 1 20 <;> cases g2:s_base_Within l[k].2 0 10 <;> simp_all
    refine ⟨⟨tx_within.1 c1'.1,tx_within.1 c1'.2⟩,fun e => ?_⟩
    have:(0 + (k:Int) == (l.length:Int) - 1)=true := by rw [beq_iff_eq]; omega
    rw [this] at c2
    simpa using c2
 refine ⟨by rintro rfl; exact h0 rfl,by omega,fun x hx => ?_,fun a x e => ?_⟩
 ·obtain ⟨k,hk1,rfl⟩ := List.getElem_of_mem hx
  exact (hk k hk1).1
 ·have := (hk a.length (by rw [e]; simp)).2 (by rw [e]; simp)
  simpa [e] using this
theorem tx_first2 {x y:Int}:v_first [x,y]=cond (x != 0) x y := by
 simp only [v_first]
 cases h:(x != 0)
 ·cases h2:(y != 0)
  ·simp at h2; subst h2; rfl
  ·rfl
 ·rfl
theorem tx_first1 {x y:Int} (h:(v_first [x,y] != 0)=false):x = 0∧y = 0 := by
 rw [tx_first2] at h
 rcases int0 x with ⟨h0,e,_⟩ | ⟨h0,e,_⟩
 ·rw [e] at h; exact ⟨h0,by simpa using h⟩
 ·rw [e] at h; simp only [cond_true] at h; rw [e] at h; cases h
/- ground_below -/
def C_ground_below:Cons := []
theorem hC_ground_below:ConsOk Try.prog C_ground_below := ConsOk.nil
def w_ground_below (p0:(Int×Int)) (p1:(Int×(Int×Int))) (K:Bool→Prop):Prop :=
  (K (decide ((IntKind.i64.wrap ((1000:Int) * p0.1)) < (IntKind.i64.wrap (p1.2.1 * p0.2)))))
set_option maxHeartbeats 4000000 in
theorem w_ground_below_eq (p0:(Int×Int)) (p1:(Int×(Int×Int))) (K:Bool→Prop):tfn F_ground_below A_ground_below C_ground_below P_ground_below R_ground_below (p0,p1) K = w_ground_below p0 p1 K := by kernel_rfl
def s_ground_below (p0:(Int×Int)) (p1:(Int×(Int×Int))):Bool :=
 (decide ((IntKind.i64.wrap ((1000:Int) * p0.1)) < (IntKind.i64.wrap (p1.2.1 * p0.2))))
abbrev pre_ground_below (_p0:(Int×Int)) (_p1:(Int×(Int×Int))):List Prop := []
set_option maxHeartbeats 4000000 in
theorem d_ground_below (p0:(Int×Int)) (p1:(Int×(Int×Int))) (K:Bool→Prop) (_hp:∀ p∈pre_ground_below p0 p1,p) (h:K (s_ground_below p0 p1)):w_ground_below p0 p1 K := by
 unfold w_ground_below
 unfold s_ground_below at h
 exact h
/-- Whether a datum is valid,and data. -/
structure v_dok (d:Int×Int×Int):Prop where
 s:v_sok d.1
 lo:0≤d.2.1
 le:d.2.1≤d.2.2
 hi:d.2.2≤100000
structure v_dat (l:List (Int×Int×Int)):Prop where
 len:l.length≤6
 ok:∀ x∈l,v_dok x
theorem tx_cd_ok {l:List (Int×Int×Int)} (h:(v_cd l).2 = 0):v_dat l∧l ≠ [] := by
 unfold v_cd at h
 rcases int0 (l.length:Int) with ⟨_,_,e0⟩ | ⟨h0,_,e0⟩
 ·rw [e0] at h; cases h
 rw [e0] at h
 rcases dec0 (a := 6) (b := (l.length:Int)) with ⟨_,_,_,_,e1⟩ | ⟨h1,_,_,_,e1⟩
 ·rw [e1] at h; cases h
 rw [e1] at h
 simp only [cond_false] at h
 have key := v_scan_end (f := v_cd1 l) (e := ((0,0):Int×Int)) (P := fun (r:Int×Int) => r.2 = 0) l 0 h (fun j x v _ hv hv0 => by
  unfold v_cd1 at hv
  cases c1:cond (s_base_Within x.1 1 20) (cond (s_base_Within x.2.1 0 100000) (s_base_Within x.2.2 0 100000) false) false <;> rw [c1] at hv
  ·simp only [cond_false,Option.some.injEq] at hv; subst hv; cases hv0
  ·cases c2:cond (decide (x.2.1≤x.2.2)) (cond (j == 0) true (decide (x.1 > (l.getD (j - 1).toNat (0,0,0)).1))) false <;> rw [c2] at hv
   ·simp only [cond_true,cond_false,Option.some.injEq] at hv; subst hv; cases hv0
   ·cases hv)
 refine ⟨⟨by omega,fun x hx => ?_⟩,by rintro rfl; exact h0 rfl⟩
 obtain ⟨k,hk,rfl⟩ := List.getElem_of_mem hx
 have h := key k hk
 unfold v_cd1 at h
 cases c1:cond (s_base_Within l[k].1 1 20) (cond (s_base_Within l[k].2.1 0 100000) (s_base_Within l[k].2.2 0 100000) false) false <;> rw [c1] at h
 ·cases h
 ·cases c2:cond (decide (l[k].2.1≤l[k].2.2)) (cond (0 + (k:Int) == 0) true (decide (l[k].1 > (l.getD (0 + (k:Int) - 1).toNat (0,0,0)).1))) false <;> rw [c2] at h
  ·cases h
  ·have c1' : s_base_Within l[k].1 1 20 = true∧s_base_Within l[k].2.1 0 100000 = true∧s_base_Within l[k].2.2 0 100000 = true := by
    cases g1:s_base_Within l[k].1 1 20 <;> cases g2:s_base_Within l[k].2.1 0 100000 <;> cases g3:s_base_Within l[k].2.2 0 100000 <;> simp_all
   have c2' : l[k].2.1≤l[k].2.2 := by
    cases g:decide (l[k].2.1≤l[k].2.2)
    ·rw [g] at c2; cases c2
    ·exact of_decide_eq_true g
   exact ⟨tx_within.1 c1'.1,(tx_within.1 c1'.2.1).1,c2',(tx_within.1 c1'.2.2).2⟩
/-- A response of a valid model. -/
structure v_rsm (f:Int×Int):Prop where
 d:0 < f.2∧f.2≤512000000
 n:0 < f.1∧f.1≤20 * f.2
theorem v_rsm_of {l:List (Int×Int)} {s:Int} (h:v_mok l) (hs:v_sok s):v_rsm (v_frac (v_resp s l)) := by
 have := v_resp_small hs h
 exact ⟨by omega,by omega⟩
def v_below (p0:Int×Int) (p1:Int×Int×Int):Bool := decide (1000 * p0.1 < p1.2.1 * p0.2)
abbrev t_ground_below (p0:Int×Int) (p1:Int×Int×Int):Bool := v_below p0 p1
abbrev qre_ground_below (p0:Int×Int) (p1:Int×Int×Int):List Prop := [v_rsm p0,v_dok p1]
theorem pp_ground_below (p0:Int×Int) (p1:Int×Int×Int) (_hq:∀ p∈qre_ground_below p0 p1,p):∀ p∈pre_ground_below p0 p1,p := by
 simp [pre_ground_below]
theorem tt_ground_below (p0:Int×Int) (p1:Int×Int×Int) (hq:∀ p∈qre_ground_below p0 p1,p):s_ground_below p0 p1 = t_ground_below p0 p1 := by
 obtain ⟨h1,h2,_⟩ := conj_of hq
 have hd := h1.d
 have hn := h1.n
 have ha := h2.lo
 have hb := h2.le
 have hc := h2.hi
 unfold s_ground_below t_ground_below v_below
 have m := mul_in (x := p1.2.1) (y := p0.2) (by omega) (show p1.2.1≤100000 by omega) (by omega) hd.2
 rw [wrap_id (n := 1000 * p0.1) (by omega) (by omega),wrap_id (n := p1.2.1 * p0.2) (by omega) (by omega)]

abbrev con_ground_below:Con := ⟨P_ground_below,R_ground_below,fun x => qre_ground_below x.1 x.2,fun x => t_ground_below x.1 x.2⟩
theorem ok_ground_below:ConOk Try.prog 102 con_ground_below := ⟨k_ground_below,fun x hx => ret_tf (ps := P_ground_below) (rs := R_ground_below) (x := x) (y := t_ground_below x.1 x.2) e_ground_below hC_ground_below (tf_of (w_ground_below_eq x.1 x.2 (fun z => z = t_ground_below x.1 x.2)) (d_ground_below x.1 x.2 (fun z => z = t_ground_below x.1 x.2) (pp_ground_below x.1 x.2 hx) (tt_ground_below x.1 x.2 hx)))⟩
/- ground_beyond -/
def C_ground_beyond:Cons := []
theorem hC_ground_beyond:ConsOk Try.prog C_ground_beyond := ConsOk.nil
def w_ground_beyond (p0:(Int×Int)) (p1:(Int×(Int×Int))) (K:Bool→Prop):Prop :=
  (K (decide ((IntKind.i64.wrap ((1000:Int) * p0.1)) > (IntKind.i64.wrap (p1.2.2 * p0.2)))))
set_option maxHeartbeats 4000000 in
theorem w_ground_beyond_eq (p0:(Int×Int)) (p1:(Int×(Int×Int))) (K:Bool→Prop):tfn F_ground_beyond A_ground_beyond C_ground_beyond P_ground_beyond R_ground_beyond (p0,p1) K = w_ground_beyond p0 p1 K := by kernel_rfl
def s_ground_beyond (p0:(Int×Int)) (p1:(Int×(Int×Int))):Bool :=
 (decide ((IntKind.i64.wrap ((1000:Int) * p0.1)) > (IntKind.i64.wrap (p1.2.2 * p0.2))))
abbrev pre_ground_beyond (_p0:(Int×Int)) (_p1:(Int×(Int×Int))):List Prop := []
set_option maxHeartbeats 4000000 in
theorem d_ground_beyond (p0:(Int×Int)) (p1:(Int×(Int×Int))) (K:Bool→Prop) (_hp:∀ p∈pre_ground_beyond p0 p1,p) (h:K (s_ground_beyond p0 p1)):w_ground_beyond p0 p1 K := by
 unfold w_ground_beyond
 unfold s_ground_beyond at h
 exact h
def v_beyond (p0:Int×Int) (p1:Int×Int×Int):Bool := decide (1000 * p0.1 > p1.2.2 * p0.2)
abbrev t_ground_beyond (p0:Int×Int) (p1:Int×Int×Int):Bool := v_beyond p0 p1
abbrev qre_ground_beyond (p0:Int×Int) (p1:Int×Int×Int):List Prop := [v_rsm p0,v_dok p1]
theorem pp_ground_beyond (p0:Int×Int) (p1:Int×Int×Int) (_hq:∀ p∈qre_ground_beyond p0 p1,p):∀ p∈pre_ground_beyond p0 p1,p := by
 simp [pre_ground_beyond]
theorem tt_ground_beyond (p0:Int×Int) (p1:Int×Int×Int) (hq:∀ p∈qre_ground_beyond p0 p1,p):s_ground_beyond p0 p1 = t_ground_beyond p0 p1 := by
 obtain ⟨h1,h2,_⟩ := conj_of hq
 have hd := h1.d
 have hn := h1.n
 have ha := h2.lo
 have hb := h2.le
 have hc := h2.hi
 unfold s_ground_beyond t_ground_beyond v_beyond
 have m := mul_in (x := p1.2.2) (y := p0.2) (by omega) (show p1.2.2≤100000 by omega) (by omega) hd.2
 rw [wrap_id (n := 1000 * p0.1) (by omega) (by omega),wrap_id (n := p1.2.2 * p0.2) (by omega) (by omega)]

abbrev con_ground_beyond:Con := ⟨P_ground_beyond,R_ground_beyond,fun x => qre_ground_beyond x.1 x.2,fun x => t_ground_beyond x.1 x.2⟩
theorem ok_ground_beyond:ConOk Try.prog 103 con_ground_beyond := ⟨k_ground_beyond,fun x hx => ret_tf (ps := P_ground_beyond) (rs := R_ground_beyond) (x := x) (y := t_ground_beyond x.1 x.2) e_ground_beyond hC_ground_beyond (tf_of (w_ground_beyond_eq x.1 x.2 (fun z => z = t_ground_beyond x.1 x.2)) (d_ground_beyond x.1 x.2 (fun z => z = t_ground_beyond x.1 x.2) (pp_ground_beyond x.1 x.2 hx) (tt_ground_beyond x.1 x.2 hx)))⟩
/- ground_explains -/
def C_ground_explains:Cons := [(79,[],con_ground_response),(102,[],con_ground_below),(103,[],con_ground_beyond)]
theorem hC_ground_explains:ConsOk Try.prog C_ground_explains := ConsOk.cons ok_ground_response <| ConsOk.cons ok_ground_below <| ConsOk.cons ok_ground_beyond <| ConsOk.nil
def w_ground_explains (p0:(List (Int×Int))) (p1:(Int×(Int×Int))) (K:Bool→Prop):Prop :=
  ((v_mok p0) ∧
 ((v_sok p1.1) ∧
 ((v_rsm (v_frac (v_resp p1.1 p0))) ∧
 ((v_dok p1) ∧
 ((((!(v_below (v_frac (v_resp p1.1 p0)) p1))=true) →
 ((!(v_below (v_frac (v_resp p1.1 p0)) p1))=(!(v_below (v_frac (v_resp p1.1 p0)) p1)))) ∧
 ((((!(v_below (v_frac (v_resp p1.1 p0)) p1))=true) →
 ((!(v_below (v_frac (v_resp p1.1 p0)) p1))=(!(v_below (v_frac (v_resp p1.1 p0)) p1)))) ∧
 ((((!(v_below (v_frac (v_resp p1.1 p0)) p1))=true) →
 (v_rsm (v_frac (v_resp p1.1 p0)))) ∧
 ((((!(v_below (v_frac (v_resp p1.1 p0)) p1))=true) →
 (v_dok p1)) ∧
 ((((!(v_below (v_frac (v_resp p1.1 p0)) p1))=true) →
 ((!(v_below (v_frac (v_resp p1.1 p0)) p1))=(!(v_below (v_frac (v_resp p1.1 p0)) p1)))) ∧
 (((!(v_below (v_frac (v_resp p1.1 p0)) p1))=(!(v_below (v_frac (v_resp p1.1 p0)) p1))) ∧
 (K (cond (!(v_below (v_frac (v_resp p1.1 p0)) p1)) (!(v_beyond (v_frac (v_resp p1.1 p0)) p1)) false))))))))))))
set_option maxHeartbeats 4000000 in
theorem w_ground_explains_eq (p0:(List (Int×Int))) (p1:(Int×(Int×Int))) (K:Bool→Prop):tfn F_ground_explains A_ground_explains C_ground_explains P_ground_explains R_ground_explains (p0,p1) K = w_ground_explains p0 p1 K := by kernel_rfl
def s_ground_explains (p0:(List (Int×Int))) (p1:(Int×(Int×Int))):Bool :=
 (cond (!(v_below (v_frac (v_resp p1.1 p0)) p1)) (!(v_beyond (v_frac (v_resp p1.1 p0)) p1)) false)
abbrev pre_ground_explains (p0:(List (Int×Int))) (p1:(Int×(Int×Int))):List Prop := [(v_mok p0),
  (v_sok p1.1),
  (v_rsm (v_frac (v_resp p1.1 p0))),
  (v_dok p1),
  (((!(v_below (v_frac (v_resp p1.1 p0)) p1))=true)→(v_rsm (v_frac (v_resp p1.1 p0)))),
  (((!(v_below (v_frac (v_resp p1.1 p0)) p1))=true)→(v_dok p1))]
set_option maxHeartbeats 4000000 in
theorem d_ground_explains (p0:(List (Int×Int))) (p1:(Int×(Int×Int))) (K:Bool→Prop) (hp:∀ p∈pre_ground_explains p0 p1,p) (h:K (s_ground_explains p0 p1)):w_ground_explains p0 p1 K := by
 unfold w_ground_explains
 unfold s_ground_explains at h
 obtain ⟨hp0,hp1,hp2,hp3,hp4,hp5,_⟩ := conj_of hp
 exact ⟨(hp0),(hp1),(hp2),(hp3),rf,rf,(hp4),(hp5),rf,rfl,h⟩
/-- Whether a model explains a datum; data. -/
def v_ex (l:List (Int×Int)) (d:Int×Int×Int):Bool := cond (!(v_below (v_frac (v_resp d.1 l)) d)) (!(v_beyond (v_frac (v_resp d.1 l)) d)) false
def v_exAll (m:List (Int×Int)) (l:List (Int×Int×Int)):Bool := l.all (v_ex m)
def v_exAny (m:List (Int×Int)) (l:List (Int×Int×Int)):Bool := l.any fun d => !(v_ex m d)
def v_exIdx (m:List (Int×Int)) (l:List (Int×Int×Int)):Int := v_scan (fun i x => cond (!(v_ex m x)) (some i) none) (-1) 0 l
abbrev t_ground_explains (p0:List (Int×Int)) (p1:Int×Int×Int):Bool := v_ex p0 p1
abbrev qre_ground_explains (p0:List (Int×Int)) (p1:Int×Int×Int):List Prop := [v_mok p0,v_dok p1]
theorem pp_ground_explains (p0:List (Int×Int)) (p1:Int×Int×Int) (hq:∀ p∈qre_ground_explains p0 p1,p):∀ p∈pre_ground_explains p0 p1,p := by
 obtain ⟨h1,h2,_⟩ := conj_of hq
 simp only [pre_ground_explains,List.forall_mem_cons]
 and_intros
 all_goals first | (intro p hp; cases hp; done) | exact h1 | exact h2.s.1 | exact h2.s.2 | exact h2 | exact v_rsm_of h1 h2.s | (intros; first | exact h2 | exact v_rsm_of h1 h2.s)
theorem tt_ground_explains (p0:List (Int×Int)) (p1:Int×Int×Int) (_hq:∀ p∈qre_ground_explains p0 p1,p):s_ground_explains p0 p1 = t_ground_explains p0 p1 := by
 rfl

abbrev con_ground_explains:Con := ⟨P_ground_explains,R_ground_explains,fun x => qre_ground_explains x.1 x.2,fun x => t_ground_explains x.1 x.2⟩
theorem ok_ground_explains:ConOk Try.prog 137 con_ground_explains := ⟨k_ground_explains,fun x hx => ret_tf (ps := P_ground_explains) (rs := R_ground_explains) (x := x) (y := t_ground_explains x.1 x.2) e_ground_explains hC_ground_explains (tf_of (w_ground_explains_eq x.1 x.2 (fun z => z = t_ground_explains x.1 x.2)) (d_ground_explains x.1 x.2 (fun z => z = t_ground_explains x.1 x.2) (pp_ground_explains x.1 x.2 hx) (tt_ground_explains x.1 x.2 hx)))⟩
/- ground_explainsAll_1 -/
def C_ground_explainsAll_1:Cons := [(137,[],con_ground_explains)]
theorem hC_ground_explainsAll_1:ConsOk Try.prog C_ground_explainsAll_1 := ConsOk.cons ok_ground_explains <| ConsOk.nil
def w_ground_explainsAll_1 (p0:(Int×(Int×Int))) (p1:(List (Int×Int))) (K:Bool→Prop):Prop :=
  ((v_mok p1) ∧
 ((v_dok p0) ∧
 (K (!(v_ex p1 p0)))))
set_option maxHeartbeats 4000000 in
theorem w_ground_explainsAll_1_eq (p0:(Int×(Int×Int))) (p1:(List (Int×Int))) (K:Bool→Prop):tfn F_ground_explainsAll_1 A_ground_explainsAll_1 C_ground_explainsAll_1 P_ground_explainsAll_1 R_ground_explainsAll_1 (p0,p1) K = w_ground_explainsAll_1 p0 p1 K := by kernel_rfl
def s_ground_explainsAll_1 (p0:(Int×(Int×Int))) (p1:(List (Int×Int))):Bool :=
 (!(v_ex p1 p0))
abbrev pre_ground_explainsAll_1 (p0:(Int×(Int×Int))) (p1:(List (Int×Int))):List Prop := [(v_mok p1),
  (v_dok p0)]
set_option maxHeartbeats 4000000 in
theorem d_ground_explainsAll_1 (p0:(Int×(Int×Int))) (p1:(List (Int×Int))) (K:Bool→Prop) (hp:∀ p∈pre_ground_explainsAll_1 p0 p1,p) (h:K (s_ground_explainsAll_1 p0 p1)):w_ground_explainsAll_1 p0 p1 K := by
 unfold w_ground_explainsAll_1
 unfold s_ground_explainsAll_1 at h
 obtain ⟨hp0,hp1,_⟩ := conj_of hp
 exact ⟨(hp0),(hp1),h⟩
abbrev con_ground_explainsAll_1:Con := ⟨P_ground_explainsAll_1,R_ground_explainsAll_1,fun x => pre_ground_explainsAll_1 x.1 x.2,fun x => s_ground_explainsAll_1 x.1 x.2⟩
theorem ok_ground_explainsAll_1:ConOk Try.prog 136 con_ground_explainsAll_1 := ⟨k_ground_explainsAll_1,fun x hx => ret_tf (ps := P_ground_explainsAll_1) (rs := R_ground_explainsAll_1) (x := x) (y := s_ground_explainsAll_1 x.1 x.2) e_ground_explainsAll_1 hC_ground_explainsAll_1 (tf_of (w_ground_explainsAll_1_eq x.1 x.2 (fun z => z = s_ground_explainsAll_1 x.1 x.2)) (d_ground_explainsAll_1 x.1 x.2 (fun z => z = s_ground_explainsAll_1 x.1 x.2) hx rfl))⟩
/- slices_IndexFuncapi_GroundDatum_api_GroundDatum__ground_explainsAll_1 -/
def C_slices_IndexFuncapi_GroundDatum_api_GroundDatum__ground_explainsAll_1:Cons := [(136,[],con_ground_explainsAll_1)]
theorem hC_slices_IndexFuncapi_GroundDatum_api_GroundDatum__ground_explainsAll_1:ConsOk Try.prog C_slices_IndexFuncapi_GroundDatum_api_GroundDatum__ground_explainsAll_1 := ConsOk.cons ok_ground_explainsAll_1 <| ConsOk.nil
def w_slices_IndexFuncapi_GroundDatum_api_GroundDatum__ground_explainsAll_1 (p0:(List (Int×(Int×Int)))) (p1:((List (Int×Int))×PUnit)) (K:Int→Prop):Prop :=
  (∃ n0,(loopP (fun (y1:Int) k2 =>
  ((((decide (y1 < (List.length p0:Int)))=true) →
  (((0:Int)≤y1) ∧
   ((y1 < (List.length p0:Int)) ∧
   ((v_mok p1.1) ∧
   ((v_dok (p0.getD y1.toNat ((0:Int),((0:Int),(0:Int))))) ∧
   ((((!(v_ex p1.1 (p0.getD y1.toNat ((0:Int),((0:Int),(0:Int))))))=true) →
   (K y1)) ∧
   (((!(v_ex p1.1 (p0.getD y1.toNat ((0:Int),((0:Int),(0:Int))))))=false) →
   (k2 (IntKind.i64.wrap (y1 + 1)))))))))) ∧
  (((decide (y1 < (List.length p0:Int)))=false) →
  (K (-1:Int))))) n0 (0:Int)))
set_option maxHeartbeats 4000000 in
theorem w_slices_IndexFuncapi_GroundDatum_api_GroundDatum__ground_explainsAll_1_eq (p0:(List (Int×(Int×Int)))) (p1:((List (Int×Int))×PUnit)) (K:Int→Prop):tfn F_slices_IndexFuncapi_GroundDatum_api_GroundDatum__ground_explainsAll_1 A_slices_IndexFuncapi_GroundDatum_api_GroundDatum__ground_explainsAll_1 C_slices_IndexFuncapi_GroundDatum_api_GroundDatum__ground_explainsAll_1 P_slices_IndexFuncapi_GroundDatum_api_GroundDatum__ground_explainsAll_1 R_slices_IndexFuncapi_GroundDatum_api_GroundDatum__ground_explainsAll_1 (p0,p1) K = w_slices_IndexFuncapi_GroundDatum_api_GroundDatum__ground_explainsAll_1 p0 p1 K := by kernel_rfl
def st_slices_IndexFuncapi_GroundDatum_api_GroundDatum__ground_explainsAll_1_0 (p0:(List (Int×(Int×Int)))) (p1:((List (Int×Int))×PUnit)) (y0:Int):Int ⊕ Int :=
 (cond (decide (y0 < (List.length p0:Int))) (cond (!(v_ex p1.1 (p0.getD y0.toNat ((0:Int),((0:Int),(0:Int)))))) (Sum.inr y0)
  (Sum.inl (IntKind.i64.wrap (y0 + 1))))
  (Sum.inr (-1:Int)))
abbrev sp_slices_IndexFuncapi_GroundDatum_api_GroundDatum__ground_explainsAll_1_0 (p0:(List (Int×(Int×Int)))) (p1:((List (Int×Int))×PUnit)) (y0:Int):List Prop := [(((decide (y0 < (List.length p0:Int)))=true)→((0:Int)≤y0)),
  (((decide (y0 < (List.length p0:Int)))=true)→(y0 < (List.length p0:Int))),
  (((decide (y0 < (List.length p0:Int)))=true)→(v_mok p1.1)),
  (((decide (y0 < (List.length p0:Int)))=true)→(v_dok (p0.getD y0.toNat ((0:Int),((0:Int),(0:Int))))))]
def s_slices_IndexFuncapi_GroundDatum_api_GroundDatum__ground_explainsAll_1 (p0:(List (Int×(Int×Int)))) (p1:((List (Int×Int))×PUnit)):Int :=
 (lpv (0:Int) (st_slices_IndexFuncapi_GroundDatum_api_GroundDatum__ground_explainsAll_1_0 p0 p1) (0:Int))
abbrev pre_slices_IndexFuncapi_GroundDatum_api_GroundDatum__ground_explainsAll_1 (p0:(List (Int×(Int×Int)))) (p1:((List (Int×Int))×PUnit)):List Prop := [(OkL (st_slices_IndexFuncapi_GroundDatum_api_GroundDatum__ground_explainsAll_1_0 p0 p1) (sp_slices_IndexFuncapi_GroundDatum_api_GroundDatum__ground_explainsAll_1_0 p0 p1) (0:Int))]
set_option maxHeartbeats 4000000 in
theorem d_slices_IndexFuncapi_GroundDatum_api_GroundDatum__ground_explainsAll_1 (p0:(List (Int×(Int×Int)))) (p1:((List (Int×Int))×PUnit)) (K:Int→Prop) (hp:∀ p∈pre_slices_IndexFuncapi_GroundDatum_api_GroundDatum__ground_explainsAll_1 p0 p1,p) (h:K (s_slices_IndexFuncapi_GroundDatum_api_GroundDatum__ground_explainsAll_1 p0 p1)):w_slices_IndexFuncapi_GroundDatum_api_GroundDatum__ground_explainsAll_1 p0 p1 K := by
 unfold w_slices_IndexFuncapi_GroundDatum_api_GroundDatum__ground_explainsAll_1
 unfold s_slices_IndexFuncapi_GroundDatum_api_GroundDatum__ground_explainsAll_1 at h
 obtain ⟨hp0,_⟩ := conj_of hp
 exact (loop_gen (hp0) h (fun y0 k0 hp h => by
 unfold st_slices_IndexFuncapi_GroundDatum_api_GroundDatum__ground_explainsAll_1_0 at h; obtain ⟨hp0,hp1,hp2,hp3,_⟩ := conj_of hp
 exact (br' h (fun e1 h => ⟨(hp0 e1),(hp1 e1),(hp2 e1),(hp3 e1),(br' h (fun e2 h => h)
  (fun e2 h => h))⟩)
  (fun e1 h => h))))
theorem l_slices_IndexFuncapi_GroundDatum_api_GroundDatum__ground_explainsAll_1_0 (p0:List (Int×Int×Int)) (p1:(List (Int×Int))×PUnit) (hl:lenOk p0) (h1:v_mok p1.1) (h2:v_dat p0):OkL (st_slices_IndexFuncapi_GroundDatum_api_GroundDatum__ground_explainsAll_1_0 p0 p1) (sp_slices_IndexFuncapi_GroundDatum_api_GroundDatum__ground_explainsAll_1_0 p0 p1) 0∧lpv (0:Int) (st_slices_IndexFuncapi_GroundDatum_api_GroundDatum__ground_explainsAll_1_0 p0 p1) 0 = v_scan (fun i x => cond (!(v_ex p1.1 x)) (some i) none) (-1:Int) 0 p0 := by
 refine scan_is p0 (0,0,0) (fun i x => cond (!(v_ex p1.1 x)) (some i) none) (-1:Int) hl ?_ ?_
 ·refine ⟨by simp only [sp_slices_IndexFuncapi_GroundDatum_api_GroundDatum__ground_explainsAll_1_0,List.forall_mem_cons,decide_eq_true_eq]; simp,by simp [st_slices_IndexFuncapi_GroundDatum_api_GroundDatum__ground_explainsAll_1_0]⟩
 ·intro j hj
  have hj' : (j:Int) < p0.length := by omega
  have hw := wrap_nat (show (j:Int)≤9223372036854775806 by unfold lenOk at hl; omega)
  have hd := h2.ok _ (getD_mem' (0,0,0) hj)
  refine ⟨by simp only [sp_slices_IndexFuncapi_GroundDatum_api_GroundDatum__ground_explainsAll_1_0,List.forall_mem_cons,decide_eq_true_eq,Int.toNat_natCast]; and_intros <;> first | (intro p hp; cases hp; done) | (intros; first | omega | assumption),?_⟩
  simp only [st_slices_IndexFuncapi_GroundDatum_api_GroundDatum__ground_explainsAll_1_0,hj',decide_true,Int.toNat_natCast,cond_true,hw]
  cases v_ex p1.1 (p0.getD j (0,0,0)) <;> rfl
abbrev t_slices_IndexFuncapi_GroundDatum_api_GroundDatum__ground_explainsAll_1 (p0:List (Int×Int×Int)) (p1:(List (Int×Int))×PUnit):Int := v_exIdx p1.1 p0
abbrev qre_slices_IndexFuncapi_GroundDatum_api_GroundDatum__ground_explainsAll_1 (p0:List (Int×Int×Int)) (p1:(List (Int×Int))×PUnit):List Prop := [v_mok p1.1,v_dat p0]
theorem pp_slices_IndexFuncapi_GroundDatum_api_GroundDatum__ground_explainsAll_1 (p0:List (Int×Int×Int)) (p1:(List (Int×Int))×PUnit) (hq:∀ p∈qre_slices_IndexFuncapi_GroundDatum_api_GroundDatum__ground_explainsAll_1 p0 p1,p):∀ p∈pre_slices_IndexFuncapi_GroundDatum_api_GroundDatum__ground_explainsAll_1 p0 p1,p := by
 obtain ⟨h1,h2,_⟩ := conj_of hq
 simp only [pre_slices_IndexFuncapi_GroundDatum_api_GroundDatum__ground_explainsAll_1,List.forall_mem_cons]
 exact ⟨(l_slices_IndexFuncapi_GroundDatum_api_GroundDatum__ground_explainsAll_1_0 p0 p1 (lenOk_le h2.len (by decide)) h1 h2).1,by simp⟩
theorem tt_slices_IndexFuncapi_GroundDatum_api_GroundDatum__ground_explainsAll_1 (p0:List (Int×Int×Int)) (p1:(List (Int×Int))×PUnit) (hq:∀ p∈qre_slices_IndexFuncapi_GroundDatum_api_GroundDatum__ground_explainsAll_1 p0 p1,p):s_slices_IndexFuncapi_GroundDatum_api_GroundDatum__ground_explainsAll_1 p0 p1 = t_slices_IndexFuncapi_GroundDatum_api_GroundDatum__ground_explainsAll_1 p0 p1 := by
 obtain ⟨h1,h2,_⟩ := conj_of hq
 exact (l_slices_IndexFuncapi_GroundDatum_api_GroundDatum__ground_explainsAll_1_0 p0 p1 (lenOk_le h2.len (by decide)) h1 h2).2

abbrev con_slices_IndexFuncapi_GroundDatum_api_GroundDatum__ground_explainsAll_1:Con := ⟨P_slices_IndexFuncapi_GroundDatum_api_GroundDatum__ground_explainsAll_1,R_slices_IndexFuncapi_GroundDatum_api_GroundDatum__ground_explainsAll_1,fun x => qre_slices_IndexFuncapi_GroundDatum_api_GroundDatum__ground_explainsAll_1 x.1 x.2,fun x => t_slices_IndexFuncapi_GroundDatum_api_GroundDatum__ground_explainsAll_1 x.1 x.2⟩
theorem ok_slices_IndexFuncapi_GroundDatum_api_GroundDatum__ground_explainsAll_1:ConOk Try.prog 154 con_slices_IndexFuncapi_GroundDatum_api_GroundDatum__ground_explainsAll_1 := ⟨k_slices_IndexFuncapi_GroundDatum_api_GroundDatum__ground_explainsAll_1,fun x hx => ret_tf (ps := P_slices_IndexFuncapi_GroundDatum_api_GroundDatum__ground_explainsAll_1) (rs := R_slices_IndexFuncapi_GroundDatum_api_GroundDatum__ground_explainsAll_1) (x := x) (y := t_slices_IndexFuncapi_GroundDatum_api_GroundDatum__ground_explainsAll_1 x.1 x.2) e_slices_IndexFuncapi_GroundDatum_api_GroundDatum__ground_explainsAll_1 hC_slices_IndexFuncapi_GroundDatum_api_GroundDatum__ground_explainsAll_1 (tf_of (w_slices_IndexFuncapi_GroundDatum_api_GroundDatum__ground_explainsAll_1_eq x.1 x.2 (fun z => z = t_slices_IndexFuncapi_GroundDatum_api_GroundDatum__ground_explainsAll_1 x.1 x.2)) (d_slices_IndexFuncapi_GroundDatum_api_GroundDatum__ground_explainsAll_1 x.1 x.2 (fun z => z = t_slices_IndexFuncapi_GroundDatum_api_GroundDatum__ground_explainsAll_1 x.1 x.2) (pp_slices_IndexFuncapi_GroundDatum_api_GroundDatum__ground_explainsAll_1 x.1 x.2 hx) (tt_slices_IndexFuncapi_GroundDatum_api_GroundDatum__ground_explainsAll_1 x.1 x.2 hx)))⟩
/- slices_ContainsFuncapi_GroundDatum_api_GroundDatum__ground_explainsAll_1 -/
def C_slices_ContainsFuncapi_GroundDatum_api_GroundDatum__ground_explainsAll_1:Cons := [(154,[136],con_slices_IndexFuncapi_GroundDatum_api_GroundDatum__ground_explainsAll_1)]
theorem hC_slices_ContainsFuncapi_GroundDatum_api_GroundDatum__ground_explainsAll_1:ConsOk Try.prog C_slices_ContainsFuncapi_GroundDatum_api_GroundDatum__ground_explainsAll_1 := ConsOk.cons ok_slices_IndexFuncapi_GroundDatum_api_GroundDatum__ground_explainsAll_1 <| ConsOk.nil
def w_slices_ContainsFuncapi_GroundDatum_api_GroundDatum__ground_explainsAll_1 (p0:(List (Int×(Int×Int)))) (p1:((List (Int×Int))×PUnit)) (K:Bool→Prop):Prop :=
  ((v_mok p1.1) ∧
 ((v_dat p0) ∧
 (K (decide ((v_exIdx p1.1 p0) ≥ 0)))))
set_option maxHeartbeats 4000000 in
theorem w_slices_ContainsFuncapi_GroundDatum_api_GroundDatum__ground_explainsAll_1_eq (p0:(List (Int×(Int×Int)))) (p1:((List (Int×Int))×PUnit)) (K:Bool→Prop):tfn F_slices_ContainsFuncapi_GroundDatum_api_GroundDatum__ground_explainsAll_1 A_slices_ContainsFuncapi_GroundDatum_api_GroundDatum__ground_explainsAll_1 C_slices_ContainsFuncapi_GroundDatum_api_GroundDatum__ground_explainsAll_1 P_slices_ContainsFuncapi_GroundDatum_api_GroundDatum__ground_explainsAll_1 R_slices_ContainsFuncapi_GroundDatum_api_GroundDatum__ground_explainsAll_1 (p0,p1) K = w_slices_ContainsFuncapi_GroundDatum_api_GroundDatum__ground_explainsAll_1 p0 p1 K := by kernel_rfl
def s_slices_ContainsFuncapi_GroundDatum_api_GroundDatum__ground_explainsAll_1 (p0:(List (Int×(Int×Int)))) (p1:((List (Int×Int))×PUnit)):Bool :=
 (decide ((v_exIdx p1.1 p0) ≥ 0))
abbrev pre_slices_ContainsFuncapi_GroundDatum_api_GroundDatum__ground_explainsAll_1 (p0:(List (Int×(Int×Int)))) (p1:((List (Int×Int))×PUnit)):List Prop := [(v_mok p1.1),
  (v_dat p0)]
set_option maxHeartbeats 4000000 in
theorem d_slices_ContainsFuncapi_GroundDatum_api_GroundDatum__ground_explainsAll_1 (p0:(List (Int×(Int×Int)))) (p1:((List (Int×Int))×PUnit)) (K:Bool→Prop) (hp:∀ p∈pre_slices_ContainsFuncapi_GroundDatum_api_GroundDatum__ground_explainsAll_1 p0 p1,p) (h:K (s_slices_ContainsFuncapi_GroundDatum_api_GroundDatum__ground_explainsAll_1 p0 p1)):w_slices_ContainsFuncapi_GroundDatum_api_GroundDatum__ground_explainsAll_1 p0 p1 K := by
 unfold w_slices_ContainsFuncapi_GroundDatum_api_GroundDatum__ground_explainsAll_1
 unfold s_slices_ContainsFuncapi_GroundDatum_api_GroundDatum__ground_explainsAll_1 at h
 obtain ⟨hp0,hp1,_⟩ := conj_of hp
 exact ⟨(hp0),(hp1),h⟩
abbrev t_slices_ContainsFuncapi_GroundDatum_api_GroundDatum__ground_explainsAll_1 (p0:List (Int×Int×Int)) (p1:(List (Int×Int))×PUnit):Bool := v_exAny p1.1 p0
abbrev qre_slices_ContainsFuncapi_GroundDatum_api_GroundDatum__ground_explainsAll_1 (p0:List (Int×Int×Int)) (p1:(List (Int×Int))×PUnit):List Prop := [v_mok p1.1,v_dat p0]
theorem pp_slices_ContainsFuncapi_GroundDatum_api_GroundDatum__ground_explainsAll_1 (p0:List (Int×Int×Int)) (p1:(List (Int×Int))×PUnit) (hq:∀ p∈qre_slices_ContainsFuncapi_GroundDatum_api_GroundDatum__ground_explainsAll_1 p0 p1,p):∀ p∈pre_slices_ContainsFuncapi_GroundDatum_api_GroundDatum__ground_explainsAll_1 p0 p1,p := by
 simpa only [pre_slices_ContainsFuncapi_GroundDatum_api_GroundDatum__ground_explainsAll_1] using hq
theorem tt_slices_ContainsFuncapi_GroundDatum_api_GroundDatum__ground_explainsAll_1 (p0:List (Int×Int×Int)) (p1:(List (Int×Int))×PUnit) (_hq:∀ p∈qre_slices_ContainsFuncapi_GroundDatum_api_GroundDatum__ground_explainsAll_1 p0 p1,p):s_slices_ContainsFuncapi_GroundDatum_api_GroundDatum__ground_explainsAll_1 p0 p1 = t_slices_ContainsFuncapi_GroundDatum_api_GroundDatum__ground_explainsAll_1 p0 p1 := by
 exact v_scan_idx p0 0 (Int.le_refl 0)

abbrev con_slices_ContainsFuncapi_GroundDatum_api_GroundDatum__ground_explainsAll_1:Con := ⟨P_slices_ContainsFuncapi_GroundDatum_api_GroundDatum__ground_explainsAll_1,R_slices_ContainsFuncapi_GroundDatum_api_GroundDatum__ground_explainsAll_1,fun x => qre_slices_ContainsFuncapi_GroundDatum_api_GroundDatum__ground_explainsAll_1 x.1 x.2,fun x => t_slices_ContainsFuncapi_GroundDatum_api_GroundDatum__ground_explainsAll_1 x.1 x.2⟩
theorem ok_slices_ContainsFuncapi_GroundDatum_api_GroundDatum__ground_explainsAll_1:ConOk Try.prog 135 con_slices_ContainsFuncapi_GroundDatum_api_GroundDatum__ground_explainsAll_1 := ⟨k_slices_ContainsFuncapi_GroundDatum_api_GroundDatum__ground_explainsAll_1,fun x hx => ret_tf (ps := P_slices_ContainsFuncapi_GroundDatum_api_GroundDatum__ground_explainsAll_1) (rs := R_slices_ContainsFuncapi_GroundDatum_api_GroundDatum__ground_explainsAll_1) (x := x) (y := t_slices_ContainsFuncapi_GroundDatum_api_GroundDatum__ground_explainsAll_1 x.1 x.2) e_slices_ContainsFuncapi_GroundDatum_api_GroundDatum__ground_explainsAll_1 hC_slices_ContainsFuncapi_GroundDatum_api_GroundDatum__ground_explainsAll_1 (tf_of (w_slices_ContainsFuncapi_GroundDatum_api_GroundDatum__ground_explainsAll_1_eq x.1 x.2 (fun z => z = t_slices_ContainsFuncapi_GroundDatum_api_GroundDatum__ground_explainsAll_1 x.1 x.2)) (d_slices_ContainsFuncapi_GroundDatum_api_GroundDatum__ground_explainsAll_1 x.1 x.2 (fun z => z = t_slices_ContainsFuncapi_GroundDatum_api_GroundDatum__ground_explainsAll_1 x.1 x.2) (pp_slices_ContainsFuncapi_GroundDatum_api_GroundDatum__ground_explainsAll_1 x.1 x.2 hx) (tt_slices_ContainsFuncapi_GroundDatum_api_GroundDatum__ground_explainsAll_1 x.1 x.2 hx)))⟩
/- ground_explainsAll -/
def C_ground_explainsAll:Cons := [(135,[136],con_slices_ContainsFuncapi_GroundDatum_api_GroundDatum__ground_explainsAll_1)]
theorem hC_ground_explainsAll:ConsOk Try.prog C_ground_explainsAll := ConsOk.cons ok_slices_ContainsFuncapi_GroundDatum_api_GroundDatum__ground_explainsAll_1 <| ConsOk.nil
def w_ground_explainsAll (p0:(List (Int×Int))) (p1:(List (Int×(Int×Int)))) (K:Bool→Prop):Prop :=
  ((v_mok p0) ∧
 ((v_dat p1) ∧
 (K (!(v_exAny p0 p1)))))
set_option maxHeartbeats 4000000 in
theorem w_ground_explainsAll_eq (p0:(List (Int×Int))) (p1:(List (Int×(Int×Int)))) (K:Bool→Prop):tfn F_ground_explainsAll A_ground_explainsAll C_ground_explainsAll P_ground_explainsAll R_ground_explainsAll (p0,p1) K = w_ground_explainsAll p0 p1 K := by kernel_rfl
def s_ground_explainsAll (p0:(List (Int×Int))) (p1:(List (Int×(Int×Int)))):Bool :=
 (!(v_exAny p0 p1))
abbrev pre_ground_explainsAll (p0:(List (Int×Int))) (p1:(List (Int×(Int×Int)))):List Prop := [(v_mok p0),
  (v_dat p1)]
set_option maxHeartbeats 4000000 in
theorem d_ground_explainsAll (p0:(List (Int×Int))) (p1:(List (Int×(Int×Int)))) (K:Bool→Prop) (hp:∀ p∈pre_ground_explainsAll p0 p1,p) (h:K (s_ground_explainsAll p0 p1)):w_ground_explainsAll p0 p1 K := by
 unfold w_ground_explainsAll
 unfold s_ground_explainsAll at h
 obtain ⟨hp0,hp1,_⟩ := conj_of hp
 exact ⟨(hp0),(hp1),h⟩
abbrev t_ground_explainsAll (p0:List (Int×Int)) (p1:List (Int×Int×Int)):Bool := v_exAll p0 p1
abbrev qre_ground_explainsAll (p0:List (Int×Int)) (p1:List (Int×Int×Int)):List Prop := [v_mok p0,v_dat p1]
theorem pp_ground_explainsAll (p0:List (Int×Int)) (p1:List (Int×Int×Int)) (hq:∀ p∈qre_ground_explainsAll p0 p1,p):∀ p∈pre_ground_explainsAll p0 p1,p := by
 simpa only [pre_ground_explainsAll] using hq
theorem tt_ground_explainsAll (p0:List (Int×Int)) (p1:List (Int×Int×Int)) (_hq:∀ p∈qre_ground_explainsAll p0 p1,p):s_ground_explainsAll p0 p1 = t_ground_explainsAll p0 p1 := by
 unfold s_ground_explainsAll t_ground_explainsAll v_exAll v_exAny
 simp [List.not_any_eq_all_not]

abbrev con_ground_explainsAll:Con := ⟨P_ground_explainsAll,R_ground_explainsAll,fun x => qre_ground_explainsAll x.1 x.2,fun x => t_ground_explainsAll x.1 x.2⟩
theorem ok_ground_explainsAll:ConOk Try.prog 106 con_ground_explainsAll := ⟨k_ground_explainsAll,fun x hx => ret_tf (ps := P_ground_explainsAll) (rs := R_ground_explainsAll) (x := x) (y := t_ground_explainsAll x.1 x.2) e_ground_explainsAll hC_ground_explainsAll (tf_of (w_ground_explainsAll_eq x.1 x.2 (fun z => z = t_ground_explainsAll x.1 x.2)) (d_ground_explainsAll x.1 x.2 (fun z => z = t_ground_explainsAll x.1 x.2) (pp_ground_explainsAll x.1 x.2 hx) (tt_ground_explainsAll x.1 x.2 hx)))⟩
/- ground_Explains -/
def C_ground_Explains:Cons := [(77,[],con_ground_modelErr),(101,[],con_ground_dataErr),(73,[],con_ground_first),(106,[],con_ground_explainsAll)]
theorem hC_ground_Explains:ConsOk Try.prog C_ground_Explains := ConsOk.cons ok_ground_modelErr <| ConsOk.cons ok_ground_dataErr <| ConsOk.cons ok_ground_first <| ConsOk.cons ok_ground_explainsAll <| ConsOk.nil
def w_ground_Explains (p0:(List (Int×Int))) (p1:(List (Int×(Int×Int)))) (K:(Bool×Int)→Prop):Prop :=
  ((lenOk ((v_cm p0).2 :: ((v_cd p1).2 :: ([]:List Int)))) ∧
 (((((v_first ((v_cm p0).2 :: ((v_cd p1).2 :: ([]:List Int)))) != 0)=true) →
 (K (false,(v_first ((v_cm p0).2 :: ((v_cd p1).2 :: ([]:List Int))))))) ∧
 ((((v_first ((v_cm p0).2 :: ((v_cd p1).2 :: ([]:List Int)))) != 0)=false) →
 ((v_mok p0) ∧
  ((v_dat p1) ∧
  (K ((v_exAll p0 p1),(0:Int))))))))
set_option maxHeartbeats 4000000 in
theorem w_ground_Explains_eq (p0:(List (Int×Int))) (p1:(List (Int×(Int×Int)))) (K:(Bool×Int)→Prop):tfn F_ground_Explains A_ground_Explains C_ground_Explains P_ground_Explains R_ground_Explains (p0,p1) K = w_ground_Explains p0 p1 K := by kernel_rfl
def s_ground_Explains (p0:(List (Int×Int))) (p1:(List (Int×(Int×Int)))):(Bool×Int) :=
 (cond ((v_first ((v_cm p0).2 :: ((v_cd p1).2 :: ([]:List Int)))) != 0) (false,(v_first ((v_cm p0).2 :: ((v_cd p1).2 :: ([]:List Int)))))
  ((v_exAll p0 p1),(0:Int)))
abbrev pre_ground_Explains (p0:(List (Int×Int))) (p1:(List (Int×(Int×Int)))):List Prop := [((((v_first ((v_cm p0).2 :: ((v_cd p1).2 :: ([]:List Int)))) != 0)=false)→(v_mok p0)),
  ((((v_first ((v_cm p0).2 :: ((v_cd p1).2 :: ([]:List Int)))) != 0)=false)→(v_dat p1))]
set_option maxHeartbeats 4000000 in
theorem d_ground_Explains (p0:(List (Int×Int))) (p1:(List (Int×(Int×Int)))) (K:(Bool×Int)→Prop) (hp:∀ p∈pre_ground_Explains p0 p1,p) (h:K (s_ground_Explains p0 p1)):w_ground_Explains p0 p1 K := by
 unfold w_ground_Explains
 unfold s_ground_Explains at h
 obtain ⟨hp0,hp1,_⟩ := conj_of hp
 exact ⟨(lenOk_of 2 rfl (by decide)),(br' h (fun e0 h => h)
  (fun e0 h => ⟨(hp0 e0),(hp1 e0),h⟩))⟩
/-- What is told of a model and data. -/
def v_expls (m:List (Int×Int)) (l:List (Int×Int×Int)):Bool×Int := cond ((v_cm m).2 != 0) (false,(v_cm m).2) (cond ((v_cd l).2 != 0) (false,(v_cd l).2) (v_exAll m l,0))
abbrev t_ground_Explains (p0:List (Int×Int)) (p1:List (Int×Int×Int)):Bool×Int := v_expls p0 p1
abbrev qre_ground_Explains (_p0:List (Int×Int)) (_p1:List (Int×Int×Int)):List Prop := []
theorem pp_ground_Explains (p0:List (Int×Int)) (p1:List (Int×Int×Int)) (_hq:∀ p∈qre_ground_Explains p0 p1,p):∀ p∈pre_ground_Explains p0 p1,p := by
 simp only [pre_ground_Explains,List.forall_mem_cons]
 exact ⟨fun h => tx_cm_ok (tx_first1 h).1,fun h => (tx_cd_ok (tx_first1 h).2).1,by simp⟩
theorem tt_ground_Explains (p0:List (Int×Int)) (p1:List (Int×Int×Int)) (_hq:∀ p∈qre_ground_Explains p0 p1,p):s_ground_Explains p0 p1 = t_ground_Explains p0 p1 := by
 unfold s_ground_Explains t_ground_Explains v_expls
 rw [tx_first2]
 rcases int0 (v_cm p0).2 with ⟨h0,e,_⟩ | ⟨h0,e,_⟩
 ·rw [e]; rfl
 ·rw [e]; simp only [cond_true]; rw [e]; rfl

abbrev con_ground_Explains:Con := ⟨P_ground_Explains,R_ground_Explains,fun x => qre_ground_Explains x.1 x.2,fun x => t_ground_Explains x.1 x.2⟩
theorem ok_ground_Explains:ConOk Try.prog 44 con_ground_Explains := ⟨k_ground_Explains,fun x hx => ret_tf (ps := P_ground_Explains) (rs := R_ground_Explains) (x := x) (y := t_ground_Explains x.1 x.2) e_ground_Explains hC_ground_Explains (tf_of (w_ground_Explains_eq x.1 x.2 (fun z => z = t_ground_Explains x.1 x.2)) (d_ground_Explains x.1 x.2 (fun z => z = t_ground_Explains x.1 x.2) (pp_ground_Explains x.1 x.2 hx) (tt_ground_Explains x.1 x.2 hx)))⟩
/- base_trimmed -/
def C_base_trimmed:Cons := []
theorem hC_base_trimmed:ConsOk Try.prog C_base_trimmed := ConsOk.nil
def w_base_trimmed (p0:(List Int)) (K:(List Int)→Prop):Prop :=
  (∃ n0,(loopP (fun (y1:Int) k2 =>
  ((((decide (y1 > 0))=true) →
  ((decide (y1 > 0))=(decide (y1 > 0)))) ∧
  ((((decide (y1 > 0))=true) →
  ((decide (y1 > 0))=(decide (y1 > 0)))) ∧
  ((((decide (y1 > 0))=true) →
  ((decide (y1 > 0))=(decide (y1 > 0)))) ∧
  ((((decide (y1 > 0))=true) →
  ((0:Int)≤(IntKind.i64.wrap (y1 - 1)))) ∧
  ((((decide (y1 > 0))=true) →
  ((IntKind.i64.wrap (y1 - 1)) < (List.length p0:Int))) ∧
  ((((decide (y1 > 0))=true) →
  ((decide (y1 > 0))=(decide (y1 > 0)))) ∧
  ((((decide (y1 > 0))=true) →
  ((decide (y1 > 0))=(decide (y1 > 0)))) ∧
  (((decide (y1 > 0))=(decide (y1 > 0))) ∧
  ((((cond (decide (y1 > 0)) ((p0.getD (Int.toNat (IntKind.i64.wrap (y1 - 1))) (0:Int)) == 0) false)=true) →
  (k2 (IntKind.i64.wrap (y1 - 1)))) ∧
  (((cond (decide (y1 > 0)) ((p0.getD (Int.toNat (IntKind.i64.wrap (y1 - 1))) (0:Int)) == 0) false)=false) →
  (((0:Int)≤y1) ∧
   ((y1≤(List.length p0:Int)) ∧
   (K (List.take y1.toNat p0))))))))))))))) n0 (List.length p0:Int)))
set_option maxHeartbeats 4000000 in
theorem w_base_trimmed_eq (p0:(List Int)) (K:(List Int)→Prop):tfn F_base_trimmed A_base_trimmed C_base_trimmed P_base_trimmed R_base_trimmed p0 K = w_base_trimmed p0 K := by kernel_rfl
def st_base_trimmed_0 (p0:(List Int)) (y0:Int):Int ⊕ (List Int) :=
 (cond (cond (decide (y0 > 0)) ((p0.getD (Int.toNat (IntKind.i64.wrap (y0 - 1))) (0:Int)) == 0) false) (Sum.inl (IntKind.i64.wrap (y0 - 1)))
  (Sum.inr (List.take y0.toNat p0)))
abbrev sp_base_trimmed_0 (p0:(List Int)) (y0:Int):List Prop := [(((decide (y0 > 0))=true)→((0:Int)≤(IntKind.i64.wrap (y0 - 1)))),
  (((decide (y0 > 0))=true)→((IntKind.i64.wrap (y0 - 1)) < (List.length p0:Int))),
  (((cond (decide (y0 > 0)) ((p0.getD (Int.toNat (IntKind.i64.wrap (y0 - 1))) (0:Int)) == 0) false)=false)→((0:Int)≤y0)),
  (((cond (decide (y0 > 0)) ((p0.getD (Int.toNat (IntKind.i64.wrap (y0 - 1))) (0:Int)) == 0) false)=false)→(y0≤(List.length p0:Int)))]
def s_base_trimmed (p0:(List Int)):(List Int) :=
 (lpv [] (st_base_trimmed_0 p0) (List.length p0:Int))
abbrev pre_base_trimmed (p0:(List Int)):List Prop := [(OkL (st_base_trimmed_0 p0) (sp_base_trimmed_0 p0) (List.length p0:Int))]
set_option maxHeartbeats 4000000 in
theorem d_base_trimmed (p0:(List Int)) (K:(List Int)→Prop) (hp:∀ p∈pre_base_trimmed p0,p) (h:K (s_base_trimmed p0)):w_base_trimmed p0 K := by
 unfold w_base_trimmed
 unfold s_base_trimmed at h
 obtain ⟨hp0,_⟩ := conj_of hp
 exact (loop_gen (hp0) h (fun y0 k0 hp h => by
 unfold st_base_trimmed_0 at h; obtain ⟨hp0,hp1,hp2,hp3,_⟩ := conj_of hp
 exact ⟨rf,rf,rf,(hp0),(hp1),rf,rf,rfl,(br' h (fun e1 h => h)
  (fun e1 h => ⟨(hp2 e1),(hp3 e1),h⟩))⟩))
/-! Digits to the base 10^9,the lowest one first. -/
def v_val:List Int→Int
 | [] => 0
 | d :: r => d + 1000000000 * v_val r
def v_dgok (l:List Int):Prop := ∀ d∈l,0≤d∧d < 1000000000
def v_digs (n:Nat):List Int := if h:n = 0 then [] else ((n % 1000000000:Nat):Int) :: v_digs (n / 1000000000)
termination_by n
decreasing_by exact Nat.div_lt_self (Nat.pos_of_ne_zero h) (by decide)
theorem v_digs_0:v_digs 0 = [] := by unfold v_digs; rfl
theorem v_digs_pos {n:Nat} (h:n ≠ 0):v_digs n = ((n % 1000000000:Nat):Int) :: v_digs (n / 1000000000) := by rw [v_digs,dif_neg h]
theorem v_digs_ok (n:Nat):v_dgok (v_digs n) := by
 induction n using Nat.strongRecOn with
 | _ n ih =>
  by_cases h:n = 0
  ·subst h; rw [v_digs_0]; intro d hd; cases hd
  ·rw [v_digs_pos h]
   intro d hd
   rcases List.mem_cons.1 hd with rfl | hd
   ·omega
   ·exact ih _ (Nat.div_lt_self (Nat.pos_of_ne_zero h) (by decide)) d hd
theorem v_digs_val (n:Nat):v_val (v_digs n)=n := by
 induction n using Nat.strongRecOn with
 | _ n ih =>
  by_cases h:n = 0
  ·subst h; rw [v_digs_0]; rfl
  ·rw [v_digs_pos h]
   show _ + 1000000000 * v_val _ = _
   rw [ih _ (Nat.div_lt_self (Nat.pos_of_ne_zero h) (by decide))]
   omega
theorem v_val_nn:∀ {l:List Int},v_dgok l→0≤v_val l
 | [],_ => Int.le_refl _
 | d :: r,h => by
  have := h d (by simp)
  have := v_val_nn (l := r) fun x hx => h x (by simp [hx])
  show 0≤d + 1000000000 * v_val r
  omega
/-- What so many digits can say. -/
def v_pow (k:Nat):Int := 1000000000 ^ k
theorem v_pow_0:v_pow 0 = 1 := rfl
theorem v_pow_s (k:Nat):v_pow (k + 1)=1000000000 * v_pow k := by unfold v_pow; rw [Int.pow_succ,Int.mul_comm]
theorem v_pow_pos (k:Nat):1≤v_pow k := by
 induction k with
 | zero => exact Int.le_refl _
 | succ k ih => rw [v_pow_s]; omega
theorem v_pow_add (a b:Nat):v_pow (a + b)=v_pow a * v_pow b := by unfold v_pow; rw [Int.pow_add]
theorem v_pow_le {a b:Nat} (h:a≤b):v_pow a≤v_pow b := by
 obtain ⟨c,rfl⟩ : ∃ c,b = a + c := ⟨b - a,by omega⟩
 rw [v_pow_add]
 have h1 := v_pow_pos a
 have h2 := v_pow_pos c
 have := Int.mul_le_mul_of_nonneg_left h2 (show 0≤v_pow a by omega)
 omega
theorem v_val_lt:∀ {l:List Int},v_dgok l→v_val l < v_pow l.length
 | [],_ => by decide
 | d :: r,h => by
  have := h d (by simp)
  have := v_val_lt (l := r) fun x hx => h x (by simp [hx])
  show d + 1000000000 * v_val r < v_pow (r.length + 1)
  rw [v_pow_s]; omega
theorem v_digs_low (n:Nat):v_digs n = [] ∨ v_pow ((v_digs n).length - 1)≤n := by
 induction n using Nat.strongRecOn with
 | _ n ih =>
  by_cases h:n = 0
  ·subst h; exact .inl v_digs_0
  ·right
   rw [v_digs_pos h,List.length_cons,Nat.add_sub_cancel]
   rcases ih (n / 1000000000) (Nat.div_lt_self (Nat.pos_of_ne_zero h) (by decide)) with e | e
   ·rw [e]; show (1:Int)≤n; omega
   ·generalize hL:(v_digs (n / 1000000000)).length = L at *
    rcases Nat.eq_zero_or_pos L with h0 | h0
    ·rw [h0]; show (1:Int)≤n; omega
    ·rw [show L = L - 1 + 1 by omega,v_pow_s]
     omega
theorem v_digs_high (n:Nat):(n:Int) < v_pow (v_digs n).length := by
 have := v_val_lt (v_digs_ok n)
 rwa [v_digs_val] at this
theorem v_pow_lt {a b:Nat} (h:v_pow a < v_pow b):a < b := by
 rcases Nat.lt_or_ge a b with g | g
 ·exact g
 ·have := v_pow_le g; omega
theorem v_digs_len {n k:Nat} (h:(n:Int) < v_pow k):(v_digs n).length≤k := by
 rcases v_digs_low n with e | e
 ·rw [e]; simp
 ·have := v_pow_lt (show v_pow ((v_digs n).length - 1) < v_pow k by omega)
  omega
theorem v_digs_len_lt {m n:Nat} (h:(v_digs m).length < (v_digs n).length):m < n := by
 have h1 := v_digs_high m
 rcases v_digs_low n with e | e
 ·rw [e] at h; simp at h
 ·have := v_pow_le (show (v_digs m).length≤(v_digs n).length - 1 by omega)
  omega
/-- Without zeros at the end. -/
def v_trim:List Int→List Int
 | [] => []
 | d :: r => match v_trim r with
  | [] => cond (d == 0) [] [d]
  | x :: q => d :: x :: q
theorem v_trim_is:∀ {l:List Int},v_dgok l→v_trim l = v_digs (v_val l).toNat
 | [],_ => by rw [show (v_val []).toNat = 0 from rfl,v_digs_0]; rfl
 | d :: r,h => by
  have hd := h d (by simp)
  have hr:v_dgok r := fun x hx => h x (by simp [hx])
  have hn := v_val_nn hr
  have ih := v_trim_is hr
  have e:v_val (d :: r)=d + 1000000000 * v_val r := rfl
  have e1:(d + 1000000000 * v_val r).toNat % 1000000000 = d.toNat := by omega
  have e2:(d + 1000000000 * v_val r).toNat / 1000000000 = (v_val r).toNat := by omega
  rw [e]
  unfold v_trim
  rw [ih]
  by_cases hz:v_val r = 0
  ·rw [hz,show (0:Int).toNat = 0 from rfl,v_digs_0]
   by_cases hd0:d = 0
   ·subst hd0; rw [show ((0:Int) + 1000000000 * 0).toNat = 0 from rfl,v_digs_0]; rfl
   ·rw [hz] at e1 e2
    rw [v_digs_pos (by omega),e1,e2,show (0:Int).toNat = 0 from rfl,v_digs_0,Int.toNat_of_nonneg hd.1,show (d == 0)=false from beq_eq_false_iff_ne.2 hd0]; rfl
  ·rw [v_digs_pos (n := (d + 1000000000 * v_val r).toNat) (by omega),e1,e2,Int.toNat_of_nonneg hd.1]
   cases hq:v_digs (v_val r).toNat with
   | nil =>
    have := v_digs_val (v_val r).toNat
    rw [hq] at this
    have:(0:Int)=((v_val r).toNat:Int) := this
    omega
   | cons x q => rfl
theorem v_val_append:∀ (a b:List Int),v_val (a ++ b)=v_val a + v_pow a.length * v_val b
 | [],b => by show v_val b = 0 + 1 * v_val b; omega
 | d :: a,b => by
  show d + 1000000000 * v_val (a ++ b)=d + 1000000000 * v_val a + v_pow (a.length + 1) * v_val b
  rw [v_val_append a b,v_pow_s,Int.mul_add,Int.mul_assoc]; omega
theorem v_val_zeros:∀ n,v_val (List.replicate n 0)=0
 | 0 => rfl
 | n + 1 => by rw [List.replicate_succ]; show (0:Int) + 1000000000 * v_val _ = 0; rw [v_val_zeros n]; rfl
theorem v_val_set:∀ (l:List Int) (i:Nat) (x:Int),i < l.length→v_val (l.set i x)=v_val l + v_pow i * (x - l.getD i 0)
 | [],i,x,h => by simp at h
 | d :: r,0,x,_ => by
  show x + 1000000000 * v_val r = d + 1000000000 * v_val r + 1 * (x - d)
  omega
 | d :: r,i + 1,x,h => by
  show d + 1000000000 * v_val (r.set i x)=d + 1000000000 * v_val r + v_pow (i + 1) * (x - r.getD i 0)
  rw [v_val_set r i x (by simpa using h),v_pow_s,Int.mul_add,Int.mul_assoc]; omega
theorem v_val_split (l:List Int) (i:Nat) (h:i < l.length):v_val l = v_val (l.take i) + v_pow i * (l.getD i 0 + 1000000000 * v_val (l.drop (i + 1))) := by
 have e:l = l.take i ++ (l.getD i 0 :: l.drop (i + 1)) := by rw [← drop_getD 0 h,List.take_append_drop]
 have := v_val_append (l.take i) (l.getD i 0 :: l.drop (i + 1))
 rw [← e] at this
 rw [this,List.length_take,Nat.min_eq_left (Nat.le_of_lt h)]; rfl
/-- A whole number,as its sign and its digits. -/
def v_wide (n:Int):Int×List Int := (n.sign,v_digs n.natAbs)
def v_wval (p:Int×List Int):Int := p.1 * v_val p.2
theorem v_wval_wide (n:Int):v_wval (v_wide n)=n := by
 unfold v_wval v_wide
 simp only
 rw [v_digs_val]
 exact Int.sign_mul_natAbs n
theorem v_val_take_s {l:List Int} {i:Nat} (h:i < l.length):v_val (l.take (i + 1))=v_val (l.take i) + v_pow i * l.getD i 0 := by
 have e:l.take (i + 1)=l.take i ++ [l.getD i 0] := by
  rw [List.take_succ_eq_append_getElem h,List.getD_eq_getElem?_getD,List.getElem?_eq_getElem h]; rfl
 rw [e,v_val_append,List.length_take,Nat.min_eq_left (Nat.le_of_lt h)]
 show _ + v_pow i * (l.getD i 0 + 1000000000 * 0)=_
 rw [Int.mul_zero,Int.add_zero]
theorem v_dgok_take {l:List Int} (h:v_dgok l) (i:Nat):v_dgok (l.take i) := fun d hd => h d (List.mem_of_mem_take hd)
theorem v_dgok_drop {l:List Int} (h:v_dgok l) (i:Nat):v_dgok (l.drop i) := fun d hd => h d (List.mem_of_mem_drop hd)
theorem v_dgok_get {l:List Int} (h:v_dgok l) (i:Nat):0≤l.getD i 0∧l.getD i 0 < 1000000000 := by
 rcases Nat.lt_or_ge i l.length with hi | hi
 ·exact h _ (getD_mem' 0 hi)
 ·rw [List.getD_eq_getElem?_getD,List.getElem?_eq_none hi]; simp
theorem v_dgok_snoc {l:List Int} {x:Int} (h:v_dgok l) (hx:0≤x∧x < 1000000000):v_dgok (l ++ [x]) := fun d hd => by
 rcases List.mem_append.1 hd with hd | hd
 ·exact h d hd
 ·simp at hd; subst hd; exact hx
theorem v_dgok_set {l:List Int} {x:Int} {i:Nat} (h:v_dgok l) (hx:0≤x∧x < 1000000000):v_dgok (l.set i x) := fun d hd => by
 rcases List.mem_or_eq_of_mem_set hd with hd | rfl
 ·exact h d hd
 ·exact hx
theorem v_val_snoc (l:List Int) (x:Int):v_val (l ++ [x])=v_val l + v_pow l.length * x := by
 rw [v_val_append]
 show _ + v_pow l.length * (x + 1000000000 * 0)=_
 rw [Int.mul_zero,Int.add_zero]
theorem v_dcmp_lt {a b:List Int} (ha:v_dgok a) (hb:v_dgok b) {i:Nat} (hia:i < a.length) (hib:i < b.length) (hd:a.drop (i + 1)=b.drop (i + 1)) (h:a.getD i 0 < b.getD i 0):v_val a < v_val b := by
 rw [v_val_split a i hia,v_val_split b i hib,hd]
 have h1 := v_val_lt (v_dgok_take ha i)
 rw [List.length_take,Nat.min_eq_left (Nat.le_of_lt hia)] at h1
 have h2 := v_val_nn (v_dgok_take hb i)
 have h3 := v_pow_pos i
 have := Int.mul_le_mul_of_nonneg_left (show 1≤b.getD i 0 - a.getD i 0 by omega) (show 0≤v_pow i by omega)
 rw [Int.mul_add,Int.mul_add]
 rw [Int.mul_sub] at this
 omega
/-- Rounds from a number down to 0; t: what is carried besides. -/
theorem down_is {τ σ ρ:Type} {dd:ρ} {st:σ→σ ⊕ ρ} {sp:σ→List Prop} (mk:Int→τ→σ) (n:Nat) (I:Nat→τ→Prop) (F:Nat→τ→ρ) (hl:n≤4611686018427387904)
  (hn:∀ t,I 0 t→(∀ p∈sp (mk (-1) t),p)∧st (mk (-1) t) = .inr (F 0 t))
  (hc:∀ (j:Nat) (t:τ),j < n→I (j + 1) t→(∀ p∈sp (mk j t),p)∧((∃ t',st (mk j t) = .inl (mk ((j:Int) - 1) t')∧I j t'∧F j t' = F (j + 1) t) ∨ st (mk j t) = .inr (F (j + 1) t))) (t:τ) (h:I n t):OkL st sp (mk ((n:Int) - 1) t)∧lpv dd st (mk ((n:Int) - 1) t)=F n t := by
 have key:∀ (j f:Nat) (t:τ),j≤n→j < f→I j t→OkN st sp f (mk ((j:Int) - 1) t)∧runL dd st f (mk ((j:Int) - 1) t)=F j t := by
  intro j
  induction j with
  | zero =>
   intro f t _ hf hi
   obtain ⟨g1,g2⟩ := hn t hi
   cases f with
   | zero => omega
   | succ f => unfold OkN runL; rw [show ((0:Nat):Int) - 1 = -1 from rfl,g2]; exact ⟨⟨g1,trivial⟩,rfl⟩
  | succ j ih =>
   intro f t hjn hf hi
   obtain ⟨g1,g2⟩ := hc j t (by omega) hi
   cases f with
   | zero => omega
   | succ f =>
    unfold OkN runL
    rw [show ((j + 1:Nat):Int) - 1 = (j:Int) by omega]
    rcases g2 with ⟨t',e,i',f'⟩ | e
    ·rw [e]
     obtain ⟨q1,q2⟩ := ih f t' (by omega) (by omega) i'
     exact ⟨⟨g1,q1⟩,by rw [← f']; exact q2⟩
    ·rw [e]; exact ⟨⟨g1,trivial⟩,rfl⟩
 exact key n fuel t (Nat.le_refl _) (by unfold fuel; omega) h
/-- What holds at each round,and falls,ends in what is asked. -/
theorem loop_post {σ ρ:Type} {d:ρ} {st:σ→σ ⊕ ρ} {sp:σ→List Prop} (I:σ→Prop) (μ:σ→Nat) (R:ρ→Prop)
  (h:∀ x,I x→(∀ p∈sp x,p)∧match st x with | .inl y => I y∧μ y < μ x | .inr r => R r) {x:σ} (hx:I x) (hm:μ x < fuel):OkL st sp x∧R (lpv d st x) := by
 have key:∀ (n:Nat) (x:σ),I x→μ x < n→OkN st sp n x∧R (runL d st n x) := by
  intro n
  induction n with
  | zero => intro x _ hn; omega
  | succ n ih =>
   intro x hi hn
   obtain ⟨h1,h2⟩ := h x hi
   unfold OkN runL
   cases hst:st x with
   | inl y =>
    rw [hst] at h2
    obtain ⟨q1,q2⟩ := ih y h2.1 (by omega)
    exact ⟨⟨h1,q1⟩,q2⟩
   | inr r => rw [hst] at h2; exact ⟨⟨h1,trivial⟩,h2⟩
 exact key fuel x hx hm
theorem for_post {τ σ ρ:Type} {dd:ρ} {st:σ→σ ⊕ ρ} {sp:σ→List Prop} (mk:Int→τ→σ) (a n:Nat) (I:Nat→τ→Prop) (R:ρ→Prop) (ha:a≤n) (hl:n≤4611686018427387904)
  (hn:∀ t,I n t→(∀ p∈sp (mk n t),p)∧∃ r,st (mk n t) = .inr r∧R r)
  (hc:∀ (j:Nat) (t:τ),a≤j→j < n→I j t→(∀ p∈sp (mk j t),p)∧((∃ t',st (mk j t) = .inl (mk ((j + 1:Nat):Int) t')∧I (j + 1) t') ∨ ∃ r,st (mk j t) = .inr r∧R r)) (t:τ) (h:I a t):OkL st sp (mk a t)∧R (lpv dd st (mk a t)) := by
 have key:∀ (m j f:Nat) (t:τ),a≤j→m + j = n→m < f→I j t→OkN st sp f (mk j t)∧R (runL dd st f (mk j t)) := by
  intro m
  induction m with
  | zero =>
   intro j f t _ hj hf hi
   have:j = n := by omega
   subst this
   obtain ⟨g1,r,g2,g3⟩ := hn t hi
   cases f with
   | zero => omega
   | succ f => unfold OkN runL; rw [g2]; exact ⟨⟨g1,trivial⟩,g3⟩
  | succ m ih =>
   intro j f t haj hj hf hi
   obtain ⟨g1,g2⟩ := hc j t haj (by omega) hi
   cases f with
   | zero => omega
   | succ f =>
    unfold OkN runL
    rcases g2 with ⟨t',e,i'⟩ | ⟨r,e,g3⟩
    ·rw [e]
     obtain ⟨q1,q2⟩ := ih (j + 1) f t' (by omega) (by omega) (by omega) i'
     exact ⟨⟨g1,q1⟩,q2⟩
    ·rw [e]; exact ⟨⟨g1,trivial⟩,g3⟩
 exact key (n - a) a fuel t (Nat.le_refl _) (by omega) (by unfold fuel; omega) h
/-- A sum,digit by digit: a round. -/
theorem v_add_round {out:List Int} {s R X:Int} (h:v_val out + v_pow out.length * (s + 1000000000 * R)=X):v_val (out ++ [s % 1000000000]) + v_pow (out.length + 1) * (s / 1000000000 + R)=X := by
 rw [v_val_snoc,v_pow_s,← h]
 have e:s = 1000000000 * (s / 1000000000) + s % 1000000000 := (Int.mul_ediv_add_emod s 1000000000).symm
 generalize s / 1000000000 = q at *
 generalize s % 1000000000 = r at *
 subst e
 grind
/-- A product,digit by digit: a round. -/
theorem v_mul_round {out b:List Int} {i k:Nat} {x c s V:Int} (hk:k < b.length) (ho:i + k < out.length) (hs:s = out.getD (i + k) 0 + x * b.getD k 0 + c)
  (h:v_val out + c * v_pow (i + k)=V + x * v_pow i * v_val (b.take k)):v_val (out.set (i + k) (s % 1000000000)) + (s / 1000000000) * v_pow (i + k + 1)=V + x * v_pow i * v_val (b.take (k + 1)) := by
 rw [v_val_set _ _ _ ho,v_val_take_s hk,v_pow_s,v_pow_add]
 rw [v_pow_add] at h
 have e:s = 1000000000 * (s / 1000000000) + s % 1000000000 := (Int.mul_ediv_add_emod s 1000000000).symm
 generalize s / 1000000000 = q at *
 generalize s % 1000000000 = r at *
 generalize out.getD (i + k) 0 = o at *
 generalize b.getD k 0 = d at *
 generalize v_pow i = P at *
 generalize v_pow k = Q at *
 generalize v_val out = X at *
 generalize v_val (b.take k)=Y at *
 grind
theorem v_mul_small {o x d c:Int} (ho:0≤o∧o < 1000000000) (hx:0≤x∧x < 1000000000) (hd:0≤d∧d < 1000000000) (hc:0≤c∧c < 1000000000):0≤x * d∧x * d≤999999998000000001∧0≤o + x * d + c∧(o + x * d + c) / 1000000000 < 1000000000 := by
 have h1:0≤x * d := Int.mul_nonneg hx.1 hd.1
 have h2:0≤(999999999 - x) * (999999999 + d) := Int.mul_nonneg (by omega) (by omega)
 have h3:0≤(999999999 + x) * (999999999 - d) := Int.mul_nonneg (by omega) (by omega)
 have h4:0≤(999999999 - x) * (999999999 - d) := Int.mul_nonneg (by omega) (by omega)
 simp only [Int.sub_mul,Int.mul_sub,Int.mul_add,Int.add_mul] at h2 h3 h4
 omega
theorem v_trim_z:∀ (l:List Int),v_trim (l ++ [0])=v_trim l
 | [] => rfl
 | d :: r => by
  rw [List.cons_append]
  unfold v_trim
  rw [v_trim_z r]
theorem v_trim_n {d:Int} (h:d ≠ 0):∀ (l:List Int),v_trim (l ++ [d])=l ++ [d]
 | [] => by
  show (match v_trim [] with | [] => cond (d == 0) [] [d] | x :: q => d :: x :: q)=_
  rw [show v_trim []=[] from rfl]
  simp only
  rw [show (d == 0)=false from beq_eq_false_iff_ne.2 h]; rfl
 | x :: r => by
  rw [List.cons_append]
  unfold v_trim
  rw [v_trim_n h r]
  cases r <;> rfl
theorem l_base_trimmed_0 (p0:List Int) (h:p0.length≤10000000000000):OkL (st_base_trimmed_0 p0) (sp_base_trimmed_0 p0) (p0.length:Int)∧lpv ([]:List Int) (st_base_trimmed_0 p0) (p0.length:Int)=v_trim p0 := by
 refine loop_is (fun (y:Int) => 0≤y∧y≤p0.length∧v_trim (p0.take y.toNat)=v_trim p0) (fun (y:Int) => y.toNat) (fun _ => v_trim p0) ?_ ⟨by omega,Int.le_refl _,by rw [Int.toNat_natCast,List.take_length]⟩ (by unfold fuel; omega)
 rintro y ⟨h1,h2,h3⟩
 rcases Int.lt_or_le 0 y with h0 | h0
 ·have hw:IntKind.i64.wrap (y - 1)=y - 1 := wrap_id (by omega) (by omega)
  have hk:(y - 1).toNat < p0.length := by omega
  have ht := take_snoc hk
  rw [show (y - 1).toNat + 1 = y.toNat by omega] at ht
  simp only [sp_base_trimmed_0,st_base_trimmed_0,hw,decide_eq_true (show y > 0 from h0),List.forall_mem_cons,cond_true]
  refine ⟨⟨fun _ => by omega,fun _ => by omega,fun _ => by omega,fun _ => h2,by simp⟩,?_⟩
  rcases int0 (p0.getD (y - 1).toNat 0) with ⟨z,_,e⟩ | ⟨z,_,e⟩ <;> rw [e]
  ·simp only [cond_true]
   refine ⟨⟨by omega,by omega,?_⟩,by omega,trivial⟩
   rw [← h3,ht,z,v_trim_z]
  ·simp only [cond_false]
   rw [← h3,ht,v_trim_n z]
 ·have:y = 0 := by omega
  subst this
  simp only [sp_base_trimmed_0,st_base_trimmed_0,decide_eq_false (show ¬ (0:Int) > 0 by omega),List.forall_mem_cons,cond_false]
  refine ⟨⟨fun h => (by cases h),fun h => (by cases h),fun _ => Int.le_refl _,fun _ => h2,by simp⟩,?_⟩
  rw [← h3]; rfl
abbrev t_base_trimmed (p0:List Int):List Int := v_trim p0
abbrev qre_base_trimmed (p0:List Int):List Prop := [p0.length≤10000000000000]
theorem pp_base_trimmed (p0:List Int) (hq:∀ p∈qre_base_trimmed p0,p):∀ p∈pre_base_trimmed p0,p := by
 simp only [pre_base_trimmed,List.forall_mem_cons]
 exact ⟨(l_base_trimmed_0 p0 (conj_of hq).1).1,by simp⟩
theorem tt_base_trimmed (p0:List Int) (hq:∀ p∈qre_base_trimmed p0,p):s_base_trimmed p0 = t_base_trimmed p0 := by
 exact (l_base_trimmed_0 p0 (conj_of hq).1).2

abbrev con_base_trimmed:Con := ⟨P_base_trimmed,R_base_trimmed,fun x => qre_base_trimmed x,fun x => t_base_trimmed x⟩
theorem ok_base_trimmed:ConOk Try.prog 156 con_base_trimmed := ⟨k_base_trimmed,fun x hx => ret_tf (ps := P_base_trimmed) (rs := R_base_trimmed) (x := x) (y := t_base_trimmed x) e_base_trimmed hC_base_trimmed (tf_of (w_base_trimmed_eq x (fun z => z = t_base_trimmed x)) (d_base_trimmed x (fun z => z = t_base_trimmed x) (pp_base_trimmed x hx) (tt_base_trimmed x hx)))⟩
/- base_cmpDigits -/
def C_base_cmpDigits:Cons := []
theorem hC_base_cmpDigits:ConsOk Try.prog C_base_cmpDigits := ConsOk.nil
def w_base_cmpDigits (p0:(List Int)) (p1:(List Int)) (K:Int→Prop):Prop :=
  (((((List.length p0:Int) != (List.length p1:Int))=true) →
 ((((decide ((List.length p0:Int) < (List.length p1:Int)))=true) →
  (K (-1:Int))) ∧
  (((decide ((List.length p0:Int) < (List.length p1:Int)))=false) →
  (K (1:Int))))) ∧
 ((((List.length p0:Int) != (List.length p1:Int))=false) →
 (∃ n0,(loopP (fun (y1:Int) k2 =>
   ((((decide (y1 ≥ 0))=true) →
   (((0:Int)≤y1) ∧
    ((y1 < (List.length p0:Int)) ∧
    (((0:Int)≤y1) ∧
    ((y1 < (List.length p1:Int)) ∧
    ((((decide ((p0.getD y1.toNat 0) < (p1.getD y1.toNat 0)))=true) →
    (K (-1:Int))) ∧
    (((decide ((p0.getD y1.toNat 0) < (p1.getD y1.toNat 0)))=false) →
    (((0:Int)≤y1) ∧
     ((y1 < (List.length p0:Int)) ∧
     (((0:Int)≤y1) ∧
     ((y1 < (List.length p1:Int)) ∧
     ((((decide ((p0.getD y1.toNat 0) > (p1.getD y1.toNat 0)))=true) →
     (K (1:Int))) ∧
     (((decide ((p0.getD y1.toNat 0) > (p1.getD y1.toNat 0)))=false) →
     (k2 (IntKind.i64.wrap (y1 - 1)))))))))))))))) ∧
   (((decide (y1 ≥ 0))=false) →
   (K (0:Int))))) n0 (IntKind.i64.wrap ((List.length p0:Int) - 1))))))
set_option maxHeartbeats 4000000 in
theorem w_base_cmpDigits_eq (p0:(List Int)) (p1:(List Int)) (K:Int→Prop):tfn F_base_cmpDigits A_base_cmpDigits C_base_cmpDigits P_base_cmpDigits R_base_cmpDigits (p0,p1) K = w_base_cmpDigits p0 p1 K := by kernel_rfl
def st_base_cmpDigits_0 (p0:(List Int)) (p1:(List Int)) (y2:Int):Int ⊕ Int :=
 (cond (decide (y2 ≥ 0)) (cond (decide ((p0.getD y2.toNat 0) < (p1.getD y2.toNat 0))) (Sum.inr (-1:Int))
  (cond (decide ((p0.getD y2.toNat 0) > (p1.getD y2.toNat 0))) (Sum.inr (1:Int))
  (Sum.inl (IntKind.i64.wrap (y2 - 1)))))
  (Sum.inr (0:Int)))
abbrev sp_base_cmpDigits_0 (p0:(List Int)) (p1:(List Int)) (y2:Int):List Prop := [(((decide (y2 ≥ 0))=true)→((0:Int)≤y2)),
  (((decide (y2 ≥ 0))=true)→(y2 < (List.length p0:Int))),
  (((decide (y2 ≥ 0))=true)→(y2 < (List.length p1:Int))),
  (((decide (y2 ≥ 0))=true)→(((decide ((p0.getD y2.toNat 0) < (p1.getD y2.toNat 0)))=false)→((0:Int)≤y2))),
  (((decide (y2 ≥ 0))=true)→(((decide ((p0.getD y2.toNat 0) < (p1.getD y2.toNat 0)))=false)→(y2 < (List.length p0:Int)))),
  (((decide (y2 ≥ 0))=true)→(((decide ((p0.getD y2.toNat 0) < (p1.getD y2.toNat 0)))=false)→(y2 < (List.length p1:Int))))]
def s_base_cmpDigits (p0:(List Int)) (p1:(List Int)):Int :=
 (cond ((List.length p0:Int) != (List.length p1:Int)) (cond (decide ((List.length p0:Int) < (List.length p1:Int))) (-1:Int)
  (1:Int))
  (lpv (0:Int) (st_base_cmpDigits_0 p0 p1) (IntKind.i64.wrap ((List.length p0:Int) - 1))))
abbrev pre_base_cmpDigits (p0:(List Int)) (p1:(List Int)):List Prop := [((((List.length p0:Int) != (List.length p1:Int))=false)→(OkL (st_base_cmpDigits_0 p0 p1) (sp_base_cmpDigits_0 p0 p1) (IntKind.i64.wrap ((List.length p0:Int) - 1))))]
set_option maxHeartbeats 4000000 in
theorem d_base_cmpDigits (p0:(List Int)) (p1:(List Int)) (K:Int→Prop) (hp:∀ p∈pre_base_cmpDigits p0 p1,p) (h:K (s_base_cmpDigits p0 p1)):w_base_cmpDigits p0 p1 K := by
 unfold w_base_cmpDigits
 unfold s_base_cmpDigits at h
 obtain ⟨hp0,_⟩ := conj_of hp
 exact (br' h (fun e0 h => (br' h (fun e1 h => h)
  (fun e1 h => h)))
  (fun e0 h => (loop_gen (hp0 e0) h (fun y2 k2 hp h => by
 unfold st_base_cmpDigits_0 at h; obtain ⟨hp0,hp1,hp2,hp3,hp4,hp5,_⟩ := conj_of hp
 exact (br' h (fun e3 h => ⟨(hp0 e3),(hp1 e3),(hp0 e3),(hp2 e3),(br' h (fun e4 h => h)
  (fun e4 h => ⟨(hp3 e3 e4),(hp4 e3 e4),(hp3 e3 e4),(hp5 e3 e4),(br' h (fun e5 h => h)
  (fun e5 h => h))⟩))⟩)
  (fun e3 h => h))))))
/-- Digits that are those of their number. -/
structure v_can (l:List Int):Prop where
 eq:l = v_digs (v_val l).toNat
 len:l.length≤1000000000000
theorem v_can.ok {l:List Int} (h:v_can l):v_dgok l := by rw [h.eq]; exact v_digs_ok _
theorem v_can.lt {a b:List Int} (ha:v_can a) (hb:v_can b) (h:a.length < b.length):v_val a < v_val b := by
 have h1 := v_val_nn ha.ok
 have h2 := v_val_nn hb.ok
 have := v_digs_len_lt (m := (v_val a).toNat) (n := (v_val b).toNat) (by rw [← ha.eq,← hb.eq]; exact h)
 omega
theorem l_base_cmpDigits_0 (p0 p1:List Int) (h1:v_can p0) (h2:v_can p1) (hl:p0.length = p1.length):OkL (st_base_cmpDigits_0 p0 p1) (sp_base_cmpDigits_0 p0 p1) (IntKind.i64.wrap ((p0.length:Int) - 1))∧lpv (0:Int) (st_base_cmpDigits_0 p0 p1) (IntKind.i64.wrap ((p0.length:Int) - 1))=v_cmp (v_val p0) (v_val p1) := by
 have hlen := h1.len
 rw [wrap_id (n := (p0.length:Int) - 1) (by omega) (by omega)]
 refine down_is (dd := (0:Int)) (fun i (_:Unit) => i) p0.length (fun j _ => p0.drop j = p1.drop j) (fun _ _ => v_cmp (v_val p0) (v_val p1)) (by omega) ?_ ?_ () (by rw [List.drop_length,hl,List.drop_length])
 ·intro _ h
  simp only [List.drop_zero] at h
  subst h
  simp only [sp_base_cmpDigits_0,st_base_cmpDigits_0,List.forall_mem_cons,show decide ((-1:Int) ≥ 0)=false from rfl,cond_false]
  refine ⟨⟨fun h => (by cases h),fun h => (by cases h),fun h => (by cases h),fun h => (by cases h),fun h => (by cases h),fun h => (by cases h),by simp⟩,?_⟩
  unfold v_cmp
  rw [decide_eq_false (by omega)]; rfl
 ·intro j _ hj h
  have hj1:j < p1.length := by omega
  have hd:decide ((j:Int) ≥ 0)=true := decide_eq_true (by omega)
  have hw:IntKind.i64.wrap ((j:Int) - 1)=(j:Int) - 1 := wrap_id (by omega) (by omega)
  simp only [sp_base_cmpDigits_0,st_base_cmpDigits_0,List.forall_mem_cons,hd,cond_true,Int.toNat_natCast,hw]
  refine ⟨⟨fun _ => by omega,fun _ => by omega,fun _ => by omega,fun _ _ => by omega,fun _ _ => by omega,fun _ _ => by omega,by simp⟩,?_⟩
  rcases Int.lt_trichotomy (p0.getD j 0) (p1.getD j 0) with c | c | c
  ·right
   rw [decide_eq_true c,cond_true]
   have := v_dcmp_lt h1.ok h2.ok hj hj1 h c
   unfold v_cmp
   rw [decide_eq_true this]; rfl
  ·left
   rw [decide_eq_false (show ¬ p0.getD j 0 < p1.getD j 0 by omega),decide_eq_false (show ¬ p0.getD j 0 > p1.getD j 0 by omega),cond_false,cond_false]
   exact ⟨(),rfl,by rw [drop_getD 0 hj,drop_getD 0 hj1,h,c],trivial⟩
  ·right
   rw [decide_eq_false (show ¬ p0.getD j 0 < p1.getD j 0 by omega),decide_eq_true (show p0.getD j 0 > p1.getD j 0 from c),cond_true,cond_false]
   have := v_dcmp_lt h2.ok h1.ok hj1 hj h.symm c
   unfold v_cmp
   rw [decide_eq_false (show ¬ v_val p0 < v_val p1 by omega),decide_eq_true (show v_val p0 > v_val p1 from this)]; rfl
abbrev t_base_cmpDigits (p0:List Int) (p1:List Int):Int := v_cmp (v_val p0) (v_val p1)
abbrev qre_base_cmpDigits (p0:List Int) (p1:List Int):List Prop := [v_can p0,v_can p1]
theorem pp_base_cmpDigits (p0:List Int) (p1:List Int) (hq:∀ p∈qre_base_cmpDigits p0 p1,p):∀ p∈pre_base_cmpDigits p0 p1,p := by
 obtain ⟨h1,h2,_⟩ := conj_of hq
 simp only [pre_base_cmpDigits,List.forall_mem_cons]
 exact ⟨fun h => (l_base_cmpDigits_0 p0 p1 h1 h2 (by simp at h; omega)).1,by simp⟩
theorem tt_base_cmpDigits (p0:List Int) (p1:List Int) (hq:∀ p∈qre_base_cmpDigits p0 p1,p):s_base_cmpDigits p0 p1 = t_base_cmpDigits p0 p1 := by
 obtain ⟨h1,h2,_⟩ := conj_of hq
 unfold s_base_cmpDigits t_base_cmpDigits
 rcases Nat.lt_trichotomy p0.length p1.length with h | h | h
 ·rw [show ((p0.length:Int) != (p1.length:Int))=true from bne_iff_ne.2 (by omega),decide_eq_true (by omega)]
  have := h1.lt h2 h
  unfold v_cmp
  rw [decide_eq_true this]; rfl
 ·have e := (l_base_cmpDigits_0 p0 p1 h1 h2 h).2
  rw [e,h,bne_self_eq_false,cond_false]
 ·rw [show ((p0.length:Int) != (p1.length:Int))=true from bne_iff_ne.2 (by omega),decide_eq_false (by omega)]
  have := h2.lt h1 h
  unfold v_cmp
  rw [decide_eq_false (by omega),decide_eq_true (show v_val p0 > v_val p1 from this)]; rfl

abbrev con_base_cmpDigits:Con := ⟨P_base_cmpDigits,R_base_cmpDigits,fun x => qre_base_cmpDigits x.1 x.2,fun x => t_base_cmpDigits x.1 x.2⟩
theorem ok_base_cmpDigits:ConOk Try.prog 150 con_base_cmpDigits := ⟨k_base_cmpDigits,fun x hx => ret_tf (ps := P_base_cmpDigits) (rs := R_base_cmpDigits) (x := x) (y := t_base_cmpDigits x.1 x.2) e_base_cmpDigits hC_base_cmpDigits (tf_of (w_base_cmpDigits_eq x.1 x.2 (fun z => z = t_base_cmpDigits x.1 x.2)) (d_base_cmpDigits x.1 x.2 (fun z => z = t_base_cmpDigits x.1 x.2) (pp_base_cmpDigits x.1 x.2 hx) (tt_base_cmpDigits x.1 x.2 hx)))⟩
/- base_wideOf -/
def C_base_wideOf:Cons := [(156,[],con_base_trimmed)]
theorem hC_base_wideOf:ConsOk Try.prog C_base_wideOf := ConsOk.cons ok_base_trimmed <| ConsOk.nil
def w_base_wideOf (p0:Int) (p1:(List Int)) (K:(Int×(List Int))→Prop):Prop :=
  ((p1.length≤10000000000000) ∧
 (((((((v_trim p1).length:Nat):Int) == 0)=true) →
 (K ((0:Int),(v_trim p1)))) ∧
 ((((((v_trim p1).length:Nat):Int) == 0)=false) →
 (K (p0,(v_trim p1))))))
set_option maxHeartbeats 4000000 in
theorem w_base_wideOf_eq (p0:Int) (p1:(List Int)) (K:(Int×(List Int))→Prop):tfn F_base_wideOf A_base_wideOf C_base_wideOf P_base_wideOf R_base_wideOf (p0,p1) K = w_base_wideOf p0 p1 K := by kernel_rfl
def s_base_wideOf (p0:Int) (p1:(List Int)):(Int×(List Int)) :=
 (cond ((((v_trim p1).length:Nat):Int) == 0) ((0:Int),(v_trim p1))
  (p0,(v_trim p1)))
abbrev pre_base_wideOf (_p0:Int) (p1:(List Int)):List Prop := [(p1.length≤10000000000000)]
set_option maxHeartbeats 4000000 in
theorem d_base_wideOf (p0:Int) (p1:(List Int)) (K:(Int×(List Int))→Prop) (hp:∀ p∈pre_base_wideOf p0 p1,p) (h:K (s_base_wideOf p0 p1)):w_base_wideOf p0 p1 K := by
 unfold w_base_wideOf
 unfold s_base_wideOf at h
 obtain ⟨hp0,_⟩ := conj_of hp
 exact ⟨(hp0),(br' h (fun e0 h => h)
  (fun e0 h => h))⟩
/-- A sign that fits digits. -/
def v_sgn (s:Int) (l:List Int):Prop := s = 1 ∨ s = -1 ∨ v_val l = 0
abbrev t_base_wideOf (p0:Int) (p1:List Int):Int×List Int := v_wide (p0 * v_val p1)
abbrev qre_base_wideOf (p0:Int) (p1:List Int):List Prop := [v_sgn p0 p1,v_dgok p1,p1.length≤10000000000000]
theorem pp_base_wideOf (p0:Int) (p1:List Int) (hq:∀ p∈qre_base_wideOf p0 p1,p):∀ p∈pre_base_wideOf p0 p1,p := by
 obtain ⟨_,_,h3,_⟩ := conj_of hq
 simp only [pre_base_wideOf,List.forall_mem_cons]
 exact ⟨h3,by simp⟩
theorem tt_base_wideOf (p0:Int) (p1:List Int) (hq:∀ p∈qre_base_wideOf p0 p1,p):s_base_wideOf p0 p1 = t_base_wideOf p0 p1 := by
 obtain ⟨h1,h2,_⟩ := conj_of hq
 have hn := v_val_nn h2
 unfold s_base_wideOf t_base_wideOf v_wide
 rw [v_trim_is h2]
 rcases Decidable.em (v_val p1 = 0) with z | z
 ·rw [z,Int.mul_zero,show (0:Int).toNat = 0 from rfl]
  show cond (((v_digs 0).length:Int) == 0) ((0:Int),v_digs 0) (p0,v_digs 0)=((0:Int),v_digs 0)
  rw [v_digs_0]; rfl
 ·have hp:v_digs (v_val p1).toNat ≠ [] := by rw [v_digs_pos (by omega)]; simp
  have hl:((v_digs (v_val p1).toNat).length:Int) ≠ 0 := by have := List.length_pos_iff.2 hp; omega
  rw [show (((v_digs (v_val p1).toNat).length:Int) == 0)=false from beq_eq_false_iff_ne.2 hl]
  rcases h1 with rfl | rfl | h1
  ·rw [Int.one_mul,Int.sign_eq_one_of_pos (by omega)]
   simp only [cond_false]
   congr 2
   omega
  ·rw [show -1 * v_val p1 = -(v_val p1) by omega,Int.sign_eq_neg_one_of_neg (by omega)]
   simp only [cond_false]
   congr 2
   omega
  ·exact absurd h1 z

abbrev con_base_wideOf:Con := ⟨P_base_wideOf,R_base_wideOf,fun x => qre_base_wideOf x.1 x.2,fun x => t_base_wideOf x.1 x.2⟩
theorem ok_base_wideOf:ConOk Try.prog 146 con_base_wideOf := ⟨k_base_wideOf,fun x hx => ret_tf (ps := P_base_wideOf) (rs := R_base_wideOf) (x := x) (y := t_base_wideOf x.1 x.2) e_base_wideOf hC_base_wideOf (tf_of (w_base_wideOf_eq x.1 x.2 (fun z => z = t_base_wideOf x.1 x.2)) (d_base_wideOf x.1 x.2 (fun z => z = t_base_wideOf x.1 x.2) (pp_base_wideOf x.1 x.2 hx) (tt_base_wideOf x.1 x.2 hx)))⟩
/- base_WideNeg -/
def C_base_WideNeg:Cons := []
theorem hC_base_WideNeg:ConsOk Try.prog C_base_WideNeg := ConsOk.nil
def w_base_WideNeg (p0:(Int×(List Int))) (K:(Int×(List Int))→Prop):Prop :=
  (K ((IntKind.i64.wrap ((0:Int) - p0.1)),p0.2))
set_option maxHeartbeats 4000000 in
theorem w_base_WideNeg_eq (p0:(Int×(List Int))) (K:(Int×(List Int))→Prop):tfn F_base_WideNeg A_base_WideNeg C_base_WideNeg P_base_WideNeg R_base_WideNeg p0 K = w_base_WideNeg p0 K := by kernel_rfl
def s_base_WideNeg (p0:(Int×(List Int))):(Int×(List Int)) :=
 ((IntKind.i64.wrap ((0:Int) - p0.1)),p0.2)
abbrev pre_base_WideNeg (_p0:(Int×(List Int))):List Prop := []
set_option maxHeartbeats 4000000 in
theorem d_base_WideNeg (p0:(Int×(List Int))) (K:(Int×(List Int))→Prop) (_hp:∀ p∈pre_base_WideNeg p0,p) (h:K (s_base_WideNeg p0)):w_base_WideNeg p0 K := by
 unfold w_base_WideNeg
 unfold s_base_WideNeg at h
 exact h
/-- A number that is as it should be. -/
structure v_wok (p:Int×List Int):Prop where
 eq:p = v_wide (v_wval p)
 ln:p.2.length≤1000000000000
/-- How many digits a number has. -/
def v_dl (n:Int):Nat := (v_digs n.natAbs).length
theorem v_wok.ex {p:Int×List Int} (h:v_wok p):∃ n:Int,p = v_wide n∧v_dl n≤1000000000000 := ⟨_,h.eq,by have := h.ln; rw [h.eq] at this; exact this⟩
theorem v_wok_of {n:Int} (h:v_dl n≤1000000000000):v_wok (v_wide n) := ⟨by rw [v_wval_wide],h⟩
theorem v_digs_mono {m n:Nat} (h:m≤n):(v_digs m).length≤(v_digs n).length := by
 rcases Nat.lt_or_ge (v_digs n).length (v_digs m).length with k | k
 ·have := v_digs_len_lt k; omega
 ·exact k
theorem v_dl_mono {m n:Int} (h:m.natAbs≤n.natAbs):v_dl m≤v_dl n := v_digs_mono h
theorem v_dl_mul (m n:Int):v_dl (m * n)≤v_dl m + v_dl n := by
 unfold v_dl
 refine v_digs_len ?_
 have h1 := v_digs_high m.natAbs
 have h2 := v_digs_high n.natAbs
 rw [Int.natAbs_mul,v_pow_add,Int.natCast_mul]
 rcases Int.lt_or_le 0 (n.natAbs:Int) with k | k
 ·exact Int.lt_of_lt_of_le (Int.mul_lt_mul_of_pos_right h1 k) (Int.mul_le_mul_of_nonneg_left (Int.le_of_lt h2) (by have := v_pow_pos (v_digs m.natAbs).length; omega))
 ·have:(n.natAbs:Int)=0 := by omega
  rw [this,Int.mul_zero,← v_pow_add]
  have := v_pow_pos ((v_digs m.natAbs).length + (v_digs n.natAbs).length); omega
theorem v_dl_add (m n:Int):v_dl (m + n)≤max (v_dl m) (v_dl n) + 1 := by
 unfold v_dl
 refine v_digs_len ?_
 have h1 := v_digs_high m.natAbs
 have h2 := v_digs_high n.natAbs
 have h3 := v_pow_le (Nat.le_max_left (v_digs m.natAbs).length (v_digs n.natAbs).length)
 have h4 := v_pow_le (Nat.le_max_right (v_digs m.natAbs).length (v_digs n.natAbs).length)
 have h5 := v_pow_pos (max (v_digs m.natAbs).length (v_digs n.natAbs).length)
 rw [v_pow_s]; omega
theorem v_dl_neg (n:Int):v_dl (-n)=v_dl n := by unfold v_dl; rw [Int.natAbs_neg]
theorem v_wide_1 (n:Int):(v_wide n).1 = n.sign := rfl
theorem v_wide_val (n:Int):v_val (v_wide n).2 = n.natAbs := v_digs_val _
theorem v_wide_ok (n:Int):v_dgok (v_wide n).2 := v_digs_ok _
theorem v_wide_len (n:Int):(v_wide n).2.length = v_dl n := rfl
theorem v_wide_can {n:Int} (h:v_dl n≤1000000000000):v_can (v_wide n).2 := ⟨by rw [v_wide_val,Int.toNat_natCast]; rfl,h⟩
theorem v_sign_abs (n:Int):n.sign * (n.natAbs:Int)=n := Int.sign_mul_natAbs n
theorem v_sign3 (n:Int):(n < 0∧n.sign = -1∧(n.sign == 0)=false) ∨ (n = 0∧n.sign = 0∧(n.sign == 0)=true) ∨ (0 < n∧n.sign = 1∧(n.sign == 0)=false) := by
 rcases Int.lt_trichotomy n 0 with h | h | h
 ·have e := Int.sign_eq_neg_one_of_neg h; exact .inl ⟨h,e,by rw [e]; rfl⟩
 ·subst h; exact .inr (.inl ⟨rfl,rfl,rfl⟩)
 ·have e := Int.sign_eq_one_of_pos h; exact .inr (.inr ⟨h,e,by rw [e]; rfl⟩)
theorem v_cmp_sign (a b:Int):(a - b).sign = v_cmp a b := by
 unfold v_cmp
 rcases Int.lt_trichotomy a b with h | h | h
 ·rw [decide_eq_true h,Int.sign_eq_neg_one_of_neg (by omega)]; rfl
 ·subst h; rw [Int.sub_self,decide_eq_false (by omega)]; rfl
 ·rw [decide_eq_false (show ¬ a < b by omega),decide_eq_true (show a > b from h),Int.sign_eq_one_of_pos (by omega)]; rfl
abbrev t_base_WideNeg (p0:Int×List Int):Int×List Int := v_wide (-(v_wval p0))
abbrev qre_base_WideNeg (p0:Int×List Int):List Prop := [v_wok p0]
theorem pp_base_WideNeg (p0:Int×List Int) (_hq:∀ p∈qre_base_WideNeg p0,p):∀ p∈pre_base_WideNeg p0,p := by
 simp [pre_base_WideNeg]
theorem tt_base_WideNeg (p0:Int×List Int) (hq:∀ p∈qre_base_WideNeg p0,p):s_base_WideNeg p0 = t_base_WideNeg p0 := by
 obtain ⟨n,rfl,h⟩ := (conj_of hq).1.ex
 unfold s_base_WideNeg t_base_WideNeg
 rw [v_wval_wide]
 unfold v_wide
 rw [Int.natAbs_neg,Int.sign_neg]
 rcases v_sign3 n with ⟨_,e,_⟩ | ⟨_,e,_⟩ | ⟨_,e,_⟩ <;> rw [e] <;> rfl

abbrev con_base_WideNeg:Con := ⟨P_base_WideNeg,R_base_WideNeg,fun x => qre_base_WideNeg x,fun x => t_base_WideNeg x⟩
theorem ok_base_WideNeg:ConOk Try.prog 141 con_base_WideNeg := ⟨k_base_WideNeg,fun x hx => ret_tf (ps := P_base_WideNeg) (rs := R_base_WideNeg) (x := x) (y := t_base_WideNeg x) e_base_WideNeg hC_base_WideNeg (tf_of (w_base_WideNeg_eq x (fun z => z = t_base_WideNeg x)) (d_base_WideNeg x (fun z => z = t_base_WideNeg x) (pp_base_WideNeg x hx) (tt_base_WideNeg x hx)))⟩
/- base_digit -/
def C_base_digit:Cons := []
theorem hC_base_digit:ConsOk Try.prog C_base_digit := ConsOk.nil
def w_base_digit (p0:(List Int)) (p1:Int) (K:Int→Prop):Prop :=
  ((((decide (p1 < (List.length p0:Int)))=true) →
 (((0:Int)≤p1) ∧
  ((p1 < (List.length p0:Int)) ∧
  (K (p0.getD p1.toNat 0))))) ∧
 (((decide (p1 < (List.length p0:Int)))=false) →
 (K (0:Int))))
set_option maxHeartbeats 4000000 in
theorem w_base_digit_eq (p0:(List Int)) (p1:Int) (K:Int→Prop):tfn F_base_digit A_base_digit C_base_digit P_base_digit R_base_digit (p0,p1) K = w_base_digit p0 p1 K := by kernel_rfl
def s_base_digit (p0:(List Int)) (p1:Int):Int :=
 (cond (decide (p1 < (List.length p0:Int))) (p0.getD p1.toNat 0)
  (0:Int))
abbrev pre_base_digit (p0:(List Int)) (p1:Int):List Prop := [(((decide (p1 < (List.length p0:Int)))=true)→((0:Int)≤p1)),
  (((decide (p1 < (List.length p0:Int)))=true)→(p1 < (List.length p0:Int)))]
set_option maxHeartbeats 4000000 in
theorem d_base_digit (p0:(List Int)) (p1:Int) (K:Int→Prop) (hp:∀ p∈pre_base_digit p0 p1,p) (h:K (s_base_digit p0 p1)):w_base_digit p0 p1 K := by
 unfold w_base_digit
 unfold s_base_digit at h
 obtain ⟨hp0,hp1,_⟩ := conj_of hp
 exact (br' h (fun e0 h => ⟨(hp0 e0),(hp1 e0),h⟩)
  (fun e0 h => h))
abbrev t_base_digit (p0:List Int) (p1:Int):Int := p0.getD p1.toNat 0
abbrev qre_base_digit (_p0:List Int) (p1:Int):List Prop := [0≤p1]
theorem pp_base_digit (p0:List Int) (p1:Int) (hq:∀ p∈qre_base_digit p0 p1,p):∀ p∈pre_base_digit p0 p1,p := by
 have h := (conj_of hq).1
 simp only [pre_base_digit,List.forall_mem_cons]
 exact ⟨fun _ => h,fun c => of_decide_eq_true c,by simp⟩
theorem tt_base_digit (p0:List Int) (p1:Int) (hq:∀ p∈qre_base_digit p0 p1,p):s_base_digit p0 p1 = t_base_digit p0 p1 := by
 have h := (conj_of hq).1
 unfold s_base_digit t_base_digit
 rcases Int.lt_or_le p1 p0.length with c | c
 ·rw [decide_eq_true c]; rfl
 ·rw [decide_eq_false (by omega),gd_out 0 (by omega)]; rfl

abbrev con_base_digit:Con := ⟨P_base_digit,R_base_digit,fun x => qre_base_digit x.1 x.2,fun x => t_base_digit x.1 x.2⟩
theorem ok_base_digit:ConOk Try.prog 158 con_base_digit := ⟨k_base_digit,fun x hx => ret_tf (ps := P_base_digit) (rs := R_base_digit) (x := x) (y := t_base_digit x.1 x.2) e_base_digit hC_base_digit (tf_of (w_base_digit_eq x.1 x.2 (fun z => z = t_base_digit x.1 x.2)) (d_base_digit x.1 x.2 (fun z => z = t_base_digit x.1 x.2) (pp_base_digit x.1 x.2 hx) (tt_base_digit x.1 x.2 hx)))⟩
/- base_addDigits -/
def C_base_addDigits:Cons := [(158,[],con_base_digit)]
theorem hC_base_addDigits:ConsOk Try.prog C_base_addDigits := ConsOk.cons ok_base_digit <| ConsOk.nil
abbrev q0_base_addDigits (p0:(List Int)) (p1:(List Int)) (y1:(Int×((List Int)×Int))) := (cond (decide (y1.1 < (List.length p0:Int))) true (decide (y1.1 < (List.length p1:Int))))
def w_base_addDigits (p0:(List Int)) (p1:(List Int)) (K:(List Int)→Prop):Prop :=
  (∃ n0,(loopP (fun (y1:(Int×((List Int)×Int))) k2 =>
  ((((decide (y1.1 < (List.length p0:Int)))=false) →
  ((decide (y1.1 < (List.length p0:Int)))=(decide (y1.1 < (List.length p0:Int))))) ∧
  ((((decide (y1.1 < (List.length p0:Int)))=false) →
  ((decide (y1.1 < (List.length p0:Int)))=(decide (y1.1 < (List.length p0:Int))))) ∧
  ((((decide (y1.1 < (List.length p0:Int)))=false) →
  ((decide (y1.1 < (List.length p0:Int)))=(decide (y1.1 < (List.length p0:Int))))) ∧
  (((decide (y1.1 < (List.length p0:Int)))=(decide (y1.1 < (List.length p0:Int)))) ∧
  ((((q0_base_addDigits p0 p1 y1)=false) →
  ((q0_base_addDigits p0 p1 y1)=(q0_base_addDigits p0 p1 y1))) ∧
  (((q0_base_addDigits p0 p1 y1)=(q0_base_addDigits p0 p1 y1)) ∧
  ((((cond (q0_base_addDigits p0 p1 y1) true (decide (y1.2.2 > zz0)))=true) →
  ((zz0≤y1.1) ∧
   ((zz0≤y1.1) ∧
   ((((y1.2.1.length + (List.length ((Int.tmod (wi ((wi ((p0.getD y1.1.toNat zz0) + (p1.getD y1.1.toNat zz0))) + y1.2.2)) (1000000000:Int)) :: ([]:List Int)))) * 8)≤140737488355328) ∧
   (k2 ((wi (y1.1 + zz1)),((y1.2.1 ++ ((Int.tmod (wi ((wi ((p0.getD y1.1.toNat zz0) + (p1.getD y1.1.toNat zz0))) + y1.2.2)) (1000000000:Int)) :: ([]:List Int))),(wi (Int.tdiv (wi ((wi ((p0.getD y1.1.toNat zz0) + (p1.getD y1.1.toNat zz0))) + y1.2.2)) (1000000000:Int)))))))))) ∧
  (((cond (q0_base_addDigits p0 p1 y1) true (decide (y1.2.2 > zz0)))=false) →
  (K y1.2.1)))))))))) n0 (zz0,(([]:List Int),zz0))))
set_option maxHeartbeats 4000000 in
theorem w_base_addDigits_eq (p0:(List Int)) (p1:(List Int)) (K:(List Int)→Prop):tfn F_base_addDigits A_base_addDigits C_base_addDigits P_base_addDigits R_base_addDigits (p0,p1) K = w_base_addDigits p0 p1 K := by kernel_rfl
def st_base_addDigits_0 (p0:(List Int)) (p1:(List Int)) (y0:(Int×((List Int)×Int))):(Int×((List Int)×Int)) ⊕ (List Int) :=
 (cond (cond (cond (decide (y0.1 < (List.length p0:Int))) true (decide (y0.1 < (List.length p1:Int)))) true (decide (y0.2.2 > 0))) (Sum.inl ((IntKind.i64.wrap (y0.1 + 1)),((y0.2.1 ++ ((Int.tmod (IntKind.i64.wrap ((IntKind.i64.wrap ((p0.getD y0.1.toNat 0) + (p1.getD y0.1.toNat 0))) + y0.2.2)) (1000000000:Int)) :: ([]:List Int))),(IntKind.i64.wrap (Int.tdiv (IntKind.i64.wrap ((IntKind.i64.wrap ((p0.getD y0.1.toNat 0) + (p1.getD y0.1.toNat 0))) + y0.2.2)) (1000000000:Int))))))
  (Sum.inr y0.2.1))
abbrev sp_base_addDigits_0 (p0:(List Int)) (p1:(List Int)) (y0:(Int×((List Int)×Int))):List Prop := [(((cond (cond (decide (y0.1 < (List.length p0:Int))) true (decide (y0.1 < (List.length p1:Int)))) true (decide (y0.2.2 > 0)))=true)→((0:Int)≤y0.1)),
  (((cond (cond (decide (y0.1 < (List.length p0:Int))) true (decide (y0.1 < (List.length p1:Int)))) true (decide (y0.2.2 > 0)))=true)→(((y0.2.1.length + (List.length ((Int.tmod (IntKind.i64.wrap ((IntKind.i64.wrap ((p0.getD y0.1.toNat 0) + (p1.getD y0.1.toNat 0))) + y0.2.2)) (1000000000:Int)) :: ([]:List Int)))) * 8)≤140737488355328))]
def s_base_addDigits (p0:(List Int)) (p1:(List Int)):(List Int) :=
 (lpv [] (st_base_addDigits_0 p0 p1) ((0:Int),(([]:List Int),(0:Int))))
abbrev pre_base_addDigits (p0:(List Int)) (p1:(List Int)):List Prop := [(OkL (st_base_addDigits_0 p0 p1) (sp_base_addDigits_0 p0 p1) ((0:Int),(([]:List Int),(0:Int))))]
set_option maxHeartbeats 4000000 in
theorem d_base_addDigits (p0:(List Int)) (p1:(List Int)) (K:(List Int)→Prop) (hp:∀ p∈pre_base_addDigits p0 p1,p) (h:K (s_base_addDigits p0 p1)):w_base_addDigits p0 p1 K := by
 unfold w_base_addDigits
 unfold s_base_addDigits at h
 obtain ⟨hp0,_⟩ := conj_of hp
 exact (loop_gen (hp0) h (fun y0 k0 hp h => by
 unfold st_base_addDigits_0 at h; obtain ⟨hp0,hp1,_⟩ := conj_of hp
 exact ⟨rf,rf,rf,rfl,rf,rfl,(br' h (fun e1 h => ⟨(hp0 e1),(hp0 e1),(hp1 e1),h⟩)
  (fun e1 h => h))⟩))
abbrev con_base_addDigits:Con := ⟨P_base_addDigits,R_base_addDigits,fun x => pre_base_addDigits x.1 x.2,fun x => s_base_addDigits x.1 x.2⟩
theorem ok_base_addDigits:ConOk Try.prog 149 con_base_addDigits := ⟨k_base_addDigits,fun x hx => ret_tf (ps := P_base_addDigits) (rs := R_base_addDigits) (x := x) (y := s_base_addDigits x.1 x.2) e_base_addDigits hC_base_addDigits (tf_of (w_base_addDigits_eq x.1 x.2 (fun z => z = s_base_addDigits x.1 x.2)) (d_base_addDigits x.1 x.2 (fun z => z = s_base_addDigits x.1 x.2) hx rfl))⟩
theorem l_base_addDigits (p0 p1:List Int) (h1:v_dgok p0) (h2:v_dgok p1) (l1:p0.length≤1000000000000) (l2:p1.length≤1000000000000):OkL (st_base_addDigits_0 p0 p1) (sp_base_addDigits_0 p0 p1) (0,[],0)∧(v_dgok (s_base_addDigits p0 p1)∧v_val (s_base_addDigits p0 p1)=v_val p0 + v_val p1∧(s_base_addDigits p0 p1).length≤1000000000001) := by
 unfold s_base_addDigits
 refine loop_post (st := st_base_addDigits_0 p0 p1) (sp := sp_base_addDigits_0 p0 p1) (fun (y:Int×List Int×Int) => ∃ i:Nat,y.1 = i∧y.2.1.length = i∧v_dgok y.2.1∧(0≤y.2.2∧y.2.2≤1)∧v_val y.2.1 + v_pow i * (y.2.2 + (v_val (p0.drop i) + v_val (p1.drop i)))=v_val p0 + v_val p1∧i≤max p0.length p1.length + 1∧(i = max p0.length p1.length + 1→y.2.2 = 0)) (fun y => (max p0.length p1.length + 1 - y.1).toNat) (fun r => v_dgok r∧v_val r = v_val p0 + v_val p1∧r.length≤1000000000001) ?_ ⟨0,rfl,rfl,(fun d hd => by cases hd),⟨Int.le_refl _,by decide⟩,?_,Nat.zero_le _,fun _ => rfl⟩ (by unfold fuel; simp only; omega)
 ·rintro ⟨_,out,c⟩ ⟨i,rfl,g1,g2,g3,g4,g5,g6⟩
  simp only at g1 g2 g3 g4 g6
  have d0 := v_dgok_get h1 i
  have d1 := v_dgok_get h2 i
  have hb:(cond (cond (decide ((i:Int) < p0.length)) true (decide ((i:Int) < p1.length))) true (decide (c > 0)))=true→i≤max p0.length p1.length := by
   intro hb
   rcases Nat.lt_or_ge (max p0.length p1.length) i with k | k
   ·have hz := g6 (by omega)
    subst hz
    rw [decide_eq_false (show ¬ (i:Int) < p0.length by omega),decide_eq_false (show ¬ (i:Int) < p1.length by omega)] at hb
    cases hb
   ·exact k
  have w1:IntKind.i64.wrap (IntKind.i64.wrap (p0.getD i 0 + p1.getD i 0) + c)=p0.getD i 0 + p1.getD i 0 + c := by rw [w_add_l]; exact wrap_id (by omega) (by omega)
  simp only [sp_base_addDigits_0,st_base_addDigits_0,List.forall_mem_cons,Int.toNat_natCast,w1]
  cases hc:(cond (cond (decide ((i:Int) < p0.length)) true (decide ((i:Int) < p1.length))) true (decide (c > 0)))
  ·refine ⟨by and_intros <;> first | (intro p hp; cases hp; done) | (intro h; cases h; done) | (intros; omega) | (intros; simp; omega),?_⟩
   simp only [cond_false]
   have e0:¬ (i:Int) < p0.length := fun k => by rw [decide_eq_true k] at hc; cases hc
   rw [decide_eq_false e0] at hc
   have e1:¬ (i:Int) < p1.length := fun k => by rw [decide_eq_true k] at hc; cases hc
   rw [decide_eq_false e1] at hc
   have e2:¬ c > 0 := fun k => by rw [decide_eq_true k] at hc; cases hc
   rw [List.drop_eq_nil_of_le (show p0.length≤i by omega),List.drop_eq_nil_of_le (show p1.length≤i by omega),show c = 0 by omega] at g4
   have e3:v_val ([]:List Int)=0 := rfl
   rw [e3,Int.add_zero,Int.add_zero,Int.mul_zero,Int.add_zero] at g4
   exact ⟨g2,g4,by omega⟩
  ·have hi := hb hc
   refine ⟨by and_intros <;> first | (intro p hp; cases hp; done) | (intros; omega) | (intros; simp; omega),?_⟩
   simp only [cond_true]
   have nn:0≤p0.getD i 0 + p1.getD i 0 + c := by omega
   rw [Int.tmod_eq_emod_of_nonneg nn,Int.tdiv_eq_ediv_of_nonneg nn]
   have q1 := Int.emod_nonneg (p0.getD i 0 + p1.getD i 0 + c) (show (1000000000:Int) ≠ 0 by decide)
   have q2 := Int.emod_lt_of_pos (p0.getD i 0 + p1.getD i 0 + c) (show (0:Int) < 1000000000 by decide)
   have q3:0≤(p0.getD i 0 + p1.getD i 0 + c) / 1000000000∧(p0.getD i 0 + p1.getD i 0 + c) / 1000000000≤1 := by omega
   rw [wrap_id (n := (p0.getD i 0 + p1.getD i 0 + c) / 1000000000) (by omega) (by omega),wrap_nat (by omega)]
   refine ⟨⟨i + 1,rfl,by simp [g1],v_dgok_snoc g2 ⟨q1,q2⟩,q3,?_,by omega,fun h => ?_⟩,by omega⟩
   ·rw [← g1]
    refine v_add_round ?_
    rw [g1,← g4]
    have s0:v_val (p0.drop i)=p0.getD i 0 + 1000000000 * v_val (p0.drop (i + 1)) := by
     rcases Nat.lt_or_ge i p0.length with k | k
     ·rw [drop_getD 0 k]; rfl
     ·rw [gd_out 0 k,List.drop_eq_nil_of_le k,List.drop_eq_nil_of_le (by omega)]; rfl
    have s1:v_val (p1.drop i)=p1.getD i 0 + 1000000000 * v_val (p1.drop (i + 1)) := by
     rcases Nat.lt_or_ge i p1.length with k | k
     ·rw [drop_getD 0 k]; rfl
     ·rw [gd_out 0 k,List.drop_eq_nil_of_le k,List.drop_eq_nil_of_le (by omega)]; rfl
    rw [s0,s1]
    generalize v_pow i = P
    grind
   ·have e0:p0.getD i 0 = 0 := gd_out 0 (by omega)
    have e1:p1.getD i 0 = 0 := gd_out 0 (by omega)
    rw [e0,e1]; omega
 ·show (0:Int) + 1 * (0 + (v_val p0 + v_val p1))=_
  omega
/- base_subDigits -/
def C_base_subDigits:Cons := [(158,[],con_base_digit),(156,[],con_base_trimmed)]
theorem hC_base_subDigits:ConsOk Try.prog C_base_subDigits := ConsOk.cons ok_base_digit <| ConsOk.cons ok_base_trimmed <| ConsOk.nil
abbrev q0_base_subDigits (p0:(List Int)) (p1:(List Int)) (y1:(Int×((List Int)×Int))) := ((p0.getD y1.1.toNat zz0) - (p1.getD y1.1.toNat zz0))
def w_base_subDigits (p0:(List Int)) (p1:(List Int)) (K:(List Int)→Prop):Prop :=
  (∃ n0,(loopP (fun (y1:(Int×((List Int)×Int))) k2 =>
  ((((decide (y1.1 < (List.length p0:Int)))=true) →
  ((zz0≤y1.1) ∧
   ((y1.1 < (List.length p0:Int)) ∧
   ((zz0≤y1.1) ∧
   ((((decide ((wi ((wi (q0_base_subDigits p0 p1 y1)) - y1.2.2)) < zz0))=true) →
   ((((y1.2.1.length + (List.length ((wi ((wi ((wi (q0_base_subDigits p0 p1 y1)) - y1.2.2)) + 1000000000)) :: ([]:List Int)))) * 8)≤140737488355328) ∧
    (k2 ((wi (y1.1 + zz1)),((y1.2.1 ++ ((wi ((wi ((wi (q0_base_subDigits p0 p1 y1)) - y1.2.2)) + 1000000000)) :: ([]:List Int))),zz1))))) ∧
   (((decide ((wi ((wi (q0_base_subDigits p0 p1 y1)) - y1.2.2)) < zz0))=false) →
   ((((y1.2.1.length + (List.length ((wi ((wi (q0_base_subDigits p0 p1 y1)) - y1.2.2)) :: ([]:List Int)))) * 8)≤140737488355328) ∧
    (k2 ((wi (y1.1 + zz1)),((y1.2.1 ++ ((wi ((wi (q0_base_subDigits p0 p1 y1)) - y1.2.2)) :: ([]:List Int))),zz0)))))))))) ∧
  (((decide (y1.1 < (List.length p0:Int)))=false) →
  ((y1.2.1.length≤10000000000000) ∧
   (K (v_trim y1.2.1)))))) n0 (zz0,(([]:List Int),zz0))))
set_option maxHeartbeats 4000000 in
theorem w_base_subDigits_eq (p0:(List Int)) (p1:(List Int)) (K:(List Int)→Prop):tfn F_base_subDigits A_base_subDigits C_base_subDigits P_base_subDigits R_base_subDigits (p0,p1) K = w_base_subDigits p0 p1 K := by kernel_rfl
def st_base_subDigits_0 (p0:(List Int)) (p1:(List Int)) (y0:(Int×((List Int)×Int))):(Int×((List Int)×Int)) ⊕ (List Int) :=
 (cond (decide (y0.1 < (List.length p0:Int))) (cond (decide ((IntKind.i64.wrap ((IntKind.i64.wrap ((p0.getD y0.1.toNat 0) - (p1.getD y0.1.toNat 0))) - y0.2.2)) < 0)) (Sum.inl ((IntKind.i64.wrap (y0.1 + 1)),((y0.2.1 ++ ((IntKind.i64.wrap ((IntKind.i64.wrap ((IntKind.i64.wrap ((p0.getD y0.1.toNat 0) - (p1.getD y0.1.toNat 0))) - y0.2.2)) + 1000000000)) :: ([]:List Int))),(1:Int))))
  (Sum.inl ((IntKind.i64.wrap (y0.1 + 1)),((y0.2.1 ++ ((IntKind.i64.wrap ((IntKind.i64.wrap ((p0.getD y0.1.toNat 0) - (p1.getD y0.1.toNat 0))) - y0.2.2)) :: ([]:List Int))),(0:Int)))))
  (Sum.inr (v_trim y0.2.1)))
abbrev sp_base_subDigits_0 (p0:(List Int)) (p1:(List Int)) (y0:(Int×((List Int)×Int))):List Prop := [(((decide (y0.1 < (List.length p0:Int)))=true)→((0:Int)≤y0.1)),
  (((decide (y0.1 < (List.length p0:Int)))=true)→(y0.1 < (List.length p0:Int))),
  (((decide (y0.1 < (List.length p0:Int)))=true)→(((decide ((IntKind.i64.wrap ((IntKind.i64.wrap ((p0.getD y0.1.toNat 0) - (p1.getD y0.1.toNat 0))) - y0.2.2)) < 0))=true)→(((y0.2.1.length + (List.length ((IntKind.i64.wrap ((IntKind.i64.wrap ((IntKind.i64.wrap ((p0.getD y0.1.toNat 0) - (p1.getD y0.1.toNat 0))) - y0.2.2)) + 1000000000)) :: ([]:List Int)))) * 8)≤140737488355328))),
  (((decide (y0.1 < (List.length p0:Int)))=true)→(((decide ((IntKind.i64.wrap ((IntKind.i64.wrap ((p0.getD y0.1.toNat 0) - (p1.getD y0.1.toNat 0))) - y0.2.2)) < 0))=false)→(((y0.2.1.length + (List.length ((IntKind.i64.wrap ((IntKind.i64.wrap ((p0.getD y0.1.toNat 0) - (p1.getD y0.1.toNat 0))) - y0.2.2)) :: ([]:List Int)))) * 8)≤140737488355328))),
  (((decide (y0.1 < (List.length p0:Int)))=false)→(y0.2.1.length≤10000000000000))]
def s_base_subDigits (p0:(List Int)) (p1:(List Int)):(List Int) :=
 (lpv [] (st_base_subDigits_0 p0 p1) ((0:Int),(([]:List Int),(0:Int))))
abbrev pre_base_subDigits (p0:(List Int)) (p1:(List Int)):List Prop := [(OkL (st_base_subDigits_0 p0 p1) (sp_base_subDigits_0 p0 p1) ((0:Int),(([]:List Int),(0:Int))))]
set_option maxHeartbeats 4000000 in
theorem d_base_subDigits (p0:(List Int)) (p1:(List Int)) (K:(List Int)→Prop) (hp:∀ p∈pre_base_subDigits p0 p1,p) (h:K (s_base_subDigits p0 p1)):w_base_subDigits p0 p1 K := by
 unfold w_base_subDigits
 unfold s_base_subDigits at h
 obtain ⟨hp0,_⟩ := conj_of hp
 exact (loop_gen (hp0) h (fun y0 k0 hp h => by
 unfold st_base_subDigits_0 at h; obtain ⟨hp0,hp1,hp2,hp3,hp4,_⟩ := conj_of hp
 exact (br' h (fun e1 h => ⟨(hp0 e1),(hp1 e1),(hp0 e1),(br' h (fun e2 h => ⟨(hp2 e1 e2),h⟩)
  (fun e2 h => ⟨(hp3 e1 e2),h⟩))⟩)
  (fun e1 h => ⟨(hp4 e1),h⟩))))
theorem l_base_subDigits (p0 p1:List Int) (h1:v_dgok p0) (h2:v_dgok p1) (l1:p0.length≤5000000000000) (hle:v_val p1≤v_val p0):OkL (st_base_subDigits_0 p0 p1) (sp_base_subDigits_0 p0 p1) (0,[],0)∧lpv [] (st_base_subDigits_0 p0 p1) (0,[],0)=v_digs (v_val p0 - v_val p1).toNat := by
 refine for_post (dd := []) (st := st_base_subDigits_0 p0 p1) (sp := sp_base_subDigits_0 p0 p1) (fun i (t:List Int×Int) => (i,t)) 0 p0.length (fun j t => t.1.length = j∧v_dgok t.1∧(0≤t.2∧t.2≤1)∧v_val (p0.take j) - v_val (p1.take j)=v_val t.1 - t.2 * v_pow j) (fun r => r = v_digs (v_val p0 - v_val p1).toNat) (Nat.zero_le _) (by omega) ?_ ?_ ([],0) ⟨rfl,(fun d hd => by cases hd),⟨Int.le_refl _,by decide⟩,rfl⟩
 ·rintro ⟨out,c⟩ ⟨g1,g2,g3,g4⟩
  simp only at g1 g2 g3 g4
  have hd:decide ((p0.length:Int) < p0.length)=false := decide_eq_false (by omega)
  simp only [sp_base_subDigits_0,st_base_subDigits_0,List.forall_mem_cons,hd,cond_false]
  refine ⟨by and_intros <;> first | (intro p hp; cases hp; done) | (intro h; cases h; done) | (intros; omega),_,rfl,?_⟩
  rw [v_trim_is g2]
  rw [List.take_length] at g4
  have b1:v_val p1 = v_val (p1.take p0.length) := by
   have e := v_val_append (p1.take p0.length) (p1.drop p0.length)
   rw [List.take_append_drop] at e
   have n1 := v_val_nn (v_dgok_take h2 p0.length)
   have n2 := v_val_nn (v_dgok_drop h2 p0.length)
   have n3 := v_val_lt h1
   rcases Nat.lt_or_ge p0.length p1.length with k | k
   ·rw [List.length_take,Nat.min_eq_left (by omega)] at e
    have:v_val (p1.drop p0.length)=0 := by
     rcases Int.lt_or_le 0 (v_val (p1.drop p0.length)) with q | q
     ·have := Int.mul_le_mul_of_nonneg_left (show 1≤v_val (p1.drop p0.length) by omega) (show 0≤v_pow p0.length by have := v_pow_pos p0.length; omega)
      omega
     ·omega
    rw [this,Int.mul_zero] at e; omega
   ·rw [List.take_of_length_le k]
  have n4 := v_val_lt g2
  have n5 := v_val_nn g2
  rw [g1] at n4
  have hc:c = 0 := by
   rcases Int.lt_or_le 0 c with q | q
   ·have:c = 1 := by omega
    rw [this,Int.one_mul] at g4; omega
   ·omega
  rw [hc,Int.zero_mul] at g4
  congr 2
  omega
 ·rintro j ⟨out,c⟩ _ hj ⟨g1,g2,g3,g4⟩
  simp only at g1 g2 g3 g4
  have d0 := v_dgok_get h1 j
  have d1 := v_dgok_get h2 j
  have hd:decide ((j:Int) < p0.length)=true := decide_eq_true (by omega)
  have w1:IntKind.i64.wrap (IntKind.i64.wrap (p0.getD j 0 - p1.getD j 0) - c)=p0.getD j 0 - p1.getD j 0 - c := by rw [w_sub_l]; exact wrap_id (by omega) (by omega)
  have w2:IntKind.i64.wrap (p0.getD j 0 - p1.getD j 0 - c + 1000000000)=p0.getD j 0 - p1.getD j 0 - c + 1000000000 := wrap_id (by omega) (by omega)
  have t0 := v_val_take_s hj
  have t1:v_val (p1.take (j + 1))=v_val (p1.take j) + v_pow j * p1.getD j 0 := by
   rcases Nat.lt_or_ge j p1.length with k | k
   ·exact v_val_take_s k
   ·rw [List.take_of_length_le k,List.take_of_length_le (by omega),gd_out 0 k,Int.mul_zero,Int.add_zero]
  simp only [sp_base_subDigits_0,st_base_subDigits_0,List.forall_mem_cons,hd,cond_true,Int.toNat_natCast,w1,w2,wrap_nat (show (j:Int)≤9223372036854775806 by omega)]
  refine ⟨by and_intros <;> first | (intro p hp; cases hp; done) | (intro h; cases h; done) | (intros; omega) | (intros; simp; omega),.inl ?_⟩
  rcases dec0 (a := p0.getD j 0 - p1.getD j 0 - c) (b := 0) with ⟨k,e,_⟩ | ⟨k,e,_⟩ <;> rw [e]
  ·refine ⟨(out ++ [p0.getD j 0 - p1.getD j 0 - c + 1000000000],1),rfl,by simp [g1],v_dgok_snoc g2 ⟨by omega,by omega⟩,⟨by simp only; omega,Int.le_refl _⟩,?_⟩
   simp only
   rw [t0,t1,v_val_snoc,g1,v_pow_s]
   generalize v_pow j = P at *
   grind
  ·refine ⟨(out ++ [p0.getD j 0 - p1.getD j 0 - c],0),rfl,by simp [g1],v_dgok_snoc g2 ⟨by omega,by omega⟩,⟨Int.le_refl _,by simp only; omega⟩,?_⟩
   simp only
   rw [t0,t1,v_val_snoc,g1,v_pow_s]
   generalize v_pow j = P at *
   grind
abbrev t_base_subDigits (p0:List Int) (p1:List Int):List Int := v_digs (v_val p0 - v_val p1).toNat
abbrev qre_base_subDigits (p0:List Int) (p1:List Int):List Prop := [v_dgok p0,v_dgok p1,p0.length≤5000000000000,v_val p1≤v_val p0]
theorem pp_base_subDigits (p0:List Int) (p1:List Int) (hq:∀ p∈qre_base_subDigits p0 p1,p):∀ p∈pre_base_subDigits p0 p1,p := by
 obtain ⟨h1,h2,h3,h4,_⟩ := conj_of hq
 simp only [pre_base_subDigits,List.forall_mem_cons]
 exact ⟨(l_base_subDigits p0 p1 h1 h2 h3 h4).1,by simp⟩
theorem tt_base_subDigits (p0:List Int) (p1:List Int) (hq:∀ p∈qre_base_subDigits p0 p1,p):s_base_subDigits p0 p1 = t_base_subDigits p0 p1 := by
 obtain ⟨h1,h2,h3,h4,_⟩ := conj_of hq
 exact (l_base_subDigits p0 p1 h1 h2 h3 h4).2

abbrev con_base_subDigits:Con := ⟨P_base_subDigits,R_base_subDigits,fun x => qre_base_subDigits x.1 x.2,fun x => t_base_subDigits x.1 x.2⟩
theorem ok_base_subDigits:ConOk Try.prog 151 con_base_subDigits := ⟨k_base_subDigits,fun x hx => ret_tf (ps := P_base_subDigits) (rs := R_base_subDigits) (x := x) (y := t_base_subDigits x.1 x.2) e_base_subDigits hC_base_subDigits (tf_of (w_base_subDigits_eq x.1 x.2 (fun z => z = t_base_subDigits x.1 x.2)) (d_base_subDigits x.1 x.2 (fun z => z = t_base_subDigits x.1 x.2) (pp_base_subDigits x.1 x.2 hx) (tt_base_subDigits x.1 x.2 hx)))⟩
end Go.Proofs.Ytehblgccaiiikaa
