/- What the functions that MagnetStorms reaches compute: contracts, each function once. No condition. -/
import Derived.Test.YtdkhhafmidokmaaWalkMagnetStormsA
import Derived.KernelRfl
namespace Go.Proofs.Ytdkhhafmidokmaa
open Go Go.Mx
set_option maxRecDepth 100000
set_option maxHeartbeats 4000000
def C_Zd:Cons := [(65,[],con_Zm),(91,[],con_Zg),(72,[],con_Zp),(71,[],con_Zb),(92,[],con_Z1),(93,[94],con_Zj)]
theorem hC_Zd:ConsOk Try.prog C_Zd := cC ok_Zm <| cC ok_Zg <| cC ok_Zp <| cC ok_Zb <| cC ok_Z1 <| cC ok_Zj <| ConsOk.nil
def w_Zd (p0:(Int×(List (Int×Int)))) (p1:gG) (p2:(List (Int×(Int×(Int×(Int×Int)))))) (K:((List Int)×Int)→Prop):Prop := ((lenOk ((v_cb p0).2 :: ((v_rlerr p1) :: ((v_cs p2).2 :: ([]:List Int))))) ∧(((((v_first ((v_cb p0).2 :: ((v_rlerr p1) :: ((v_cs p2).2 :: ([]:List Int))))) != 0)=true) →(K (([]:List Int),(v_first ((v_cb p0).2 :: ((v_rlerr p1) :: ((v_cs p2).2 :: ([]:List Int)))))))) ∧((((v_first ((v_cb p0).2 :: ((v_rlerr p1) :: ((v_cs p2).2 :: ([]:List Int))))) != 0)=false) →((v_bok p0) ∧((v_rlok p1) ∧(∃ n0,(loopP (fun (y1:gE) k2 => ((((decide (y1.1 < (p2.length:Int)))=true) →((zz0≤y1.1) ∧((y1.1 < (p2.length:Int)) ∧((lenOk (v_strm p0 p1)) ∧((((v_hit (v_strm p0 p1) (p2.getD y1.1.toNat (zz0,(zz0,(zz0,(zz0,zz0))))).1)=true) →((((y1.2.length + (List.length (y1.1 :: ([]:List Int)))) * 8)≤140737488355328) ∧(k2 ((IntKind.i64.wrap (y1.1 + 1)),(y1.2 ++ (y1.1 :: ([]:List Int))))))) ∧(((v_hit (v_strm p0 p1) (p2.getD y1.1.toNat (zz0,(zz0,(zz0,(zz0,zz0))))).1)=false) →(k2 ((IntKind.i64.wrap (y1.1 + 1)),y1.2)))))))) ∧(((decide (y1.1 < (p2.length:Int)))=false) →(K (y1.2,zz0))))) n0 (zz0,([]:List Int)))))))))
theorem w_Zd_eq (p0:(Int×(List (Int×Int)))) (p1:gG) (p2:(List (Int×(Int×(Int×(Int×Int)))))) (K:((List Int)×Int)→Prop):tfn F_Zd A_Zd C_Zd P_Zd R_Zd (p0,p1,p2) K = w_Zd p0 p1 p2 K := by kernel_rfl
def st_Zd_0 (p0:(Int×(List (Int×Int)))) (p1:gG) (p2:(List (Int×(Int×(Int×(Int×Int)))))) (y1:gE):(Int×(List Int)) ⊕ ((List Int)×Int) := (cond (decide (y1.1 < (p2.length:Int))) (cond (v_hit (v_strm p0 p1) (p2.getD y1.1.toNat ((0:Int),((0:Int),((0:Int),(0,0))))).1) (Sum.inl ((IntKind.i64.wrap (y1.1 + 1)),(y1.2 ++ (y1.1 :: ([]:List Int))))) (Sum.inl ((IntKind.i64.wrap (y1.1 + 1)),y1.2))) (Sum.inr (y1.2,(0:Int))))
abbrev sp_Zd_0 (p0:(Int×(List (Int×Int)))) (p1:gG) (p2:(List (Int×(Int×(Int×(Int×Int)))))) (y1:gE):List Prop := [(((decide (y1.1 < (p2.length:Int)))=true)→((0:Int)≤y1.1)),(((decide (y1.1 < (p2.length:Int)))=true)→(y1.1 < (p2.length:Int))),(((decide (y1.1 < (p2.length:Int)))=true)→(lenOk (v_strm p0 p1))),(((decide (y1.1 < (p2.length:Int)))=true)→(((v_hit (v_strm p0 p1) (p2.getD y1.1.toNat ((0:Int),((0:Int),((0:Int),(0,0))))).1)=true)→(((y1.2.length + (List.length (y1.1 :: ([]:List Int)))) * 8)≤140737488355328)))]
def s_Zd (p0:(Int×(List (Int×Int)))) (p1:gG) (p2:(List (Int×(Int×(Int×(Int×Int)))))):((List Int)×Int) := (cond ((v_first ((v_cb p0).2 :: ((v_rlerr p1) :: ((v_cs p2).2 :: ([]:List Int))))) != 0) (([]:List Int),(v_first ((v_cb p0).2 :: ((v_rlerr p1) :: ((v_cs p2).2 :: ([]:List Int)))))) (lpv ([],(0:Int)) (st_Zd_0 p0 p1 p2) ((0:Int),([]:List Int))))
abbrev pre_Zd (p0:(Int×(List (Int×Int)))) (p1:gG) (p2:(List (Int×(Int×(Int×(Int×Int)))))):List Prop := [((((v_first ((v_cb p0).2 :: ((v_rlerr p1) :: ((v_cs p2).2 :: ([]:List Int))))) != 0)=false)→(v_bok p0)),((((v_first ((v_cb p0).2 :: ((v_rlerr p1) :: ((v_cs p2).2 :: ([]:List Int))))) != 0)=false)→(v_rlok p1)),((((v_first ((v_cb p0).2 :: ((v_rlerr p1) :: ((v_cs p2).2 :: ([]:List Int))))) != 0)=false)→(OkL (st_Zd_0 p0 p1 p2) (sp_Zd_0 p0 p1 p2) ((0:Int),([]:List Int))))]
theorem d_Zd (p0:(Int×(List (Int×Int)))) (p1:gG) (p2:(List (Int×(Int×(Int×(Int×Int)))))) (K:((List Int)×Int)→Prop) (hp:∀ p∈pre_Zd p0 p1 p2,p) (h:K (s_Zd p0 p1 p2)):w_Zd p0 p1 p2 K := by
 unfold w_Zd
 unfold s_Zd at h
 obtain ⟨hp0,hp1,hp2,_⟩ := conj_of hp
 exact ⟨(lenOk_of 3 rfl (by decide)),(br' h (fun e0 h => h)
  (fun e0 h => ⟨(hp0 e0),(hp1 e0),(loop_gen (hp2 e0) h (fun y1 k1 hp h => by
 unfold st_Zd_0 at h; obtain ⟨hp0,hp1,hp2,hp3,_⟩ := conj_of hp
 exact (br' h (fun e2 h => ⟨(hp0 e2),(hp1 e2),(hp2 e2),(br' h (fun e3 h => ⟨(hp3 e2 e3),h⟩)
  (fun e3 h => h))⟩)
  (fun e2 h => h))))⟩))⟩
/-- The indexes of samples in ranges; what SpoiltBy answers. -/
def v_spl (S:gC) (l:List (Int×Int×Int×Int×Int)):List Int := v_sel (fun k => v_hit S (l.getD k (0,0,0,0,0)).1) (List.range l.length)
def v_sperr (b:Int×List (Int×Int)) (r:gG) (l:List (Int×Int×Int×Int×Int)):Int := v_first [(v_cb b).2,v_rlerr r,(v_cs l).2]
def v_spo (b:Int×List (Int×Int)) (r:gG) (l:List (Int×Int×Int×Int×Int)):List Int×Int := cond (v_sperr b r l != 0) ([],v_sperr b r l) (v_spl (v_strm b r) l,0)
theorem v_sperr_ok {b:Int×List (Int×Int)} {r:Int×Int} {l:List (Int×Int×Int×Int×Int)} (h:v_sperr b r l = 0):v_bok b∧v_rlok r∧v_smp l := by
 unfold v_sperr at h
 obtain ⟨h1,h2⟩ := v_first0 h
 obtain ⟨h3,h4⟩ := v_first0 h2
 exact ⟨v_cb_ok h1,v_rlerr_ok h3,v_cs_iff.1 (v_first0 h4).1⟩
theorem v_strm_len {b:Int×List (Int×Int)} (h:v_bok b) (r:gG):(v_strm b r).length≤400 := by
 have hl := h.len
 have := v_fold_len (v_all b r b.2.length) []
 have := v_all_len b r hl b.2.length
 unfold v_strm
 rw [List.length_nil] at *
 omega
theorem l_Zd_0 (p0:Int×List (Int×Int)) (p1:gG) (p2:List (Int×Int×Int×Int×Int)) (h:v_bok p0) (hl:p2.length≤20):OkL (st_Zd_0 p0 p1 p2) (sp_Zd_0 p0 p1 p2) (0,[])∧lpv ([],0) (st_Zd_0 p0 p1 p2) (0,[])=(v_spl (v_strm p0 p1) p2,0) := by
 have hsl := v_strm_len h p1
 have main := @for_is (List Int) (Int×List Int) (List Int×Int) ([],0) (st_Zd_0 p0 p1 p2) (sp_Zd_0 p0 p1 p2) (fun i t => (i,t)) 0 p2.length (fun j t => t = v_sel (fun k => v_hit (v_strm p0 p1) (p2.getD k (0,0,0,0,0)).1) (List.range j)) (fun _ _ => (v_spl (v_strm p0 p1) p2,0)) (Nat.zero_le _) (by omega) ?_ ?_ [] rfl
 ·exact main
 ·rintro t h1
  simp only [sp_Zd_0,st_Zd_0,fM,decide_eq_false (Int.lt_irrefl (p2.length:Int)),cond_false,h1]
  refine ⟨?_,by first | rfl | trivial⟩
  and_intros
  all_goals first
   | (intro h; cases h; done)
   | (intro p hp; cases hp)
 ·rintro j t h0 hj h1
  have hw1:IntKind.i64.wrap ((j:Int) + 1)=((j + 1:Nat):Int) := wrap_id (by omega) (by omega)
  have hd:decide ((j:Int) < (p2.length:Int))=true := decide_eq_true (by omega)
  have hs:v_sel (fun k => v_hit (v_strm p0 p1) (p2.getD k (0,0,0,0,0)).1) (List.range (j + 1))=t ++ cond (v_hit (v_strm p0 p1) (p2.getD j (0,0,0,0,0)).1) [(j:Int)] [] := by
   rw [List.range_succ,v_sel_snoc,h1]
  have hlen := v_sel_len (fun k => v_hit (v_strm p0 p1) (p2.getD k (0,0,0,0,0)).1) (List.range j)
  rw [← h1,List.length_range] at hlen
  have lo:lenOk (v_strm p0 p1) := by unfold lenOk; omega
  simp only [sp_Zd_0,st_Zd_0,fM,Int.toNat_natCast,hw1,hd,cond_true]
  refine ⟨?_,?_⟩
  ·and_intros
   all_goals first
    | (intro p hp; cases hp; done)
    | (intros; exact lo)
    | (intros; simp only [List.length_cons,List.length_nil]; omega)
    | (intros; omega)
  ·cases hc:v_hit (v_strm p0 p1) (p2.getD j (0,0,0,0,0)).1 <;> rw [hc] at hs
   ·exact .inl ⟨t,rfl,by rw [hs]; simp,by first | rfl | trivial⟩
   ·exact .inl ⟨_,rfl,hs.symm,by first | rfl | trivial⟩
abbrev t_Zd (p0:Int×List (Int×Int)) (p1:gG) (p2:List (Int×Int×Int×Int×Int)):List Int×Int := v_spo p0 p1 p2
abbrev qre_Zd (_p0:Int×List (Int×Int)) (_p1:gG) (_p2:List (Int×Int×Int×Int×Int)):List Prop := []
theorem pp_Zd (p0:Int×List (Int×Int)) (p1:gG) (p2:List (Int×Int×Int×Int×Int)) (_hq:∀ p∈qre_Zd p0 p1 p2,p):∀ p∈pre_Zd p0 p1 p2,p := by
 simp only [pre_Zd,fM,show ∀ (x:Int×List (Int×Int)) (y:gG) (z:List (Int×Int×Int×Int×Int)),v_first [(v_cb x).2,v_rlerr y,(v_cs z).2]=v_sperr x y z from fun _ _ _ => rfl]
 refine ⟨fun e => (v_sperr_ok (bne0' e)).1,fun e => (v_sperr_ok (bne0' e)).2.1,fun e => ?_,by simp⟩
 obtain ⟨h1,_,h3⟩ := v_sperr_ok (bne0' e)
 exact (l_Zd_0 p0 p1 p2 h1 h3.len).1
theorem tt_Zd (p0:Int×List (Int×Int)) (p1:gG) (p2:List (Int×Int×Int×Int×Int)) (_hq:∀ p∈qre_Zd p0 p1 p2,p):s_Zd p0 p1 p2 = t_Zd p0 p1 p2 := by
 unfold s_Zd t_Zd v_spo
 simp only [show ∀ (x:Int×List (Int×Int)) (y:gG) (z:List (Int×Int×Int×Int×Int)),v_first [(v_cb x).2,v_rlerr y,(v_cs z).2]=v_sperr x y z from fun _ _ _ => rfl]
 rcases int0 (v_sperr p0 p1 p2) with ⟨z,e,_⟩ | ⟨z,e,_⟩ <;> rw [e]
 ·obtain ⟨h1,_,h3⟩ := v_sperr_ok z
  exact (l_Zd_0 p0 p1 p2 h1 h3.len).2
 ·rfl

abbrev con_Zd:Con := ⟨P_Zd,R_Zd,fun x => qre_Zd x.1 x.2.1 x.2.2,fun x => t_Zd x.1 x.2.1 x.2.2⟩
theorem ok_Zd:ConOk Try.prog 36 con_Zd := okG k_Zd e_Zd hC_Zd fun x hx => tf_of (w_Zd_eq x.1 x.2.1 x.2.2 _) (d_Zd x.1 x.2.1 x.2.2 _ (pp_Zd x.1 x.2.1 x.2.2 hx) (tt_Zd x.1 x.2.1 x.2.2 hx))
def C_Zw:Cons := [(64,[],con_Za)]
theorem hC_Zw:ConsOk Try.prog C_Zw := cC ok_Za <| ConsOk.nil
def w_Zw (p0:(Int×(List (Int×Int)))) (K:Int→Prop):Prop := (K (v_cb p0).2)
theorem w_Zw_eq (p0:(Int×(List (Int×Int)))) (K:Int→Prop):tfn F_Zw A_Zw C_Zw P_Zw R_Zw p0 K = w_Zw p0 K := by kernel_rfl
def s_Zw (p0:(Int×(List (Int×Int)))):Int := (v_cb p0).2
abbrev pre_Zw (_p0:(Int×(List (Int×Int)))):List Prop := []
theorem d_Zw (p0:(Int×(List (Int×Int)))) (K:Int→Prop) (_hp:∀ p∈pre_Zw p0,p) (h:K (s_Zw p0)):w_Zw p0 K := by
 unfold w_Zw
 unfold s_Zw at h
 exact h
abbrev con_Zw:Con := ⟨P_Zw,R_Zw,fun x => pre_Zw x,fun x => s_Zw x⟩
theorem ok_Zw:ConOk Try.prog 15 con_Zw := okG k_Zw e_Zw hC_Zw fun x hx => tf_of (w_Zw_eq x _) (d_Zw x _ hx rfl)
def C_Zi:Cons := [(17,[],con_Z2)]
theorem hC_Zi:ConsOk Try.prog C_Zi := cC ok_Z2 <| ConsOk.nil
def w_Zi (p0:gG) (K:Int→Prop):Prop := ((((!(s_Z2 p0.1 zz0 (200000:Int)))=false) →((!(s_Z2 p0.1 zz0 (200000:Int)))=(!(s_Z2 p0.1 zz0 (200000:Int))))) ∧((((!(s_Z2 p0.1 zz0 (200000:Int)))=false) →((!(s_Z2 p0.1 zz0 (200000:Int)))=(!(s_Z2 p0.1 zz0 (200000:Int))))) ∧((((!(s_Z2 p0.1 zz0 (200000:Int)))=false) →((!(s_Z2 p0.1 zz0 (200000:Int)))=(!(s_Z2 p0.1 zz0 (200000:Int))))) ∧(((!(s_Z2 p0.1 zz0 (200000:Int)))=(!(s_Z2 p0.1 zz0 (200000:Int)))) ∧((((cond (!(s_Z2 p0.1 zz0 (200000:Int))) true (!(s_Z2 p0.2 zz1 (1000000000000:Int))))=true) →(K (2:Int))) ∧(((cond (!(s_Z2 p0.1 zz0 (200000:Int))) true (!(s_Z2 p0.2 zz1 (1000000000000:Int))))=false) →(K zz0)))))))
theorem w_Zi_eq (p0:gG) (K:Int→Prop):tfn F_Zi A_Zi C_Zi P_Zi R_Zi p0 K = w_Zi p0 K := by kernel_rfl
def s_Zi (p0:gG):Int := (cond (cond (!(s_Z2 p0.1 (0:Int) (200000:Int))) true (!(s_Z2 p0.2 (1:Int) (1000000000000:Int)))) (2:Int) (0:Int))
abbrev pre_Zi (_p0:gG):List Prop := []
theorem d_Zi (p0:gG) (K:Int→Prop) (_hp:∀ p∈pre_Zi p0,p) (h:K (s_Zi p0)):w_Zi p0 K := by
 unfold w_Zi
 unfold s_Zi at h
 exact ⟨rf,rf,rf,rfl,(br' h (fun e0 h => h)
  (fun e0 h => h))⟩
abbrev t_Zi (p0:gG):Int := v_rlerr p0
abbrev qre_Zi (_p0:gG):List Prop := []
theorem pp_Zi (p0:gG) (_hq:∀ p∈qre_Zi p0,p):∀ p∈pre_Zi p0,p := by
 simp [pre_Zi]
theorem tt_Zi (p0:gG) (_hq:∀ p∈qre_Zi p0,p):s_Zi p0 = t_Zi p0 := by
 unfold s_Zi t_Zi v_rlerr
 cases s_Z2 p0.1 0 200000 <;> cases s_Z2 p0.2 1 1000000000000 <;> rfl

abbrev con_Zi:Con := ⟨P_Zi,R_Zi,fun x => qre_Zi x,fun x => t_Zi x⟩
theorem ok_Zi:ConOk Try.prog 37 con_Zi := okG k_Zi e_Zi hC_Zi fun x hx => tf_of (w_Zi_eq x _) (d_Zi x _ (pp_Zi x hx) (tt_Zi x hx))
def C_Zk:Cons := []
theorem hC_Zk:ConsOk Try.prog C_Zk := ConsOk.nil
def w_Zk (p0:Int) (K:Int→Prop):Prop := (K (max p0 (IntKind.i64.wrap (zz0 - p0))))
theorem w_Zk_eq (p0:Int) (K:Int→Prop):tfn F_Zk A_Zk C_Zk P_Zk R_Zk p0 K = w_Zk p0 K := by kernel_rfl
def s_Zk (p0:Int):Int := (max p0 (IntKind.i64.wrap ((0:Int) - p0)))
abbrev pre_Zk (_p0:Int):List Prop := []
theorem d_Zk (p0:Int) (K:Int→Prop) (_hp:∀ p∈pre_Zk p0,p) (h:K (s_Zk p0)):w_Zk p0 K := by
 unfold w_Zk
 unfold s_Zk at h
 exact h
abbrev con_Zk:Con := ⟨P_Zk,R_Zk,fun x => pre_Zk x,fun x => s_Zk x⟩
theorem ok_Zk:ConOk Try.prog 95 con_Zk := okG k_Zk e_Zk hC_Zk fun x hx => tf_of (w_Zk_eq x _) (d_Zk x _ hx rfl)
def C_Z3:Cons := [(95,[],con_Zk)]
theorem hC_Z3:ConsOk Try.prog C_Z3 := cC ok_Zk <| ConsOk.nil
abbrev q0_Z3 (p0:(Int×(List (Int×Int)))) (y1:((List (Int×Int))×Int)) (y4:(Int×(List (Int×Int)))) := ((p0.2.getD y4.1.toNat (zz0,zz0)).1 - (p0.2.getD y1.2.toNat (zz0,zz0)).1)
abbrev q1_Z3 (y4:(Int×(List (Int×Int)))) := ((y4.2.length:Int) - zz1)
def w_Z3 (p0:(Int×(List (Int×Int)))) (p1:gG) (K:(List (Int×Int))→Prop):Prop := (∃ n0,(loopP (fun (y1:((List (Int×Int))×Int)) k2 => ((((decide (y1.2 < (p0.2.length:Int)))=true) →(∃ n3,(loopP (fun (y4:(Int×(List (Int×Int)))) k5 => ((((decide (y4.1 < (p0.2.length:Int)))=true) →((zz0≤y1.2) ∧((y1.2 < (p0.2.length:Int)) ∧((zz0≤y4.1) ∧((y4.1 < (p0.2.length:Int)) ∧((((decide ((wi (q0_Z3 p0 y1 y4)) > p1.2))=false) →((decide ((wi (q0_Z3 p0 y1 y4)) > p1.2))=(decide ((wi (q0_Z3 p0 y1 y4)) > p1.2)))) ∧((((decide ((wi (q0_Z3 p0 y1 y4)) > p1.2))=false) →((decide ((wi (q0_Z3 p0 y1 y4)) > p1.2))=(decide ((wi (q0_Z3 p0 y1 y4)) > p1.2)))) ∧((((decide ((wi (q0_Z3 p0 y1 y4)) > p1.2))=false) →((decide ((wi (q0_Z3 p0 y1 y4)) > p1.2))=(decide ((wi (q0_Z3 p0 y1 y4)) > p1.2)))) ∧((((decide ((wi (q0_Z3 p0 y1 y4)) > p1.2))=false) →((decide ((wi (q0_Z3 p0 y1 y4)) > p1.2))=(decide ((wi (q0_Z3 p0 y1 y4)) > p1.2)))) ∧((((decide ((wi (q0_Z3 p0 y1 y4)) > p1.2))=false) →((decide ((wi (q0_Z3 p0 y1 y4)) > p1.2))=(decide ((wi (q0_Z3 p0 y1 y4)) > p1.2)))) ∧((((decide ((wi (q0_Z3 p0 y1 y4)) > p1.2))=false) →((decide ((wi (q0_Z3 p0 y1 y4)) > p1.2))=(decide ((wi (q0_Z3 p0 y1 y4)) > p1.2)))) ∧((((decide ((wi (q0_Z3 p0 y1 y4)) > p1.2))=false) →((decide ((wi (q0_Z3 p0 y1 y4)) > p1.2))=(decide ((wi (q0_Z3 p0 y1 y4)) > p1.2)))) ∧((((decide ((wi (q0_Z3 p0 y1 y4)) > p1.2))=false) →((decide ((wi (q0_Z3 p0 y1 y4)) > p1.2))=(decide ((wi (q0_Z3 p0 y1 y4)) > p1.2)))) ∧(((decide ((wi (q0_Z3 p0 y1 y4)) > p1.2))=(decide ((wi (q0_Z3 p0 y1 y4)) > p1.2))) ∧((((cond (decide ((wi (q0_Z3 p0 y1 y4)) > p1.2)) true (decide ((s_Zk (wi ((p0.2.getD y4.1.toNat (zz0,zz0)).2 - (p0.2.getD y1.2.toNat (zz0,zz0)).2)))≤p1.1)))=true) →(k5 ((wi (y4.1 + zz1)),y4.2))) ∧(((cond (decide ((wi (q0_Z3 p0 y1 y4)) > p1.2)) true (decide ((s_Zk (wi ((p0.2.getD y4.1.toNat (zz0,zz0)).2 - (p0.2.getD y1.2.toNat (zz0,zz0)).2)))≤p1.1)))=false) →((((decide ((wi (q1_Z3 y4)) ≥ zz0))=true) →((decide ((wi (q1_Z3 y4)) ≥ zz0))=(decide ((wi (q1_Z3 y4)) ≥ zz0)))) ∧((((decide ((wi (q1_Z3 y4)) ≥ zz0))=true) →((decide ((wi (q1_Z3 y4)) ≥ zz0))=(decide ((wi (q1_Z3 y4)) ≥ zz0)))) ∧((((decide ((wi (q1_Z3 y4)) ≥ zz0))=true) →((decide ((wi (q1_Z3 y4)) ≥ zz0))=(decide ((wi (q1_Z3 y4)) ≥ zz0)))) ∧((((decide ((wi (q1_Z3 y4)) ≥ zz0))=true) →(zz0≤(wi (q1_Z3 y4)))) ∧((((decide ((wi (q1_Z3 y4)) ≥ zz0))=true) →((wi (q1_Z3 y4)) < (y4.2.length:Int))) ∧((((decide ((wi (q1_Z3 y4)) ≥ zz0))=true) →((decide ((wi (q1_Z3 y4)) ≥ zz0))=(decide ((wi (q1_Z3 y4)) ≥ zz0)))) ∧((((decide ((wi (q1_Z3 y4)) ≥ zz0))=true) →((decide ((wi (q1_Z3 y4)) ≥ zz0))=(decide ((wi (q1_Z3 y4)) ≥ zz0)))) ∧((((decide ((wi (q1_Z3 y4)) ≥ zz0))=true) →((decide ((wi (q1_Z3 y4)) ≥ zz0))=(decide ((wi (q1_Z3 y4)) ≥ zz0)))) ∧((((decide ((wi (q1_Z3 y4)) ≥ zz0))=true) →((decide ((wi (q1_Z3 y4)) ≥ zz0))=(decide ((wi (q1_Z3 y4)) ≥ zz0)))) ∧((((decide ((wi (q1_Z3 y4)) ≥ zz0))=true) →((decide ((wi (q1_Z3 y4)) ≥ zz0))=(decide ((wi (q1_Z3 y4)) ≥ zz0)))) ∧(((decide ((wi (q1_Z3 y4)) ≥ zz0))=(decide ((wi (q1_Z3 y4)) ≥ zz0))) ∧((((cond (decide ((wi (q1_Z3 y4)) ≥ zz0)) (decide ((p0.2.getD y1.2.toNat (zz0,zz0)).1≤(wi ((y4.2.getD (Int.toNat (wi (q1_Z3 y4))) (zz0,zz0)).2 + zz1)))) false)=true) →((zz0≤(wi (q1_Z3 y4))) ∧(((wi (q1_Z3 y4)) < (y4.2.length:Int)) ∧((zz0≤(wi (q1_Z3 y4))) ∧(((wi (q1_Z3 y4)) < (y4.2.length:Int)) ∧(k5 ((wi (y4.1 + zz1)),(List.set y4.2 (Int.toNat (wi (q1_Z3 y4))) ((y4.2.getD (Int.toNat (wi (q1_Z3 y4))) (zz0,zz0)).1,(max (y4.2.getD (Int.toNat (wi (q1_Z3 y4))) (zz0,zz0)).2 (p0.2.getD y4.1.toNat (zz0,zz0)).1)))))))))) ∧(((cond (decide ((wi (q1_Z3 y4)) ≥ zz0)) (decide ((p0.2.getD y1.2.toNat (zz0,zz0)).1≤(wi ((y4.2.getD (Int.toNat (wi (q1_Z3 y4))) (zz0,zz0)).2 + zz1)))) false)=false) →((((y4.2.length + (List.length (((p0.2.getD y1.2.toNat (zz0,zz0)).1,(p0.2.getD y4.1.toNat (zz0,zz0)).1) :: ([]:List (Int×Int))))) * 16)≤140737488355328) ∧(k5 ((wi (y4.1 + zz1)),(y4.2 ++ (((p0.2.getD y1.2.toNat (zz0,zz0)).1,(p0.2.getD y4.1.toNat (zz0,zz0)).1) :: ([]:List (Int×Int)))))))))))))))))))))))))))))))))))) ∧(((decide (y4.1 < (p0.2.length:Int)))=false) →(k2 (y4.2,(wi (y1.2 + zz1))))))) n3 ((wi (y1.2 + zz1)),y1.1)))) ∧(((decide (y1.2 < (p0.2.length:Int)))=false) →(K y1.1)))) n0 (([]:List (Int×Int)),zz0)))
theorem w_Z3_eq (p0:(Int×(List (Int×Int)))) (p1:gG) (K:(List (Int×Int))→Prop):tfn F_Z3 A_Z3 C_Z3 P_Z3 R_Z3 (p0,p1) K = w_Z3 p0 p1 K := by kernel_rfl
def st_Z3_0 (p0:(Int×(List (Int×Int)))) (p1:gG) (y0:((List (Int×Int))×Int)) (y2:(Int×(List (Int×Int)))):(Int×(List (Int×Int))) ⊕ (((List (Int×Int))×Int) ⊕ (List (Int×Int))) := (cond (decide (y2.1 < (p0.2.length:Int))) (cond (cond (decide ((IntKind.i64.wrap ((p0.2.getD y2.1.toNat (0,0)).1 - (p0.2.getD y0.2.toNat (0,0)).1)) > p1.2)) true (decide ((s_Zk (IntKind.i64.wrap ((p0.2.getD y2.1.toNat (0,0)).2 - (p0.2.getD y0.2.toNat (0,0)).2)))≤p1.1))) (Sum.inl ((IntKind.i64.wrap (y2.1 + 1)),y2.2)) (cond (cond (decide ((IntKind.i64.wrap ((y2.2.length:Int) - 1)) ≥ 0)) (decide ((p0.2.getD y0.2.toNat (0,0)).1≤(IntKind.i64.wrap ((y2.2.getD (Int.toNat (IntKind.i64.wrap ((y2.2.length:Int) - 1))) (0,0)).2 + 1)))) false) (Sum.inl ((IntKind.i64.wrap (y2.1 + 1)),(List.set y2.2 (Int.toNat (IntKind.i64.wrap ((y2.2.length:Int) - 1))) ((y2.2.getD (Int.toNat (IntKind.i64.wrap ((y2.2.length:Int) - 1))) (0,0)).1,(max (y2.2.getD (Int.toNat (IntKind.i64.wrap ((y2.2.length:Int) - 1))) (0,0)).2 (p0.2.getD y2.1.toNat (0,0)).1))))) (Sum.inl ((IntKind.i64.wrap (y2.1 + 1)),(y2.2 ++ (((p0.2.getD y0.2.toNat (0,0)).1,(p0.2.getD y2.1.toNat (0,0)).1) :: ([]:List (Int×Int)))))))) (Sum.inr (Sum.inl (y2.2,(IntKind.i64.wrap (y0.2 + 1))))))
abbrev sp_Z3_0 (p0:(Int×(List (Int×Int)))) (p1:gG) (y0:((List (Int×Int))×Int)) (y2:(Int×(List (Int×Int)))):List Prop := [(((decide (y2.1 < (p0.2.length:Int)))=true)→((0:Int)≤y0.2)),(((decide (y2.1 < (p0.2.length:Int)))=true)→(y0.2 < (p0.2.length:Int))),(((decide (y2.1 < (p0.2.length:Int)))=true)→((0:Int)≤y2.1)),(((decide (y2.1 < (p0.2.length:Int)))=true)→(y2.1 < (p0.2.length:Int))),(((decide (y2.1 < (p0.2.length:Int)))=true)→(((cond (decide ((IntKind.i64.wrap ((p0.2.getD y2.1.toNat (0,0)).1 - (p0.2.getD y0.2.toNat (0,0)).1)) > p1.2)) true (decide ((s_Zk (IntKind.i64.wrap ((p0.2.getD y2.1.toNat (0,0)).2 - (p0.2.getD y0.2.toNat (0,0)).2)))≤p1.1)))=false)→(((decide ((IntKind.i64.wrap ((y2.2.length:Int) - 1)) ≥ 0))=true)→((0:Int)≤(IntKind.i64.wrap ((y2.2.length:Int) - 1)))))),(((decide (y2.1 < (p0.2.length:Int)))=true)→(((cond (decide ((IntKind.i64.wrap ((p0.2.getD y2.1.toNat (0,0)).1 - (p0.2.getD y0.2.toNat (0,0)).1)) > p1.2)) true (decide ((s_Zk (IntKind.i64.wrap ((p0.2.getD y2.1.toNat (0,0)).2 - (p0.2.getD y0.2.toNat (0,0)).2)))≤p1.1)))=false)→(((decide ((IntKind.i64.wrap ((y2.2.length:Int) - 1)) ≥ 0))=true)→((IntKind.i64.wrap ((y2.2.length:Int) - 1)) < (y2.2.length:Int))))),(((decide (y2.1 < (p0.2.length:Int)))=true)→(((cond (decide ((IntKind.i64.wrap ((p0.2.getD y2.1.toNat (0,0)).1 - (p0.2.getD y0.2.toNat (0,0)).1)) > p1.2)) true (decide ((s_Zk (IntKind.i64.wrap ((p0.2.getD y2.1.toNat (0,0)).2 - (p0.2.getD y0.2.toNat (0,0)).2)))≤p1.1)))=false)→(((cond (decide ((IntKind.i64.wrap ((y2.2.length:Int) - 1)) ≥ 0)) (decide ((p0.2.getD y0.2.toNat (0,0)).1≤(IntKind.i64.wrap ((y2.2.getD (Int.toNat (IntKind.i64.wrap ((y2.2.length:Int) - 1))) (0,0)).2 + 1)))) false)=true)→((0:Int)≤(IntKind.i64.wrap ((y2.2.length:Int) - 1)))))),(((decide (y2.1 < (p0.2.length:Int)))=true)→(((cond (decide ((IntKind.i64.wrap ((p0.2.getD y2.1.toNat (0,0)).1 - (p0.2.getD y0.2.toNat (0,0)).1)) > p1.2)) true (decide ((s_Zk (IntKind.i64.wrap ((p0.2.getD y2.1.toNat (0,0)).2 - (p0.2.getD y0.2.toNat (0,0)).2)))≤p1.1)))=false)→(((cond (decide ((IntKind.i64.wrap ((y2.2.length:Int) - 1)) ≥ 0)) (decide ((p0.2.getD y0.2.toNat (0,0)).1≤(IntKind.i64.wrap ((y2.2.getD (Int.toNat (IntKind.i64.wrap ((y2.2.length:Int) - 1))) (0,0)).2 + 1)))) false)=true)→((IntKind.i64.wrap ((y2.2.length:Int) - 1)) < (y2.2.length:Int))))),(((decide (y2.1 < (p0.2.length:Int)))=true)→(((cond (decide ((IntKind.i64.wrap ((p0.2.getD y2.1.toNat (0,0)).1 - (p0.2.getD y0.2.toNat (0,0)).1)) > p1.2)) true (decide ((s_Zk (IntKind.i64.wrap ((p0.2.getD y2.1.toNat (0,0)).2 - (p0.2.getD y0.2.toNat (0,0)).2)))≤p1.1)))=false)→(((cond (decide ((IntKind.i64.wrap ((y2.2.length:Int) - 1)) ≥ 0)) (decide ((p0.2.getD y0.2.toNat (0,0)).1≤(IntKind.i64.wrap ((y2.2.getD (Int.toNat (IntKind.i64.wrap ((y2.2.length:Int) - 1))) (0,0)).2 + 1)))) false)=false)→(((y2.2.length + (List.length (((p0.2.getD y0.2.toNat (0,0)).1,(p0.2.getD y2.1.toNat (0,0)).1) :: ([]:List (Int×Int))))) * 16)≤140737488355328))))]
def st_Z3_1 (p0:(Int×(List (Int×Int)))) (p1:gG) (y0:((List (Int×Int))×Int)):((List (Int×Int))×Int) ⊕ (List (Int×Int)) := (cond (decide (y0.2 < (p0.2.length:Int))) (lpv (Sum.inr []) (st_Z3_0 p0 p1 y0) ((IntKind.i64.wrap (y0.2 + 1)),y0.1)) (Sum.inr y0.1))
abbrev sp_Z3_1 (p0:(Int×(List (Int×Int)))) (p1:gG) (y0:((List (Int×Int))×Int)):List Prop := [(((decide (y0.2 < (p0.2.length:Int)))=true)→(OkL (st_Z3_0 p0 p1 y0) (sp_Z3_0 p0 p1 y0) ((IntKind.i64.wrap (y0.2 + 1)),y0.1)))]
def s_Z3 (p0:(Int×(List (Int×Int)))) (p1:gG):(List (Int×Int)) := (lpv [] (st_Z3_1 p0 p1) (([]:List (Int×Int)),(0:Int)))
abbrev pre_Z3 (p0:(Int×(List (Int×Int)))) (p1:gG):List Prop := [(OkL (st_Z3_1 p0 p1) (sp_Z3_1 p0 p1) (([]:List (Int×Int)),(0:Int)))]
theorem d_Z3 (p0:(Int×(List (Int×Int)))) (p1:gG) (K:(List (Int×Int))→Prop) (hp:∀ p∈pre_Z3 p0 p1,p) (h:K (s_Z3 p0 p1)):w_Z3 p0 p1 K := by
 unfold w_Z3
 unfold s_Z3 at h
 obtain ⟨hp0,_⟩ := conj_of hp
 exact (loop_gen (hp0) h (fun y0 k0 hp h => by
 unfold st_Z3_1 at h; obtain ⟨hp0,_⟩ := conj_of hp
 exact (br' h (fun e1 h => (loop_gen (hp0 e1) h (fun y2 k2 hp h => by
 unfold st_Z3_0 at h; obtain ⟨hp0,hp1,hp2,hp3,hp4,hp5,hp6,hp7,hp8,_⟩ := conj_of hp
 exact (br' h (fun e3 h => ⟨(hp0 e3),(hp1 e3),(hp2 e3),(hp3 e3),rf,rf,rf,rf,rf,rf,rf,rf,rfl,(br' h (fun e4 h => h)
  (fun e4 h => ⟨rf,rf,rf,(hp4 e3 e4),(hp5 e3 e4),rf,rf,rf,rf,rf,rfl,(br' h (fun e5 h => ⟨(hp6 e3 e4 e5),(hp7 e3 e4 e5),(hp6 e3 e4 e5),(hp7 e3 e4 e5),h⟩)
  (fun e5 h => ⟨(hp8 e3 e4 e5),h⟩))⟩))⟩)
  (fun e3 h => h)))))
  (fun e1 h => h))))
theorem v_pr_r {a d l w:Int} (ha : -200000≤a∧a≤200000) (_hl:0≤l):cond (decide (d > w)) true (decide (s_Zk a≤l)) = !(cond (decide (d≤w)) (!(s_Z2 a (-l) l)) false) := by
 have w5:IntKind.i64.wrap (0 - a)=0 - a := wrap_id (by omega) (by omega)
 have hs:decide (s_Zk a≤l)=s_Z2 a (-l) l := by
  unfold s_Zk
  rw [w5,Bool.eq_iff_iff,tx_within,decide_eq_true_eq]; omega
 rw [hs]
 rcases Int.lt_or_le w d with g | g
 ·rw [decide_eq_true (show d > w by omega),decide_eq_false (show ¬ d≤w by omega)]; rfl
 ·rw [decide_eq_false (show ¬ d > w by omega),decide_eq_true g]
  cases s_Z2 a (-l) l <;> rfl
theorem l_Z3_0 (p0:Int×List (Int×Int)) (p1:gG) (h:v_bok p0) (hr:v_rlok p1) (i:Nat) (hi:i < p0.2.length):OkL (st_Z3_0 p0 p1 ((v_all p0 p1 i).foldl v_mg [],(i:Int))) (sp_Z3_0 p0 p1 ((v_all p0 p1 i).foldl v_mg [],(i:Int))) (((i + 1:Nat):Int),(v_all p0 p1 i).foldl v_mg [])∧lpv (.inr []) (st_Z3_0 p0 p1 ((v_all p0 p1 i).foldl v_mg [],(i:Int))) (((i + 1:Nat):Int),(v_all p0 p1 i).foldl v_mg []) = .inl ((v_all p0 p1 (i + 1)).foldl v_mg [],((i + 1:Nat):Int)) := by
 have hl := h.len
 have hw0:IntKind.i64.wrap ((i:Int) + 1)=((i + 1:Nat):Int) := wrap_id (by omega) (by omega)
 generalize hO:(v_all p0 p1 i).foldl v_mg []=O
 have main := @for_is (List (Int×Int)) (Int×List (Int×Int)) (((List (Int×Int))×Int) ⊕ (List (Int×Int))) (.inr []) (st_Z3_0 p0 p1 (O,(i:Int))) (sp_Z3_0 p0 p1 (O,(i:Int))) (fun i t => (i,t)) (i + 1) p0.2.length (fun j t => t = (v_all p0 p1 i ++ v_row p0 p1 i (j - (i + 1))).foldl v_mg []) (fun _ _ => .inl ((v_all p0 p1 (i + 1)).foldl v_mg [],((i + 1:Nat):Int))) (by omega) (by omega) ?_ ?_ O (by rw [Nat.sub_self]; unfold v_row; rw [List.append_nil,hO])
 ·exact main
 ·rintro t h1
  simp only [sp_Z3_0,st_Z3_0,fM,hw0,decide_eq_false (Int.lt_irrefl (p0.2.length:Int)),cond_false,h1]
  refine ⟨?_,by first | rfl | trivial⟩
  and_intros
  all_goals first
   | (intro h; cases h; done)
   | (intro p hp; cases hp)
 ·rintro j t h0 hj h1
  have hw1:IntKind.i64.wrap ((j:Int) + 1)=((j + 1:Nat):Int) := wrap_id (by omega) (by omega)
  have hd:decide ((j:Int) < (p0.2.length:Int))=true := decide_eq_true (by omega)
  have ga := h.ok i hi
  have gb := h.ok j hj
  have rl := hr.l
  have w1:IntKind.i64.wrap ((p0.2.getD j (0,0)).1 - (p0.2.getD i (0,0)).1)=(p0.2.getD j (0,0)).1 - (p0.2.getD i (0,0)).1 := wrap_id (by omega) (by omega)
  have w2:IntKind.i64.wrap ((p0.2.getD j (0,0)).2 - (p0.2.getD i (0,0)).2)=(p0.2.getD j (0,0)).2 - (p0.2.getD i (0,0)).2 := wrap_id (by omega) (by omega)
  have hp:cond (decide ((p0.2.getD j (0,0)).1 - (p0.2.getD i (0,0)).1 > p1.2)) true (decide (s_Zk ((p0.2.getD j (0,0)).2 - (p0.2.getD i (0,0)).2)≤p1.1)) = !(v_pr p0 p1 i j) := v_pr_r (by omega) rl.1
  have hs:v_row p0 p1 i (j + 1 - (i + 1))=v_row p0 p1 i (j - (i + 1)) ++ cond (v_pr p0 p1 i j) [((p0.2.getD i (0,0)).1,(p0.2.getD j (0,0)).1)] [] := by
   rw [show j + 1 - (i + 1)=(j - (i + 1)) + 1 by omega]
   show _ ++ cond (v_pr p0 p1 i (i + 1 + (j - (i + 1)))) [((p0.2.getD i (0,0)).1,(p0.2.getD (i + 1 + (j - (i + 1))) (0,0)).1)] []=_
   rw [show i + 1 + (j - (i + 1))=j by omega]
  have hlen:t.length≤420 := by
   have hal := v_all_len p0 p1 hl i
   have hrl := v_row_len p0 p1 i (j - (i + 1))
   have := v_fold_len (v_all p0 p1 i ++ v_row p0 p1 i (j - (i + 1))) []
   rw [← h1,List.length_append,List.length_nil] at this
   omega
  have htk:v_tk t := by rw [h1]; exact v_fold_tk _ _ (v_tk_app (v_all_tk h p1 i (by omega)) (v_row_tk h p1 _ (by omega))) (fun x hx => by cases hx)
  cases hc:v_pr p0 p1 i j <;> rw [hc] at hs hp
  ·simp only [sp_Z3_0,st_Z3_0,fM,hw1,Int.toNat_natCast,hd,cond_true,w1,w2,hp,Bool.not_false]
   refine ⟨?_,.inl ⟨t,rfl,by rw [hs,h1]; simp,by first | rfl | trivial⟩⟩
   and_intros
   all_goals first
    | (intro p hp; cases hp; done)
    | (intro _ h; cases h; done)
    | (intros; omega)
  ·have hf:(v_all p0 p1 i ++ v_row p0 p1 i (j + 1 - (i + 1))).foldl v_mg []=v_mg t ((p0.2.getD i (0,0)).1,(p0.2.getD j (0,0)).1) := by
    rw [hs,← List.append_assoc,List.foldl_append,← h1]; rfl
   have hw2:IntKind.i64.wrap ((t.length:Int) - 1)=(t.length:Int) - 1 := wrap_id (by omega) (by omega)
   rcases Nat.eq_zero_or_pos t.length with g | g
   ·have hg:decide ((t.length:Int) - 1 ≥ 0)=false := decide_eq_false (by omega)
    have hg2:decide ((t.length:Int) > 0)=false := decide_eq_false (by omega)
    have hm:v_mg t ((p0.2.getD i (0,0)).1,(p0.2.getD j (0,0)).1)=t ++ [((p0.2.getD i (0,0)).1,(p0.2.getD j (0,0)).1)] := by unfold v_mg; rw [hg2]; rfl
    simp only [sp_Z3_0,st_Z3_0,fM,hw1,hw2,Int.toNat_natCast,hd,hg,cond_true,cond_false,w1,w2,hp,Bool.not_true]
    refine ⟨?_,.inl ⟨_,rfl,by rw [hf,hm],by first | rfl | trivial⟩⟩
    and_intros
    all_goals first
     | (intro p hp; cases hp; done)
     | (intro _ _ h; cases h; done)
     | (intros; simp only [List.length_cons,List.length_nil]; omega)
     | (intros; omega)
   ·have hg:decide ((t.length:Int) - 1 ≥ 0)=true := decide_eq_true (by omega)
    have hg2:decide ((t.length:Int) > 0)=true := decide_eq_true (by omega)
    have hn:((t.length:Int) - 1).toNat = t.length - 1 := by omega
    have hb := htk _ (getD_mem' (0,0) (show t.length - 1 < t.length by omega))
    have hw3:IntKind.i64.wrap ((t.getD (t.length - 1) (0,0)).2 + 1)=(t.getD (t.length - 1) (0,0)).2 + 1 := wrap_id (by omega) (by omega)
    have hm:v_mg t ((p0.2.getD i (0,0)).1,(p0.2.getD j (0,0)).1)=cond (decide ((p0.2.getD i (0,0)).1≤(t.getD (t.length - 1) (0,0)).2 + 1)) (t.set (t.length - 1) ((t.getD (t.length - 1) (0,0)).1,max (t.getD (t.length - 1) (0,0)).2 (p0.2.getD j (0,0)).1)) (t ++ [((p0.2.getD i (0,0)).1,(p0.2.getD j (0,0)).1)]) := by unfold v_mg; rw [hg2]; rfl
    simp only [sp_Z3_0,st_Z3_0,fM,hw1,hw2,hn,hw3,Int.toNat_natCast,hd,hg,cond_true,cond_false,w1,w2,hp,Bool.not_true]
    refine ⟨?_,?_⟩
    ·and_intros
     all_goals first
      | (intro p hp; cases hp; done)
      | (intros; simp only [List.length_cons,List.length_nil]; omega)
      | (intros; omega)
    ·rw [hf,hm]
     cases decide ((p0.2.getD i (0,0)).1≤(t.getD (t.length - 1) (0,0)).2 + 1)
     ·exact .inl ⟨_,rfl,rfl,by first | rfl | trivial⟩
     ·exact .inl ⟨_,rfl,rfl,by first | rfl | trivial⟩
theorem l_Z3_1 (p0:Int×List (Int×Int)) (p1:gG) (h:v_bok p0) (hr:v_rlok p1):OkL (st_Z3_1 p0 p1) (sp_Z3_1 p0 p1) ([],0)∧lpv [] (st_Z3_1 p0 p1) ([],0)=v_strm p0 p1 := by
 have hl := h.len
 have main := @for_is (List (Int×Int)) ((List (Int×Int))×Int) (List (Int×Int)) [] (st_Z3_1 p0 p1) (sp_Z3_1 p0 p1) (fun i t => (t,i)) 0 p0.2.length (fun j t => t = (v_all p0 p1 j).foldl v_mg []) (fun _ _ => v_strm p0 p1) (Nat.zero_le _) (by omega) ?_ ?_ [] rfl
 ·exact main
 ·rintro t h1
  simp only [sp_Z3_1,st_Z3_1,fM,decide_eq_false (Int.lt_irrefl (p0.2.length:Int)),cond_false,h1]
  refine ⟨?_,by first | rfl | trivial⟩
  and_intros
  all_goals first
   | (intro h; cases h; done)
   | (intro p hp; cases hp)
 ·rintro j t h0 hj h1
  have hw1:IntKind.i64.wrap ((j:Int) + 1)=((j + 1:Nat):Int) := wrap_id (by omega) (by omega)
  have hd:decide ((j:Int) < (p0.2.length:Int))=true := decide_eq_true (by omega)
  obtain ⟨q1,q2⟩ := l_Z3_0 p0 p1 h hr j hj
  subst h1
  simp only [sp_Z3_1,st_Z3_1,fM,hd,cond_true,hw1]
  exact ⟨⟨fun _ => q1,fun p hp => by cases hp⟩,.inl ⟨_,q2,rfl,by first | rfl | trivial⟩⟩
abbrev t_Z3 (p0:Int×List (Int×Int)) (p1:gG):List (Int×Int) := v_strm p0 p1
abbrev qre_Z3 (p0:Int×List (Int×Int)) (p1:gG):List Prop := [v_bok p0,v_rlok p1]
theorem pp_Z3 (p0:Int×List (Int×Int)) (p1:gG) (hq:∀ p∈qre_Z3 p0 p1,p):∀ p∈pre_Z3 p0 p1,p := by
 obtain ⟨h1,h2,_⟩ := conj_of hq
 simp only [pre_Z3,fM]
 exact ⟨(l_Z3_1 p0 p1 h1 h2).1,by simp⟩
theorem tt_Z3 (p0:Int×List (Int×Int)) (p1:gG) (hq:∀ p∈qre_Z3 p0 p1,p):s_Z3 p0 p1 = t_Z3 p0 p1 := by
 obtain ⟨h1,h2,_⟩ := conj_of hq
 exact (l_Z3_1 p0 p1 h1 h2).2

abbrev con_Z3:Con := ⟨P_Z3,R_Z3,fun x => qre_Z3 x.1 x.2,fun x => t_Z3 x.1 x.2⟩
theorem ok_Z3:ConOk Try.prog 38 con_Z3 := okG k_Z3 e_Z3 hC_Z3 fun x hx => tf_of (w_Z3_eq x.1 x.2 _) (d_Z3 x.1 x.2 _ (pp_Z3 x.1 x.2 hx) (tt_Z3 x.1 x.2 hx))
def C_Zc:Cons := []
theorem hC_Zc:ConsOk Try.prog C_Zc := ConsOk.nil
def w_Zc (p0:gC) (p1:gC) (K:Bool→Prop):Prop := (((((p0.length:Int) != (p1.length:Int))=true) →(K false)) ∧((((p0.length:Int) != (p1.length:Int))=false) →(∃ n0,(loopP (fun (y1:Int) k2 => ((((decide (y1 < (p0.length:Int)))=true) →((zz0≤y1) ∧((y1 < (p0.length:Int)) ∧((zz0≤y1) ∧((y1 < (p1.length:Int)) ∧((((!(((p0.getD y1.toNat (zz0,zz0)).1 == (p1.getD y1.toNat (zz0,zz0)).1) && (((p0.getD y1.toNat (zz0,zz0)).2 == (p1.getD y1.toNat (zz0,zz0)).2) && true)))=true) →(K false)) ∧(((!(((p0.getD y1.toNat (zz0,zz0)).1 == (p1.getD y1.toNat (zz0,zz0)).1) && (((p0.getD y1.toNat (zz0,zz0)).2 == (p1.getD y1.toNat (zz0,zz0)).2) && true)))=false) →(k2 (IntKind.i64.wrap (y1 + 1)))))))))) ∧(((decide (y1 < (p0.length:Int)))=false) →(K true)))) n0 zz0))))
theorem w_Zc_eq (p0:gC) (p1:gC) (K:Bool→Prop):tfn F_Zc A_Zc C_Zc P_Zc R_Zc (p0,p1) K = w_Zc p0 p1 K := by kernel_rfl
def st_Zc_0 (p0:gC) (p1:gC) (y1:Int):Int ⊕ Bool := (cond (decide (y1 < (p0.length:Int))) (cond (!(((p0.getD y1.toNat (0,0)).1 == (p1.getD y1.toNat (0,0)).1) && (((p0.getD y1.toNat (0,0)).2 == (p1.getD y1.toNat (0,0)).2) && true))) (Sum.inr false) (Sum.inl (IntKind.i64.wrap (y1 + 1)))) (Sum.inr true))
abbrev sp_Zc_0 (p0:gC) (p1:gC) (y1:Int):List Prop := [(((decide (y1 < (p0.length:Int)))=true)→((0:Int)≤y1)),(((decide (y1 < (p0.length:Int)))=true)→(y1 < (p0.length:Int))),(((decide (y1 < (p0.length:Int)))=true)→(y1 < (p1.length:Int)))]
def s_Zc (p0:gC) (p1:gC):Bool := (cond ((p0.length:Int) != (p1.length:Int)) false (lpv false (st_Zc_0 p0 p1) (0:Int)))
abbrev pre_Zc (p0:gC) (p1:gC):List Prop := [((((p0.length:Int) != (p1.length:Int))=false)→(OkL (st_Zc_0 p0 p1) (sp_Zc_0 p0 p1) (0:Int)))]
theorem d_Zc (p0:gC) (p1:gC) (K:Bool→Prop) (hp:∀ p∈pre_Zc p0 p1,p) (h:K (s_Zc p0 p1)):w_Zc p0 p1 K := by
 unfold w_Zc
 unfold s_Zc at h
 obtain ⟨hp0,_⟩ := conj_of hp
 exact (br' h (fun e0 h => h)
  (fun e0 h => (loop_gen (hp0 e0) h (fun y1 k1 hp h => by
 unfold st_Zc_0 at h; obtain ⟨hp0,hp1,hp2,_⟩ := conj_of hp
 exact (br' h (fun e2 h => ⟨(hp0 e2),(hp1 e2),(hp0 e2),(hp2 e2),(br' h (fun e3 h => h)
  (fun e3 h => h))⟩)
  (fun e2 h => h))))))
theorem l_Zc_0 (p0 p1:gC) (hl:lenOk p0) (he:p0.length = p1.length):OkL (st_Zc_0 p0 p1) (sp_Zc_0 p0 p1) 0∧lpv false (st_Zc_0 p0 p1) 0 = v_scan (fun i x => cond (!(((x.1 == (p1.getD i.toNat (0,0)).1) && ((x.2 == (p1.getD i.toNat (0,0)).2) && true)))) (some false) none) true 0 p0 := by
 refine scan_is p0 (0,0) (fun i x => cond (!(((x.1 == (p1.getD i.toNat (0,0)).1) && ((x.2 == (p1.getD i.toNat (0,0)).2) && true)))) (some false) none) true hl ?_ ?_
 ·refine ⟨by simp only [sp_Zc_0,fM,decide_eq_true_eq]; simp,by simp [st_Zc_0]⟩
 ·intro j hj
  have hj' : (j:Int) < p0.length := by omega
  refine ⟨by simp only [sp_Zc_0,fM,decide_eq_true_eq,Int.toNat_natCast]; simp <;> omega,?_⟩
  simp only [st_Zc_0,hj',decide_true,Int.toNat_natCast,cond_true,wrap_nat (show (j:Int)≤9223372036854775806 by unfold lenOk at hl; omega)]
  generalize p0.getD j (0,0)=x
  generalize p1.getD j (0,0)=z
  cases (x.1 == z.1) <;> cases (x.2 == z.2) <;> rfl
abbrev t_Zc (p0 p1:gC):Bool := decide (p0 = p1)
abbrev qre_Zc (p0 _p1:gC):List Prop := [lenOk p0]
theorem pp_Zc (p0 p1:gC) (hq:∀ p∈qre_Zc p0 p1,p):∀ p∈pre_Zc p0 p1,p := by
 simp only [pre_Zc,fM]
 refine ⟨fun h => (l_Zc_0 p0 p1 (conj_of hq).1 ?_).1,by simp⟩
 have h' : (p0.length:Int)=p1.length := by simpa using h
 omega
theorem tt_Zc (p0 p1:gC) (hq:∀ p∈qre_Zc p0 p1,p):s_Zc p0 p1 = t_Zc p0 p1 := by
 unfold s_Zc t_Zc
 by_cases h:p0.length = p1.length
 ·rw [show ((p0.length:Int) != (p1.length:Int))=false by simp [h]]
  refine (l_Zc_0 p0 p1 (conj_of hq).1 h).2.trans ?_
  exact v_scan_eq (0,0) (fun x y => ((x.1 == y.1) && ((x.2 == y.2) && true))) (fun x y => by by_cases h1:x.1 = y.1 <;> by_cases h2:x.2 = y.2 <;> simp [h1,h2,Prod.ext_iff]) p0 p1 h
 ·rw [show ((p0.length:Int) != (p1.length:Int))=true by simp; omega]
  have:p0 ≠ p1 := fun e => h (congrArg List.length e)
  simp [this]

abbrev con_Zc:Con := ⟨P_Zc,R_Zc,fun x => qre_Zc x.1 x.2,fun x => t_Zc x.1 x.2⟩
theorem ok_Zc:ConOk Try.prog 29 con_Zc := okG k_Zc e_Zc hC_Zc fun x hx => tf_of (w_Zc_eq x.1 x.2 _) (d_Zc x.1 x.2 _ (pp_Zc x.1 x.2 hx) (tt_Zc x.1 x.2 hx))
def C_Z10:Cons := [(34,[],con_Z5)]
theorem hC_Z10:ConsOk Try.prog C_Z10 := cC ok_Z5 <| ConsOk.nil
def w_Z10 (p0:(List (Int×(Int×(Int×(Int×Int)))))) (K:Int→Prop):Prop := (K (v_cs p0).2)
theorem w_Z10_eq (p0:(List (Int×(Int×(Int×(Int×Int)))))) (K:Int→Prop):tfn F_Z10 A_Z10 C_Z10 P_Z10 R_Z10 p0 K = w_Z10 p0 K := by kernel_rfl
def s_Z10 (p0:(List (Int×(Int×(Int×(Int×Int)))))):Int := (v_cs p0).2
abbrev pre_Z10 (_p0:(List (Int×(Int×(Int×(Int×Int)))))):List Prop := []
theorem d_Z10 (p0:(List (Int×(Int×(Int×(Int×Int)))))) (K:Int→Prop) (_hp:∀ p∈pre_Z10 p0,p) (h:K (s_Z10 p0)):w_Z10 p0 K := by
 unfold w_Z10
 unfold s_Z10 at h
 exact h
abbrev con_Z10:Con := ⟨P_Z10,R_Z10,fun x => pre_Z10 x,fun x => s_Z10 x⟩
theorem ok_Z10:ConOk Try.prog 24 con_Z10 := okG k_Z10 e_Z10 hC_Z10 fun x hx => tf_of (w_Z10_eq x _) (d_Z10 x _ hx rfl)
def C_Z9:Cons := [(38,[],con_Z3),(17,[],con_Z2)]
theorem hC_Z9:ConsOk Try.prog C_Z9 := cC ok_Z3 <| cC ok_Z2 <| ConsOk.nil
def w_Z9 (p0:(Int×(List (Int×Int)))) (p1:gG) (p2:(List (Int×(Int×(Int×(Int×Int)))))) (K:(List Int)→Prop):Prop := ((v_bok p0) ∧((v_rlok p1) ∧(∃ n0,(loopP (fun (y1:gE) k2 => ((((decide (y1.1 < (p2.length:Int)))=true) →(∃ n3,(loopP (fun (y4:gE) k5 => ((((decide (y4.1 < (((v_strm p0 p1).length:Nat):Int)))=true) →((zz0≤y1.1) ∧((y1.1 < (p2.length:Int)) ∧((zz0≤y4.1) ∧((y4.1 < (((v_strm p0 p1).length:Nat):Int)) ∧((zz0≤y4.1) ∧((y4.1 < (((v_strm p0 p1).length:Nat):Int)) ∧((((s_Z2 (p2.getD y1.1.toNat (zz0,(zz0,(zz0,(zz0,zz0))))).1 (List.getD (v_strm p0 p1) y4.1.toNat (zz0,zz0)).1 (List.getD (v_strm p0 p1) y4.1.toNat (zz0,zz0)).2)=true) →((((y4.2.length + (List.length (y1.1 :: ([]:List Int)))) * 8)≤140737488355328) ∧(k5 ((IntKind.i64.wrap (y4.1 + 1)),(y4.2 ++ (y1.1 :: ([]:List Int))))))) ∧(((s_Z2 (p2.getD y1.1.toNat (zz0,(zz0,(zz0,(zz0,zz0))))).1 (List.getD (v_strm p0 p1) y4.1.toNat (zz0,zz0)).1 (List.getD (v_strm p0 p1) y4.1.toNat (zz0,zz0)).2)=false) →(k5 ((IntKind.i64.wrap (y4.1 + 1)),y4.2))))))))))) ∧(((decide (y4.1 < (((v_strm p0 p1).length:Nat):Int)))=false) →(k2 ((IntKind.i64.wrap (y1.1 + 1)),y4.2))))) n3 (zz0,y1.2)))) ∧(((decide (y1.1 < (p2.length:Int)))=false) →(K y1.2)))) n0 (zz0,([]:List Int))))))
theorem w_Z9_eq (p0:(Int×(List (Int×Int)))) (p1:gG) (p2:(List (Int×(Int×(Int×(Int×Int)))))) (K:(List Int)→Prop):tfn F_Z9 A_Z9 C_Z9 P_Z9 R_Z9 (p0,p1,p2) K = w_Z9 p0 p1 p2 K := by kernel_rfl
def st_Z9_0 (p0:(Int×(List (Int×Int)))) (p1:gG) (p2:(List (Int×(Int×(Int×(Int×Int)))))) (y0:gE) (y2:gE):(Int×(List Int)) ⊕ ((Int×(List Int)) ⊕ (List Int)) := (cond (decide (y2.1 < (((v_strm p0 p1).length:Nat):Int))) (cond (s_Z2 (p2.getD y0.1.toNat ((0:Int),((0:Int),((0:Int),(0,0))))).1 (List.getD (v_strm p0 p1) y2.1.toNat (0,0)).1 (List.getD (v_strm p0 p1) y2.1.toNat (0,0)).2) (Sum.inl ((IntKind.i64.wrap (y2.1 + 1)),(y2.2 ++ (y0.1 :: ([]:List Int))))) (Sum.inl ((IntKind.i64.wrap (y2.1 + 1)),y2.2))) (Sum.inr (Sum.inl ((IntKind.i64.wrap (y0.1 + 1)),y2.2))))
abbrev sp_Z9_0 (p0:(Int×(List (Int×Int)))) (p1:gG) (p2:(List (Int×(Int×(Int×(Int×Int)))))) (y0:gE) (y2:gE):List Prop := [(((decide (y2.1 < (((v_strm p0 p1).length:Nat):Int)))=true)→((0:Int)≤y0.1)),(((decide (y2.1 < (((v_strm p0 p1).length:Nat):Int)))=true)→(y0.1 < (p2.length:Int))),(((decide (y2.1 < (((v_strm p0 p1).length:Nat):Int)))=true)→((0:Int)≤y2.1)),(((decide (y2.1 < (((v_strm p0 p1).length:Nat):Int)))=true)→(y2.1 < (((v_strm p0 p1).length:Nat):Int))),(((decide (y2.1 < (((v_strm p0 p1).length:Nat):Int)))=true)→(((s_Z2 (p2.getD y0.1.toNat ((0:Int),((0:Int),((0:Int),(0,0))))).1 (List.getD (v_strm p0 p1) y2.1.toNat (0,0)).1 (List.getD (v_strm p0 p1) y2.1.toNat (0,0)).2)=true)→(((y2.2.length + (List.length (y0.1 :: ([]:List Int)))) * 8)≤140737488355328)))]
def st_Z9_1 (p0:(Int×(List (Int×Int)))) (p1:gG) (p2:(List (Int×(Int×(Int×(Int×Int)))))) (y0:gE):(Int×(List Int)) ⊕ (List Int) := (cond (decide (y0.1 < (p2.length:Int))) (lpv (Sum.inr []) (st_Z9_0 p0 p1 p2 y0) ((0:Int),y0.2)) (Sum.inr y0.2))
abbrev sp_Z9_1 (p0:(Int×(List (Int×Int)))) (p1:gG) (p2:(List (Int×(Int×(Int×(Int×Int)))))) (y0:gE):List Prop := [(((decide (y0.1 < (p2.length:Int)))=true)→(OkL (st_Z9_0 p0 p1 p2 y0) (sp_Z9_0 p0 p1 p2 y0) ((0:Int),y0.2)))]
def s_Z9 (p0:(Int×(List (Int×Int)))) (p1:gG) (p2:(List (Int×(Int×(Int×(Int×Int)))))):(List Int) := (lpv [] (st_Z9_1 p0 p1 p2) ((0:Int),([]:List Int)))
abbrev pre_Z9 (p0:(Int×(List (Int×Int)))) (p1:gG) (p2:(List (Int×(Int×(Int×(Int×Int)))))):List Prop := [(v_bok p0),(v_rlok p1),(OkL (st_Z9_1 p0 p1 p2) (sp_Z9_1 p0 p1 p2) ((0:Int),([]:List Int)))]
theorem d_Z9 (p0:(Int×(List (Int×Int)))) (p1:gG) (p2:(List (Int×(Int×(Int×(Int×Int)))))) (K:(List Int)→Prop) (hp:∀ p∈pre_Z9 p0 p1 p2,p) (h:K (s_Z9 p0 p1 p2)):w_Z9 p0 p1 p2 K := by
 unfold w_Z9
 unfold s_Z9 at h
 obtain ⟨hp0,hp1,hp2,_⟩ := conj_of hp
 exact ⟨(hp0),(hp1),(loop_gen (hp2) h (fun y0 k0 hp h => by
 unfold st_Z9_1 at h; obtain ⟨hp0,_⟩ := conj_of hp
 exact (br' h (fun e1 h => (loop_gen (hp0 e1) h (fun y2 k2 hp h => by
 unfold st_Z9_0 at h; obtain ⟨hp0,hp1,hp2,hp3,hp4,_⟩ := conj_of hp
 exact (br' h (fun e3 h => ⟨(hp0 e3),(hp1 e3),(hp2 e3),(hp3 e3),(hp2 e3),(hp3 e3),(br' h (fun e4 h => ⟨(hp4 e3 e4),h⟩)
  (fun e4 h => h))⟩)
  (fun e3 h => h)))))
  (fun e1 h => h))))⟩
/-- Ranges that are apart,in order. -/
structure v_ap (o:gC):Prop where
 lo:∀ k,k < o.length→(o.getD k (0,0)).1≤(o.getD k (0,0)).2
 gap:∀ k,k + 1 < o.length→(o.getD k (0,0)).2 + 1 < (o.getD (k + 1) (0,0)).1
theorem v_ap_lt {o:List (Int×Int)} (h:v_ap o) {k:Nat}:∀ j,k < j→j < o.length→(o.getD k (0,0)).2 < (o.getD j (0,0)).1
 | 0,hk,_ => by omega
 | j + 1,hk,hj => by
  have g := h.gap j hj
  rcases Nat.lt_or_ge k j with e | e
  ·have := v_ap_lt h j e (by omega)
   have := h.lo j (by omega)
   omega
  ·obtain rfl:k = j := by omega
   omega
theorem gd_snoc {o:List (Int×Int)} {x:Int×Int} {k:Nat}:(o ++ [x]).getD k (0,0)=if k < o.length then o.getD k (0,0) else if k = o.length then x else (0,0) := by
 rw [List.getD_eq_getElem?_getD,List.getD_eq_getElem?_getD]
 rcases Nat.lt_trichotomy k o.length with g | g | g
 ·rw [if_pos g,List.getElem?_append_left g]
 ·subst g; rw [if_neg (by omega),if_pos rfl,List.getElem?_append_right (Nat.le_refl _),Nat.sub_self]; rfl
 ·rw [if_neg (by omega),if_neg (by omega),List.getElem?_append_right (by omega),List.getElem?_eq_none (by simp; omega)]; rfl
theorem v_mg_ap {o:List (Int×Int)} {x:Int×Int} (h:v_ap o) (hx:x.1≤x.2):v_ap (v_mg o x) := by
 unfold v_mg
 cases c:cond (decide ((o.length:Int) > 0)) (decide (x.1≤(o.getD (o.length - 1) (0,0)).2 + 1)) false
 ·have hc:0 < o.length→(o.getD (o.length - 1) (0,0)).2 + 1 < x.1 := fun h0 => by
   rw [decide_eq_true (show (o.length:Int) > 0 by omega)] at c
   have := of_decide_eq_false c; omega
  refine ⟨fun k hk => ?_,fun k hk => ?_⟩
  ·rw [cond_false] at hk ⊢
   rw [List.length_append,List.length_singleton] at hk
   rw [gd_snoc]
   split
   ·exact h.lo k (by assumption)
   ·rw [if_pos (by omega)]; exact hx
  ·rw [cond_false] at hk ⊢
   rw [List.length_append,List.length_singleton] at hk
   rw [gd_snoc,gd_snoc,if_pos (by omega)]
   split
   ·exact h.gap k (by assumption)
   ·rw [if_pos (by omega)]
    have := hc (by omega)
    rw [show o.length - 1 = k by omega] at this; exact this
 ·have h0:0 < o.length := by
   cases d:decide ((o.length:Int) > 0) <;> rw [d] at c
   ·cases c
   ·have := of_decide_eq_true d; omega
  have hlast := h.lo (o.length - 1) (by omega)
  refine ⟨fun k hk => ?_,fun k hk => ?_⟩
  ·rw [cond_true] at hk ⊢
   rw [List.length_set] at hk
   rw [gd_set (by omega)]
   split
   ·simp only; omega
   ·exact h.lo k hk
  ·rw [cond_true] at hk ⊢
   rw [List.length_set] at hk
   have g := h.gap k hk
   rw [gd_set (by omega),gd_set (by omega),if_neg (by omega)]
   split
   ·rename_i e; rw [← e]; exact g
   ·exact g
theorem v_fold_ap:∀ (l o:gC),(∀ x∈l,x.1≤x.2)→v_ap o→v_ap (l.foldl v_mg o)
 | [],_,_,h => h
 | x :: l,o,h,ho => v_fold_ap l (v_mg o x) (fun y hy => h y (List.mem_cons_of_mem _ hy)) (v_mg_ap ho (h x List.mem_cons_self))
theorem v_bok_lt {b:Int×List (Int×Int)} (h:v_bok b) {i:Nat}:∀ k,i < k→k < b.2.length→(b.2.getD i (0,0)).1 < (b.2.getD k (0,0)).1
 | 0,hk,_ => by omega
 | k + 1,hk,hj => by
  have g := h.asc (k + 1) (by omega) hj
  rw [Nat.add_sub_cancel] at g
  rcases Nat.lt_or_ge i k with e | e
  ·have := v_bok_lt h k e (by omega); omega
  ·obtain rfl:i = k := by omega
   exact g
theorem v_row_lt {b:Int×List (Int×Int)} (h:v_bok b) (r:gG) {i:Nat}:∀ m,i + 1 + m≤b.2.length→∀ x∈v_row b r i m,x.1 < x.2
 | 0,_,_,hx => by cases hx
 | m + 1,hm,x,hx => by
  unfold v_row at hx
  rcases List.mem_append.1 hx with g | g
  ·exact v_row_lt h r m (by omega) x g
  ·cases c:v_pr b r i (i + 1 + m) <;> rw [c] at g
   ·cases g
   ·obtain rfl := List.mem_singleton.1 g
    exact v_bok_lt h (i + 1 + m) (by omega) (by omega)
theorem v_all_lt {b:Int×List (Int×Int)} (h:v_bok b) (r:gG):∀ i,i≤b.2.length→∀ x∈v_all b r i,x.1 < x.2
 | 0,_,_,hx => by cases hx
 | i + 1,hi,x,hx => by
  unfold v_all at hx
  rcases List.mem_append.1 hx with g | g
  ·exact v_all_lt h r i (by omega) x g
  ·exact v_row_lt h r _ (by omega) x g
theorem v_strm_ap {b:Int×List (Int×Int)} (h:v_bok b) (r:gG):v_ap (v_strm b r) := v_fold_ap _ _ (fun x hx => by have := v_all_lt h r _ (Nat.le_refl _) x hx; omega) ⟨fun k hk => (by cases hk),fun k hk => (by cases hk)⟩
theorem l_Z9_0 (p0:Int×List (Int×Int)) (p1:gG) (p2:List (Int×Int×Int×Int×Int)) (h:v_bok p0) (i:Nat) (hi:i < p2.length) (hl:p2.length≤20) (O:gF) (hO:O.length≤20):OkL (st_Z9_0 p0 p1 p2 ((i:Int),O)) (sp_Z9_0 p0 p1 p2 ((i:Int),O)) (0,O)∧lpv (.inr []) (st_Z9_0 p0 p1 p2 ((i:Int),O)) (0,O) = .inl (((i + 1:Nat):Int),O ++ cond (v_hit (v_strm p0 p1) (p2.getD i (0,0,0,0,0)).1) [(i:Int)] []) := by
 have hsl := v_strm_len h p1
 have ha := v_strm_ap h p1
 have hw0:IntKind.i64.wrap ((i:Int) + 1)=((i + 1:Nat):Int) := wrap_id (by omega) (by omega)
 have main := @for_is (List Int) (Int×List Int) ((Int×List Int) ⊕ List Int) (.inr []) (st_Z9_0 p0 p1 p2 ((i:Int),O)) (sp_Z9_0 p0 p1 p2 ((i:Int),O)) (fun i t => (i,t)) 0 (v_strm p0 p1).length (fun j t => t = O ++ cond (((v_strm p0 p1).take j).any (v_in (p2.getD i (0,0,0,0,0)).1)) [(i:Int)] []) (fun _ _ => .inl (((i + 1:Nat):Int),O ++ cond (v_hit (v_strm p0 p1) (p2.getD i (0,0,0,0,0)).1) [(i:Int)] [])) (Nat.zero_le _) (by omega) ?_ ?_ O (by rw [List.take_zero]; simp)
 ·exact main
 ·rintro t h1
  rw [List.take_length] at h1
  simp only [sp_Z9_0,st_Z9_0,fM,hw0,decide_eq_false (Int.lt_irrefl ((v_strm p0 p1).length:Int)),cond_false,h1]
  refine ⟨?_,by first | rfl | trivial⟩
  and_intros
  all_goals first
   | (intro h; cases h; done)
   | (intro p hp; cases hp)
 ·rintro j t h0 hj h1
  have hw1:IntKind.i64.wrap ((j:Int) + 1)=((j + 1:Nat):Int) := wrap_id (by omega) (by omega)
  have hd:decide ((j:Int) < ((v_strm p0 p1).length:Int))=true := decide_eq_true (by omega)
  have hv:s_Z2 (p2.getD i (0,0,0,0,0)).1 ((v_strm p0 p1).getD j (0,0)).1 ((v_strm p0 p1).getD j (0,0)).2 = v_in (p2.getD i (0,0,0,0,0)).1 ((v_strm p0 p1).getD j (0,0)) := rfl
  have hs:((v_strm p0 p1).take (j + 1)).any (v_in (p2.getD i (0,0,0,0,0)).1)=(((v_strm p0 p1).take j).any (v_in (p2.getD i (0,0,0,0,0)).1) || v_in (p2.getD i (0,0,0,0,0)).1 ((v_strm p0 p1).getD j (0,0))) := by
   rw [List.take_add_one,List.getElem?_eq_getElem hj,Option.toList_some,List.any_append,gd_get (0,0) hj]
   simp
  have hone:v_in (p2.getD i (0,0,0,0,0)).1 ((v_strm p0 p1).getD j (0,0))=true→((v_strm p0 p1).take j).any (v_in (p2.getD i (0,0,0,0,0)).1)=false := fun hi1 => by
   rw [List.any_eq_false]
   intro x hx hx2
   obtain ⟨k,hk,rfl⟩ := List.getElem_of_mem hx
   rw [List.length_take] at hk
   have g := v_ap_lt ha j (show k < j by omega) hj
   have e:((v_strm p0 p1).take j)[k]=(v_strm p0 p1).getD k (0,0) := by
    rw [List.getElem_take,gd_get (0,0) (by omega)]
   rw [e] at hx2
   have a1 := tx_within.1 hi1
   have a2 := tx_within.1 hx2
   omega
  have htl:t.length≤21 := by
   rw [h1,List.length_append]
   cases ((v_strm p0 p1).take j).any (v_in (p2.getD i (0,0,0,0,0)).1)
   ·show O.length + 0≤21; omega
   ·show O.length + 1≤21; omega
  simp only [sp_Z9_0,st_Z9_0,fM,Int.toNat_natCast,hw1,hd,cond_true,hv]
  refine ⟨?_,?_⟩
  ·and_intros
   all_goals first
    | (intro p hp; cases hp; done)
    | (intros; simp only [List.length_cons,List.length_nil]; omega)
    | (intros; omega)
  ·cases hc:v_in (p2.getD i (0,0,0,0,0)).1 ((v_strm p0 p1).getD j (0,0))
   ·rw [hc,Bool.or_false] at hs
    exact .inl ⟨t,rfl,by rw [hs,h1],by first | rfl | trivial⟩
   ·rw [hc,Bool.or_true] at hs
    rw [hone hc] at h1
    exact .inl ⟨_,rfl,by rw [hs,h1]; simp,by first | rfl | trivial⟩
theorem l_Z9_1 (p0:Int×List (Int×Int)) (p1:gG) (p2:List (Int×Int×Int×Int×Int)) (h:v_bok p0) (hl:p2.length≤20):OkL (st_Z9_1 p0 p1 p2) (sp_Z9_1 p0 p1 p2) (0,[])∧lpv [] (st_Z9_1 p0 p1 p2) (0,[])=v_spl (v_strm p0 p1) p2 := by
 have main := @for_is (List Int) (Int×List Int) (List Int) [] (st_Z9_1 p0 p1 p2) (sp_Z9_1 p0 p1 p2) (fun i t => (i,t)) 0 p2.length (fun j t => t = v_sel (fun k => v_hit (v_strm p0 p1) (p2.getD k (0,0,0,0,0)).1) (List.range j)) (fun _ _ => v_spl (v_strm p0 p1) p2) (Nat.zero_le _) (by omega) ?_ ?_ [] rfl
 ·exact main
 ·rintro t h1
  simp only [sp_Z9_1,st_Z9_1,fM,decide_eq_false (Int.lt_irrefl (p2.length:Int)),cond_false,h1]
  refine ⟨?_,by first | rfl | trivial⟩
  and_intros
  all_goals first
   | (intro h; cases h; done)
   | (intro p hp; cases hp)
 ·rintro j t h0 hj h1
  have hd:decide ((j:Int) < (p2.length:Int))=true := decide_eq_true (by omega)
  have hs:v_sel (fun k => v_hit (v_strm p0 p1) (p2.getD k (0,0,0,0,0)).1) (List.range (j + 1))=t ++ cond (v_hit (v_strm p0 p1) (p2.getD j (0,0,0,0,0)).1) [(j:Int)] [] := by
   rw [List.range_succ,v_sel_snoc,h1]
  have hlen := v_sel_len (fun k => v_hit (v_strm p0 p1) (p2.getD k (0,0,0,0,0)).1) (List.range j)
  rw [← h1,List.length_range] at hlen
  obtain ⟨q1,q2⟩ := l_Z9_0 p0 p1 p2 h j hj hl t (by omega)
  simp only [sp_Z9_1,st_Z9_1,fM,hd,cond_true]
  exact ⟨⟨fun _ => q1,fun p hp => by cases hp⟩,.inl ⟨_,q2,hs.symm,by first | rfl | trivial⟩⟩
abbrev t_Z9 (p0:Int×List (Int×Int)) (p1:gG) (p2:List (Int×Int×Int×Int×Int)):List Int := v_spl (v_strm p0 p1) p2
abbrev qre_Z9 (p0:Int×List (Int×Int)) (p1:gG) (p2:List (Int×Int×Int×Int×Int)):List Prop := [v_bok p0,v_rlok p1,p2.length≤20]
theorem pp_Z9 (p0:Int×List (Int×Int)) (p1:gG) (p2:List (Int×Int×Int×Int×Int)) (hq:∀ p∈qre_Z9 p0 p1 p2,p):∀ p∈pre_Z9 p0 p1 p2,p := by
 obtain ⟨h1,h2,h3,_⟩ := conj_of hq
 simp only [pre_Z9,fM]
 exact ⟨h1,h2,(l_Z9_1 p0 p1 p2 h1 h3).1,by simp⟩
theorem tt_Z9 (p0:Int×List (Int×Int)) (p1:gG) (p2:List (Int×Int×Int×Int×Int)) (hq:∀ p∈qre_Z9 p0 p1 p2,p):s_Z9 p0 p1 p2 = t_Z9 p0 p1 p2 := by
 obtain ⟨h1,h2,h3,_⟩ := conj_of hq
 exact (l_Z9_1 p0 p1 p2 h1 h3).2

abbrev con_Z9:Con := ⟨P_Z9,R_Z9,fun x => qre_Z9 x.1 x.2.1 x.2.2,fun x => t_Z9 x.1 x.2.1 x.2.2⟩
theorem ok_Z9:ConOk Try.prog 40 con_Z9 := okG k_Z9 e_Z9 hC_Z9 fun x hx => tf_of (w_Z9_eq x.1 x.2.1 x.2.2 _) (d_Z9 x.1 x.2.1 x.2.2 _ (pp_Z9 x.1 x.2.1 x.2.2 hx) (tt_Z9 x.1 x.2.1 x.2.2 hx))
def C_Ze:Cons := []
theorem hC_Ze:ConsOk Try.prog C_Ze := ConsOk.nil
def w_Ze (p0:gF) (p1:gF) (K:Bool→Prop):Prop := (((((p0.length:Int) != (p1.length:Int))=true) →(K false)) ∧((((p0.length:Int) != (p1.length:Int))=false) →(∃ n0,(loopP (fun (y1:Int) k2 => ((((decide (y1 < (p0.length:Int)))=true) →((zz0≤y1) ∧((y1 < (p0.length:Int)) ∧((zz0≤y1) ∧((y1 < (p1.length:Int)) ∧(((((p0.getD y1.toNat zz0) != (p1.getD y1.toNat zz0))=true) →(K false)) ∧((((p0.getD y1.toNat zz0) != (p1.getD y1.toNat zz0))=false) →(k2 (IntKind.i64.wrap (y1 + 1)))))))))) ∧(((decide (y1 < (p0.length:Int)))=false) →(K true)))) n0 zz0))))
theorem w_Ze_eq (p0:gF) (p1:gF) (K:Bool→Prop):tfn F_Ze A_Ze C_Ze P_Ze R_Ze (p0,p1) K = w_Ze p0 p1 K := by kernel_rfl
def st_Ze_0 (p0:gF) (p1:gF) (y1:Int):Int ⊕ Bool := (cond (decide (y1 < (p0.length:Int))) (cond ((p0.getD y1.toNat (0:Int)) != (p1.getD y1.toNat (0:Int))) (Sum.inr false) (Sum.inl (IntKind.i64.wrap (y1 + 1)))) (Sum.inr true))
abbrev sp_Ze_0 (p0:gF) (p1:gF) (y1:Int):List Prop := [(((decide (y1 < (p0.length:Int)))=true)→((0:Int)≤y1)),(((decide (y1 < (p0.length:Int)))=true)→(y1 < (p0.length:Int))),(((decide (y1 < (p0.length:Int)))=true)→(y1 < (p1.length:Int)))]
def s_Ze (p0:gF) (p1:gF):Bool := (cond ((p0.length:Int) != (p1.length:Int)) false (lpv false (st_Ze_0 p0 p1) (0:Int)))
abbrev pre_Ze (p0:gF) (p1:gF):List Prop := [((((p0.length:Int) != (p1.length:Int))=false)→(OkL (st_Ze_0 p0 p1) (sp_Ze_0 p0 p1) (0:Int)))]
theorem d_Ze (p0:gF) (p1:gF) (K:Bool→Prop) (hp:∀ p∈pre_Ze p0 p1,p) (h:K (s_Ze p0 p1)):w_Ze p0 p1 K := by
 unfold w_Ze
 unfold s_Ze at h
 obtain ⟨hp0,_⟩ := conj_of hp
 exact (br' h (fun e0 h => h)
  (fun e0 h => (loop_gen (hp0 e0) h (fun y1 k1 hp h => by
 unfold st_Ze_0 at h; obtain ⟨hp0,hp1,hp2,_⟩ := conj_of hp
 exact (br' h (fun e2 h => ⟨(hp0 e2),(hp1 e2),(hp0 e2),(hp2 e2),(br' h (fun e3 h => h)
  (fun e3 h => h))⟩)
  (fun e2 h => h))))))
theorem l_Ze_0 (p0 p1:gF) (hl:lenOk p0) (he:p0.length = p1.length):OkL (st_Ze_0 p0 p1) (sp_Ze_0 p0 p1) 0∧lpv false (st_Ze_0 p0 p1) 0 = v_scan (fun i x => cond (!((x == (p1.getD i.toNat 0)))) (some false) none) true 0 p0 := by
 refine scan_is p0 0 (fun i x => cond (!((x == (p1.getD i.toNat 0)))) (some false) none) true hl ?_ ?_
 ·refine ⟨by simp only [sp_Ze_0,fM,decide_eq_true_eq]; simp,by simp [st_Ze_0]⟩
 ·intro j hj
  have hj' : (j:Int) < p0.length := by omega
  refine ⟨by simp only [sp_Ze_0,fM,decide_eq_true_eq,Int.toNat_natCast]; simp <;> omega,?_⟩
  simp only [st_Ze_0,hj',decide_true,Int.toNat_natCast,cond_true,wrap_nat (show (j:Int)≤9223372036854775806 by unfold lenOk at hl; omega)]
  generalize p0.getD j 0 = x
  generalize p1.getD j 0 = z
  simp only [bne]
  cases (x == z) <;> rfl
abbrev t_Ze (p0 p1:gF):Bool := decide (p0 = p1)
abbrev qre_Ze (p0 _p1:gF):List Prop := [lenOk p0]
theorem pp_Ze (p0 p1:gF) (hq:∀ p∈qre_Ze p0 p1,p):∀ p∈pre_Ze p0 p1,p := by
 simp only [pre_Ze,fM]
 refine ⟨fun h => (l_Ze_0 p0 p1 (conj_of hq).1 ?_).1,by simp⟩
 have h' : (p0.length:Int)=p1.length := by simpa using h
 omega
theorem tt_Ze (p0 p1:gF) (hq:∀ p∈qre_Ze p0 p1,p):s_Ze p0 p1 = t_Ze p0 p1 := by
 unfold s_Ze t_Ze
 by_cases h:p0.length = p1.length
 ·rw [show ((p0.length:Int) != (p1.length:Int))=false by simp [h]]
  refine (l_Ze_0 p0 p1 (conj_of hq).1 h).2.trans ?_
  exact v_scan_eq 0 (fun x y => (x == y)) (fun x y => by by_cases h:x = y <;> simp [h]) p0 p1 h
 ·rw [show ((p0.length:Int) != (p1.length:Int))=true by simp; omega]
  have:p0 ≠ p1 := fun e => h (congrArg List.length e)
  simp [this]

abbrev con_Ze:Con := ⟨P_Ze,R_Ze,fun x => qre_Ze x.1 x.2,fun x => t_Ze x.1 x.2⟩
theorem ok_Ze:ConOk Try.prog 39 con_Ze := okG k_Ze e_Ze hC_Ze fun x hx => tf_of (w_Ze_eq x.1 x.2 _) (d_Ze x.1 x.2 _ (pp_Ze x.1 x.2 hx) (tt_Ze x.1 x.2 hx))
def C_Z0:Cons := [(13,[],con_Z11),(14,[],con_Zv),(20,[],con_Zy),(19,[],con_Zx),(35,[],con_Zh),(22,[],con_Zz),(36,[],con_Zd),(15,[],con_Zw),(37,[],con_Zi),(38,[],con_Z3),(29,[],con_Zc),(24,[],con_Z10),(40,[],con_Z9),(39,[],con_Ze)]
theorem hC_Z0:ConsOk Try.prog C_Z0 := cC ok_Z11 <| cC ok_Zv <| cC ok_Zy <| cC ok_Zx <| cC ok_Zh <| cC ok_Zz <| cC ok_Zd <| cC ok_Zw <| cC ok_Zi <| cC ok_Z3 <| cC ok_Zc <| cC ok_Z10 <| cC ok_Z9 <| cC ok_Ze <| ConsOk.nil
abbrev q0_Z0 (p0:(Int×(List (Int×Int)))) (p1:gG) (p2:(List (Int×(Int×(Int×(Int×Int)))))) := (v_spo (p0.1,(([]:List (Int×Int)) ++ p0.2)) p1 (([]:List (Int×(Int×(Int×(Int×Int))))) ++ p2))
abbrev q7_Z0 (p0:(Int×(List (Int×Int)))) (p1:gG) := (v_sto (p0.1,(([]:List (Int×Int)) ++ p0.2)) p1)
abbrev q1_Z0 (p0:(Int×(List (Int×Int)))) (p1:gG) (p2:(List (Int×(Int×(Int×(Int×Int)))))) := (cond ((q7_Z0 p0 p1).2 == (v_rlerr p1)) ((q0_Z0 p0 p1 p2).2 == (v_rlerr p1)) false)
abbrev q2_Z0 (p0:(Int×(List (Int×Int)))) (p1:gG) (p2:(List (Int×(Int×(Int×(Int×Int)))))) := (cond ((q7_Z0 p0 p1).2 == (v_cb p0).2) ((q0_Z0 p0 p1 p2).2 == (v_cb p0).2) false)
abbrev q3_Z0 (p0:(Int×(List (Int×Int)))) (p1:gG) := ((q7_Z0 p0 p1).2 != zz0)
abbrev q4_Z0 (p0:(Int×(List (Int×Int)))) (p1:gG) (p2:(List (Int×(Int×(Int×(Int×Int)))))) := (((q0_Z0 p0 p1 p2).2 == zz0)=((q0_Z0 p0 p1 p2).2 == zz0))
abbrev q5_Z0 (p0:(Int×(List (Int×Int)))) (p1:gG) (p2:(List (Int×(Int×(Int×(Int×Int)))))) := (((q0_Z0 p0 p1 p2).2 == (v_cs p2).2)=((q0_Z0 p0 p1 p2).2 == (v_cs p2).2))
abbrev q6_Z0 (p0:(Int×(List (Int×Int)))) (p1:gG) (p2:(List (Int×(Int×(Int×(Int×Int)))))) := (((q0_Z0 p0 p1 p2).2 == zz0)=true)
abbrev q8_Z0 (p0:(Int×(List (Int×Int)))) (p1:gG) := ((q3_Z0 p0 p1)=(q3_Z0 p0 p1))
def w_Z0 (p0:(Int×(List (Int×Int)))) (p1:gG) (p2:(List (Int×(Int×(Int×(Int×Int)))))) (K:Bool→Prop):Prop := ((((!(s_Z11))=true) →(K false)) ∧(((!(s_Z11))=false) →((((!(decide ((p0.2.length:Int)≤22)))=false) →((!(decide ((p0.2.length:Int)≤22)))=(!(decide ((p0.2.length:Int)≤22))))) ∧((((!(decide ((p0.2.length:Int)≤22)))=false) →((!(decide ((p0.2.length:Int)≤22)))=(!(decide ((p0.2.length:Int)≤22))))) ∧(((!(decide ((p0.2.length:Int)≤22)))=(!(decide ((p0.2.length:Int)≤22)))) ∧((((cond (!(decide ((p0.2.length:Int)≤22))) true (!(decide ((p2.length:Int)≤22))))=true) →(K true)) ∧(((cond (!(decide ((p0.2.length:Int)≤22))) true (!(decide ((p2.length:Int)≤22))))=false) →(((((List.length ([]:List (Int×Int))) + p0.2.length) * 16)≤140737488355328) ∧(((((List.length ([]:List (Int×Int))) + p0.2.length) * 16)≤140737488355328) ∧(((((List.length ([]:List (Int×(Int×(Int×(Int×Int)))))) + p2.length) * 40)≤140737488355328) ∧(((((v_cb p0).2 == zz0)=true) →(((((v_rlerr p1) != zz0)=true) →(((((q7_Z0 p0 p1).2 == (v_rlerr p1))=true) →(((q7_Z0 p0 p1).2 == (v_rlerr p1))=((q7_Z0 p0 p1).2 == (v_rlerr p1)))) ∧(((((q7_Z0 p0 p1).2 == (v_rlerr p1))=true) →(((q7_Z0 p0 p1).2 == (v_rlerr p1))=((q7_Z0 p0 p1).2 == (v_rlerr p1)))) ∧((((q7_Z0 p0 p1).2 == (v_rlerr p1))=((q7_Z0 p0 p1).2 == (v_rlerr p1))) ∧((((q1_Z0 p0 p1 p2)=true) →((q1_Z0 p0 p1 p2)=(q1_Z0 p0 p1 p2))) ∧((((q1_Z0 p0 p1 p2)=true) →((q1_Z0 p0 p1 p2)=(q1_Z0 p0 p1 p2))) ∧((((q1_Z0 p0 p1 p2)=true) →((q1_Z0 p0 p1 p2)=(q1_Z0 p0 p1 p2))) ∧((((q1_Z0 p0 p1 p2)=true) →((q1_Z0 p0 p1 p2)=(q1_Z0 p0 p1 p2))) ∧((((q1_Z0 p0 p1 p2)=true) →((q1_Z0 p0 p1 p2)=(q1_Z0 p0 p1 p2))) ∧(((q1_Z0 p0 p1 p2)=(q1_Z0 p0 p1 p2)) ∧(K (cond (q1_Z0 p0 p1 p2) ((wi ((((q7_Z0 p0 p1).1.length:Nat):Int) + (((q0_Z0 p0 p1 p2).1.length:Nat):Int))) == zz0) false)))))))))))) ∧((((v_rlerr p1) != zz0)=false) →((((q3_Z0 p0 p1)=false) →(q8_Z0 p0 p1)) ∧((((q3_Z0 p0 p1)=false) →(q8_Z0 p0 p1)) ∧((((q3_Z0 p0 p1)=false) →(v_bok p0)) ∧((((q3_Z0 p0 p1)=false) →(v_rlok p1)) ∧((((q3_Z0 p0 p1)=false) →(q8_Z0 p0 p1)) ∧((((q3_Z0 p0 p1)=false) →(q8_Z0 p0 p1)) ∧((((q3_Z0 p0 p1)=false) →(lenOk (q7_Z0 p0 p1).1)) ∧((((q3_Z0 p0 p1)=false) →(q8_Z0 p0 p1)) ∧((q8_Z0 p0 p1) ∧((((cond (q3_Z0 p0 p1) true (!(decide ((q7_Z0 p0 p1).1 = (v_strm p0 p1)))))=true) →(K false)) ∧(((cond (q3_Z0 p0 p1) true (!(decide ((q7_Z0 p0 p1).1 = (v_strm p0 p1)))))=false) →(((((v_cs p2).2 != zz0)=true) →(((((q0_Z0 p0 p1 p2).2 == (v_cs p2).2)=true) →(q5_Z0 p0 p1 p2)) ∧(((((q0_Z0 p0 p1 p2).2 == (v_cs p2).2)=true) →(q5_Z0 p0 p1 p2)) ∧((q5_Z0 p0 p1 p2) ∧(K (cond ((q0_Z0 p0 p1 p2).2 == (v_cs p2).2) ((((q0_Z0 p0 p1 p2).1.length:Nat):Int) == zz0) false)))))) ∧((((v_cs p2).2 != zz0)=false) →(((q6_Z0 p0 p1 p2) →(q4_Z0 p0 p1 p2)) ∧(((q6_Z0 p0 p1 p2) →(q4_Z0 p0 p1 p2)) ∧(((q6_Z0 p0 p1 p2) →(q4_Z0 p0 p1 p2)) ∧(((q6_Z0 p0 p1 p2) →(v_bok p0)) ∧(((q6_Z0 p0 p1 p2) →(v_rlok p1)) ∧(((q6_Z0 p0 p1 p2) →(p2.length≤20)) ∧(((q6_Z0 p0 p1 p2) →(q4_Z0 p0 p1 p2)) ∧(((q6_Z0 p0 p1 p2) →(q4_Z0 p0 p1 p2)) ∧(((q6_Z0 p0 p1 p2) →(lenOk (q0_Z0 p0 p1 p2).1)) ∧((q4_Z0 p0 p1 p2) ∧(K (cond ((q0_Z0 p0 p1 p2).2 == zz0) (decide ((q0_Z0 p0 p1 p2).1 = (v_spl (v_strm p0 p1) p2))) false)))))))))))))))))))))))))))) ∧((((v_cb p0).2 == zz0)=false) →(((((v_cb p0).2 != zz0)=true) →(((((q7_Z0 p0 p1).2 == (v_cb p0).2)=true) →(((q7_Z0 p0 p1).2 == (v_cb p0).2)=((q7_Z0 p0 p1).2 == (v_cb p0).2))) ∧(((((q7_Z0 p0 p1).2 == (v_cb p0).2)=true) →(((q7_Z0 p0 p1).2 == (v_cb p0).2)=((q7_Z0 p0 p1).2 == (v_cb p0).2))) ∧((((q7_Z0 p0 p1).2 == (v_cb p0).2)=((q7_Z0 p0 p1).2 == (v_cb p0).2)) ∧((((q2_Z0 p0 p1 p2)=true) →((q2_Z0 p0 p1 p2)=(q2_Z0 p0 p1 p2))) ∧((((q2_Z0 p0 p1 p2)=true) →((q2_Z0 p0 p1 p2)=(q2_Z0 p0 p1 p2))) ∧((((q2_Z0 p0 p1 p2)=true) →((q2_Z0 p0 p1 p2)=(q2_Z0 p0 p1 p2))) ∧((((q2_Z0 p0 p1 p2)=true) →((q2_Z0 p0 p1 p2)=(q2_Z0 p0 p1 p2))) ∧((((q2_Z0 p0 p1 p2)=true) →((q2_Z0 p0 p1 p2)=(q2_Z0 p0 p1 p2))) ∧(((q2_Z0 p0 p1 p2)=(q2_Z0 p0 p1 p2)) ∧(K (cond (q2_Z0 p0 p1 p2) ((wi ((((q7_Z0 p0 p1).1.length:Nat):Int) + (((q0_Z0 p0 p1 p2).1.length:Nat):Int))) == zz0) false)))))))))))) ∧((((v_cb p0).2 != zz0)=false) →((((q3_Z0 p0 p1)=false) →(q8_Z0 p0 p1)) ∧((((q3_Z0 p0 p1)=false) →(q8_Z0 p0 p1)) ∧((((q3_Z0 p0 p1)=false) →(v_bok p0)) ∧((((q3_Z0 p0 p1)=false) →(v_rlok p1)) ∧((((q3_Z0 p0 p1)=false) →(q8_Z0 p0 p1)) ∧((((q3_Z0 p0 p1)=false) →(q8_Z0 p0 p1)) ∧((((q3_Z0 p0 p1)=false) →(lenOk (q7_Z0 p0 p1).1)) ∧((((q3_Z0 p0 p1)=false) →(q8_Z0 p0 p1)) ∧((q8_Z0 p0 p1) ∧((((cond (q3_Z0 p0 p1) true (!(decide ((q7_Z0 p0 p1).1 = (v_strm p0 p1)))))=true) →(K false)) ∧(((cond (q3_Z0 p0 p1) true (!(decide ((q7_Z0 p0 p1).1 = (v_strm p0 p1)))))=false) →(((((v_cs p2).2 != zz0)=true) →(((((q0_Z0 p0 p1 p2).2 == (v_cs p2).2)=true) →(q5_Z0 p0 p1 p2)) ∧(((((q0_Z0 p0 p1 p2).2 == (v_cs p2).2)=true) →(q5_Z0 p0 p1 p2)) ∧((q5_Z0 p0 p1 p2) ∧(K (cond ((q0_Z0 p0 p1 p2).2 == (v_cs p2).2) ((((q0_Z0 p0 p1 p2).1.length:Nat):Int) == zz0) false)))))) ∧((((v_cs p2).2 != zz0)=false) →(((q6_Z0 p0 p1 p2) →(q4_Z0 p0 p1 p2)) ∧(((q6_Z0 p0 p1 p2) →(q4_Z0 p0 p1 p2)) ∧(((q6_Z0 p0 p1 p2) →(q4_Z0 p0 p1 p2)) ∧(((q6_Z0 p0 p1 p2) →(v_bok p0)) ∧(((q6_Z0 p0 p1 p2) →(v_rlok p1)) ∧(((q6_Z0 p0 p1 p2) →(p2.length≤20)) ∧(((q6_Z0 p0 p1 p2) →(q4_Z0 p0 p1 p2)) ∧(((q6_Z0 p0 p1 p2) →(q4_Z0 p0 p1 p2)) ∧(((q6_Z0 p0 p1 p2) →(lenOk (q0_Z0 p0 p1 p2).1)) ∧((q4_Z0 p0 p1 p2) ∧(K (cond ((q0_Z0 p0 p1 p2).2 == zz0) (decide ((q0_Z0 p0 p1 p2).1 = (v_spl (v_strm p0 p1) p2))) false)))))))))))))))))))))))))))))))))))))))
theorem w_Z0_eq (p0:(Int×(List (Int×Int)))) (p1:gG) (p2:(List (Int×(Int×(Int×(Int×Int)))))) (K:Bool→Prop):tfn F_Z0 A_Z0 C_Z0 P_Z0 R_Z0 (p0,p1,p2) K = w_Z0 p0 p1 p2 K := by kernel_rfl
def s_Z0 (p0:(Int×(List (Int×Int)))) (p1:gG) (p2:(List (Int×(Int×(Int×(Int×Int)))))):Bool := (cond (cond (!(decide ((p0.2.length:Int)≤22))) true (!(decide ((p2.length:Int)≤22)))) true (cond ((v_cb p0).2 == 0) (cond ((v_rlerr p1) != 0) (cond (cond ((v_sto (p0.1,(([]:List (Int×Int)) ++ p0.2)) p1).2 == (v_rlerr p1)) ((v_spo (p0.1,(([]:List (Int×Int)) ++ p0.2)) p1 (([]:List (Int×(Int×(Int×(Int×Int))))) ++ p2)).2 == (v_rlerr p1)) false) ((IntKind.i64.wrap ((((List.length (v_sto (p0.1,(([]:List (Int×Int)) ++ p0.2)) p1).1):Nat):Int) + (((List.length (v_spo (p0.1,(([]:List (Int×Int)) ++ p0.2)) p1 (([]:List (Int×(Int×(Int×(Int×Int))))) ++ p2)).1):Nat):Int))) == 0) false) (cond (cond ((v_sto (p0.1,(([]:List (Int×Int)) ++ p0.2)) p1).2 != 0) true (!(decide ((v_sto (p0.1,(([]:List (Int×Int)) ++ p0.2)) p1).1 = (v_strm p0 p1))))) false (cond ((v_cs p2).2 != 0) (cond ((v_spo (p0.1,(([]:List (Int×Int)) ++ p0.2)) p1 (([]:List (Int×(Int×(Int×(Int×Int))))) ++ p2)).2 == (v_cs p2).2) ((((List.length (v_spo (p0.1,(([]:List (Int×Int)) ++ p0.2)) p1 (([]:List (Int×(Int×(Int×(Int×Int))))) ++ p2)).1):Nat):Int) == 0) false) (cond ((v_spo (p0.1,(([]:List (Int×Int)) ++ p0.2)) p1 (([]:List (Int×(Int×(Int×(Int×Int))))) ++ p2)).2 == 0) (decide ((v_spo (p0.1,(([]:List (Int×Int)) ++ p0.2)) p1 (([]:List (Int×(Int×(Int×(Int×Int))))) ++ p2)).1 = (v_spl (v_strm p0 p1) p2))) false)))) (cond ((v_cb p0).2 != 0) (cond (cond ((v_sto (p0.1,(([]:List (Int×Int)) ++ p0.2)) p1).2 == (v_cb p0).2) ((v_spo (p0.1,(([]:List (Int×Int)) ++ p0.2)) p1 (([]:List (Int×(Int×(Int×(Int×Int))))) ++ p2)).2 == (v_cb p0).2) false) ((IntKind.i64.wrap ((((List.length (v_sto (p0.1,(([]:List (Int×Int)) ++ p0.2)) p1).1):Nat):Int) + (((List.length (v_spo (p0.1,(([]:List (Int×Int)) ++ p0.2)) p1 (([]:List (Int×(Int×(Int×(Int×Int))))) ++ p2)).1):Nat):Int))) == 0) false) (cond (cond ((v_sto (p0.1,(([]:List (Int×Int)) ++ p0.2)) p1).2 != 0) true (!(decide ((v_sto (p0.1,(([]:List (Int×Int)) ++ p0.2)) p1).1 = (v_strm p0 p1))))) false (cond ((v_cs p2).2 != 0) (cond ((v_spo (p0.1,(([]:List (Int×Int)) ++ p0.2)) p1 (([]:List (Int×(Int×(Int×(Int×Int))))) ++ p2)).2 == (v_cs p2).2) ((((List.length (v_spo (p0.1,(([]:List (Int×Int)) ++ p0.2)) p1 (([]:List (Int×(Int×(Int×(Int×Int))))) ++ p2)).1):Nat):Int) == 0) false) (cond ((v_spo (p0.1,(([]:List (Int×Int)) ++ p0.2)) p1 (([]:List (Int×(Int×(Int×(Int×Int))))) ++ p2)).2 == 0) (decide ((v_spo (p0.1,(([]:List (Int×Int)) ++ p0.2)) p1 (([]:List (Int×(Int×(Int×(Int×Int))))) ++ p2)).1 = (v_spl (v_strm p0 p1) p2))) false))))))
abbrev pre_Z0 (p0:(Int×(List (Int×Int)))) (p1:gG) (p2:(List (Int×(Int×(Int×(Int×Int)))))):List Prop := [(((cond (!(decide ((p0.2.length:Int)≤22))) true (!(decide ((p2.length:Int)≤22))))=false)→((((List.length ([]:List (Int×Int))) + p0.2.length) * 16)≤140737488355328)),(((cond (!(decide ((p0.2.length:Int)≤22))) true (!(decide ((p2.length:Int)≤22))))=false)→((((List.length ([]:List (Int×(Int×(Int×(Int×Int)))))) + p2.length) * 40)≤140737488355328)),(((cond (!(decide ((p0.2.length:Int)≤22))) true (!(decide ((p2.length:Int)≤22))))=false)→((((v_cb p0).2 == 0)=true)→((((v_rlerr p1) != 0)=false)→((((v_sto (p0.1,(([]:List (Int×Int)) ++ p0.2)) p1).2 != 0)=false)→(v_bok p0))))),(((cond (!(decide ((p0.2.length:Int)≤22))) true (!(decide ((p2.length:Int)≤22))))=false)→((((v_cb p0).2 == 0)=true)→((((v_rlerr p1) != 0)=false)→((((v_sto (p0.1,(([]:List (Int×Int)) ++ p0.2)) p1).2 != 0)=false)→(v_rlok p1))))),(((cond (!(decide ((p0.2.length:Int)≤22))) true (!(decide ((p2.length:Int)≤22))))=false)→((((v_cb p0).2 == 0)=true)→((((v_rlerr p1) != 0)=false)→((((v_sto (p0.1,(([]:List (Int×Int)) ++ p0.2)) p1).2 != 0)=false)→(lenOk (v_sto (p0.1,(([]:List (Int×Int)) ++ p0.2)) p1).1))))),(((cond (!(decide ((p0.2.length:Int)≤22))) true (!(decide ((p2.length:Int)≤22))))=false)→((((v_cb p0).2 == 0)=true)→((((v_rlerr p1) != 0)=false)→(((cond ((v_sto (p0.1,(([]:List (Int×Int)) ++ p0.2)) p1).2 != 0) true (!(decide ((v_sto (p0.1,(([]:List (Int×Int)) ++ p0.2)) p1).1 = (v_strm p0 p1)))))=false)→((((v_cs p2).2 != 0)=false)→((((v_spo (p0.1,(([]:List (Int×Int)) ++ p0.2)) p1 (([]:List (Int×(Int×(Int×(Int×Int))))) ++ p2)).2 == 0)=true)→(v_bok p0))))))),(((cond (!(decide ((p0.2.length:Int)≤22))) true (!(decide ((p2.length:Int)≤22))))=false)→((((v_cb p0).2 == 0)=true)→((((v_rlerr p1) != 0)=false)→(((cond ((v_sto (p0.1,(([]:List (Int×Int)) ++ p0.2)) p1).2 != 0) true (!(decide ((v_sto (p0.1,(([]:List (Int×Int)) ++ p0.2)) p1).1 = (v_strm p0 p1)))))=false)→((((v_cs p2).2 != 0)=false)→((((v_spo (p0.1,(([]:List (Int×Int)) ++ p0.2)) p1 (([]:List (Int×(Int×(Int×(Int×Int))))) ++ p2)).2 == 0)=true)→(v_rlok p1))))))),(((cond (!(decide ((p0.2.length:Int)≤22))) true (!(decide ((p2.length:Int)≤22))))=false)→((((v_cb p0).2 == 0)=true)→((((v_rlerr p1) != 0)=false)→(((cond ((v_sto (p0.1,(([]:List (Int×Int)) ++ p0.2)) p1).2 != 0) true (!(decide ((v_sto (p0.1,(([]:List (Int×Int)) ++ p0.2)) p1).1 = (v_strm p0 p1)))))=false)→((((v_cs p2).2 != 0)=false)→((((v_spo (p0.1,(([]:List (Int×Int)) ++ p0.2)) p1 (([]:List (Int×(Int×(Int×(Int×Int))))) ++ p2)).2 == 0)=true)→(p2.length≤20))))))),(((cond (!(decide ((p0.2.length:Int)≤22))) true (!(decide ((p2.length:Int)≤22))))=false)→((((v_cb p0).2 == 0)=true)→((((v_rlerr p1) != 0)=false)→(((cond ((v_sto (p0.1,(([]:List (Int×Int)) ++ p0.2)) p1).2 != 0) true (!(decide ((v_sto (p0.1,(([]:List (Int×Int)) ++ p0.2)) p1).1 = (v_strm p0 p1)))))=false)→((((v_cs p2).2 != 0)=false)→((((v_spo (p0.1,(([]:List (Int×Int)) ++ p0.2)) p1 (([]:List (Int×(Int×(Int×(Int×Int))))) ++ p2)).2 == 0)=true)→(lenOk (v_spo (p0.1,(([]:List (Int×Int)) ++ p0.2)) p1 (([]:List (Int×(Int×(Int×(Int×Int))))) ++ p2)).1))))))),(((cond (!(decide ((p0.2.length:Int)≤22))) true (!(decide ((p2.length:Int)≤22))))=false)→((((v_cb p0).2 == 0)=false)→((((v_cb p0).2 != 0)=false)→((((v_sto (p0.1,(([]:List (Int×Int)) ++ p0.2)) p1).2 != 0)=false)→(v_bok p0))))),(((cond (!(decide ((p0.2.length:Int)≤22))) true (!(decide ((p2.length:Int)≤22))))=false)→((((v_cb p0).2 == 0)=false)→((((v_cb p0).2 != 0)=false)→((((v_sto (p0.1,(([]:List (Int×Int)) ++ p0.2)) p1).2 != 0)=false)→(v_rlok p1))))),(((cond (!(decide ((p0.2.length:Int)≤22))) true (!(decide ((p2.length:Int)≤22))))=false)→((((v_cb p0).2 == 0)=false)→((((v_cb p0).2 != 0)=false)→((((v_sto (p0.1,(([]:List (Int×Int)) ++ p0.2)) p1).2 != 0)=false)→(lenOk (v_sto (p0.1,(([]:List (Int×Int)) ++ p0.2)) p1).1))))),(((cond (!(decide ((p0.2.length:Int)≤22))) true (!(decide ((p2.length:Int)≤22))))=false)→((((v_cb p0).2 == 0)=false)→((((v_cb p0).2 != 0)=false)→(((cond ((v_sto (p0.1,(([]:List (Int×Int)) ++ p0.2)) p1).2 != 0) true (!(decide ((v_sto (p0.1,(([]:List (Int×Int)) ++ p0.2)) p1).1 = (v_strm p0 p1)))))=false)→((((v_cs p2).2 != 0)=false)→((((v_spo (p0.1,(([]:List (Int×Int)) ++ p0.2)) p1 (([]:List (Int×(Int×(Int×(Int×Int))))) ++ p2)).2 == 0)=true)→(v_bok p0))))))),(((cond (!(decide ((p0.2.length:Int)≤22))) true (!(decide ((p2.length:Int)≤22))))=false)→((((v_cb p0).2 == 0)=false)→((((v_cb p0).2 != 0)=false)→(((cond ((v_sto (p0.1,(([]:List (Int×Int)) ++ p0.2)) p1).2 != 0) true (!(decide ((v_sto (p0.1,(([]:List (Int×Int)) ++ p0.2)) p1).1 = (v_strm p0 p1)))))=false)→((((v_cs p2).2 != 0)=false)→((((v_spo (p0.1,(([]:List (Int×Int)) ++ p0.2)) p1 (([]:List (Int×(Int×(Int×(Int×Int))))) ++ p2)).2 == 0)=true)→(v_rlok p1))))))),(((cond (!(decide ((p0.2.length:Int)≤22))) true (!(decide ((p2.length:Int)≤22))))=false)→((((v_cb p0).2 == 0)=false)→((((v_cb p0).2 != 0)=false)→(((cond ((v_sto (p0.1,(([]:List (Int×Int)) ++ p0.2)) p1).2 != 0) true (!(decide ((v_sto (p0.1,(([]:List (Int×Int)) ++ p0.2)) p1).1 = (v_strm p0 p1)))))=false)→((((v_cs p2).2 != 0)=false)→((((v_spo (p0.1,(([]:List (Int×Int)) ++ p0.2)) p1 (([]:List (Int×(Int×(Int×(Int×Int))))) ++ p2)).2 == 0)=true)→(p2.length≤20))))))),(((cond (!(decide ((p0.2.length:Int)≤22))) true (!(decide ((p2.length:Int)≤22))))=false)→((((v_cb p0).2 == 0)=false)→((((v_cb p0).2 != 0)=false)→(((cond ((v_sto (p0.1,(([]:List (Int×Int)) ++ p0.2)) p1).2 != 0) true (!(decide ((v_sto (p0.1,(([]:List (Int×Int)) ++ p0.2)) p1).1 = (v_strm p0 p1)))))=false)→((((v_cs p2).2 != 0)=false)→((((v_spo (p0.1,(([]:List (Int×Int)) ++ p0.2)) p1 (([]:List (Int×(Int×(Int×(Int×Int))))) ++ p2)).2 == 0)=true)→(lenOk (v_spo (p0.1,(([]:List (Int×Int)) ++ p0.2)) p1 (([]:List (Int×(Int×(Int×(Int×Int))))) ++ p2)).1)))))))]
theorem d_Z0 (p0:(Int×(List (Int×Int)))) (p1:gG) (p2:(List (Int×(Int×(Int×(Int×Int)))))) (K:Bool→Prop) (hp:∀ p∈pre_Z0 p0 p1 p2,p) (h:K (s_Z0 p0 p1 p2)):w_Z0 p0 p1 p2 K := by
 unfold w_Z0
 unfold s_Z0 at h
 obtain ⟨hp0,hp1,hp2,hp3,hp4,hp5,hp6,hp7,hp8,hp9,hp10,hp11,hp12,hp13,hp14,hp15,_⟩ := conj_of hp
 exact ⟨nof,fun _ => ⟨rf,rf,rfl,(br' h (fun e0 h => h)
  (fun e0 h => ⟨(hp0 e0),(hp0 e0),(hp1 e0),(br' h (fun e1 h => (br' h (fun e2 h => ⟨rf,rf,rfl,rf,rf,rf,rf,rf,rfl,h⟩)
  (fun e2 h => ⟨rf,rf,(hp2 e0 e1 e2),(hp3 e0 e1 e2),rf,rf,(hp4 e0 e1 e2),rf,rfl,(br' h (fun e3 h => h)
  (fun e3 h => (br' h (fun e4 h => ⟨rf,rf,rfl,h⟩)
  (fun e4 h => ⟨rf,rf,rf,(hp5 e0 e1 e2 e3 e4),(hp6 e0 e1 e2 e3 e4),(hp7 e0 e1 e2 e3 e4),rf,rf,(hp8 e0 e1 e2 e3 e4),rfl,h⟩))))⟩)))
  (fun e1 h => (br' h (fun e5 h => ⟨rf,rf,rfl,rf,rf,rf,rf,rf,rfl,h⟩)
  (fun e5 h => ⟨rf,rf,(hp9 e0 e1 e5),(hp10 e0 e1 e5),rf,rf,(hp11 e0 e1 e5),rf,rfl,(br' h (fun e6 h => h)
  (fun e6 h => (br' h (fun e7 h => ⟨rf,rf,rfl,h⟩)
  (fun e7 h => ⟨rf,rf,rf,(hp12 e0 e1 e5 e6 e7),(hp13 e0 e1 e5 e6 e7),(hp14 e0 e1 e5 e6 e7),rf,rf,(hp15 e0 e1 e5 e6 e7),rfl,h⟩))))⟩))))⟩))⟩⟩
abbrev con_Z0:Con := ⟨P_Z0,R_Z0,fun x => pre_Z0 x.1 x.2.1 x.2.2,fun x => s_Z0 x.1 x.2.1 x.2.2⟩
theorem ok_Z0:ConOk Try.prog 6 con_Z0 := okG k_Z0 e_Z0 hC_Z0 fun x hx => tf_of (w_Z0_eq x.1 x.2.1 x.2.2 _) (d_Z0 x.1 x.2.1 x.2.2 _ hx rfl)
end Go.Proofs.Ytdkhhafmidokmaa
