/- What the functions that MagnetBest reaches compute: contracts, each function once. No condition. -/
import Derived.Test.YtcdbaepeabefnaaWalkMagnetBestA
import Derived.KernelRfl
namespace Go.Proofs.Ytcdbaepeabefnaa
open Go Go.Mx
set_option maxRecDepth 100000
set_option maxHeartbeats 4000000
def C_Zz:Cons := [(33,[],jlN)]
theorem jAw:jag Try.prog C_Zz := cC jrs <| jag.nil
def w_Zz (p0:gG) (p1:Int) (K:(Int×Bool)→Prop):Prop := ((((decide (p0.1 ≥ p1))=true) →(K (zz0,false))) ∧(((decide (p0.1 ≥ p1))=false) →(((zz0≤p0.1) ∧(p0.1 < p1)) ∧(((zz0≤p0.2) ∧(p0.2 < 18446744073709551616)) ∧((p1 < 18446744073709551616) ∧(K ((((p0.1 * 18446744073709551616) + p0.2) / p1),(decide ((((p0.1 * 18446744073709551616) + p0.2) / p1)≤1000000000)))))))))
theorem jAx (p0:gG) (p1:Int) (K:(Int×Bool)→Prop):tfn F_Zz A_Zz C_Zz P_Zz R_Zz (p0,p1) K = w_Zz p0 p1 K := by kernel_rfl
def s_Zz (p0:gG) (p1:Int):(Int×Bool) := (cond (decide (p0.1 ≥ p1)) ((0:Int),false) ((((p0.1 * 18446744073709551616) + p0.2) / p1),(decide ((((p0.1 * 18446744073709551616) + p0.2) / p1)≤1000000000))))
abbrev jlS (p0:gG) (p1:Int):List Prop := [(((decide (p0.1 ≥ p1))=false)→(((0:Int)≤p0.1)∧(p0.1 < p1))),(((decide (p0.1 ≥ p1))=false)→(((0:Int)≤p0.2)∧(p0.2 < 18446744073709551616))),(((decide (p0.1 ≥ p1))=false)→(p1 < 18446744073709551616))]
theorem d_Zz (p0:gG) (p1:Int) (K:(Int×Bool)→Prop) (hp:∀ p∈jlS p0 p1,p) (h:K (s_Zz p0 p1)):w_Zz p0 p1 K := by
 unfold w_Zz
 unfold s_Zz at h
 obtain ⟨hp0,hp1,hp2,_⟩ := jah hp
 exact (br' h (fun e0 h => h)
  (fun e0 h => ⟨(hp0 e0),(hp1 e0),(hp2 e0),h⟩))
/-- The quotient of a wide number,and whether it is small. -/
def jaO (p:gG) (g:Int):Int×Bool := cond (decide (p.1 ≥ g)) (0,false) (v_wv p / g,decide (v_wv p / g≤1000000000))
theorem jlT {n g:Int} (h1:0≤n) (h2:n < 340282366920938463463374607431768211456) (hg:0 < g):(jaO (v_w n) g).2 = decide (n / g≤1000000000)∧(n / g≤1000000000→(jaO (v_w n) g).1 = n / g) := by
 have e:v_wv (v_w n)=n := by rw [je1]; omega
 unfold jaO
 rw [e]
 by_cases c:(v_w n).1 ≥ g
 ·have hb:¬ n / g≤1000000000 := by
   intro h
   have a:n < (1000000000 + 1) * g := Int.lt_mul_of_ediv_lt hg (by omega)
   unfold v_w at c
   simp only at c
   omega
  rw [decide_eq_true c,decide_eq_false hb]
  exact ⟨rfl,fun h => absurd h hb⟩
 ·rw [decide_eq_false c]
  exact ⟨rfl,fun _ => rfl⟩
abbrev t_Zz (p0:gG) (p1:Int):Int×Bool := jaO p0 p1
abbrev jlU (p0:gG) (p1:Int):List Prop := [v_wu p0,0 < p1∧p1 < 18446744073709551616]
theorem jAy (p0:gG) (p1:Int) (hq:∀ p∈jlU p0 p1,p):∀ p∈jlS p0 p1,p := by
 obtain ⟨h1,h2,_⟩ := jah hq
 have a := h1.h
 have b := h1.l
 simp only [jlS,fM]
 and_intros
 all_goals first
  | (intro p hp; cases hp; done)
  | (intro e; have := of_decide_eq_false e; omega)
  | (intros; omega)
theorem jAz (p0:gG) (p1:Int) (_hq:∀ p∈jlU p0 p1,p):s_Zz p0 p1 = t_Zz p0 p1 := by
 unfold s_Zz t_Zz jaO v_wv
 rfl

abbrev jru:Con := ⟨P_Zz,R_Zz,fun x => jlU x.1 x.2,fun x => t_Zz x.1 x.2⟩
theorem jAA:jau Try.prog 35 jru := okG k_Zz e_Zz jAw fun x hx => jaA (jAx x.1 x.2 _) (d_Zz x.1 x.2 _ (jAy x.1 x.2 hx) (jAz x.1 x.2 hx))
def C_Zy:Cons := [(62,[],jlR)]
theorem jAB:jag Try.prog C_Zy := cC jrt <| jag.nil
def w_Zy (p0:gG) (K:(Bool×tQG)→Prop):Prop := (((((jab .u64 p0.1 (63:Int)) == 1)=true) →((v_wu p0) ∧(K (true,(v_w (-(v_wv p0))))))) ∧((((jab .u64 p0.1 (63:Int)) == 1)=false) →(K (false,p0))))
theorem jAC (p0:gG) (K:(Bool×tQG)→Prop):tfn F_Zy A_Zy C_Zy P_Zy R_Zy p0 K = w_Zy p0 K := by kernel_rfl
def s_Zy (p0:gG):(Bool×tQG) := (cond ((jab .u64 p0.1 (63:Int)) == 1) (true,(v_w (-(v_wv p0)))) (false,p0))
abbrev jlV (p0:gG):List Prop := [((((jab .u64 p0.1 (63:Int)) == 1)=true)→(v_wu p0))]
theorem d_Zy (p0:gG) (K:(Bool×tQG)→Prop) (hp:∀ p∈jlV p0,p) (h:K (s_Zy p0)):w_Zy p0 K := by
 unfold w_Zy
 unfold s_Zy at h
 obtain ⟨hp0,_⟩ := jah hp
 exact (br' h (fun e0 h => ⟨(hp0 e0),h⟩)
  (fun e0 h => h))
/-- The sign and the size of a wide number. -/
def jaq (p:gG):Bool×tQG := cond (decide (9223372036854775808≤p.1)) (true,v_w (-(v_wv p))) (false,p)
theorem je2 {n:Int} (h1 : -170141183460469231731687303715884105728 < n) (h2:n < 170141183460469231731687303715884105728):jaq (v_w n)=(decide (n < 0),v_w (max n (-n))) := by
 unfold jaq
 by_cases c:n < 0
 ·have e:decide (9223372036854775808≤(v_w n).1)=true := decide_eq_true (by unfold v_w; simp only; omega)
  rw [e,decide_eq_true c,cond_true,je1,show max n (-n) = -n by omega]
  rw [jiA (m := -(n % 340282366920938463463374607431768211456)) (n := -n) (by omega)]
 ·have e:decide (9223372036854775808≤(v_w n).1)=false := decide_eq_false (by unfold v_w; simp only; omega)
  rw [e,decide_eq_false c,cond_false,show max n (-n)=n by omega]
theorem jrv {p:Int×Int} (h:v_wu p):v_wu (jaq p).2 := by
 unfold jaq
 cases decide (9223372036854775808≤p.1)
 ·exact h
 ·exact jeh _
abbrev t_Zy (p0:gG):Bool×tQG := jaq p0
abbrev jlW (p0:gG):List Prop := [v_wu p0]
theorem jAD (p0:gG) (hq:∀ p∈jlW p0,p):∀ p∈jlV p0,p := by
 obtain ⟨h1,_⟩ := jah hq
 simp only [jlV,fM]
 exact ⟨fun _ => h1,by simp⟩
theorem jAE (p0:gG) (hq:∀ p∈jlW p0,p):s_Zy p0 = t_Zy p0 := by
 obtain ⟨h1,_⟩ := jah hq
 have a := h1.h
 obtain ⟨n,hn⟩ : ∃ n:Nat,p0.1 = n := ⟨p0.1.toNat,by omega⟩
 have e := jb0 n 63 (by decide)
 rw [show ((63:Nat):Int)=63 from rfl] at e
 unfold s_Zy t_Zy jaq
 rw [hn,e]
 have:(((n / 2 ^ 63:Nat):Int) == 1)=decide (9223372036854775808≤(n:Int)) := by
  rw [Bool.eq_iff_iff,beq_iff_eq,decide_eq_true_eq]; omega
 rw [this]

abbrev jrw:Con := ⟨P_Zy,R_Zy,fun x => jlW x,fun x => t_Zy x⟩
theorem jAF:jau Try.prog 32 jrw := okG k_Zy e_Zy jAB fun x hx => jaA (jAC x _) (d_Zy x _ (jAD x hx) (jAE x hx))
def C_Zu:Cons := []
theorem jAG:jag Try.prog C_Zu := jag.nil
def w_Zu (p0:gG) (p1:gG) (K:tQG→Prop):Prop := ((zz0≤p0.2) ∧((zz0≤p1.2) ∧((zz0≤0) ∧((zz0≤1) ∧((zz0≤p0.1) ∧((zz0≤p1.1) ∧((zz0≤(((p0.2 + p1.2) + 0) / (18446744073709551616:Int))) ∧(((((p0.2 + p1.2) + 0) / (18446744073709551616:Int))≤1) ∧(K ((((p0.1 + p1.1) + (((p0.2 + p1.2) + 0) / (18446744073709551616:Int))) % (18446744073709551616:Int)),(((p0.2 + p1.2) + 0) % (18446744073709551616:Int))))))))))))
theorem jAH (p0:gG) (p1:gG) (K:tQG→Prop):tfn F_Zu A_Zu C_Zu P_Zu R_Zu (p0,p1) K = w_Zu p0 p1 K := by kernel_rfl
def s_Zu (p0:gG) (p1:gG):tQG := ((((p0.1 + p1.1) + (((p0.2 + p1.2) + 0) / (18446744073709551616:Int))) % (18446744073709551616:Int)),(((p0.2 + p1.2) + 0) % (18446744073709551616:Int)))
abbrev jlX (p0:gG) (p1:gG):List Prop := [((0:Int)≤p0.2),((0:Int)≤p1.2),((0:Int)≤p0.1),((0:Int)≤p1.1),((0:Int)≤(((p0.2 + p1.2) + 0) / (18446744073709551616:Int))),((((p0.2 + p1.2) + 0) / (18446744073709551616:Int))≤1)]
theorem d_Zu (p0:gG) (p1:gG) (K:tQG→Prop) (hp:∀ p∈jlX p0 p1,p) (h:K (s_Zu p0 p1)):w_Zu p0 p1 K := by
 unfold w_Zu
 unfold s_Zu at h
 obtain ⟨hp0,hp1,hp2,hp3,hp4,hp5,_⟩ := jah hp
 exact ⟨(hp0),(hp1),(od rfl),(od rfl),(hp2),(hp3),(hp4),(hp5),h⟩
abbrev t_Zu (p0:gG) (p1:gG):Int×Int := v_w (v_wv p0 + v_wv p1)
abbrev jlY (p0:gG) (p1:gG):List Prop := [v_wu p0,v_wu p1]
theorem jAI (p0:gG) (p1:gG) (hq:∀ p∈jlY p0 p1,p):∀ p∈jlX p0 p1,p := by
 obtain ⟨h1,h2,_⟩ := jah hq
 have a := h1.l
 have b := h1.h
 have c := h2.l
 have d := h2.h
 simp only [jlX,fM]
 exact ⟨by omega,by omega,by omega,by omega,by omega,by omega,by simp⟩
theorem jAJ (p0:gG) (p1:gG) (hq:∀ p∈jlY p0 p1,p):s_Zu p0 p1 = t_Zu p0 p1 := by
 obtain ⟨h1,h2,_⟩ := jah hq
 have a := h1.l
 have b := h1.h
 have c := h2.l
 have d := h2.h
 unfold s_Zu t_Zu v_w v_wv
 exact Prod.ext (by simp only; omega) (by simp only; omega)

abbrev jrx:Con := ⟨P_Zu,R_Zu,fun x => jlY x.1 x.2,fun x => t_Zu x.1 x.2⟩
theorem jAK:jau Try.prog 60 jrx := okG k_Zu e_Zu jAG fun x hx => jaA (jAH x.1 x.2 _) (d_Zu x.1 x.2 _ (jAI x.1 x.2 hx) (jAJ x.1 x.2 hx))
def C_Zs:Cons := []
theorem jAL:jag Try.prog C_Zs := jag.nil
def w_Zs (p0:Int) (K:Int→Prop):Prop := (K (IntKind.wrap .u64 (max p0 (IntKind.i64.wrap (zz0 - p0)))))
theorem jAM (p0:Int) (K:Int→Prop):tfn F_Zs A_Zs C_Zs P_Zs R_Zs p0 K = w_Zs p0 K := by kernel_rfl
def s_Zs (p0:Int):Int := (IntKind.wrap .u64 (max p0 (IntKind.i64.wrap ((0:Int) - p0))))
abbrev jry (_p0:Int):List Prop := []
theorem d_Zs (p0:Int) (K:Int→Prop) (_hp:∀ p∈jry p0,p) (h:K (s_Zs p0)):w_Zs p0 K := by
 unfold w_Zs
 unfold s_Zs at h
 exact h
abbrev t_Zs (p0:Int):Int := max p0 (-p0)
abbrev jlZ (p0:Int):List Prop := [-9223372036854775808 < p0∧p0≤9223372036854775807]
theorem jAN (p0:Int) (_hq:∀ p∈jlZ p0,p):∀ p∈jry p0,p := by
 intro p hp; simp at hp
theorem jAO (p0:Int) (hq:∀ p∈jlZ p0,p):s_Zs p0 = t_Zs p0 := by
 obtain ⟨h1,_⟩ := jah hq
 unfold s_Zs t_Zs
 rw [jar (n := 0 - p0) (by omega) (by omega),jbk (by omega) (by omega)]
 omega

abbrev jl0:Con := ⟨P_Zs,R_Zs,fun x => jlZ x,fun x => t_Zs x⟩
theorem jrz:jau Try.prog 38 jl0 := okG k_Zs e_Zs jAL fun x hx => jaA (jAM x _) (d_Zs x _ (jAN x hx) (jAO x hx))
def jrA:Cons := []
theorem jAP:jag Try.prog jrA := jag.nil
def jl1 (p0:Int) (p1:Int) (K:tQG→Prop):Prop := (K ((IntKind.wrap .u64 ((IntKind.wrap .u64 ((IntKind.wrap .u64 ((jab .u64 p0 (32:Int)) * (jab .u64 p1 (32:Int)))) + (jab .u64 (IntKind.wrap .u64 ((IntKind.wrap .u64 ((jab .u64 p0 (32:Int)) * (jam .u64 p1 (4294967295:Int)))) + (jab .u64 (IntKind.wrap .u64 ((jam .u64 p0 (4294967295:Int)) * (jam .u64 p1 (4294967295:Int)))) (32:Int)))) (32:Int)))) + (jab .u64 (IntKind.wrap .u64 ((jam .u64 (IntKind.wrap .u64 ((IntKind.wrap .u64 ((jab .u64 p0 (32:Int)) * (jam .u64 p1 (4294967295:Int)))) + (jab .u64 (IntKind.wrap .u64 ((jam .u64 p0 (4294967295:Int)) * (jam .u64 p1 (4294967295:Int)))) (32:Int)))) (4294967295:Int)) + (IntKind.wrap .u64 ((jam .u64 p0 (4294967295:Int)) * (jab .u64 p1 (32:Int)))))) (32:Int)))),(IntKind.wrap .u64 (p0 * p1))))
theorem jAQ (p0:Int) (p1:Int) (K:tQG→Prop):tfn jfG jxR jrA jp2 jp3 (p0,p1) K = jl1 p0 p1 K := by kernel_rfl
def jl2 (p0:Int) (p1:Int):tQG := ((IntKind.wrap .u64 ((IntKind.wrap .u64 ((IntKind.wrap .u64 ((jab .u64 p0 (32:Int)) * (jab .u64 p1 (32:Int)))) + (jab .u64 (IntKind.wrap .u64 ((IntKind.wrap .u64 ((jab .u64 p0 (32:Int)) * (jam .u64 p1 (4294967295:Int)))) + (jab .u64 (IntKind.wrap .u64 ((jam .u64 p0 (4294967295:Int)) * (jam .u64 p1 (4294967295:Int)))) (32:Int)))) (32:Int)))) + (jab .u64 (IntKind.wrap .u64 ((jam .u64 (IntKind.wrap .u64 ((IntKind.wrap .u64 ((jab .u64 p0 (32:Int)) * (jam .u64 p1 (4294967295:Int)))) + (jab .u64 (IntKind.wrap .u64 ((jam .u64 p0 (4294967295:Int)) * (jam .u64 p1 (4294967295:Int)))) (32:Int)))) (4294967295:Int)) + (IntKind.wrap .u64 ((jam .u64 p0 (4294967295:Int)) * (jab .u64 p1 (32:Int)))))) (32:Int)))),(IntKind.wrap .u64 (p0 * p1)))
abbrev jrB (_p0:Int) (_p1:Int):List Prop := []
theorem jAR (p0:Int) (p1:Int) (K:tQG→Prop) (_hp:∀ p∈jrB p0 p1,p) (h:K (jl2 p0 p1)):jl1 p0 p1 K := by
 unfold jl1
 unfold jl2 at h
 exact h
abbrev jrC (p0 p1:Int):Int×Int := (p0 * p1 / 18446744073709551616,p0 * p1 % 18446744073709551616)
abbrev jl3 (p0 p1:Int):List Prop := [0≤p0∧p0 < 18446744073709551616,0≤p1∧p1 < 18446744073709551616]
theorem jAS (p0 p1:Int) (_hq:∀ p∈jl3 p0 p1,p):∀ p∈jrB p0 p1,p := by
 intro p hp; simp at hp
theorem jAT (p0 p1:Int) (hq:∀ p∈jl3 p0 p1,p):jl2 p0 p1 = jrC p0 p1 := by
 obtain ⟨h0,h1,_⟩ := jah hq
 obtain ⟨x,rfl⟩ : ∃ x:Nat,p0 = x := ⟨p0.toNat,by omega⟩
 obtain ⟨y,rfl⟩ : ∃ y:Nat,p1 = y := ⟨p1.toNat,by omega⟩
 obtain ⟨e1,e2⟩ := jFP x y (by omega) (by omega)
 exact Prod.ext e1 e2

abbrev jrD:Con := ⟨jp2,jp3,fun x => jl3 x.1 x.2,fun x => jrC x.1 x.2⟩
theorem jAU:jau Try.prog 86 jrD := okG jxS jkG jAP fun x hx => jaA (jAQ x.1 x.2 _) (jAR x.1 x.2 _ (jAS x.1 x.2 hx) (jAT x.1 x.2 hx))
def C_Zt:Cons := [(38,[],jl0),(86,[],jrD),(62,[],jlR)]
theorem jAV:jag Try.prog C_Zt := cC jrz <| cC jAU <| cC jrt <| jag.nil
def w_Zt (p0:Int) (p1:Int) (K:tQG→Prop):Prop := ((((-9223372036854775808:Int) < p0) ∧(p0≤9223372036854775807)) ∧((((-9223372036854775808:Int) < p1) ∧(p1≤9223372036854775807)) ∧(((zz0≤(max p0 (-p0))) ∧((max p0 (-p0)) < 18446744073709551616)) ∧(((zz0≤(max p1 (-p1))) ∧((max p1 (-p1)) < 18446744073709551616)) ∧((((!((decide (p0 < 0)) == (decide (p1 < 0))))=true) →((v_wu ((((max p0 (-p0)) * (max p1 (-p1))) / (18446744073709551616:Int)),(((max p0 (-p0)) * (max p1 (-p1))) % (18446744073709551616:Int)))) ∧(K (v_w (-(v_wv ((((max p0 (-p0)) * (max p1 (-p1))) / (18446744073709551616:Int)),(((max p0 (-p0)) * (max p1 (-p1))) % (18446744073709551616:Int))))))))) ∧(((!((decide (p0 < 0)) == (decide (p1 < 0))))=false) →(K ((((max p0 (-p0)) * (max p1 (-p1))) / (18446744073709551616:Int)),(((max p0 (-p0)) * (max p1 (-p1))) % (18446744073709551616:Int))))))))))
theorem jAW (p0:Int) (p1:Int) (K:tQG→Prop):tfn F_Zt A_Zt C_Zt P_Zt R_Zt (p0,p1) K = w_Zt p0 p1 K := by kernel_rfl
def s_Zt (p0:Int) (p1:Int):tQG := (cond (!((decide (p0 < 0)) == (decide (p1 < 0)))) (v_w (-(v_wv ((((max p0 (-p0)) * (max p1 (-p1))) / (18446744073709551616:Int)),(((max p0 (-p0)) * (max p1 (-p1))) % (18446744073709551616:Int)))))) ((((max p0 (-p0)) * (max p1 (-p1))) / (18446744073709551616:Int)),(((max p0 (-p0)) * (max p1 (-p1))) % (18446744073709551616:Int))))
abbrev jl4 (p0:Int) (p1:Int):List Prop := [(((-9223372036854775808:Int) < p0)∧(p0≤9223372036854775807)),(((-9223372036854775808:Int) < p1)∧(p1≤9223372036854775807)),(((0:Int)≤(max p0 (-p0)))∧((max p0 (-p0)) < 18446744073709551616)),(((0:Int)≤(max p1 (-p1)))∧((max p1 (-p1)) < 18446744073709551616)),(((!((decide (p0 < 0)) == (decide (p1 < 0))))=true)→(v_wu ((((max p0 (-p0)) * (max p1 (-p1))) / (18446744073709551616:Int)),(((max p0 (-p0)) * (max p1 (-p1))) % (18446744073709551616:Int)))))]
theorem d_Zt (p0:Int) (p1:Int) (K:tQG→Prop) (hp:∀ p∈jl4 p0 p1,p) (h:K (s_Zt p0 p1)):w_Zt p0 p1 K := by
 unfold w_Zt
 unfold s_Zt at h
 obtain ⟨hp0,hp1,hp2,hp3,hp4,_⟩ := jah hp
 exact ⟨(hp0),(hp1),(hp2),(hp3),(br' h (fun e0 h => ⟨(hp4 e0),h⟩)
  (fun e0 h => h))⟩
theorem v_tm {a b:Int} (h1 : -9223372036854775808 < a∧a≤9223372036854775807) (h2 : -9223372036854775808 < b∧b≤9223372036854775807):v_wu (max a (-a) * max b (-b) / 18446744073709551616,max a (-a) * max b (-b) % 18446744073709551616)∧0≤max a (-a) * max b (-b)∧max a (-a) * max b (-b) < 340282366920938463463374607431768211456 := by
 have m := jhu (x := max a (-a)) (a := 9223372036854775807) (y := max b (-b)) (b := 9223372036854775807) (by omega) (by omega) (by omega) (by omega)
 generalize max a (-a) * max b (-b)=t at *
 exact ⟨⟨by simp only; omega,by simp only; omega⟩,by omega,by omega⟩
abbrev t_Zt (p0:Int) (p1:Int):Int×Int := v_w (p0 * p1)
abbrev jl5 (p0:Int) (p1:Int):List Prop := [-9223372036854775808 < p0∧p0≤9223372036854775807,-9223372036854775808 < p1∧p1≤9223372036854775807]
theorem jAX (p0:Int) (p1:Int) (hq:∀ p∈jl5 p0 p1,p):∀ p∈jl4 p0 p1,p := by
 obtain ⟨h1,h2,_⟩ := jah hq
 have g := v_tm h1 h2
 simp only [jl4,fM]
 and_intros
 all_goals first
  | (intro p hp; cases hp; done)
  | exact h1
  | exact h2
  | (intros; exact h1)
  | (intros; exact h2)
  | omega
  | (intros; omega)
  | (intros; exact g.1)
theorem jAY (p0:Int) (p1:Int) (hq:∀ p∈jl5 p0 p1,p):s_Zt p0 p1 = t_Zt p0 p1 := by
 obtain ⟨h1,h2,_⟩ := jah hq
 obtain ⟨g1,g2⟩ := v_tm h1 h2
 unfold s_Zt t_Zt
 have e0:(max p0 (-p0) * max p1 (-p1) / 18446744073709551616,max p0 (-p0) * max p1 (-p1) % 18446744073709551616)=v_w (max p0 (-p0) * max p1 (-p1)) := by
  unfold v_w
  exact Prod.ext (by simp only; omega) rfl
 rw [e0]
 rcases Int.lt_or_le p0 0 with a | a <;> rcases Int.lt_or_le p1 0 with b | b
 ·rw [decide_eq_true a,decide_eq_true b,show max p0 (-p0) = -p0 by omega,show max p1 (-p1) = -p1 by omega,Int.neg_mul_neg]; rfl
 ·rw [decide_eq_true a,decide_eq_false (show ¬ p1 < 0 by omega),show max p0 (-p0) = -p0 by omega,show max p1 (-p1)=p1 by omega]
  show v_w (-(v_wv (v_w (-p0 * p1))))=_
  rw [je1,Int.neg_mul]
  exact jiA (by omega)
 ·rw [decide_eq_false (show ¬ p0 < 0 by omega),decide_eq_true b,show max p0 (-p0)=p0 by omega,show max p1 (-p1) = -p1 by omega]
  show v_w (-(v_wv (v_w (p0 * -p1))))=_
  rw [je1,Int.mul_neg]
  exact jiA (by omega)
 ·rw [decide_eq_false (show ¬ p0 < 0 by omega),decide_eq_false (show ¬ p1 < 0 by omega),show max p0 (-p0)=p0 by omega,show max p1 (-p1)=p1 by omega]; rfl

abbrev jrE:Con := ⟨P_Zt,R_Zt,fun x => jl5 x.1 x.2,fun x => t_Zt x.1 x.2⟩
theorem jAZ:jau Try.prog 61 jrE := okG k_Zt e_Zt jAV fun x hx => jaA (jAW x.1 x.2 _) (d_Zt x.1 x.2 _ (jAX x.1 x.2 hx) (jAY x.1 x.2 hx))
/-- All orders of four columns,with their signs. -/
def jcH:List (tQI×Int) := [((0,1,2,3),1),((0,1,3,2),-1),((0,2,1,3),-1),((0,2,3,1),1),((0,3,2,1),-1),((0,3,1,2),1),((1,0,2,3),-1),((1,0,3,2),1),((1,2,0,3),1),((1,2,3,0),-1),((1,3,2,0),1),((1,3,0,2),-1),((2,1,0,3),-1),((2,1,3,0),1),((2,0,1,3),1),((2,0,3,1),-1),((2,3,0,1),1),((2,3,1,0),-1),((3,1,2,0),-1),((3,1,0,2),1),((3,2,1,0),1),((3,2,0,1),-1),((3,0,2,1),1),((3,0,1,2),-1)]
theorem jA0:jkL = jcH.map (jax [.agg (.pr (.int .i64) (.pr (.int .i64) (.pr (.int .i64) (.int .i64)))),.one (.int .i64)]) := by kernel_rfl
abbrev jrF:Con := ⟨.fn 59 [] :: .agg (.pr (.int .i64) (.pr (.int .i64) (.pr (.int .i64) (.int .i64)))) :: [.one (.int .i64)],[.one (.sl (tyPs (.agg (.pr (.int .i64) (.pr (.int .i64) (.pr (.int .i64) (.int .i64)))) :: [.one (.int .i64)])))],fun _ => [],fun _ => jcH⟩
theorem jA1:joA Try.prog 59 jrF := by
 refine ⟨rfl,jxn,rfl,fun x _ => ?_⟩
 show Iter Try.prog 59 [] (jcH.map (jax [.agg (.pr (.int .i64) (.pr (.int .i64) (.pr (.int .i64) (.int .i64)))),.one (.int .i64)]))
 rw [← jA0]
 exact jqe
def C_Z9:Cons := [(59,jjX,jrF),(61,[],jrE),(60,[],jrx)]
theorem jA2:jag Try.prog C_Z9 := jag.consI jA1 <| cC jAZ <| cC jAK <| jag.nil
abbrev jiB (p0:tQK) (z1:(tQD×Int)) := ((List.getD (p0.2.2.1.1 :: (p0.2.2.1.2.1 :: (p0.2.2.1.2.2.1 :: (p0.2.2.1.2.2.2 :: ([]:List Int))))) z1.1.2.2.1.toNat zz0) * (List.getD (p0.2.2.2.1 :: (p0.2.2.2.2.1 :: (p0.2.2.2.2.2.1 :: (p0.2.2.2.2.2.2 :: ([]:List Int))))) z1.1.2.2.2.toNat zz0))
abbrev jiC (p0:tQK) (z1:(tQD×Int)) := ((List.getD (p0.1.1 :: (p0.1.2.1 :: (p0.1.2.2.1 :: (p0.1.2.2.2 :: ([]:List Int))))) z1.1.1.toNat zz0) * (List.getD (p0.2.1.1 :: (p0.2.1.2.1 :: (p0.2.1.2.2.1 :: (p0.2.1.2.2.2 :: ([]:List Int))))) z1.1.2.1.toNat zz0))
def w_Z9 (p0:tQK) (K:tQG→Prop):Prop := (RngP (fun (y0:gG) (z1:(tQD×Int)) k2 => ((zz0≤z1.1.1) ∧((z1.1.1 < 4) ∧((zz0≤z1.1.2.1) ∧((z1.1.2.1 < 4) ∧((zz0≤z1.1.2.2.1) ∧((z1.1.2.2.1 < 4) ∧((zz0≤z1.1.2.2.2) ∧((z1.1.2.2.2 < 4) ∧((((-9223372036854775808:Int) < (wi (z1.2 * (wi (jiC p0 z1))))) ∧((wi (z1.2 * (wi (jiC p0 z1))))≤9223372036854775807)) ∧((((-9223372036854775808:Int) < (wi (jiB p0 z1))) ∧((wi (jiB p0 z1))≤9223372036854775807)) ∧((v_wu y0) ∧((v_wu (v_w ((wi (z1.2 * (wi (jiC p0 z1)))) * (wi (jiB p0 z1))))) ∧(k2 (v_w ((v_wv y0) + (v_wv (v_w ((wi (z1.2 * (wi (jiC p0 z1)))) * (wi (jiB p0 z1))))))))))))))))))))) (fun (s3:gG) => (K s3)) (jcH) (zz0,zz0))
theorem jA3 (p0:tQK) (K:tQG→Prop):tfn F_Z9 A_Z9 C_Z9 P_Z9 R_Z9 p0 K = w_Z9 p0 K := by kernel_rfl
def je3 (p0:tQK) (y0:gG) (z0:(tQD×Int)):tQG ⊕ tQG := (Sum.inl (v_w ((v_wv y0) + (v_wv (v_w ((IntKind.i64.wrap (z0.2 * (IntKind.i64.wrap ((List.getD (p0.1.1 :: (p0.1.2.1 :: (p0.1.2.2.1 :: (p0.1.2.2.2 :: ([]:List Int))))) z0.1.1.toNat (0:Int)) * (List.getD (p0.2.1.1 :: (p0.2.1.2.1 :: (p0.2.1.2.2.1 :: (p0.2.1.2.2.2 :: ([]:List Int))))) z0.1.2.1.toNat (0:Int)))))) * (IntKind.i64.wrap ((List.getD (p0.2.2.1.1 :: (p0.2.2.1.2.1 :: (p0.2.2.1.2.2.1 :: (p0.2.2.1.2.2.2 :: ([]:List Int))))) z0.1.2.2.1.toNat (0:Int)) * (List.getD (p0.2.2.2.1 :: (p0.2.2.2.2.1 :: (p0.2.2.2.2.2.1 :: (p0.2.2.2.2.2.2 :: ([]:List Int))))) z0.1.2.2.2.toNat (0:Int))))))))))
abbrev jl6 (p0:tQK) (y0:gG) (z0:(tQD×Int)):List Prop := [((0:Int)≤z0.1.1),(z0.1.1 < 4),((0:Int)≤z0.1.2.1),(z0.1.2.1 < 4),((0:Int)≤z0.1.2.2.1),(z0.1.2.2.1 < 4),((0:Int)≤z0.1.2.2.2),(z0.1.2.2.2 < 4),(((-9223372036854775808:Int) < (IntKind.i64.wrap (z0.2 * (IntKind.i64.wrap ((List.getD (p0.1.1 :: (p0.1.2.1 :: (p0.1.2.2.1 :: (p0.1.2.2.2 :: ([]:List Int))))) z0.1.1.toNat (0:Int)) * (List.getD (p0.2.1.1 :: (p0.2.1.2.1 :: (p0.2.1.2.2.1 :: (p0.2.1.2.2.2 :: ([]:List Int))))) z0.1.2.1.toNat (0:Int)))))))∧((IntKind.i64.wrap (z0.2 * (IntKind.i64.wrap ((List.getD (p0.1.1 :: (p0.1.2.1 :: (p0.1.2.2.1 :: (p0.1.2.2.2 :: ([]:List Int))))) z0.1.1.toNat (0:Int)) * (List.getD (p0.2.1.1 :: (p0.2.1.2.1 :: (p0.2.1.2.2.1 :: (p0.2.1.2.2.2 :: ([]:List Int))))) z0.1.2.1.toNat (0:Int))))))≤9223372036854775807)),(((-9223372036854775808:Int) < (IntKind.i64.wrap ((List.getD (p0.2.2.1.1 :: (p0.2.2.1.2.1 :: (p0.2.2.1.2.2.1 :: (p0.2.2.1.2.2.2 :: ([]:List Int))))) z0.1.2.2.1.toNat (0:Int)) * (List.getD (p0.2.2.2.1 :: (p0.2.2.2.2.1 :: (p0.2.2.2.2.2.1 :: (p0.2.2.2.2.2.2 :: ([]:List Int))))) z0.1.2.2.2.toNat (0:Int)))))∧((IntKind.i64.wrap ((List.getD (p0.2.2.1.1 :: (p0.2.2.1.2.1 :: (p0.2.2.1.2.2.1 :: (p0.2.2.1.2.2.2 :: ([]:List Int))))) z0.1.2.2.1.toNat (0:Int)) * (List.getD (p0.2.2.2.1 :: (p0.2.2.2.2.1 :: (p0.2.2.2.2.2.1 :: (p0.2.2.2.2.2.2 :: ([]:List Int))))) z0.1.2.2.2.toNat (0:Int))))≤9223372036854775807)),(v_wu y0),(v_wu (v_w ((IntKind.i64.wrap (z0.2 * (IntKind.i64.wrap ((List.getD (p0.1.1 :: (p0.1.2.1 :: (p0.1.2.2.1 :: (p0.1.2.2.2 :: ([]:List Int))))) z0.1.1.toNat (0:Int)) * (List.getD (p0.2.1.1 :: (p0.2.1.2.1 :: (p0.2.1.2.2.1 :: (p0.2.1.2.2.2 :: ([]:List Int))))) z0.1.2.1.toNat (0:Int)))))) * (IntKind.i64.wrap ((List.getD (p0.2.2.1.1 :: (p0.2.2.1.2.1 :: (p0.2.2.1.2.2.1 :: (p0.2.2.1.2.2.2 :: ([]:List Int))))) z0.1.2.2.1.toNat (0:Int)) * (List.getD (p0.2.2.2.1 :: (p0.2.2.2.2.1 :: (p0.2.2.2.2.2.1 :: (p0.2.2.2.2.2.2 :: ([]:List Int))))) z0.1.2.2.2.toNat (0:Int)))))))]
def jiD (_p0:tQK) (s0:gG):tQG := s0
abbrev jl7 (_p0:tQK) (_s0:gG):List Prop := []
def s_Z9 (p0:tQK):tQG := (rngV (je3 p0) (jiD p0) (jcH) (0,0))
abbrev jl8 (p0:tQK):List Prop := [(OkR (je3 p0) (jl6 p0) (jl7 p0) (jcH) (0,0))]
theorem d_Z9 (p0:tQK) (K:tQG→Prop) (hp:∀ p∈jl8 p0,p) (h:K (s_Z9 p0)):w_Z9 p0 K := by
 unfold w_Z9
 unfold s_Z9 at h
 obtain ⟨hp0,_⟩ := jah hp
 exact (jFy (hp0) h (fun y0 z0 k0 hp h => by
 unfold je3 at h; obtain ⟨hp0,hp1,hp2,hp3,hp4,hp5,hp6,hp7,hp8,hp9,hp10,hp11,_⟩ := jah hp
 exact ⟨(hp0),(hp1),(hp2),(hp3),(hp4),(hp5),(hp6),(hp7),(hp8),(hp9),(hp10),(hp11),h⟩) (fun s0 hp h => by
 unfold jiD at h
 exact h))
/-- A row's entry; the determinant as a sum over all orders. -/
def v_r4 (r:Int×Int×Int×Int) (i:Int):Int := (r.1 :: (r.2.1 :: (r.2.2.1 :: (r.2.2.2 :: ([]:List Int))))).getD i.toNat 0
def v_dt (m:tQI×tQI×tQI×tQI) (z:tQI×Int):Int := z.2 * (v_r4 m.1 z.1.1 * v_r4 m.2.1 z.1.2.1) * (v_r4 m.2.2.1 z.1.2.2.1 * v_r4 m.2.2.2 z.1.2.2.2)
def jaB (m:tQI×tQI×tQI×tQI):Int := (jcH.map (v_dt m)).sum
/-- Rows whose products fit. -/
def jiE (r:Int×Int×Int×Int):Prop := ∀ i,-2000000000≤v_r4 r i∧v_r4 r i≤2000000000
structure v_mb (m:tQI×tQI×tQI×tQI):Prop where
 a:jiE m.1
 b:jiE m.2.1
 c:jiE m.2.2.1
 d:jiE m.2.2.2
def v_oz (z:tQI×Int):Prop := (0≤z.1.1∧z.1.1 < 4)∧(0≤z.1.2.1∧z.1.2.1 < 4)∧(0≤z.1.2.2.1∧z.1.2.2.1 < 4)∧(0≤z.1.2.2.2∧z.1.2.2.2 < 4)∧(z.2 = 1 ∨ z.2 = -1)
theorem jA4:∀ z∈jcH,v_oz z := by unfold v_oz jcH; decide
theorem jrG (p0:tQI×tQI×tQI×tQI) (h:v_mb p0):OkR (je3 p0) (jl6 p0) (jl7 p0) jcH (0,0)∧rngV (je3 p0) (jiD p0) jcH (0,0)=v_w (jaB p0) := by
 have main := jt6 (st := je3 p0) (sp := jl6 p0) (fin := jiD p0) (fp := jl7 p0) (fun r s => (∀ z∈r,v_oz z)∧v_wu s) (fun r s => v_w (v_wv s + (r.map (v_dt p0)).sum)) ?_ ?_ jcH (0,0) ⟨jA4,⟨by decide,by decide⟩⟩
 ·refine ⟨main.1,main.2.trans ?_⟩
  unfold jaB
  rw [show v_wv (0,0)=0 from rfl,Int.zero_add]
 ·rintro s ⟨_,hs⟩
  refine ⟨fun p hp => (by cases hp),?_⟩
  show s = v_w (v_wv s + 0)
  rw [Int.add_zero,jAt hs]
 ·rintro z r s ⟨hz,hs⟩
  obtain ⟨z1,z2,z3,z4,z5⟩ := hz z List.mem_cons_self
  have a := h.a z.1.1
  have b := h.b z.1.2.1
  have c := h.c z.1.2.2.1
  have d := h.d z.1.2.2.2
  have m1 := jbn (x := v_r4 p0.1 z.1.1) (y := v_r4 p0.2.1 z.1.2.1) (a := 2000000000) (b := 2000000000) a.1 a.2 b.1 b.2
  have m2 := jbn (x := v_r4 p0.2.2.1 z.1.2.2.1) (y := v_r4 p0.2.2.2 z.1.2.2.2) (a := 2000000000) (b := 2000000000) c.1 c.2 d.1 d.2
  have m3 : -4000000000000000000≤z.2 * (v_r4 p0.1 z.1.1 * v_r4 p0.2.1 z.1.2.1)∧z.2 * (v_r4 p0.1 z.1.1 * v_r4 p0.2.1 z.1.2.1)≤4000000000000000000 := by
   rcases z5 with e | e <;> rw [e] <;> omega
  have w1:IntKind.i64.wrap (v_r4 p0.1 z.1.1 * v_r4 p0.2.1 z.1.2.1)=v_r4 p0.1 z.1.1 * v_r4 p0.2.1 z.1.2.1 := jar (by omega) (by omega)
  have w2:IntKind.i64.wrap (v_r4 p0.2.2.1 z.1.2.2.1 * v_r4 p0.2.2.2 z.1.2.2.2)=v_r4 p0.2.2.1 z.1.2.2.1 * v_r4 p0.2.2.2 z.1.2.2.2 := jar (by omega) (by omega)
  have w3:IntKind.i64.wrap (z.2 * (v_r4 p0.1 z.1.1 * v_r4 p0.2.1 z.1.2.1))=z.2 * (v_r4 p0.1 z.1.1 * v_r4 p0.2.1 z.1.2.1) := jar (by omega) (by omega)
  have hf:je3 p0 s z = .inl (v_w (v_wv s + v_wv (v_w (v_dt p0 z)))) := by
   show Sum.inl (v_w (v_wv s + v_wv (v_w (IntKind.i64.wrap (z.2 * IntKind.i64.wrap (v_r4 p0.1 z.1.1 * v_r4 p0.2.1 z.1.2.1)) * IntKind.i64.wrap (v_r4 p0.2.2.1 z.1.2.2.1 * v_r4 p0.2.2.2 z.1.2.2.2)))))=_
   rw [w1,w2,w3]; rfl
  refine ⟨?_,?_⟩
  ·show ∀ p∈[0≤z.1.1,z.1.1 < 4,0≤z.1.2.1,z.1.2.1 < 4,0≤z.1.2.2.1,z.1.2.2.1 < 4,0≤z.1.2.2.2,z.1.2.2.2 < 4,-9223372036854775808 < IntKind.i64.wrap (z.2 * IntKind.i64.wrap (v_r4 p0.1 z.1.1 * v_r4 p0.2.1 z.1.2.1))∧IntKind.i64.wrap (z.2 * IntKind.i64.wrap (v_r4 p0.1 z.1.1 * v_r4 p0.2.1 z.1.2.1))≤9223372036854775807,-9223372036854775808 < IntKind.i64.wrap (v_r4 p0.2.2.1 z.1.2.2.1 * v_r4 p0.2.2.2 z.1.2.2.2)∧IntKind.i64.wrap (v_r4 p0.2.2.1 z.1.2.2.1 * v_r4 p0.2.2.2 z.1.2.2.2)≤9223372036854775807,v_wu s,v_wu (v_w (IntKind.i64.wrap (z.2 * IntKind.i64.wrap (v_r4 p0.1 z.1.1 * v_r4 p0.2.1 z.1.2.1)) * IntKind.i64.wrap (v_r4 p0.2.2.1 z.1.2.2.1 * v_r4 p0.2.2.2 z.1.2.2.2)))],p
   rw [w1,w2,w3]
   simp only [fM]
   exact ⟨z1.1,z1.2,z2.1,z2.2,z3.1,z3.2,z4.1,z4.2,by omega,by omega,hs,jeh _,by simp⟩
  ·rw [hf]
   refine ⟨⟨fun y hy => hz y (List.mem_cons_of_mem _ hy),jeh _⟩,?_⟩
   rw [je1,je1,List.map_cons,List.sum_cons]
   exact jiA (by omega)
abbrev t_Z9 (p0:tQI×tQI×tQI×tQI):Int×Int := v_w (jaB p0)
abbrev jl9 (p0:tQI×tQI×tQI×tQI):List Prop := [v_mb p0]
theorem jA5 (p0:tQI×tQI×tQI×tQI) (hq:∀ p∈jl9 p0,p):∀ p∈jl8 p0,p := by
 obtain ⟨h1,_⟩ := jah hq
 simp only [jl8,fM]
 exact ⟨(jrG p0 h1).1,by simp⟩
theorem jA6 (p0:tQI×tQI×tQI×tQI) (hq:∀ p∈jl9 p0,p):s_Z9 p0 = t_Z9 p0 := by
 obtain ⟨h1,_⟩ := jah hq
 exact (jrG p0 h1).2

abbrev jrH:Con := ⟨P_Z9,R_Z9,fun x => jl9 x,fun x => t_Z9 x⟩
theorem jA7:jau Try.prog 31 jrH := okG k_Z9 e_Z9 jA2 fun x hx => jaA (jA3 x _) (d_Z9 x _ (jA5 x hx) (jA6 x hx))
def jrI:Cons := [(57,[],jq9)]
theorem jA8:jag Try.prog jrI := cC jzA <| jag.nil
def jma (p0:tQF) (K:Int→Prop):Prop := (K (v_cs p0).2)
theorem jA9 (p0:tQF) (K:Int→Prop):tfn jh1 jw4 jrI jpg jph p0 K = jma p0 K := by kernel_rfl
def jmb (p0:tQF):Int := (v_cs p0).2
abbrev jrJ (_p0:tQF):List Prop := []
theorem jBa (p0:tQF) (K:Int→Prop) (_hp:∀ p∈jrJ p0,p) (h:K (jmb p0)):jma p0 K := by
 unfold jma
 unfold jmb at h
 exact h
abbrev jiF:Con := ⟨jpg,jph,fun x => jrJ x,fun x => jmb x⟩
theorem jmc:jau Try.prog 27 jiF := okG jw5 jpi jA8 fun x hx => jaA (jA9 x _) (jBa x _ hx rfl)
def C_Z0:Cons := [(27,[],jiF),(28,[],jk7),(26,[],jgy),(29,[],jii),(30,[],jre),(31,[],jrH),(32,[],jrw),(33,[],jlN),(34,[],jlA),(35,[],jru)]
theorem jBb:jag Try.prog C_Z0 := cC jmc <| cC jqH <| cC jim <| cC jk4 <| cC jzV <| cC jA7 <| cC jAF <| cC jrs <| cC jrg <| cC jAA <| jag.nil
abbrev jb1 (y4:(Int×tQE)) := ((y4.2.1,(y4.2.2.1,(y4.2.2.2.1,y4.2.2.2.2.1))),((y4.2.2.2.2.2.1,(y4.2.2.2.2.2.2.1,(y4.2.2.2.2.2.2.2.1,y4.2.2.2.2.2.2.2.2.1))),((y4.2.2.2.2.2.2.2.2.2.1,(y4.2.2.2.2.2.2.2.2.2.2.1,(y4.2.2.2.2.2.2.2.2.2.2.2.1,y4.2.2.2.2.2.2.2.2.2.2.2.2.1))),y4.2.2.2.2.2.2.2.2.2.2.2.2.2)))
abbrev je4 (y1:(Int×tQC)) (y4:(Int×tQE)) := ((List.getD ((cond (decide (y1.1 = zz0)) (v_w (jaB (jb1 y4))).1 y1.2.2.1) :: ((cond (decide (y1.1 = zz1)) (v_w (jaB (jb1 y4))).1 y1.2.2.2.2.1) :: ((cond (decide (y1.1 = zz2)) (v_w (jaB (jb1 y4))).1 y1.2.2.2.2.2.2.1) :: ((cond (decide (y1.1 = zz3)) (v_w (jaB (jb1 y4))).1 y1.2.2.2.2.2.2.2.2.1) :: ([]:List Int))))) y1.1.toNat zz0),(List.getD ((cond (decide (y1.1 = zz0)) (v_w (jaB (jb1 y4))).2 y1.2.2.2.1) :: ((cond (decide (y1.1 = zz1)) (v_w (jaB (jb1 y4))).2 y1.2.2.2.2.2.1) :: ((cond (decide (y1.1 = zz2)) (v_w (jaB (jb1 y4))).2 y1.2.2.2.2.2.2.2.1) :: ((cond (decide (y1.1 = zz3)) (v_w (jaB (jb1 y4))).2 y1.2.2.2.2.2.2.2.2.2) :: ([]:List Int))))) y1.1.toNat zz0))
abbrev jbh (y1:(Int×tQC)) (y7:(Int×(Bool×tQC))) := (jaq ((List.getD (y1.2.2.1 :: (y1.2.2.2.2.1 :: (y1.2.2.2.2.2.2.1 :: (y1.2.2.2.2.2.2.2.2.1 :: ([]:List Int))))) y7.1.toNat zz0),(List.getD (y1.2.2.2.1 :: (y1.2.2.2.2.2.1 :: (y1.2.2.2.2.2.2.2.1 :: (y1.2.2.2.2.2.2.2.2.2 :: ([]:List Int))))) y7.1.toNat zz0)))
abbrev jca (p0:tQF) (p1:Int) (y4:(Int×tQE)) := (List.getD ((ja4 (jba p0 (jaa p1 8) (List.length (jaa p1 8)))).1 :: ((ja4 (jba p0 (jaa p1 8) (List.length (jaa p1 8)))).2.1 :: ((ja4 (jba p0 (jaa p1 8) (List.length (jaa p1 8)))).2.2.1 :: ((ja4 (jba p0 (jaa p1 8) (List.length (jaa p1 8)))).2.2.2 :: ([]:List Int))))) y4.1.toNat zz0)
abbrev jcb (p0:tQF) (p1:Int) := (jav (jat p0 (jaa p1 8) (List.length (jaa p1 8))))
abbrev jcj (p0:tQF) (p1:Int) := (jaq (v_w (jaB (jcb p0 p1))))
abbrev jbi (p1:Int) (y7:(Int×(Bool×tQC))) := (List.getD (jaa p1 8) y7.1.toNat zz0)
abbrev jmd (p0:tQF) (p1:Int) (y1:(Int×tQC)) (y4:(Int×tQE)) := ((((Int.tmod (jaq (je4 y1 y4)).2.1 (jcj p0 p1).2.2) * 18446744073709551616) + (jaq (je4 y1 y4)).2.2) % (jcj p0 p1).2.2)
abbrev jgI := (zz0,(zz0,(zz0,(zz0,(zz0,(zz0,(zz0,zz0)))))))
def w_Z0 (p0:tQF) (p1:Int) (K:(tQC×Int)→Prop):Prop := ((jbA ((v_cs p0).2 :: ((jaV p1) :: ([]:List Int)))) ∧(((((jaG ((v_cs p0).2 :: ((jaV p1) :: ([]:List Int)))) != zz0)=true) →(K ((zz0,(jgI)),(jaG ((v_cs p0).2 :: ((jaV p1) :: ([]:List Int))))))) ∧((((jaG ((v_cs p0).2 :: ((jaV p1) :: ([]:List Int)))) != zz0)=false) →((v_smp p0) ∧(((List.length (jaa p1 8))≤4) ∧((v_c8 (jaa p1 8)) ∧((v_mb (jcb p0 p1)) ∧((v_wu (v_w (jaB (jcb p0 p1)))) ∧((((((jcj p0 p1).2.1 == zz0) && (((jcj p0 p1).2.2 == zz0) && true))=true) →(K ((zz0,(jgI)),(12:Int)))) ∧(((((jcj p0 p1).2.1 == zz0) && (((jcj p0 p1).2.2 == zz0) && true))=false) →(∃ n0,(jaX (fun (y1:(Int×tQC)) k2 => ((((decide (y1.1 < (((jaa p1 8).length:Nat):Int)))=true) →(∃ n3,(jaX (fun (y4:(Int×tQE)) k5 => ((((decide (y4.1 < (((jaa p1 8).length:Nat):Int)))=true) →((zz0≤y4.1) ∧((y4.1 < 4) ∧((zz0≤y4.1) ∧((y4.1 < 4) ∧((zz0≤y1.1) ∧((y1.1 < 4) ∧(k5 ((wi (y4.1 + zz1)),((cond ((decide (y1.1 = zz0)) && (decide (y4.1 = zz0))) (jca p0 p1 y4) y4.2.1),((cond ((decide (y1.1 = zz1)) && (decide (y4.1 = zz0))) (jca p0 p1 y4) y4.2.2.1),((cond ((decide (y1.1 = zz2)) && (decide (y4.1 = zz0))) (jca p0 p1 y4) y4.2.2.2.1),((cond ((decide (y1.1 = zz3)) && (decide (y4.1 = zz0))) (jca p0 p1 y4) y4.2.2.2.2.1),((cond ((decide (y1.1 = zz0)) && (decide (y4.1 = zz1))) (jca p0 p1 y4) y4.2.2.2.2.2.1),((cond ((decide (y1.1 = zz1)) && (decide (y4.1 = zz1))) (jca p0 p1 y4) y4.2.2.2.2.2.2.1),((cond ((decide (y1.1 = zz2)) && (decide (y4.1 = zz1))) (jca p0 p1 y4) y4.2.2.2.2.2.2.2.1),((cond ((decide (y1.1 = zz3)) && (decide (y4.1 = zz1))) (jca p0 p1 y4) y4.2.2.2.2.2.2.2.2.1),((cond ((decide (y1.1 = zz0)) && (decide (y4.1 = zz2))) (jca p0 p1 y4) y4.2.2.2.2.2.2.2.2.2.1),((cond ((decide (y1.1 = zz1)) && (decide (y4.1 = zz2))) (jca p0 p1 y4) y4.2.2.2.2.2.2.2.2.2.2.1),((cond ((decide (y1.1 = zz2)) && (decide (y4.1 = zz2))) (jca p0 p1 y4) y4.2.2.2.2.2.2.2.2.2.2.2.1),((cond ((decide (y1.1 = zz3)) && (decide (y4.1 = zz2))) (jca p0 p1 y4) y4.2.2.2.2.2.2.2.2.2.2.2.2.1),((cond ((decide (y1.1 = zz0)) && (decide (y4.1 = zz3))) (jca p0 p1 y4) y4.2.2.2.2.2.2.2.2.2.2.2.2.2.1),((cond ((decide (y1.1 = zz1)) && (decide (y4.1 = zz3))) (jca p0 p1 y4) y4.2.2.2.2.2.2.2.2.2.2.2.2.2.2.1),((cond ((decide (y1.1 = zz2)) && (decide (y4.1 = zz3))) (jca p0 p1 y4) y4.2.2.2.2.2.2.2.2.2.2.2.2.2.2.2.1),(cond ((decide (y1.1 = zz3)) && (decide (y4.1 = zz3))) (jca p0 p1 y4) y4.2.2.2.2.2.2.2.2.2.2.2.2.2.2.2.2))))))))))))))))))))))))) ∧(((decide (y4.1 < (((jaa p1 8).length:Nat):Int)))=false) →((v_mb (jb1 y4)) ∧((zz0≤y1.1) ∧((y1.1 < 4) ∧((zz0≤y1.1) ∧((y1.1 < 4) ∧((v_wu (je4 y1 y4)) ∧(((jcj p0 p1).2.2 ≠ zz0) ∧(((zz0≤(Int.tmod (jaq (je4 y1 y4)).2.1 (jcj p0 p1).2.2)) ∧((Int.tmod (jaq (je4 y1 y4)).2.1 (jcj p0 p1).2.2) < (jcj p0 p1).2.2)) ∧(((zz0≤(jaq (je4 y1 y4)).2.2) ∧((jaq (je4 y1 y4)).2.2 < 18446744073709551616)) ∧(((jcj p0 p1).2.2 < 18446744073709551616) ∧(((zz0≤y1.2.1) ∧(y1.2.1 < 18446744073709551616)) ∧(((zz0≤(jmd p0 p1 y1 y4)) ∧((jmd p0 p1 y1 y4) < 18446744073709551616)) ∧(k2 ((wi (y1.1 + zz1)),((ja3 y1.2.1 (jmd p0 p1 y1 y4)),((cond (decide (y1.1 = zz0)) (v_w (jaB (jb1 y4))).1 y1.2.2.1),((cond (decide (y1.1 = zz0)) (v_w (jaB (jb1 y4))).2 y1.2.2.2.1),((cond (decide (y1.1 = zz1)) (v_w (jaB (jb1 y4))).1 y1.2.2.2.2.1),((cond (decide (y1.1 = zz1)) (v_w (jaB (jb1 y4))).2 y1.2.2.2.2.2.1),((cond (decide (y1.1 = zz2)) (v_w (jaB (jb1 y4))).1 y1.2.2.2.2.2.2.1),((cond (decide (y1.1 = zz2)) (v_w (jaB (jb1 y4))).2 y1.2.2.2.2.2.2.2.1),((cond (decide (y1.1 = zz3)) (v_w (jaB (jb1 y4))).1 y1.2.2.2.2.2.2.2.2.1),(cond (decide (y1.1 = zz3)) (v_w (jaB (jb1 y4))).2 y1.2.2.2.2.2.2.2.2.2)))))))))))))))))))))))))) n3 (zz0,((jcb p0 p1).1.1,((jcb p0 p1).1.2.1,((jcb p0 p1).1.2.2.1,((jcb p0 p1).1.2.2.2,((jcb p0 p1).2.1.1,((jcb p0 p1).2.1.2.1,((jcb p0 p1).2.1.2.2.1,((jcb p0 p1).2.1.2.2.2,((jcb p0 p1).2.2.1.1,((jcb p0 p1).2.2.1.2.1,((jcb p0 p1).2.2.1.2.2.1,((jcb p0 p1).2.2.1.2.2.2,(jcb p0 p1).2.2.2)))))))))))))))) ∧(((decide (y1.1 < (((jaa p1 8).length:Nat):Int)))=false) →((v_wu (jcj p0 p1).2) ∧(((zz0 < y1.2.1) ∧(y1.2.1 < 18446744073709551616)) ∧(∃ n6,(jaX (fun (y7:(Int×(Bool×tQC))) k8 => ((((decide (y7.1 < (((jaa p1 8).length:Nat):Int)))=true) →((zz0≤y7.1) ∧((y7.1 < (((jaa p1 8).length:Nat):Int)) ∧((zz0≤y7.1) ∧((y7.1 < 4) ∧((v_wu ((List.getD (y1.2.2.1 :: (y1.2.2.2.2.1 :: (y1.2.2.2.2.2.2.1 :: (y1.2.2.2.2.2.2.2.2.1 :: ([]:List Int))))) y7.1.toNat zz0),(List.getD (y1.2.2.2.1 :: (y1.2.2.2.2.2.1 :: (y1.2.2.2.2.2.2.2.1 :: (y1.2.2.2.2.2.2.2.2.2 :: ([]:List Int))))) y7.1.toNat zz0))) ∧((v_wu (jbh y1 y7).2) ∧(((zz0 < y1.2.1) ∧(y1.2.1 < 18446744073709551616)) ∧((y7.2.1 = y7.2.1) ∧((zz0≤(jbi p1 y7)) ∧(((jbi p1 y7) < 8) ∧((((jbh y1 y7).1 = true) →((zz0≤(jbi p1 y7)) ∧(((jbi p1 y7) < 8) ∧(k8 ((wi (y7.1 + zz1)),((cond y7.2.1 (jaO (jbh y1 y7).2 y1.2.1).2 false),(y7.2.2.1,((cond (decide ((jbi p1 y7)=zz0)) (wi (zz0 - (wi (jaO (jbh y1 y7).2 y1.2.1).1))) (cond (decide ((jbi p1 y7)=zz0)) (wi (jaO (jbh y1 y7).2 y1.2.1).1) y7.2.2.2.1)),((cond (decide ((jbi p1 y7)=zz1)) (wi (zz0 - (wi (jaO (jbh y1 y7).2 y1.2.1).1))) (cond (decide ((jbi p1 y7)=zz1)) (wi (jaO (jbh y1 y7).2 y1.2.1).1) y7.2.2.2.2.1)),((cond (decide ((jbi p1 y7)=zz2)) (wi (zz0 - (wi (jaO (jbh y1 y7).2 y1.2.1).1))) (cond (decide ((jbi p1 y7)=zz2)) (wi (jaO (jbh y1 y7).2 y1.2.1).1) y7.2.2.2.2.2.1)),((cond (decide ((jbi p1 y7)=zz3)) (wi (zz0 - (wi (jaO (jbh y1 y7).2 y1.2.1).1))) (cond (decide ((jbi p1 y7)=zz3)) (wi (jaO (jbh y1 y7).2 y1.2.1).1) y7.2.2.2.2.2.2.1)),((cond (decide ((jbi p1 y7)=(4:Int))) (wi (zz0 - (wi (jaO (jbh y1 y7).2 y1.2.1).1))) (cond (decide ((jbi p1 y7)=(4:Int))) (wi (jaO (jbh y1 y7).2 y1.2.1).1) y7.2.2.2.2.2.2.2.1)),((cond (decide ((jbi p1 y7)=(5:Int))) (wi (zz0 - (wi (jaO (jbh y1 y7).2 y1.2.1).1))) (cond (decide ((jbi p1 y7)=(5:Int))) (wi (jaO (jbh y1 y7).2 y1.2.1).1) y7.2.2.2.2.2.2.2.2.1)),((cond (decide ((jbi p1 y7)=(6:Int))) (wi (zz0 - (wi (jaO (jbh y1 y7).2 y1.2.1).1))) (cond (decide ((jbi p1 y7)=(6:Int))) (wi (jaO (jbh y1 y7).2 y1.2.1).1) y7.2.2.2.2.2.2.2.2.2.1)),(cond (decide ((jbi p1 y7)=(7:Int))) (wi (zz0 - (wi (jaO (jbh y1 y7).2 y1.2.1).1))) (cond (decide ((jbi p1 y7)=(7:Int))) (wi (jaO (jbh y1 y7).2 y1.2.1).1) y7.2.2.2.2.2.2.2.2.2.2)))))))))))))))) ∧(((jbh y1 y7).1 = false) →(k8 ((wi (y7.1 + zz1)),((cond y7.2.1 (jaO (jbh y1 y7).2 y1.2.1).2 false),(y7.2.2.1,((cond (decide ((jbi p1 y7)=zz0)) (wi (jaO (jbh y1 y7).2 y1.2.1).1) y7.2.2.2.1),((cond (decide ((jbi p1 y7)=zz1)) (wi (jaO (jbh y1 y7).2 y1.2.1).1) y7.2.2.2.2.1),((cond (decide ((jbi p1 y7)=zz2)) (wi (jaO (jbh y1 y7).2 y1.2.1).1) y7.2.2.2.2.2.1),((cond (decide ((jbi p1 y7)=zz3)) (wi (jaO (jbh y1 y7).2 y1.2.1).1) y7.2.2.2.2.2.2.1),((cond (decide ((jbi p1 y7)=(4:Int))) (wi (jaO (jbh y1 y7).2 y1.2.1).1) y7.2.2.2.2.2.2.2.1),((cond (decide ((jbi p1 y7)=(5:Int))) (wi (jaO (jbh y1 y7).2 y1.2.1).1) y7.2.2.2.2.2.2.2.2.1),((cond (decide ((jbi p1 y7)=(6:Int))) (wi (jaO (jbh y1 y7).2 y1.2.1).1) y7.2.2.2.2.2.2.2.2.2.1),(cond (decide ((jbi p1 y7)=(7:Int))) (wi (jaO (jbh y1 y7).2 y1.2.1).1) y7.2.2.2.2.2.2.2.2.2.2))))))))))))))))))))))))) ∧(((decide (y7.1 < (((jaa p1 8).length:Nat):Int)))=false) →((((!y7.2.1)=true) →(K ((zz0,(jgI)),(8:Int)))) ∧(((!y7.2.1)=false) →(K (y7.2.2,zz0))))))) n6 (zz0,((jaO (jcj p0 p1).2 y1.2.1).2,((wi (jaO (jcj p0 p1).2 y1.2.1).1),(jgI))))))))))) n0 (zz0,((jcj p0 p1).2.2,(jgI)))))))))))))))
theorem jBc (p0:tQF) (p1:Int) (K:(tQC×Int)→Prop):tfn F_Z0 A_Z0 C_Z0 P_Z0 R_Z0 (p0,p1) K = w_Z0 p0 p1 K := by kernel_rfl
abbrev jcc (y4:(Int×tQE)) := (v_w (jaB ((y4.2.1,(y4.2.2.1,(y4.2.2.2.1,y4.2.2.2.2.1))),((y4.2.2.2.2.2.1,(y4.2.2.2.2.2.2.1,(y4.2.2.2.2.2.2.2.1,y4.2.2.2.2.2.2.2.2.1))),((y4.2.2.2.2.2.2.2.2.2.1,(y4.2.2.2.2.2.2.2.2.2.2.1,(y4.2.2.2.2.2.2.2.2.2.2.2.1,y4.2.2.2.2.2.2.2.2.2.2.2.2.1))),y4.2.2.2.2.2.2.2.2.2.2.2.2.2)))))
abbrev jcd (p0:tQF) (p1:Int) (y4:(Int×tQE)) := (List.getD ((ja4 (jba p0 (jaa p1 8) (List.length (jaa p1 8)))).1 :: ((ja4 (jba p0 (jaa p1 8) (List.length (jaa p1 8)))).2.1 :: ((ja4 (jba p0 (jaa p1 8) (List.length (jaa p1 8)))).2.2.1 :: ((ja4 (jba p0 (jaa p1 8) (List.length (jaa p1 8)))).2.2.2 :: ([]:List Int))))) y4.1.toNat (0:Int))
abbrev jrK (y2:(Int×tQC)) (y4:(Int×tQE)) := (jaq ((List.getD ((cond (decide (y2.1 = (0:Int))) (jcc y4).1 y2.2.2.1) :: ((cond (decide (y2.1 = (1:Int))) (jcc y4).1 y2.2.2.2.2.1) :: ((cond (decide (y2.1 = (2:Int))) (jcc y4).1 y2.2.2.2.2.2.2.1) :: ((cond (decide (y2.1 = (3:Int))) (jcc y4).1 y2.2.2.2.2.2.2.2.2.1) :: ([]:List Int))))) y2.1.toNat (0:Int)),(List.getD ((cond (decide (y2.1 = (0:Int))) (jcc y4).2 y2.2.2.2.1) :: ((cond (decide (y2.1 = (1:Int))) (jcc y4).2 y2.2.2.2.2.2.1) :: ((cond (decide (y2.1 = (2:Int))) (jcc y4).2 y2.2.2.2.2.2.2.2.1) :: ((cond (decide (y2.1 = (3:Int))) (jcc y4).2 y2.2.2.2.2.2.2.2.2.2) :: ([]:List Int))))) y2.1.toNat (0:Int))))
def jc1 (p0:tQF) (p1:Int) (y2:(Int×tQC)) (y4:(Int×tQE)):(Int×tQE) ⊕ ((Int×tQC) ⊕ (tQC×Int)) := (cond (decide (y4.1 < (((jaa p1 8).length:Nat):Int))) (Sum.inl ((IntKind.i64.wrap (y4.1 + 1)),((cond ((decide (y2.1 = (0:Int))) && (decide (y4.1 = (0:Int)))) (jcd p0 p1 y4) y4.2.1),((cond ((decide (y2.1 = (1:Int))) && (decide (y4.1 = (0:Int)))) (jcd p0 p1 y4) y4.2.2.1),((cond ((decide (y2.1 = (2:Int))) && (decide (y4.1 = (0:Int)))) (jcd p0 p1 y4) y4.2.2.2.1),((cond ((decide (y2.1 = (3:Int))) && (decide (y4.1 = (0:Int)))) (jcd p0 p1 y4) y4.2.2.2.2.1),((cond ((decide (y2.1 = (0:Int))) && (decide (y4.1 = (1:Int)))) (jcd p0 p1 y4) y4.2.2.2.2.2.1),((cond ((decide (y2.1 = (1:Int))) && (decide (y4.1 = (1:Int)))) (jcd p0 p1 y4) y4.2.2.2.2.2.2.1),((cond ((decide (y2.1 = (2:Int))) && (decide (y4.1 = (1:Int)))) (jcd p0 p1 y4) y4.2.2.2.2.2.2.2.1),((cond ((decide (y2.1 = (3:Int))) && (decide (y4.1 = (1:Int)))) (jcd p0 p1 y4) y4.2.2.2.2.2.2.2.2.1),((cond ((decide (y2.1 = (0:Int))) && (decide (y4.1 = (2:Int)))) (jcd p0 p1 y4) y4.2.2.2.2.2.2.2.2.2.1),((cond ((decide (y2.1 = (1:Int))) && (decide (y4.1 = (2:Int)))) (jcd p0 p1 y4) y4.2.2.2.2.2.2.2.2.2.2.1),((cond ((decide (y2.1 = (2:Int))) && (decide (y4.1 = (2:Int)))) (jcd p0 p1 y4) y4.2.2.2.2.2.2.2.2.2.2.2.1),((cond ((decide (y2.1 = (3:Int))) && (decide (y4.1 = (2:Int)))) (jcd p0 p1 y4) y4.2.2.2.2.2.2.2.2.2.2.2.2.1),((cond ((decide (y2.1 = (0:Int))) && (decide (y4.1 = (3:Int)))) (jcd p0 p1 y4) y4.2.2.2.2.2.2.2.2.2.2.2.2.2.1),((cond ((decide (y2.1 = (1:Int))) && (decide (y4.1 = (3:Int)))) (jcd p0 p1 y4) y4.2.2.2.2.2.2.2.2.2.2.2.2.2.2.1),((cond ((decide (y2.1 = (2:Int))) && (decide (y4.1 = (3:Int)))) (jcd p0 p1 y4) y4.2.2.2.2.2.2.2.2.2.2.2.2.2.2.2.1),(cond ((decide (y2.1 = (3:Int))) && (decide (y4.1 = (3:Int)))) (jcd p0 p1 y4) y4.2.2.2.2.2.2.2.2.2.2.2.2.2.2.2.2)))))))))))))))))) (Sum.inr (Sum.inl ((IntKind.i64.wrap (y2.1 + 1)),((ja3 y2.2.1 ((((Int.tmod (jrK y2 y4).2.1 (jaq (v_w (jaB (jav (jat p0 (jaa p1 8) (List.length (jaa p1 8))))))).2.2) * 18446744073709551616) + (jrK y2 y4).2.2) % (jaq (v_w (jaB (jav (jat p0 (jaa p1 8) (List.length (jaa p1 8))))))).2.2)),((cond (decide (y2.1 = (0:Int))) (jcc y4).1 y2.2.2.1),((cond (decide (y2.1 = (0:Int))) (jcc y4).2 y2.2.2.2.1),((cond (decide (y2.1 = (1:Int))) (jcc y4).1 y2.2.2.2.2.1),((cond (decide (y2.1 = (1:Int))) (jcc y4).2 y2.2.2.2.2.2.1),((cond (decide (y2.1 = (2:Int))) (jcc y4).1 y2.2.2.2.2.2.2.1),((cond (decide (y2.1 = (2:Int))) (jcc y4).2 y2.2.2.2.2.2.2.2.1),((cond (decide (y2.1 = (3:Int))) (jcc y4).1 y2.2.2.2.2.2.2.2.2.1),(cond (decide (y2.1 = (3:Int))) (jcc y4).2 y2.2.2.2.2.2.2.2.2.2)))))))))))))
abbrev jdK (y2:(Int×tQC)) (y4:(Int×tQE)) := ((List.getD ((cond (decide (y2.1 = (0:Int))) (v_w (jaB ((y4.2.1,(y4.2.2.1,(y4.2.2.2.1,y4.2.2.2.2.1))),((y4.2.2.2.2.2.1,(y4.2.2.2.2.2.2.1,(y4.2.2.2.2.2.2.2.1,y4.2.2.2.2.2.2.2.2.1))),((y4.2.2.2.2.2.2.2.2.2.1,(y4.2.2.2.2.2.2.2.2.2.2.1,(y4.2.2.2.2.2.2.2.2.2.2.2.1,y4.2.2.2.2.2.2.2.2.2.2.2.2.1))),y4.2.2.2.2.2.2.2.2.2.2.2.2.2))))).1 y2.2.2.1) :: ((cond (decide (y2.1 = (1:Int))) (v_w (jaB ((y4.2.1,(y4.2.2.1,(y4.2.2.2.1,y4.2.2.2.2.1))),((y4.2.2.2.2.2.1,(y4.2.2.2.2.2.2.1,(y4.2.2.2.2.2.2.2.1,y4.2.2.2.2.2.2.2.2.1))),((y4.2.2.2.2.2.2.2.2.2.1,(y4.2.2.2.2.2.2.2.2.2.2.1,(y4.2.2.2.2.2.2.2.2.2.2.2.1,y4.2.2.2.2.2.2.2.2.2.2.2.2.1))),y4.2.2.2.2.2.2.2.2.2.2.2.2.2))))).1 y2.2.2.2.2.1) :: ((cond (decide (y2.1 = (2:Int))) (v_w (jaB ((y4.2.1,(y4.2.2.1,(y4.2.2.2.1,y4.2.2.2.2.1))),((y4.2.2.2.2.2.1,(y4.2.2.2.2.2.2.1,(y4.2.2.2.2.2.2.2.1,y4.2.2.2.2.2.2.2.2.1))),((y4.2.2.2.2.2.2.2.2.2.1,(y4.2.2.2.2.2.2.2.2.2.2.1,(y4.2.2.2.2.2.2.2.2.2.2.2.1,y4.2.2.2.2.2.2.2.2.2.2.2.2.1))),y4.2.2.2.2.2.2.2.2.2.2.2.2.2))))).1 y2.2.2.2.2.2.2.1) :: ((cond (decide (y2.1 = (3:Int))) (v_w (jaB ((y4.2.1,(y4.2.2.1,(y4.2.2.2.1,y4.2.2.2.2.1))),((y4.2.2.2.2.2.1,(y4.2.2.2.2.2.2.1,(y4.2.2.2.2.2.2.2.1,y4.2.2.2.2.2.2.2.2.1))),((y4.2.2.2.2.2.2.2.2.2.1,(y4.2.2.2.2.2.2.2.2.2.2.1,(y4.2.2.2.2.2.2.2.2.2.2.2.1,y4.2.2.2.2.2.2.2.2.2.2.2.2.1))),y4.2.2.2.2.2.2.2.2.2.2.2.2.2))))).1 y2.2.2.2.2.2.2.2.2.1) :: ([]:List Int))))) y2.1.toNat (0:Int)),(List.getD ((cond (decide (y2.1 = (0:Int))) (v_w (jaB ((y4.2.1,(y4.2.2.1,(y4.2.2.2.1,y4.2.2.2.2.1))),((y4.2.2.2.2.2.1,(y4.2.2.2.2.2.2.1,(y4.2.2.2.2.2.2.2.1,y4.2.2.2.2.2.2.2.2.1))),((y4.2.2.2.2.2.2.2.2.2.1,(y4.2.2.2.2.2.2.2.2.2.2.1,(y4.2.2.2.2.2.2.2.2.2.2.2.1,y4.2.2.2.2.2.2.2.2.2.2.2.2.1))),y4.2.2.2.2.2.2.2.2.2.2.2.2.2))))).2 y2.2.2.2.1) :: ((cond (decide (y2.1 = (1:Int))) (v_w (jaB ((y4.2.1,(y4.2.2.1,(y4.2.2.2.1,y4.2.2.2.2.1))),((y4.2.2.2.2.2.1,(y4.2.2.2.2.2.2.1,(y4.2.2.2.2.2.2.2.1,y4.2.2.2.2.2.2.2.2.1))),((y4.2.2.2.2.2.2.2.2.2.1,(y4.2.2.2.2.2.2.2.2.2.2.1,(y4.2.2.2.2.2.2.2.2.2.2.2.1,y4.2.2.2.2.2.2.2.2.2.2.2.2.1))),y4.2.2.2.2.2.2.2.2.2.2.2.2.2))))).2 y2.2.2.2.2.2.1) :: ((cond (decide (y2.1 = (2:Int))) (v_w (jaB ((y4.2.1,(y4.2.2.1,(y4.2.2.2.1,y4.2.2.2.2.1))),((y4.2.2.2.2.2.1,(y4.2.2.2.2.2.2.1,(y4.2.2.2.2.2.2.2.1,y4.2.2.2.2.2.2.2.2.1))),((y4.2.2.2.2.2.2.2.2.2.1,(y4.2.2.2.2.2.2.2.2.2.2.1,(y4.2.2.2.2.2.2.2.2.2.2.2.1,y4.2.2.2.2.2.2.2.2.2.2.2.2.1))),y4.2.2.2.2.2.2.2.2.2.2.2.2.2))))).2 y2.2.2.2.2.2.2.2.1) :: ((cond (decide (y2.1 = (3:Int))) (v_w (jaB ((y4.2.1,(y4.2.2.1,(y4.2.2.2.1,y4.2.2.2.2.1))),((y4.2.2.2.2.2.1,(y4.2.2.2.2.2.2.1,(y4.2.2.2.2.2.2.2.1,y4.2.2.2.2.2.2.2.2.1))),((y4.2.2.2.2.2.2.2.2.2.1,(y4.2.2.2.2.2.2.2.2.2.2.1,(y4.2.2.2.2.2.2.2.2.2.2.2.1,y4.2.2.2.2.2.2.2.2.2.2.2.2.1))),y4.2.2.2.2.2.2.2.2.2.2.2.2.2))))).2 y2.2.2.2.2.2.2.2.2.2) :: ([]:List Int))))) y2.1.toNat (0:Int)))
abbrev jdL (p0:tQF) (p1:Int) := (jaq (v_w (jaB (jav (jat p0 (jaa p1 8) (List.length (jaa p1 8)))))))
abbrev je5 (p0:tQF) (p1:Int) (y2:(Int×tQC)) (y4:(Int×tQE)):List Prop := [(((decide (y4.1 < (((jaa p1 8).length:Nat):Int)))=true)→((0:Int)≤y4.1)),(((decide (y4.1 < (((jaa p1 8).length:Nat):Int)))=true)→(y4.1 < 4)),(((decide (y4.1 < (((jaa p1 8).length:Nat):Int)))=true)→((0:Int)≤y2.1)),(((decide (y4.1 < (((jaa p1 8).length:Nat):Int)))=true)→(y2.1 < 4)),(((decide (y4.1 < (((jaa p1 8).length:Nat):Int)))=false)→(v_mb ((y4.2.1,(y4.2.2.1,(y4.2.2.2.1,y4.2.2.2.2.1))),((y4.2.2.2.2.2.1,(y4.2.2.2.2.2.2.1,(y4.2.2.2.2.2.2.2.1,y4.2.2.2.2.2.2.2.2.1))),((y4.2.2.2.2.2.2.2.2.2.1,(y4.2.2.2.2.2.2.2.2.2.2.1,(y4.2.2.2.2.2.2.2.2.2.2.2.1,y4.2.2.2.2.2.2.2.2.2.2.2.2.1))),y4.2.2.2.2.2.2.2.2.2.2.2.2.2))))),(((decide (y4.1 < (((jaa p1 8).length:Nat):Int)))=false)→((0:Int)≤y2.1)),(((decide (y4.1 < (((jaa p1 8).length:Nat):Int)))=false)→(y2.1 < 4)),(((decide (y4.1 < (((jaa p1 8).length:Nat):Int)))=false)→(v_wu (jdK y2 y4))),(((decide (y4.1 < (((jaa p1 8).length:Nat):Int)))=false)→((jdL p0 p1).2.2 ≠ (0:Int))),(((decide (y4.1 < (((jaa p1 8).length:Nat):Int)))=false)→(((0:Int)≤(Int.tmod (jaq (jdK y2 y4)).2.1 (jdL p0 p1).2.2))∧((Int.tmod (jaq (jdK y2 y4)).2.1 (jdL p0 p1).2.2) < (jdL p0 p1).2.2))),(((decide (y4.1 < (((jaa p1 8).length:Nat):Int)))=false)→(((0:Int)≤(jaq (jdK y2 y4)).2.2)∧((jaq (jdK y2 y4)).2.2 < 18446744073709551616))),(((decide (y4.1 < (((jaa p1 8).length:Nat):Int)))=false)→((jdL p0 p1).2.2 < 18446744073709551616)),(((decide (y4.1 < (((jaa p1 8).length:Nat):Int)))=false)→(((0:Int)≤y2.2.1)∧(y2.2.1 < 18446744073709551616))),(((decide (y4.1 < (((jaa p1 8).length:Nat):Int)))=false)→(((0:Int)≤((((Int.tmod (jaq (jdK y2 y4)).2.1 (jdL p0 p1).2.2) * 18446744073709551616) + (jaq (jdK y2 y4)).2.2) % (jdL p0 p1).2.2))∧(((((Int.tmod (jaq (jdK y2 y4)).2.1 (jdL p0 p1).2.2) * 18446744073709551616) + (jaq (jdK y2 y4)).2.2) % (jdL p0 p1).2.2) < 18446744073709551616)))]
abbrev jbl (y2:(Int×tQC)) (y6:(Int×(Bool×tQC))) := (jaO (jaq ((List.getD (y2.2.2.1 :: (y2.2.2.2.2.1 :: (y2.2.2.2.2.2.2.1 :: (y2.2.2.2.2.2.2.2.2.1 :: ([]:List Int))))) y6.1.toNat (0:Int)),(List.getD (y2.2.2.2.1 :: (y2.2.2.2.2.2.1 :: (y2.2.2.2.2.2.2.2.1 :: (y2.2.2.2.2.2.2.2.2.2 :: ([]:List Int))))) y6.1.toNat (0:Int)))).2 y2.2.1)
def jc2 (_p0:tQF) (p1:Int) (y2:(Int×tQC)) (y6:(Int×(Bool×tQC))):(Int×(Bool×tQC)) ⊕ ((Int×tQC) ⊕ (tQC×Int)) := (cond (decide (y6.1 < (((jaa p1 8).length:Nat):Int))) (cond (jaq ((List.getD (y2.2.2.1 :: (y2.2.2.2.2.1 :: (y2.2.2.2.2.2.2.1 :: (y2.2.2.2.2.2.2.2.2.1 :: ([]:List Int))))) y6.1.toNat (0:Int)),(List.getD (y2.2.2.2.1 :: (y2.2.2.2.2.2.1 :: (y2.2.2.2.2.2.2.2.1 :: (y2.2.2.2.2.2.2.2.2.2 :: ([]:List Int))))) y6.1.toNat (0:Int)))).1 (Sum.inl ((IntKind.i64.wrap (y6.1 + 1)),((cond y6.2.1 (jbl y2 y6).2 false),(y6.2.2.1,((cond (decide ((List.getD (jaa p1 8) y6.1.toNat (0:Int))=(0:Int))) (IntKind.i64.wrap ((0:Int) - (IntKind.i64.wrap (jbl y2 y6).1))) (cond (decide ((List.getD (jaa p1 8) y6.1.toNat (0:Int))=(0:Int))) (IntKind.i64.wrap (jbl y2 y6).1) y6.2.2.2.1)),((cond (decide ((List.getD (jaa p1 8) y6.1.toNat (0:Int))=(1:Int))) (IntKind.i64.wrap ((0:Int) - (IntKind.i64.wrap (jbl y2 y6).1))) (cond (decide ((List.getD (jaa p1 8) y6.1.toNat (0:Int))=(1:Int))) (IntKind.i64.wrap (jbl y2 y6).1) y6.2.2.2.2.1)),((cond (decide ((List.getD (jaa p1 8) y6.1.toNat (0:Int))=(2:Int))) (IntKind.i64.wrap ((0:Int) - (IntKind.i64.wrap (jbl y2 y6).1))) (cond (decide ((List.getD (jaa p1 8) y6.1.toNat (0:Int))=(2:Int))) (IntKind.i64.wrap (jbl y2 y6).1) y6.2.2.2.2.2.1)),((cond (decide ((List.getD (jaa p1 8) y6.1.toNat (0:Int))=(3:Int))) (IntKind.i64.wrap ((0:Int) - (IntKind.i64.wrap (jbl y2 y6).1))) (cond (decide ((List.getD (jaa p1 8) y6.1.toNat (0:Int))=(3:Int))) (IntKind.i64.wrap (jbl y2 y6).1) y6.2.2.2.2.2.2.1)),((cond (decide ((List.getD (jaa p1 8) y6.1.toNat (0:Int))=(4:Int))) (IntKind.i64.wrap ((0:Int) - (IntKind.i64.wrap (jbl y2 y6).1))) (cond (decide ((List.getD (jaa p1 8) y6.1.toNat (0:Int))=(4:Int))) (IntKind.i64.wrap (jbl y2 y6).1) y6.2.2.2.2.2.2.2.1)),((cond (decide ((List.getD (jaa p1 8) y6.1.toNat (0:Int))=(5:Int))) (IntKind.i64.wrap ((0:Int) - (IntKind.i64.wrap (jbl y2 y6).1))) (cond (decide ((List.getD (jaa p1 8) y6.1.toNat (0:Int))=(5:Int))) (IntKind.i64.wrap (jbl y2 y6).1) y6.2.2.2.2.2.2.2.2.1)),((cond (decide ((List.getD (jaa p1 8) y6.1.toNat (0:Int))=(6:Int))) (IntKind.i64.wrap ((0:Int) - (IntKind.i64.wrap (jbl y2 y6).1))) (cond (decide ((List.getD (jaa p1 8) y6.1.toNat (0:Int))=(6:Int))) (IntKind.i64.wrap (jbl y2 y6).1) y6.2.2.2.2.2.2.2.2.2.1)),(cond (decide ((List.getD (jaa p1 8) y6.1.toNat (0:Int))=(7:Int))) (IntKind.i64.wrap ((0:Int) - (IntKind.i64.wrap (jbl y2 y6).1))) (cond (decide ((List.getD (jaa p1 8) y6.1.toNat (0:Int))=(7:Int))) (IntKind.i64.wrap (jbl y2 y6).1) y6.2.2.2.2.2.2.2.2.2.2))))))))))))) (Sum.inl ((IntKind.i64.wrap (y6.1 + 1)),((cond y6.2.1 (jbl y2 y6).2 false),(y6.2.2.1,((cond (decide ((List.getD (jaa p1 8) y6.1.toNat (0:Int))=(0:Int))) (IntKind.i64.wrap (jbl y2 y6).1) y6.2.2.2.1),((cond (decide ((List.getD (jaa p1 8) y6.1.toNat (0:Int))=(1:Int))) (IntKind.i64.wrap (jbl y2 y6).1) y6.2.2.2.2.1),((cond (decide ((List.getD (jaa p1 8) y6.1.toNat (0:Int))=(2:Int))) (IntKind.i64.wrap (jbl y2 y6).1) y6.2.2.2.2.2.1),((cond (decide ((List.getD (jaa p1 8) y6.1.toNat (0:Int))=(3:Int))) (IntKind.i64.wrap (jbl y2 y6).1) y6.2.2.2.2.2.2.1),((cond (decide ((List.getD (jaa p1 8) y6.1.toNat (0:Int))=(4:Int))) (IntKind.i64.wrap (jbl y2 y6).1) y6.2.2.2.2.2.2.2.1),((cond (decide ((List.getD (jaa p1 8) y6.1.toNat (0:Int))=(5:Int))) (IntKind.i64.wrap (jbl y2 y6).1) y6.2.2.2.2.2.2.2.2.1),((cond (decide ((List.getD (jaa p1 8) y6.1.toNat (0:Int))=(6:Int))) (IntKind.i64.wrap (jbl y2 y6).1) y6.2.2.2.2.2.2.2.2.2.1),(cond (decide ((List.getD (jaa p1 8) y6.1.toNat (0:Int))=(7:Int))) (IntKind.i64.wrap (jbl y2 y6).1) y6.2.2.2.2.2.2.2.2.2.2))))))))))))) (cond (!y6.2.1) (Sum.inr (Sum.inr (((0:Int),((0:Int),((0:Int),((0:Int),((0:Int),((0:Int),((0:Int),(0,0)))))))),(8:Int)))) (Sum.inr (Sum.inr (y6.2.2,(0:Int))))))
abbrev jfM (_p0:tQF) (p1:Int) (y2:(Int×tQC)) (y6:(Int×(Bool×tQC))):List Prop := [(((decide (y6.1 < (((jaa p1 8).length:Nat):Int)))=true)→((0:Int)≤y6.1)),(((decide (y6.1 < (((jaa p1 8).length:Nat):Int)))=true)→(y6.1 < (((jaa p1 8).length:Nat):Int))),(((decide (y6.1 < (((jaa p1 8).length:Nat):Int)))=true)→(y6.1 < 4)),(((decide (y6.1 < (((jaa p1 8).length:Nat):Int)))=true)→(v_wu ((List.getD (y2.2.2.1 :: (y2.2.2.2.2.1 :: (y2.2.2.2.2.2.2.1 :: (y2.2.2.2.2.2.2.2.2.1 :: ([]:List Int))))) y6.1.toNat (0:Int)),(List.getD (y2.2.2.2.1 :: (y2.2.2.2.2.2.1 :: (y2.2.2.2.2.2.2.2.1 :: (y2.2.2.2.2.2.2.2.2.2 :: ([]:List Int))))) y6.1.toNat (0:Int))))),(((decide (y6.1 < (((jaa p1 8).length:Nat):Int)))=true)→(v_wu (jaq ((List.getD (y2.2.2.1 :: (y2.2.2.2.2.1 :: (y2.2.2.2.2.2.2.1 :: (y2.2.2.2.2.2.2.2.2.1 :: ([]:List Int))))) y6.1.toNat (0:Int)),(List.getD (y2.2.2.2.1 :: (y2.2.2.2.2.2.1 :: (y2.2.2.2.2.2.2.2.1 :: (y2.2.2.2.2.2.2.2.2.2 :: ([]:List Int))))) y6.1.toNat (0:Int)))).2)),(((decide (y6.1 < (((jaa p1 8).length:Nat):Int)))=true)→(((0:Int) < y2.2.1)∧(y2.2.1 < 18446744073709551616))),(((decide (y6.1 < (((jaa p1 8).length:Nat):Int)))=true)→((0:Int)≤(List.getD (jaa p1 8) y6.1.toNat (0:Int)))),(((decide (y6.1 < (((jaa p1 8).length:Nat):Int)))=true)→((List.getD (jaa p1 8) y6.1.toNat (0:Int)) < 8)),(((decide (y6.1 < (((jaa p1 8).length:Nat):Int)))=true)→(((jaq ((List.getD (y2.2.2.1 :: (y2.2.2.2.2.1 :: (y2.2.2.2.2.2.2.1 :: (y2.2.2.2.2.2.2.2.2.1 :: ([]:List Int))))) y6.1.toNat (0:Int)),(List.getD (y2.2.2.2.1 :: (y2.2.2.2.2.2.1 :: (y2.2.2.2.2.2.2.2.1 :: (y2.2.2.2.2.2.2.2.2.2 :: ([]:List Int))))) y6.1.toNat (0:Int)))).1 = true)→((0:Int)≤(List.getD (jaa p1 8) y6.1.toNat (0:Int))))),(((decide (y6.1 < (((jaa p1 8).length:Nat):Int)))=true)→(((jaq ((List.getD (y2.2.2.1 :: (y2.2.2.2.2.1 :: (y2.2.2.2.2.2.2.1 :: (y2.2.2.2.2.2.2.2.2.1 :: ([]:List Int))))) y6.1.toNat (0:Int)),(List.getD (y2.2.2.2.1 :: (y2.2.2.2.2.2.1 :: (y2.2.2.2.2.2.2.2.1 :: (y2.2.2.2.2.2.2.2.2.2 :: ([]:List Int))))) y6.1.toNat (0:Int)))).1 = true)→((List.getD (jaa p1 8) y6.1.toNat (0:Int)) < 8)))]
def je6 (p0:tQF) (p1:Int) (y2:(Int×tQC)):(Int×tQC) ⊕ (tQC×Int) := (cond (decide (y2.1 < (((jaa p1 8).length:Nat):Int))) (lpv (Sum.inr (((0:Int),((0:Int),((0:Int),((0:Int),((0:Int),((0:Int),((0:Int),(0,0)))))))),(0:Int))) (jc1 p0 p1 y2) ((0:Int),((jav (jat p0 (jaa p1 8) (List.length (jaa p1 8)))).1.1,((jav (jat p0 (jaa p1 8) (List.length (jaa p1 8)))).1.2.1,((jav (jat p0 (jaa p1 8) (List.length (jaa p1 8)))).1.2.2.1,((jav (jat p0 (jaa p1 8) (List.length (jaa p1 8)))).1.2.2.2,((jav (jat p0 (jaa p1 8) (List.length (jaa p1 8)))).2.1.1,((jav (jat p0 (jaa p1 8) (List.length (jaa p1 8)))).2.1.2.1,((jav (jat p0 (jaa p1 8) (List.length (jaa p1 8)))).2.1.2.2.1,((jav (jat p0 (jaa p1 8) (List.length (jaa p1 8)))).2.1.2.2.2,((jav (jat p0 (jaa p1 8) (List.length (jaa p1 8)))).2.2.1.1,((jav (jat p0 (jaa p1 8) (List.length (jaa p1 8)))).2.2.1.2.1,((jav (jat p0 (jaa p1 8) (List.length (jaa p1 8)))).2.2.1.2.2.1,((jav (jat p0 (jaa p1 8) (List.length (jaa p1 8)))).2.2.1.2.2.2,(jav (jat p0 (jaa p1 8) (List.length (jaa p1 8)))).2.2.2)))))))))))))) (lpv (Sum.inr (((0:Int),((0:Int),((0:Int),((0:Int),((0:Int),((0:Int),((0:Int),(0,0)))))))),(0:Int))) (jc2 p0 p1 y2) ((0:Int),((jaO (jaq (v_w (jaB (jav (jat p0 (jaa p1 8) (List.length (jaa p1 8))))))).2 y2.2.1).2,((IntKind.i64.wrap (jaO (jaq (v_w (jaB (jav (jat p0 (jaa p1 8) (List.length (jaa p1 8))))))).2 y2.2.1).1),((0:Int),((0:Int),((0:Int),((0:Int),((0:Int),((0:Int),(0,0))))))))))))
abbrev jiG (p0:tQF) (p1:Int) (y2:(Int×tQC)):List Prop := [(((decide (y2.1 < (((jaa p1 8).length:Nat):Int)))=true)→(OkL (jc1 p0 p1 y2) (je5 p0 p1 y2) ((0:Int),((jav (jat p0 (jaa p1 8) (List.length (jaa p1 8)))).1.1,((jav (jat p0 (jaa p1 8) (List.length (jaa p1 8)))).1.2.1,((jav (jat p0 (jaa p1 8) (List.length (jaa p1 8)))).1.2.2.1,((jav (jat p0 (jaa p1 8) (List.length (jaa p1 8)))).1.2.2.2,((jav (jat p0 (jaa p1 8) (List.length (jaa p1 8)))).2.1.1,((jav (jat p0 (jaa p1 8) (List.length (jaa p1 8)))).2.1.2.1,((jav (jat p0 (jaa p1 8) (List.length (jaa p1 8)))).2.1.2.2.1,((jav (jat p0 (jaa p1 8) (List.length (jaa p1 8)))).2.1.2.2.2,((jav (jat p0 (jaa p1 8) (List.length (jaa p1 8)))).2.2.1.1,((jav (jat p0 (jaa p1 8) (List.length (jaa p1 8)))).2.2.1.2.1,((jav (jat p0 (jaa p1 8) (List.length (jaa p1 8)))).2.2.1.2.2.1,((jav (jat p0 (jaa p1 8) (List.length (jaa p1 8)))).2.2.1.2.2.2,(jav (jat p0 (jaa p1 8) (List.length (jaa p1 8)))).2.2.2))))))))))))))),(((decide (y2.1 < (((jaa p1 8).length:Nat):Int)))=false)→(v_wu (jaq (v_w (jaB (jav (jat p0 (jaa p1 8) (List.length (jaa p1 8))))))).2)),(((decide (y2.1 < (((jaa p1 8).length:Nat):Int)))=false)→(((0:Int) < y2.2.1)∧(y2.2.1 < 18446744073709551616))),(((decide (y2.1 < (((jaa p1 8).length:Nat):Int)))=false)→(OkL (jc2 p0 p1 y2) (jfM p0 p1 y2) ((0:Int),((jaO (jaq (v_w (jaB (jav (jat p0 (jaa p1 8) (List.length (jaa p1 8))))))).2 y2.2.1).2,((IntKind.i64.wrap (jaO (jaq (v_w (jaB (jav (jat p0 (jaa p1 8) (List.length (jaa p1 8))))))).2 y2.2.1).1),((0:Int),((0:Int),((0:Int),((0:Int),((0:Int),((0:Int),(0,0))))))))))))]
def s_Z0 (p0:tQF) (p1:Int):(tQC×Int) := (cond ((jaG ((v_cs p0).2 :: ((jaV p1) :: ([]:List Int)))) != 0) (((0:Int),((0:Int),((0:Int),((0:Int),((0:Int),((0:Int),((0:Int),(0,0)))))))),(jaG ((v_cs p0).2 :: ((jaV p1) :: ([]:List Int))))) (cond (((jaq (v_w (jaB (jav (jat p0 (jaa p1 8) (List.length (jaa p1 8))))))).2.1 == 0) && (((jaq (v_w (jaB (jav (jat p0 (jaa p1 8) (List.length (jaa p1 8))))))).2.2 == 0) && true)) (((0:Int),((0:Int),((0:Int),((0:Int),((0:Int),((0:Int),((0:Int),(0,0)))))))),(12:Int)) (lpv (((0:Int),((0:Int),((0:Int),((0:Int),((0:Int),((0:Int),((0:Int),(0,0)))))))),(0:Int)) (je6 p0 p1) ((0:Int),((jaq (v_w (jaB (jav (jat p0 (jaa p1 8) (List.length (jaa p1 8))))))).2.2,((0:Int),((0:Int),((0:Int),((0:Int),((0:Int),((0:Int),(0,0))))))))))))
abbrev jme (p0:tQF) (p1:Int):List Prop := [((((jaG ((v_cs p0).2 :: ((jaV p1) :: ([]:List Int)))) != 0)=false)→(v_smp p0)),((((jaG ((v_cs p0).2 :: ((jaV p1) :: ([]:List Int)))) != 0)=false)→((List.length (jaa p1 8))≤4)),((((jaG ((v_cs p0).2 :: ((jaV p1) :: ([]:List Int)))) != 0)=false)→(v_c8 (jaa p1 8))),((((jaG ((v_cs p0).2 :: ((jaV p1) :: ([]:List Int)))) != 0)=false)→(v_mb (jav (jat p0 (jaa p1 8) (List.length (jaa p1 8)))))),((((jaG ((v_cs p0).2 :: ((jaV p1) :: ([]:List Int)))) != 0)=false)→(v_wu (v_w (jaB (jav (jat p0 (jaa p1 8) (List.length (jaa p1 8)))))))),((((jaG ((v_cs p0).2 :: ((jaV p1) :: ([]:List Int)))) != 0)=false)→(((((jaq (v_w (jaB (jav (jat p0 (jaa p1 8) (List.length (jaa p1 8))))))).2.1 == 0) && (((jaq (v_w (jaB (jav (jat p0 (jaa p1 8) (List.length (jaa p1 8))))))).2.2 == 0) && true))=false)→(OkL (je6 p0 p1) (jiG p0 p1) ((0:Int),((jaq (v_w (jaB (jav (jat p0 (jaa p1 8) (List.length (jaa p1 8))))))).2.2,((0:Int),((0:Int),((0:Int),((0:Int),((0:Int),((0:Int),(0,0))))))))))))]
theorem d_Z0 (p0:tQF) (p1:Int) (K:(tQC×Int)→Prop) (hp:∀ p∈jme p0 p1,p) (h:K (s_Z0 p0 p1)):w_Z0 p0 p1 K := by
 unfold w_Z0
 unfold s_Z0 at h
 obtain ⟨hp0,hp1,hp2,hp3,hp4,hp5,_⟩ := jah hp
 exact ⟨(jf5 2 rfl (by decide)),(br' h (fun e0 h => h)
  (fun e0 h => ⟨(hp0 e0),(hp1 e0),(hp2 e0),(hp3 e0),(hp4 e0),(br' h (fun e1 h => h)
  (fun e1 h => (ja5 (hp5 e0 e1) h (fun y2 k2 hp h => by
 unfold je6 at h; obtain ⟨hp0,hp1,hp2,hp3,_⟩ := jah hp
 exact (br' h (fun e3 h => (ja5 (hp0 e3) h (fun y4 k4 hp h => by
 unfold jc1 at h; obtain ⟨hp0,hp1,hp2,hp3,hp4,hp5,hp6,hp7,hp8,hp9,hp10,hp11,hp12,hp13,_⟩ := jah hp
 exact (br' h (fun e5 h => ⟨(hp0 e5),(hp1 e5),(hp0 e5),(hp1 e5),(hp2 e5),(hp3 e5),h⟩)
  (fun e5 h => ⟨(hp4 e5),(hp5 e5),(hp6 e5),(hp5 e5),(hp6 e5),(hp7 e5),(hp8 e5),(hp9 e5),(hp10 e5),(hp11 e5),(hp12 e5),(hp13 e5),h⟩)))))
  (fun e3 h => ⟨(hp1 e3),(hp2 e3),(ja5 (hp3 e3) h (fun y6 k6 hp h => by
 unfold jc2 at h; obtain ⟨hp0,hp1,hp2,hp3,hp4,hp5,hp6,hp7,hp8,hp9,_⟩ := jah hp
 exact (br' h (fun e7 h => ⟨(hp0 e7),(hp1 e7),(hp0 e7),(hp2 e7),(hp3 e7),(hp4 e7),(hp5 e7),rfl,(hp6 e7),(hp7 e7),(br' h (fun e8 h => ⟨(hp8 e7 e8),(hp9 e7 e8),h⟩)
  (fun e8 h => h))⟩)
  (fun e7 h => (br' h (fun e9 h => h)
  (fun e9 h => h))))))⟩))))))⟩))⟩
theorem jiH {a b:Int} (h:∀ t:Int,0≤2 * t * a + b):a = 0 := by
 have h1 := h (b + 1)
 have h2 := h (-(b + 1))
 have hb:0≤b := by have := h 0; simpa using this
 rcases Int.lt_trichotomy a 0 with c | c | c
 ·have h3:(b + 1) * (-a) ≥ (b + 1) * 1 := Int.mul_le_mul_of_nonneg_left (by omega) (by omega)
  have e:2 * (b + 1) * a = -(2 * ((b + 1) * -a)) := by grind
  rw [e] at h1; omega
 ·exact c
 ·have h3:(b + 1) * a ≥ (b + 1) * 1 := Int.mul_le_mul_of_nonneg_left (by omega) (by omega)
  have e:2 * -(b + 1) * a = -(2 * ((b + 1) * a)) := by grind
  rw [e] at h2; omega
def jaY (a b c d e f g h i j w x y z:Int):Int := a * w * w + e * x * x + h * y * y + j * z * z + 2 * (b * w * x + c * w * y + d * w * z + f * x * y + g * x * z + i * y * z)
/-- A symmetric matrix whose form is nowhere below 0. -/
def jbT (a b c d e f g h i j:Int):Prop := ∀ w x y z:Int,0≤jaY a b c d e f g h i j w x y z
def v_d2 (a b e:Int):Int := a * e - b * b
def v_d3 (a b c e f h:Int):Int := a * (e * h - f * f) - b * (b * h - c * f) + c * (b * f - c * e)
/-- Cofactors of the last row. -/
def v_k1 (b c d e f g h i:Int):Int := -(b * (f * i - g * h) - c * (e * i - f * g) + d * (e * h - f * f))
def v_k2 (a b c d f g h i:Int):Int := a * (f * i - g * h) - c * (b * i - c * g) + d * (b * h - c * f)
def v_k3 (a b c d e f g i:Int):Int := -(a * (e * i - f * g) - b * (b * i - c * g) + d * (b * f - c * e))
def v_d4 (a b c d e f g h i j:Int):Int := d * v_k1 b c d e f g h i + g * v_k2 a b c d f g h i + i * v_k3 a b c d e f g i + j * v_d3 a b c e f h
section
variable {a b c d e f g h i j:Int}
/-- Where the form is 0 the matrix makes 0. -/
theorem jmf (hp:jbT a b c d e f g h i j) {w x y z:Int} (h0:jaY a b c d e f g h i j w x y z = 0) :
  a * w + b * x + c * y + d * z = 0∧b * w + e * x + f * y + g * z = 0∧c * w + f * x + h * y + i * z = 0∧d * w + g * x + i * y + j * z = 0 := by
 refine ⟨?_,?_,?_,?_⟩
 ·refine jiH (b := a) fun t => ?_
  have := hp (t * w + 1) (t * x) (t * y) (t * z)
  have e:jaY a b c d e f g h i j (t * w + 1) (t * x) (t * y) (t * z)=t * t * jaY a b c d e f g h i j w x y z + (2 * t * (a * w + b * x + c * y + d * z) + a) := by unfold jaY; grind
  rw [e,h0,Int.mul_zero,Int.zero_add] at this; exact this
 ·refine jiH (b := e) fun t => ?_
  have := hp (t * w) (t * x + 1) (t * y) (t * z)
  have e:jaY a b c d e f g h i j (t * w) (t * x + 1) (t * y) (t * z)=t * t * jaY a b c d e f g h i j w x y z + (2 * t * (b * w + e * x + f * y + g * z) + e) := by unfold jaY; grind
  rw [e,h0,Int.mul_zero,Int.zero_add] at this; exact this
 ·refine jiH (b := h) fun t => ?_
  have := hp (t * w) (t * x) (t * y + 1) (t * z)
  have e:jaY a b c d e f g h i j (t * w) (t * x) (t * y + 1) (t * z)=t * t * jaY a b c d e f g h i j w x y z + (2 * t * (c * w + f * x + h * y + i * z) + h) := by unfold jaY; grind
  rw [e,h0,Int.mul_zero,Int.zero_add] at this; exact this
 ·refine jiH (b := j) fun t => ?_
  have := hp (t * w) (t * x) (t * y) (t * z + 1)
  have e:jaY a b c d e f g h i j (t * w) (t * x) (t * y) (t * z + 1)=t * t * jaY a b c d e f g h i j w x y z + (2 * t * (d * w + g * x + i * y + j * z) + j) := by unfold jaY; grind
  rw [e,h0,Int.mul_zero,Int.zero_add] at this; exact this
theorem jgJ {x y:Int} (h:0≤x * y) (hx:0 < x):0≤y := by
 rcases Int.lt_or_le y 0 with c | c
 ·exact absurd (Int.mul_neg_of_pos_of_neg hx c) (by omega)
 ·exact c
theorem jgK (hp:jbT a b c d e f g h i j):0≤a := by
 have := hp 1 0 0 0
 unfold jaY at this
 simpa using this
theorem jBd (hp:jbT a b c d e f g h i j) (h1:0 < a):0≤v_d2 a b e := by
 have := hp (-b) a 0 0
 refine jgJ (x := a) ?_ h1
 have e:jaY a b c d e f g h i j (-b) a 0 0 = a * v_d2 a b e := by unfold jaY v_d2; grind
 rw [e] at this; exact this
theorem jBe (hp:jbT a b c d e f g h i j) (h2:0 < v_d2 a b e):0≤v_d3 a b c e f h := by
 have := hp (b * f - c * e) (b * c - a * f) (v_d2 a b e) 0
 refine jgJ (x := v_d2 a b e) ?_ h2
 have e:jaY a b c d e f g h i j (b * f - c * e) (b * c - a * f) (v_d2 a b e) 0 = v_d2 a b e * v_d3 a b c e f h := by unfold jaY v_d2 v_d3; grind
 rw [e] at this; exact this
theorem jBf:jaY a b c d e f g h i j (v_k1 b c d e f g h i) (v_k2 a b c d f g h i) (v_k3 a b c d e f g i) (v_d3 a b c e f h)=v_d3 a b c e f h * v_d4 a b c d e f g h i j := by
 unfold jaY v_d4 v_d3 v_k1 v_k2 v_k3; grind
theorem jBg (hp:jbT a b c d e f g h i j) (h3:0 < v_d3 a b c e f h):0≤v_d4 a b c d e f g h i j := by
 have := hp (v_k1 b c d e f g h i) (v_k2 a b c d f g h i) (v_k3 a b c d e f g i) (v_d3 a b c e f h)
 refine jgJ (x := v_d3 a b c e f h) ?_ h3
 rw [jBf] at this; exact this
theorem jmg {x y:Int} (h:x * y = 0) (hx:0 < x):y = 0 := by
 rcases Int.mul_eq_zero.1 h with c | c
 ·omega
 ·exact c
/-- A first number that is 0 makes all later ones 0. -/
theorem jgL (hp:jbT a b c d e f g h i j) (h1:a = 0):v_d2 a b e = 0∧v_d3 a b c e f h = 0∧v_d4 a b c d e f g h i j = 0 := by
 obtain ⟨r1,r2,r3,r4⟩ := jmf hp (w := 1) (x := 0) (y := 0) (z := 0) (by unfold jaY; rw [h1]; simp)
 have r2:b = 0 := by omega
 have r3:c = 0 := by omega
 have r4:d = 0 := by omega
 subst h1 r2 r3 r4
 unfold v_d4 v_d3 v_d2 v_k1 v_k2 v_k3
 simp
theorem jiI (hp:jbT a b c d e f g h i j) (h1:0 < a) (h2:v_d2 a b e = 0):v_d3 a b c e f h = 0∧v_d4 a b c d e f g h i j = 0 := by
 have q:jaY a b c d e f g h i j (-b) a 0 0 = a * v_d2 a b e := by unfold jaY v_d2; grind
 obtain ⟨r1,r2,r3,r4⟩ := jmf hp (q.trans (by rw [h2,Int.mul_zero]))
 refine ⟨jmg (x := a) ?_ h1,jmg (x := a) ?_ h1⟩
 ·unfold v_d3 v_d2 at *; grind
 ·unfold v_d4 v_d3 v_d2 v_k1 v_k2 v_k3 at *; grind
theorem jrL (hp:jbT a b c d e f g h i j) (h2:0 < v_d2 a b e) (h3:v_d3 a b c e f h = 0):v_d4 a b c d e f g h i j = 0 := by
 have q:jaY a b c d e f g h i j (b * f - c * e) (b * c - a * f) (v_d2 a b e) 0 = v_d2 a b e * v_d3 a b c e f h := by unfold jaY v_d2 v_d3; grind
 obtain ⟨r1,r2,r3,r4⟩ := jmf hp (q.trans (by rw [h3,Int.mul_zero]))
 refine jmg (x := v_d2 a b e) ?_ h2
 unfold v_d4 v_d3 v_d2 v_k1 v_k2 v_k3 at *; grind
theorem jBh (hp:jbT a b c d e f g h i j):0≤a∧0≤e∧0≤h∧0≤j := by
 have h1 := hp 1 0 0 0
 have h2 := hp 0 1 0 0
 have h3 := hp 0 0 1 0
 have h4 := hp 0 0 0 1
 unfold jaY at h1 h2 h3 h4
 simp at h1 h2 h3 h4
 exact ⟨h1,h2,h3,h4⟩
/-- All leading numbers are from 0 on. -/
theorem jiJ (hp:jbT a b c d e f g h i j):0≤v_d2 a b e := by
 rcases Int.lt_or_eq_of_le (jgK hp) with p | p
 ·exact jBd hp p
 ·rw [(jgL hp p.symm).1]; decide
theorem jrM (hp:jbT a b c d e f g h i j):0≤v_d3 a b c e f h := by
 rcases Int.lt_or_eq_of_le (jgK hp) with p | p
 ·rcases Int.lt_or_eq_of_le (jiJ hp) with q | q
  ·exact jBe hp q
  ·rw [(jiI hp p q.symm).1]; decide
 ·rw [(jgL hp p.symm).2.1]; decide
theorem jBi (hp:jbT a b c d e f g h i j):0≤v_d4 a b c d e f g h i j := by
 rcases Int.lt_or_eq_of_le (jgK hp) with p | p
 ·rcases Int.lt_or_eq_of_le (jiJ hp) with q | q
  ·rcases Int.lt_or_eq_of_le (jrM hp) with r | r
   ·exact jBg hp r
   ·rw [jrL hp q r.symm]; decide
  ·rw [(jiI hp p q.symm).2]; decide
 ·rw [(jgL hp p.symm).2.2]; decide
theorem jBj (hp:jbT a b c d e f g h i j) (h2:v_d2 a b e = 0):v_d3 a b c e f h = 0 := by
 rcases Int.lt_or_eq_of_le (jgK hp) with p | p
 ·exact (jiI hp p h2).1
 ·exact (jgL hp p.symm).2.1
theorem jBk (hp:jbT a b c d e f g h i j) (h3:v_d3 a b c e f h = 0):v_d4 a b c d e f g h i j = 0 := by
 rcases Int.lt_or_eq_of_le (jgK hp) with p | p
 ·rcases Int.lt_or_eq_of_le (jiJ hp) with q | q
  ·exact jrL hp q h3
  ·exact (jiI hp p q.symm).2
 ·exact (jgL hp p.symm).2.2
/-- Each number is at most the one ahead of it times the entry. -/
theorem jBl:v_d2 a b e≤a * e := by
 have:0≤b * b := by rcases Int.le_total 0 b with q | q <;> first | exact Int.mul_nonneg q q | exact Int.mul_nonneg_of_nonpos_of_nonpos q q
 unfold v_d2; omega
theorem jBm (hp:jbT a b c d e f g h i j):v_d3 a b c e f h≤v_d2 a b e * h := by
 rcases Int.lt_or_eq_of_le (jiJ hp) with q | q
 ·have := hp (e * c - b * f) (a * f - b * c) 0 0
  have e1:jaY a b c d e f g h i j (e * c - b * f) (a * f - b * c) 0 0 = v_d2 a b e * (v_d2 a b e * h - v_d3 a b c e f h) := by unfold jaY v_d2 v_d3; grind
  rw [e1] at this
  have := jgJ this q
  omega
 ·rw [jBj hp q.symm,← q,Int.zero_mul]; decide
theorem jBn (hp:jbT a b c d e f g h i j):v_d4 a b c d e f g h i j≤v_d3 a b c e f h * j := by
 rcases Int.lt_or_eq_of_le (jrM hp) with q | q
 ·have := hp (v_k1 b c d e f g h i) (v_k2 a b c d f g h i) (v_k3 a b c d e f g i) 0
  have e1:jaY a b c d e f g h i j (v_k1 b c d e f g h i) (v_k2 a b c d f g h i) (v_k3 a b c d e f g i) 0 = v_d3 a b c e f h * (v_d3 a b c e f h * j - v_d4 a b c d e f g h i j) := by unfold jaY v_d4 v_d3 v_k1 v_k2 v_k3; grind
  rw [e1] at this
  have := jgJ this q
  omega
 ·rw [jBk hp q.symm,← q,Int.zero_mul]; decide
end
/-- A determinant,by cofactors of its first row. -/
def v_e3 (a b c d e f g h i:Int):Int := a * (e * i - f * h) - b * (d * i - f * g) + c * (d * h - e * g)
def v_e4 (f:Nat→Nat→Int):Int :=
 f 0 0 * v_e3 (f 1 1) (f 1 2) (f 1 3) (f 2 1) (f 2 2) (f 2 3) (f 3 1) (f 3 2) (f 3 3)
 - f 0 1 * v_e3 (f 1 0) (f 1 2) (f 1 3) (f 2 0) (f 2 2) (f 2 3) (f 3 0) (f 3 2) (f 3 3)
 + f 0 2 * v_e3 (f 1 0) (f 1 1) (f 1 3) (f 2 0) (f 2 1) (f 2 3) (f 3 0) (f 3 1) (f 3 3)
 - f 0 3 * v_e3 (f 1 0) (f 1 1) (f 1 2) (f 2 0) (f 2 1) (f 2 2) (f 3 0) (f 3 1) (f 3 2)
theorem jdg (f:Nat→Nat→Int):jaB (jav f)=v_e4 f := by
 unfold jaB jcH jav v_e4 v_e3
 simp only [List.map_cons,List.map_nil,List.sum_cons,List.sum_nil,v_dt]
 show 1 * (f 0 0 * f 1 1) * (f 2 2 * f 3 3) + (-1 * (f 0 0 * f 1 1) * (f 2 3 * f 3 2) + (-1 * (f 0 0 * f 1 2) * (f 2 1 * f 3 3) + (1 * (f 0 0 * f 1 2) * (f 2 3 * f 3 1) + (-1 * (f 0 0 * f 1 3) * (f 2 2 * f 3 1) + (1 * (f 0 0 * f 1 3) * (f 2 1 * f 3 2) + (-1 * (f 0 1 * f 1 0) * (f 2 2 * f 3 3) + (1 * (f 0 1 * f 1 0) * (f 2 3 * f 3 2) + (1 * (f 0 1 * f 1 2) * (f 2 0 * f 3 3) + (-1 * (f 0 1 * f 1 2) * (f 2 3 * f 3 0) + (1 * (f 0 1 * f 1 3) * (f 2 2 * f 3 0) + (-1 * (f 0 1 * f 1 3) * (f 2 0 * f 3 2) + (-1 * (f 0 2 * f 1 1) * (f 2 0 * f 3 3) + (1 * (f 0 2 * f 1 1) * (f 2 3 * f 3 0) + (1 * (f 0 2 * f 1 0) * (f 2 1 * f 3 3) + (-1 * (f 0 2 * f 1 0) * (f 2 3 * f 3 1) + (1 * (f 0 2 * f 1 3) * (f 2 0 * f 3 1) + (-1 * (f 0 2 * f 1 3) * (f 2 1 * f 3 0) + (-1 * (f 0 3 * f 1 1) * (f 2 2 * f 3 0) + (1 * (f 0 3 * f 1 1) * (f 2 0 * f 3 2) + (1 * (f 0 3 * f 1 2) * (f 2 1 * f 3 0) + (-1 * (f 0 3 * f 1 2) * (f 2 0 * f 3 1) + (1 * (f 0 3 * f 1 0) * (f 2 2 * f 3 1) + (-1 * (f 0 3 * f 1 0) * (f 2 1 * f 3 2) + 0)))))))))))))))))))))))=_
 grind
/-- A column replaced. -/
def jbp (f:Nat→Nat→Int) (k:Nat) (R:Nat→Int):Nat→Nat→Int := fun r c => if c = k then R r else f r c
def jbs (f:Nat→Nat→Int) (u:Nat→Int) (r:Nat):Int := f r 0 * u 0 + f r 1 * u 1 + f r 2 * u 2 + f r 3 * u 3
theorem jrN (f:Nat→Nat→Int) (R:Nat→Int) {r:Nat} (hr:r < 4):jbs f (fun k => v_e4 (jbp f k R)) r = v_e4 f * R r := by
 match r,hr with
 | 0,_ => simp [jbs,v_e4,jbp,v_e3]; grind
 | 1,_ => simp [jbs,v_e4,jbp,v_e3]; grind
 | 2,_ => simp [jbs,v_e4,jbp,v_e3]; grind
 | 3,_ => simp [jbs,v_e4,jbp,v_e3]; grind
/-- What a column grows by a sum of columns. -/
theorem jrO (f:Nat→Nat→Int) (R u:Nat→Int) {k:Nat} (hk:k < 4):v_e4 (jbp f k fun r => R r + jbs f u r)=v_e4 (jbp f k R) + v_e4 f * u k := by
 match k,hk with
 | 0,_ => simp [jbs,v_e4,jbp,v_e3]; grind
 | 1,_ => simp [jbs,v_e4,jbp,v_e3]; grind
 | 2,_ => simp [jbs,v_e4,jbp,v_e3]; grind
 | 3,_ => simp [jbs,v_e4,jbp,v_e3]; grind
theorem jgM (p0:List tQB) (c:gF) (i j m:Nat):v_gs p0 c i j (m + 1)=v_gs p0 c i j m + v_tk p0 c m i * v_tk p0 c m j := by
 unfold v_gs
 rw [jcx,Nat.zero_add]
theorem jBo (p0:List tQB) (c:gF) (i j m:Nat):v_gs p0 c i j m = v_gs p0 c j i m := jcL m 0 fun _k _ _ => Int.mul_comm _ _
theorem je7 (a:Int):0≤a * a := by
 rcases Int.le_total 0 a with q | q
 ·exact Int.mul_nonneg q q
 ·exact Int.mul_nonneg_of_nonpos_of_nonpos q q
theorem jgN (p0:List tQB) (c:gF) (w x y z:Int):∀ m,0≤jaY (v_gs p0 c 0 0 m) (v_gs p0 c 0 1 m) (v_gs p0 c 0 2 m) (v_gs p0 c 0 3 m) (v_gs p0 c 1 1 m) (v_gs p0 c 1 2 m) (v_gs p0 c 1 3 m) (v_gs p0 c 2 2 m) (v_gs p0 c 2 3 m) (v_gs p0 c 3 3 m) w x y z
 | 0 => by simp [v_gs,jaw,jaY]
 | m + 1 => by
  have h := jgN p0 c w x y z m
  have s := je7 (w * v_tk p0 c m 0 + x * v_tk p0 c m 1 + y * v_tk p0 c m 2 + z * v_tk p0 c m 3)
  have e:jaY (v_gs p0 c 0 0 (m + 1)) (v_gs p0 c 0 1 (m + 1)) (v_gs p0 c 0 2 (m + 1)) (v_gs p0 c 0 3 (m + 1)) (v_gs p0 c 1 1 (m + 1)) (v_gs p0 c 1 2 (m + 1)) (v_gs p0 c 1 3 (m + 1)) (v_gs p0 c 2 2 (m + 1)) (v_gs p0 c 2 3 (m + 1)) (v_gs p0 c 3 3 (m + 1)) w x y z = jaY (v_gs p0 c 0 0 m) (v_gs p0 c 0 1 m) (v_gs p0 c 0 2 m) (v_gs p0 c 0 3 m) (v_gs p0 c 1 1 m) (v_gs p0 c 1 2 m) (v_gs p0 c 1 3 m) (v_gs p0 c 2 2 m) (v_gs p0 c 2 3 m) (v_gs p0 c 3 3 m) w x y z + (w * v_tk p0 c m 0 + x * v_tk p0 c m 1 + y * v_tk p0 c m 2 + z * v_tk p0 c m 3) * (w * v_tk p0 c m 0 + x * v_tk p0 c m 1 + y * v_tk p0 c m 2 + z * v_tk p0 c m 3) := by
   simp only [jgM]
   unfold jaY
   grind
  omega
/-- The equations' matrix. -/
def v_G (p0:List tQB) (c:gF):Nat→Nat→Int := jat p0 c c.length
def v_Ps (G:Nat→Nat→Int):Prop := jbT (G 0 0) (G 0 1) (G 0 2) (G 0 3) (G 1 1) (G 1 2) (G 1 3) (G 2 2) (G 2 3) (G 3 3)
theorem jBp (p0:List tQB) (c:gF) (r s:Nat):v_G p0 c r s = v_G p0 c s r := by
 unfold v_G jat
 by_cases h:r < c.length <;> by_cases g:s < c.length
 ·rw [if_pos h,if_pos g,if_pos g,if_pos h,jBo]
 ·rw [if_pos h,if_neg g,if_neg g,if_neg (by omega)]
 ·rw [if_neg h,if_pos g,if_neg h,if_neg (by omega)]
 ·rw [if_neg h,if_neg g]
  by_cases e:r = s
  ·rw [if_pos e,if_pos e.symm]
  ·rw [if_neg e,if_neg fun q => e q.symm]
theorem jmh (p0:List tQB) (c:gF) {r s:Nat} (hr:r < c.length) (hs:s < c.length):v_G p0 c r s = v_gs p0 c r s p0.length := by
 unfold v_G jat
 rw [if_pos hr,if_pos hs]
theorem jgO (p0:List tQB) (c:gF) {r s:Nat} (h:¬ (r < c.length∧s < c.length)):v_G p0 c r s = if r = s then 1 else 0 := by
 unfold v_G jat
 by_cases g:r < c.length
 ·rw [if_pos g,if_neg fun q => h ⟨g,q⟩,if_neg]
  rintro rfl
  exact h ⟨g,g⟩
 ·rw [if_neg g]
theorem jBq (p0:List tQB) (c:gF) (hn:c.length≤4):v_Ps (v_G p0 c) := by
 intro w x y z
 have sw := je7 w
 have sx := je7 x
 have sy := je7 y
 have sz := je7 z
 obtain h | h | h | h | h:c.length = 0 ∨ c.length = 1 ∨ c.length = 2 ∨ c.length = 3 ∨ c.length = 4 := by omega
 ·simp only [v_G,jat,h]
  simp [jaY]
  omega
 ·have q := jgN p0 c w 0 0 0 p0.length
  simp only [v_G,jat,h]
  simp [jaY] at q ⊢
  omega
 ·have q := jgN p0 c w x 0 0 p0.length
  simp only [v_G,jat,h]
  simp [jaY] at q ⊢
  omega
 ·have q := jgN p0 c w x y 0 p0.length
  simp only [v_G,jat,h]
  simp [jaY] at q ⊢
  omega
 ·have q := jgN p0 c w x y z p0.length
  simp only [v_G,jat,h]
  simp [jaY] at q ⊢
  omega
theorem jBr {G:Nat→Nat→Int} (hs:∀ r s,G r s = G s r):v_e4 G = v_d4 (G 0 0) (G 0 1) (G 0 2) (G 0 3) (G 1 1) (G 1 2) (G 1 3) (G 2 2) (G 2 3) (G 3 3) := by
 unfold v_e4 v_d4 v_d3 v_k1 v_k2 v_k3 v_e3
 rw [hs 1 0,hs 2 0,hs 3 0,hs 2 1,hs 3 1,hs 3 2]
 grind
/-- The jaQ of a term. -/
def v_tb (t:Int):Int := if t = 4 ∨ t = 5 then 100 else 20
theorem jBs {p0:List tQB} {p1:List Int} (hs:v_smp p0) {k:Nat} (hk:k < p0.length) (j:Nat) (h0:0≤p1.getD j 0) : -v_tb (p1.getD j 0)≤v_tk p0 p1 k j∧v_tk p0 p1 k j≤v_tb (p1.getD j 0) := by
 have a := hs.ok _ (jbF (0,0,0,0,0) hk)
 have b := hs.ok _ (jbF (0,0,0,0,0) (show k - 1 < p0.length by omega))
 have xx := jfJ a.x a.x
 have xy := jfJ a.x a.y
 have ax := a.x
 have ay := a.y
 have az := a.z
 have bx := b.x
 have by' := b.y
 unfold v_tk v_t8 jae
 generalize p1.getD j 0 = t at h0 ⊢
 simp only
 generalize p0.getD k (0,0,0,0,0)=q at *
 generalize p0.getD (k - 1) (0,0,0,0,0)=r at *
 rcases Int.lt_or_le t 8 with g | g
 ·obtain rfl | rfl | rfl | rfl | rfl | rfl | rfl | rfl:t = 0 ∨ t = 1 ∨ t = 2 ∨ t = 3 ∨ t = 4 ∨ t = 5 ∨ t = 6 ∨ t = 7 := by omega
  all_goals (simp [v_tb] <;> omega)
 ·rw [jdA _ (by simp; omega)]
  unfold v_tb
  split <;> omega
theorem jBt {p0:List tQB} {c:List Int} (hs:v_smp p0) {r:Nat} (hr:r < c.length) (h0:0≤c.getD r 0):v_G p0 c r r≤20 * (v_tb (c.getD r 0) * v_tb (c.getD r 0)) := by
 rw [jmh p0 c hr hr]
 have hl := hs.len
 have hb:0≤v_tb (c.getD r 0) * v_tb (c.getD r 0) := je7 _
 have:v_gs p0 c r r p0.length≤p0.length * (v_tb (c.getD r 0) * v_tb (c.getD r 0)) := by
  refine (jeF (m := v_tb (c.getD r 0) * v_tb (c.getD r 0)) p0.length 0 fun k _ hk => ?_).2
  have a := jBs hs (show k < p0.length by omega) r h0
  have := jbn a.1 a.2 a.1 a.2
  omega
 have m:(p0.length:Int) * (v_tb (c.getD r 0) * v_tb (c.getD r 0))≤20 * (v_tb (c.getD r 0) * v_tb (c.getD r 0)) := Int.mul_le_mul_of_nonneg_right (by omega) hb
 omega
theorem v_p4 {a b c d A B C D:Int} (ha:0≤a∧a≤A) (hb:0≤b∧b≤B) (hc:0≤c∧c≤C) (hd:0≤d∧d≤D):a * b * c * d≤A * B * C * D := by
 have h1:a * b≤A * B := Int.mul_le_mul ha.2 hb.2 hb.1 (Int.le_trans ha.1 ha.2)
 have p1:0≤a * b := Int.mul_nonneg ha.1 hb.1
 have h2:a * b * c≤A * B * C := Int.mul_le_mul h1 hc.2 hc.1 (Int.le_trans p1 h1)
 have p2:0≤a * b * c := Int.mul_nonneg p1 hc.1
 exact Int.mul_le_mul h2 hd.2 hd.1 (Int.le_trans p2 h2)
/-- Ascending indexes of terms. -/
structure v_ca (c:gF):Prop where
 len:c.length≤4
 ok:v_c8 c
 asc:∀ i,i + 1 < c.length→c.getD i 0 < c.getD (i + 1) 0
def v_gb (c:gF) (r:Nat):Int := if r < c.length∧(c.getD r 0 = 4 ∨ c.getD r 0 = 5) then 200000 else 8000
theorem jiK {p0:List tQB} {c:List Int} (hs:v_smp p0) (hc:v_ca c) (r:Nat):v_G p0 c r r≤v_gb c r := by
 unfold v_gb
 by_cases h:r < c.length
 ·have := jBt hs h (hc.ok r h).1
  unfold v_tb at this
  by_cases g:c.getD r 0 = 4 ∨ c.getD r 0 = 5
  ·rw [if_pos g] at this
   rw [if_pos ⟨h,g⟩]; omega
  ·rw [if_neg g] at this
   rw [if_neg fun q => g q.2]; omega
 ·rw [jgO p0 c (fun q => h q.1),if_pos rfl,if_neg fun q => h q.1]; decide
theorem jBu {c:List Int} (hc:v_ca c):v_gb c 0 * v_gb c 1 * v_gb c 2 * v_gb c 3≤2560000000000000000 := by
 have h1 := hc.asc 0
 have h2 := hc.asc 1
 have h3 := hc.asc 2
 simp only [Nat.zero_add,Nat.reduceAdd] at h1 h2 h3
 unfold v_gb
 split <;> split <;> split <;> split <;> first | decide | (exfalso; omega)
theorem jiL {p0:List tQB} {c:List Int} (hs:v_smp p0) (hc:v_ca c):0≤v_e4 (v_G p0 c)∧v_e4 (v_G p0 c)≤2560000000000000000 := by
 have hp:jbT _ _ _ _ _ _ _ _ _ _ := jBq p0 c hc.len
 obtain ⟨d0,d1,d2,d3⟩ := jBh hp
 rw [jBr (jBp p0 c)]
 refine ⟨jBi hp,?_⟩
 have f4 := jBn hp
 have f3 := jBm hp
 have f2 := @jBl (v_G p0 c 0 0) (v_G p0 c 0 1) (v_G p0 c 1 1)
 have m3 := Int.mul_le_mul_of_nonneg_right f2 d2
 have m4 := Int.mul_le_mul_of_nonneg_right (Int.le_trans f3 m3) d3
 have := v_p4 ⟨d0,jiK hs hc 0⟩ ⟨d1,jiK hs hc 1⟩ ⟨d2,jiK hs hc 2⟩ ⟨d3,jiK hs hc 3⟩
 have := jBu hc
 omega
/-- Four wide numbers,eight numbers. -/
abbrev W8:Type := Int×Int×Int×Int×Int×Int×Int×Int
def v_w8 (w:Nat→Int×Int):W8 := ((w 0).1,(w 0).2,(w 1).1,(w 1).2,(w 2).1,(w 2).2,(w 3).1,(w 3).2)
def jfN (w:Nat→Int×Int) (k:Nat) (x:gG):Nat→Int×Int := fun r => cond (Nat.beq r k) x (w r)
def v_p8 (q:Nat→Int):W8 := (q 0,q 1,q 2,q 3,q 4,q 5,q 6,q 7)
theorem jBv (p0:List tQB) (p1:Int) (m:Int×W8) (f:Nat→Nat→Int) (i k:Nat) (hi:i < 4) (hk:k < 4) (hl:(i:Int) < (jaa p1 8).length) :
  jc1 p0 p1 ((k:Int),m) ((i:Int),jaW f) = .inl (IntKind.i64.wrap ((i:Int) + 1),jaW (v_up f i k (jba p0 (jaa p1 8) (jaa p1 8).length i))) := by
 unfold jc1
 rw [decide_eq_true hl,cond_true]
 obtain rfl | rfl | rfl | rfl:i = 0 ∨ i = 1 ∨ i = 2 ∨ i = 3 := by omega
 all_goals
  obtain rfl | rfl | rfl | rfl:k = 0 ∨ k = 1 ∨ k = 2 ∨ k = 3 := by omega
  all_goals kernel_rfl
def jdM (x d:gG):Int := (Int.tmod (jaq x).2.1 d.2 * 18446744073709551616 + (jaq x).2.2) % d.2
theorem jBw (p0:List tQB) (p1:Int) (c:Int) (w:Nat→Int×Int) (f:Nat→Nat→Int) (k:Nat) (hk:k < 4) :
  jc1 p0 p1 ((k:Int),c,v_w8 w) (((jaa p1 8).length:Int),jaW f) = .inr (.inl (IntKind.i64.wrap ((k:Int) + 1),ja3 c (jdM (v_w (jaB (jav f))) (jaq (v_w (jaB (jav (jat p0 (jaa p1 8) (jaa p1 8).length))))).2),v_w8 (jfN w k (v_w (jaB (jav f)))))) := by
 unfold jc1
 rw [decide_eq_false (Int.lt_irrefl _),cond_false]
 obtain rfl | rfl | rfl | rfl:k = 0 ∨ k = 1 ∨ k = 2 ∨ k = 3 := by omega
 all_goals kernel_rfl
theorem jBx (p0:List tQB) (p1:Int) (c:Int) (w:Nat→Int×Int) (f:Nat→Nat→Int) (k:Nat) (hk:k < 4)
  (h1:v_mb (jav f)) (h2:v_wu (v_w (jaB (jav f)))) (d:gG) (hd:d = (jaq (v_w (jaB (jav (jat p0 (jaa p1 8) (jaa p1 8).length))))).2) (h3:d.2 ≠ 0)
  (h4:0≤Int.tmod (jaq (v_w (jaB (jav f)))).2.1 d.2∧Int.tmod (jaq (v_w (jaB (jav f)))).2.1 d.2 < d.2) (h5:0≤(jaq (v_w (jaB (jav f)))).2.2∧(jaq (v_w (jaB (jav f)))).2.2 < 18446744073709551616)
  (h6:0 < d.2∧d.2 < 18446744073709551616) (h7:0≤c∧c < 18446744073709551616) (h8:0≤jdM (v_w (jaB (jav f))) d∧jdM (v_w (jaB (jav f))) d < 18446744073709551616) :
  ∀ p∈je5 p0 p1 ((k:Int),c,v_w8 w) (((jaa p1 8).length:Int),jaW f),p := by
 subst hd
 unfold jdM at h8
 unfold je5
 rw [decide_eq_false (Int.lt_irrefl _)]
 obtain rfl | rfl | rfl | rfl:k = 0 ∨ k = 1 ∨ k = 2 ∨ k = 3 := by omega
 all_goals
  simp only [fM]
  exact ⟨fun h => (by cases h),fun h => (by cases h),fun h => (by cases h),fun h => (by cases h),fun _ => h1,fun _ => (by omega),fun _ => (by omega),fun _ => h2,fun _ => h3,fun _ => h4,fun _ => h5,fun _ => h6.2,fun _ => h7,fun _ => h8,fun p hp => (by cases hp)⟩
def jgP (s:Bool×tQG) (g:Int):Int := cond s.1 (IntKind.i64.wrap (0 - IntKind.i64.wrap (jaO s.2 g).1)) (IntKind.i64.wrap (jaO s.2 g).1)
theorem jBy (p0:List tQB) (p1:Int) (y g:Int) (w:Nat→Int×Int) (b:Bool) (dn:Int) (q:Nat→Int) (j t:Nat) (hj:j < 4) (ht:t < 8) (hl:(j:Int) < (jaa p1 8).length) (hc:(jaa p1 8).getD j 0 = (t:Int)) :
  jc2 p0 p1 (y,g,v_w8 w) ((j:Int),b,dn,v_p8 q) = .inl (IntKind.i64.wrap ((j:Int) + 1),cond b (jaO (jaq (w j)).2 g).2 false,dn,v_p8 (jbf q t (jgP (jaq (w j)) g))) := by
 unfold jc2
 rw [decide_eq_true hl,cond_true]
 dsimp only
 rw [Int.toNat_natCast,hc]
 unfold jgP
 obtain rfl | rfl | rfl | rfl:j = 0 ∨ j = 1 ∨ j = 2 ∨ j = 3 := by omega
 ·show cond (jaq (w 0)).1 _ _ = _
  cases h:(jaq (w 0)).1 <;> (obtain rfl | rfl | rfl | rfl | rfl | rfl | rfl | rfl:t = 0 ∨ t = 1 ∨ t = 2 ∨ t = 3 ∨ t = 4 ∨ t = 5 ∨ t = 6 ∨ t = 7 := by omega) <;> kernel_rfl
 ·show cond (jaq (w 1)).1 _ _ = _
  cases h:(jaq (w 1)).1 <;> (obtain rfl | rfl | rfl | rfl | rfl | rfl | rfl | rfl:t = 0 ∨ t = 1 ∨ t = 2 ∨ t = 3 ∨ t = 4 ∨ t = 5 ∨ t = 6 ∨ t = 7 := by omega) <;> kernel_rfl
 ·show cond (jaq (w 2)).1 _ _ = _
  cases h:(jaq (w 2)).1 <;> (obtain rfl | rfl | rfl | rfl | rfl | rfl | rfl | rfl:t = 0 ∨ t = 1 ∨ t = 2 ∨ t = 3 ∨ t = 4 ∨ t = 5 ∨ t = 6 ∨ t = 7 := by omega) <;> kernel_rfl
 ·show cond (jaq (w 3)).1 _ _ = _
  cases h:(jaq (w 3)).1 <;> (obtain rfl | rfl | rfl | rfl | rfl | rfl | rfl | rfl:t = 0 ∨ t = 1 ∨ t = 2 ∨ t = 3 ∨ t = 4 ∨ t = 5 ∨ t = 6 ∨ t = 7 := by omega) <;> kernel_rfl
theorem jBz (p0:List tQB) (p1:Int) (y:Int×Int×W8) (s:Bool×Int×W8) :
  jc2 p0 p1 y (((jaa p1 8).length:Int),s) = .inr (.inr (cond (!s.1) ((0,0,0,0,0,0,0,0,0),8) (s.2,0))) := by
 unfold jc2
 rw [decide_eq_false (Int.lt_irrefl _),cond_false]
 cases h:s.1 <;> simp [h]
def v_R (p0:List tQB) (c:gF):Nat→Int := jba p0 c c.length
def v_D (p0:List tQB) (c:gF):Int := jaB (jav (v_G p0 c))
def v_P (p0:List tQB) (c:gF) (k:Nat):Int := jaB (jav (jbp (v_G p0 c) k (v_R p0 c)))
theorem jBA {p0:List tQB} {c:List Int} (hs:v_smp p0) (r s m:Nat) (hm:m≤p0.length) : -200000≤v_gs p0 c r s m∧v_gs p0 c r s m≤200000 := by
 have hl := hs.len
 have : -((m:Int) * 10000)≤v_gs p0 c r s m∧v_gs p0 c r s m≤(m:Int) * 10000 := jeF m 0 fun q _ hq => by
  have a := jgD (p1 := c) hs (show q < p0.length by omega) r
  have b := jgD (p1 := c) hs (show q < p0.length by omega) s
  have := jbn (x := v_tk p0 c q r) (y := v_tk p0 c q s) (a := 100) (b := 100) a.1 a.2 b.1 b.2
  omega
 omega
theorem jBB {p0:List tQB} {c:List Int} (hs:v_smp p0) (r m:Nat) (hm:m≤p0.length) : -200000000≤v_rs p0 c r m∧v_rs p0 c r m≤200000000 := by
 have hl := hs.len
 have : -((m:Int) * 10000000)≤v_rs p0 c r m∧v_rs p0 c r m≤(m:Int) * 10000000 := jeF m 0 fun q _ hq => by
  have a := jgD (p1 := c) hs (show q < p0.length by omega) r
  have b := (hs.ok _ (jbF (0,0,0,0,0) (show q < p0.length by omega))).v
  have := jbn (x := v_tk p0 c q r) (y := (p0.getD q (0,0,0,0,0)).2.2.2.2) (a := 100) (b := 100000) a.1 a.2 b.1 b.2
  omega
 omega
theorem jrP {p0:List tQB} {c:List Int} (hs:v_smp p0) (r s:Nat) : -200000≤v_G p0 c r s∧v_G p0 c r s≤200000 := by
 by_cases h:r < c.length∧s < c.length
 ·rw [jmh p0 c h.1 h.2]; exact jBA hs r s _ (Nat.le_refl _)
 ·rw [jgO p0 c h]; split <;> omega
theorem jBC {p0:List tQB} {c:List Int} (hs:v_smp p0) (r:Nat) : -200000000≤v_R p0 c r∧v_R p0 c r≤200000000 := by
 unfold v_R jba
 split
 ·exact jBB hs r _ (Nat.le_refl _)
 ·omega
theorem jiM {a b c d e f g h i B:Int} (ha : -B≤a∧a≤B) (hb : -B≤b∧b≤B) (hc : -B≤c∧c≤B) (hd : -B≤d∧d≤B) (he : -B≤e∧e≤B) (hf : -B≤f∧f≤B) (hg : -B≤g∧g≤B) (hh : -B≤h∧h≤B) (hi : -B≤i∧i≤B) (h2:B = 200000000) : -48000000000000000000000000≤v_e3 a b c d e f g h i∧v_e3 a b c d e f g h i≤48000000000000000000000000 := by
 subst h2
 have q1 := jbn he.1 he.2 hi.1 hi.2
 have q2 := jbn hf.1 hf.2 hh.1 hh.2
 have q3 := jbn hd.1 hd.2 hi.1 hi.2
 have q4 := jbn hf.1 hf.2 hg.1 hg.2
 have q5 := jbn hd.1 hd.2 hh.1 hh.2
 have q6 := jbn he.1 he.2 hg.1 hg.2
 have r1 := jbn (x := a) (y := e * i - f * h) (a := 200000000) (b := 80000000000000000) ha.1 ha.2 (by omega) (by omega)
 have r2 := jbn (x := b) (y := d * i - f * g) (a := 200000000) (b := 80000000000000000) hb.1 hb.2 (by omega) (by omega)
 have r3 := jbn (x := c) (y := d * h - e * g) (a := 200000000) (b := 80000000000000000) hc.1 hc.2 (by omega) (by omega)
 unfold v_e3
 omega
theorem jBD {f:Nat→Nat→Int} (hb:∀ r s,-200000000≤f r s∧f r s≤200000000) : -38400000000000000000000000000000000≤v_e4 f∧v_e4 f≤38400000000000000000000000000000000 := by
 have e0 := @jiM (f 1 1) (f 1 2) (f 1 3) (f 2 1) (f 2 2) (f 2 3) (f 3 1) (f 3 2) (f 3 3) 200000000 (hb _ _) (hb _ _) (hb _ _) (hb _ _) (hb _ _) (hb _ _) (hb _ _) (hb _ _) (hb _ _) rfl
 have e1 := @jiM (f 1 0) (f 1 2) (f 1 3) (f 2 0) (f 2 2) (f 2 3) (f 3 0) (f 3 2) (f 3 3) 200000000 (hb _ _) (hb _ _) (hb _ _) (hb _ _) (hb _ _) (hb _ _) (hb _ _) (hb _ _) (hb _ _) rfl
 have e2 := @jiM (f 1 0) (f 1 1) (f 1 3) (f 2 0) (f 2 1) (f 2 3) (f 3 0) (f 3 1) (f 3 3) 200000000 (hb _ _) (hb _ _) (hb _ _) (hb _ _) (hb _ _) (hb _ _) (hb _ _) (hb _ _) (hb _ _) rfl
 have e3 := @jiM (f 1 0) (f 1 1) (f 1 2) (f 2 0) (f 2 1) (f 2 2) (f 3 0) (f 3 1) (f 3 2) 200000000 (hb _ _) (hb _ _) (hb _ _) (hb _ _) (hb _ _) (hb _ _) (hb _ _) (hb _ _) (hb _ _) rfl
 have m0 := jbn (hb 0 0).1 (hb 0 0).2 e0.1 e0.2
 have m1 := jbn (hb 0 1).1 (hb 0 1).2 e1.1 e1.2
 have m2 := jbn (hb 0 2).1 (hb 0 2).2 e2.1 e2.2
 have m3 := jbn (hb 0 3).1 (hb 0 3).2 e3.1 e3.2
 unfold v_e4
 omega
theorem jiN {a b c d:Int} {B:Int} (h0:0≤B) (ha : -B≤a∧a≤B) (hb : -B≤b∧b≤B) (hc : -B≤c∧c≤B) (hd : -B≤d∧d≤B) (i:Int) : -B≤v_r4 (a,b,c,d) i∧v_r4 (a,b,c,d) i≤B := by
 unfold v_r4
 simp only
 rcases Nat.lt_or_ge i.toNat 4 with g | g
 ·have key:∀ x∈([a,b,c,d]:List Int),-B≤x∧x≤B := by
   simp only [fM]
   exact ⟨ha,hb,hc,hd,fun x hx => (by cases hx)⟩
  exact key _ (jbF 0 g)
 ·rw [jdA _ g]; omega
theorem jrQ {f:Nat→Nat→Int} (hb:∀ r s,-200000000≤f r s∧f r s≤200000000):v_mb (jav f) := by
 refine ⟨fun i => ?_,fun i => ?_,fun i => ?_,fun i => ?_⟩
 ·have := @jiN (f 0 0) (f 0 1) (f 0 2) (f 0 3) 200000000 (by decide) (hb _ _) (hb _ _) (hb _ _) (hb _ _) i
  exact ⟨by show _≤v_r4 (f 0 0,f 0 1,f 0 2,f 0 3) i; omega,by show v_r4 (f 0 0,f 0 1,f 0 2,f 0 3) i≤_; omega⟩
 ·have := @jiN (f 1 0) (f 1 1) (f 1 2) (f 1 3) 200000000 (by decide) (hb _ _) (hb _ _) (hb _ _) (hb _ _) i
  exact ⟨by show _≤v_r4 (f 1 0,f 1 1,f 1 2,f 1 3) i; omega,by show v_r4 (f 1 0,f 1 1,f 1 2,f 1 3) i≤_; omega⟩
 ·have := @jiN (f 2 0) (f 2 1) (f 2 2) (f 2 3) 200000000 (by decide) (hb _ _) (hb _ _) (hb _ _) (hb _ _) i
  exact ⟨by show _≤v_r4 (f 2 0,f 2 1,f 2 2,f 2 3) i; omega,by show v_r4 (f 2 0,f 2 1,f 2 2,f 2 3) i≤_; omega⟩
 ·have := @jiN (f 3 0) (f 3 1) (f 3 2) (f 3 3) 200000000 (by decide) (hb _ _) (hb _ _) (hb _ _) (hb _ _) i
  exact ⟨by show _≤v_r4 (f 3 0,f 3 1,f 3 2,f 3 3) i; omega,by show v_r4 (f 3 0,f 3 1,f 3 2,f 3 3) i≤_; omega⟩
theorem jrR {p0:List tQB} {c:List Int} (hs:v_smp p0) (k r s:Nat) : -200000000≤jbp (v_G p0 c) k (v_R p0 c) r s∧jbp (v_G p0 c) k (v_R p0 c) r s≤200000000 := by
 unfold jbp
 split
 ·exact jBC hs r
 ·have := @jrP p0 c hs r s; omega
theorem jmi {p0:List tQB} {c:List Int} (hs:v_smp p0) (k:Nat) : -38400000000000000000000000000000000≤v_P p0 c k∧v_P p0 c k≤38400000000000000000000000000000000 := by
 unfold v_P
 rw [jdg]
 exact jBD (jrR hs k)
/-- A column that is being replaced. -/
def jdN (f:Nat→Nat→Int) (k:Nat) (R:Nat→Int) (i:Nat):Nat→Nat→Int := fun r c => if c = k∧r < i then R r else f r c
theorem jBE (f:Nat→Nat→Int) (k:Nat) (R:Nat→Int):jdN f k R 0 = f := by
 funext r c
 unfold jdN
 rw [if_neg (by omega)]
theorem jBF (f:Nat→Nat→Int) (k:Nat) (R:Nat→Int) (i:Nat):v_up (jdN f k R i) i k (R i)=jdN f k R (i + 1) := by
 funext r c
 rw [jgC]
 unfold jdN
 by_cases h:r = i∧c = k
 ·rw [if_pos h,if_pos (by omega),h.1]
 ·rw [if_neg h]
  by_cases g:c = k∧r < i
  ·rw [if_pos g,if_pos (by omega)]
  ·rw [if_neg g,if_neg (by omega)]
theorem jBG (p0:List tQB) (c:gF) {k:Nat} (hk:k < c.length):jdN (v_G p0 c) k (v_R p0 c) c.length = jbp (v_G p0 c) k (v_R p0 c) := by
 funext r s
 unfold jdN jbp
 by_cases h:s = k
 ·by_cases g:r < c.length
  ·rw [if_pos ⟨h,g⟩,if_pos h]
  ·rw [if_neg (by omega),if_pos h,jgO p0 c (by omega),if_neg (by omega)]
   unfold v_R jba
   rw [if_neg g]
 ·rw [if_neg (by omega),if_neg h]
theorem jBH {x d:Int} (hx : -38400000000000000000000000000000000≤x∧x≤38400000000000000000000000000000000) (hd:0 < d∧d≤2560000000000000000):(jaq (v_w d)).2.2 = d∧(jaq (v_w d)).2.1 = 0∧jdM (v_w x) (jaq (v_w d)).2 = max x (-x) % d∧(0≤Int.tmod (jaq (v_w x)).2.1 d∧Int.tmod (jaq (v_w x)).2.1 d < d)∧(0≤(jaq (v_w x)).2.2∧(jaq (v_w x)).2.2 < 18446744073709551616) := by
 have e1:(jaq (v_w d)).2 = (0,d) := by
  rw [je2 (by omega) (by omega)]
  show v_w (max d (-d))=_
  rw [show max d (-d)=d by omega]
  unfold v_w
  exact Prod.ext (by simp only; omega) (by simp only; omega)
 have e2:(jaq (v_w x)).2 = v_w (max x (-x)) := by rw [je2 (by omega) (by omega)]
 have u := jeh (max x (-x))
 have uh := u.h
 have t:Int.tmod (v_w (max x (-x))).1 d = (v_w (max x (-x))).1 % d := Int.tmod_eq_emod_of_nonneg uh.1
 refine ⟨by rw [e1],by rw [e1],?_,?_,?_⟩
 ·unfold jdM
  rw [e1,e2]
  show (Int.tmod (v_w (max x (-x))).1 d * 18446744073709551616 + (v_w (max x (-x))).2) % d = _
  rw [t]
  have e3:v_wv (v_w (max x (-x)))=max x (-x) := by rw [je1]; omega
  have e4 := Int.mul_ediv_add_emod (v_w (max x (-x))).1 d
  generalize v_w (max x (-x))=p at *
  rw [← e3]
  unfold v_wv
  have e5:p.1 * 18446744073709551616 + p.2 = p.1 % d * 18446744073709551616 + p.2 + d * (p.1 / d * 18446744073709551616) := by
   have:p.1 * 18446744073709551616 = (d * (p.1 / d) + p.1 % d) * 18446744073709551616 := by rw [e4]
   rw [this]; grind
  rw [e5,Int.add_mul_emod_self_left]
 ·rw [e2,t]
  exact ⟨Int.emod_nonneg _ (by omega),Int.emod_lt_of_pos _ hd.1⟩
 ·rw [e2]; exact u.l
abbrev I10:Type := Int×Int×W8
abbrev S17:Type := Int×T16
abbrev FR:Type := (Int×W8)×Int
theorem jBI {p0:List tQB} {p1:Int} (hs:v_smp p0) (hc:v_ca (jaa p1 8)) (hD:0 < v_D p0 (jaa p1 8)) (c:Int) (h7:0≤c∧c < 18446744073709551616) (w:Nat→Int×Int) (k:Nat) (hk:k < (jaa p1 8).length) (d:I10 ⊕ FR) :
  OkL (jc1 p0 p1 ((k:Int),c,v_w8 w)) (je5 p0 p1 ((k:Int),c,v_w8 w)) (0,jaW (v_G p0 (jaa p1 8))) ∧
  lpv d (jc1 p0 p1 ((k:Int),c,v_w8 w)) (0,jaW (v_G p0 (jaa p1 8))) = .inl (((k + 1:Nat):Int),ja3 c (max (v_P p0 (jaa p1 8) k) (-v_P p0 (jaa p1 8) k) % v_D p0 (jaa p1 8)),v_w8 (jfN w k (v_w (v_P p0 (jaa p1 8) k)))) := by
 have hn := hc.len
 have hP := jmi (c := jaa p1 8) hs k
 have hDl:v_D p0 (jaa p1 8)≤2560000000000000000 := by unfold v_D; rw [jdg]; exact (jiL hs hc).2
 obtain ⟨r1,r2,r3,r4,r5⟩ := jBH hP ⟨hD,hDl⟩
 have hwk:IntKind.i64.wrap ((k:Int) + 1)=((k + 1:Nat):Int) := jar (by omega) (by omega)
 have hmb:v_mb (jav (jbp (v_G p0 (jaa p1 8)) k (v_R p0 (jaa p1 8)))) := jrQ (jrR hs k)
 refine @jbN T16 S17 (I10 ⊕ FR) d (jc1 p0 p1 ((k:Int),c,v_w8 w)) (je5 p0 p1 ((k:Int),c,v_w8 w)) (fun i t => (i,t)) 0 (jaa p1 8).length (fun i t => t = jaW (jdN (v_G p0 (jaa p1 8)) k (v_R p0 (jaa p1 8)) i)) (fun _ _ => .inl (((k + 1:Nat):Int),ja3 c (max (v_P p0 (jaa p1 8) k) (-v_P p0 (jaa p1 8) k) % v_D p0 (jaa p1 8)),v_w8 (jfN w k (v_w (v_P p0 (jaa p1 8) k))))) (Nat.zero_le _) (by omega) ?_ ?_ (jaW (v_G p0 (jaa p1 8))) (by rw [jBE])
 ·rintro t rfl
  rw [jBG p0 _ hk]
  refine ⟨?_,?_⟩
  ·refine jBx p0 p1 c w _ k (by omega) hmb (jeh _) _ rfl (by show (jaq (v_w (v_D p0 (jaa p1 8)))).2.2 ≠ 0; omega) ?_ ?_ ?_ h7 ?_
   ·show 0≤Int.tmod (jaq (v_w (v_P p0 (jaa p1 8) k))).2.1 (jaq (v_w (v_D p0 (jaa p1 8)))).2.2∧_
    rw [show (jaq (v_w (jaB (jav (jat p0 (jaa p1 8) (jaa p1 8).length))))).2.2 = v_D p0 (jaa p1 8) from r1,r1]
    exact r4
   ·exact r5
   ·show 0 < (jaq (v_w (v_D p0 (jaa p1 8)))).2.2∧(jaq (v_w (v_D p0 (jaa p1 8)))).2.2 < 18446744073709551616
    omega
   ·show 0≤jdM (v_w (v_P p0 (jaa p1 8) k)) (jaq (v_w (v_D p0 (jaa p1 8)))).2∧jdM (v_w (v_P p0 (jaa p1 8) k)) (jaq (v_w (v_D p0 (jaa p1 8)))).2 < 18446744073709551616
    rw [r3]
    have := Int.emod_nonneg (max (v_P p0 (jaa p1 8) k) (-v_P p0 (jaa p1 8) k)) (show v_D p0 (jaa p1 8) ≠ 0 by omega)
    have := Int.emod_lt_of_pos (max (v_P p0 (jaa p1 8) k) (-v_P p0 (jaa p1 8) k)) hD
    omega
  ·rw [jBw p0 p1 c w _ k (by omega),hwk]
   show Sum.inr (Sum.inl (((k + 1:Nat):Int),ja3 c (jdM (v_w (v_P p0 (jaa p1 8) k)) (jaq (v_w (v_D p0 (jaa p1 8)))).2),v_w8 (jfN w k (v_w (v_P p0 (jaa p1 8) k)))))=_
   rw [r3]
 ·rintro i t _ hi rfl
  have hw1:IntKind.i64.wrap ((i:Int) + 1)=((i + 1:Nat):Int) := jar (by omega) (by omega)
  have hd:decide ((i:Int) < ((jaa p1 8).length:Int))=true := decide_eq_true (by omega)
  refine ⟨?_,.inl ⟨jaW (jdN (v_G p0 (jaa p1 8)) k (v_R p0 (jaa p1 8)) (i + 1)),?_,rfl,rfl⟩⟩
  ·unfold je5
   simp only [hd,fM]
   exact ⟨fun _ => (by omega),fun _ => (by omega),fun _ => (by omega),fun _ => (by omega),fun h => (by cases h),fun h => (by cases h),fun h => (by cases h),fun h => (by cases h),fun h => (by cases h),fun h => (by cases h),fun h => (by cases h),fun h => (by cases h),fun h => (by cases h),fun h => (by cases h),fun p hp => (by cases hp)⟩
  ·rw [jBv p0 p1 _ _ i k (by omega) (by omega) (by omega),hw1]
   show Sum.inl (((i + 1:Nat):Int),jaW (v_up _ i k (v_R p0 (jaa p1 8) i)))=_
   rw [jBF]
/-- The common divisor of so many parts; whether they are small; the parts of a fit. -/
def v_fg (p0:List tQB) (c:gF):Nat→Int
 | 0 => v_D p0 c
 | k + 1 => ja3 (v_fg p0 c k) (max (v_P p0 c k) (-v_P p0 c k) % v_D p0 c)
def v_g (p0:List tQB) (c:gF):Int := v_fg p0 c c.length
def jbj (p0:List tQB) (c:gF):Nat→Bool
 | 0 => decide (v_D p0 c / v_g p0 c≤1000000000)
 | k + 1 => cond (jbj p0 c k) (decide (max (v_P p0 c k) (-v_P p0 c k) / v_g p0 c≤1000000000)) false
def v_fq (p0:List tQB) (c:gF) (k:Nat):Int := cond (decide (v_P p0 c k < 0)) (-(max (v_P p0 c k) (-v_P p0 c k) / v_g p0 c)) (max (v_P p0 c k) (-v_P p0 c k) / v_g p0 c)
def jck (p0:List tQB) (c:gF):Nat→Nat→Int
 | 0 => fun _ => 0
 | k + 1 => jbf (jck p0 c k) (c.getD k 0).toNat (v_fq p0 c k)
theorem jgQ {p0:List tQB} {c:List Int} (hD:0 < v_D p0 c):∀ k,0 < v_fg p0 c k∧v_fg p0 c k≤v_D p0 c
 | 0 => ⟨hD,Int.le_refl _⟩
 | k + 1 => by
  have h := jgQ hD k
  have d := jhv (v_fg p0 c k) (max (v_P p0 c k) (-v_P p0 c k) % v_D p0 c)
  have e := Int.le_of_dvd h.1 d
  have n:0≤ja3 (v_fg p0 c k) (max (v_P p0 c k) (-v_P p0 c k) % v_D p0 c) := by unfold ja3; omega
  have z:ja3 (v_fg p0 c k) (max (v_P p0 c k) (-v_P p0 c k) % v_D p0 c) ≠ 0 := by
   intro q
   rw [q] at d
   have := Int.zero_dvd.1 d
   omega
  exact ⟨by show 0 < ja3 _ _; omega,by show ja3 _ _≤_; omega⟩
theorem jBJ {p0:List tQB} {c:List Int} {k:Nat} (hs:v_smp p0) (hg:0 < v_g p0 c) (h:max (v_P p0 c k) (-v_P p0 c k) / v_g p0 c≤1000000000):jgP (jaq (v_w (v_P p0 c k))) (v_g p0 c)=v_fq p0 c k := by
 have hP := jmi (c := c) hs k
 have n0:0≤max (v_P p0 c k) (-v_P p0 c k) / v_g p0 c := Int.ediv_nonneg (by omega) (by omega)
 have e := (jlT (n := max (v_P p0 c k) (-v_P p0 c k)) (g := v_g p0 c) (by omega) (by omega) hg).2 h
 unfold jgP v_fq
 rw [je2 (by omega) (by omega)]
 simp only
 rw [e,jar (n := max (v_P p0 c k) (-v_P p0 c k) / v_g p0 c) (by omega) (by omega),jar (n := 0 - max (v_P p0 c k) (-v_P p0 c k) / v_g p0 c) (by omega) (by omega),Int.zero_sub]
theorem jBK {p0:List tQB} {p1:Int} (hs:v_smp p0) (hc:v_ca (jaa p1 8)) (hD:0 < v_D p0 (jaa p1 8)) (y:Int) (w:Nat→Int×Int) (hw:∀ k,k < (jaa p1 8).length→w k = v_w (v_P p0 (jaa p1 8) k)) (dn:Int) (d:I10 ⊕ FR) :
  OkL (jc2 p0 p1 (y,v_g p0 (jaa p1 8),v_w8 w)) (jfM p0 p1 (y,v_g p0 (jaa p1 8),v_w8 w)) (0,jbj p0 (jaa p1 8) 0,dn,v_p8 fun _ => 0) ∧
  lpv d (jc2 p0 p1 (y,v_g p0 (jaa p1 8),v_w8 w)) (0,jbj p0 (jaa p1 8) 0,dn,v_p8 fun _ => 0) = .inr (cond (jbj p0 (jaa p1 8) (jaa p1 8).length) ((dn,v_p8 (jck p0 (jaa p1 8) (jaa p1 8).length)),0) ((0,0,0,0,0,0,0,0,0),8)) := by
 have hn := hc.len
 have hg := jgQ hD (jaa p1 8).length
 have hDl:v_D p0 (jaa p1 8)≤2560000000000000000 := by unfold v_D; rw [jdg]; exact (jiL hs hc).2
 refine @jbN (Bool×Int×W8) (Int×Bool×Int×W8) (I10 ⊕ FR) d (jc2 p0 p1 (y,v_g p0 (jaa p1 8),v_w8 w)) (jfM p0 p1 (y,v_g p0 (jaa p1 8),v_w8 w)) (fun i t => (i,t)) 0 (jaa p1 8).length (fun i t => ∃ q,t = (jbj p0 (jaa p1 8) i,dn,v_p8 q)∧(jbj p0 (jaa p1 8) i = true→q = jck p0 (jaa p1 8) i)) (fun _ _ => .inr (cond (jbj p0 (jaa p1 8) (jaa p1 8).length) ((dn,v_p8 (jck p0 (jaa p1 8) (jaa p1 8).length)),0) ((0,0,0,0,0,0,0,0,0),8))) (Nat.zero_le _) (by omega) ?_ ?_ _ ⟨_,rfl,fun _ => rfl⟩
 ·rintro t ⟨q,rfl,hq⟩
  refine ⟨?_,?_⟩
  ·unfold jfM
   simp only [decide_eq_false (Int.lt_irrefl ((jaa p1 8).length:Int)),fM]
   repeat' refine And.intro ?_ ?_
   all_goals first
    | (intro h; cases h; done)
    | (intro p hp; cases hp; done)
  ·rw [jBz]
   cases c:jbj p0 (jaa p1 8) (jaa p1 8).length
   ·rfl
   ·rw [hq c]; rfl
 ·rintro i t _ hi ⟨q,rfl,hq⟩
  have hw1:IntKind.i64.wrap ((i:Int) + 1)=((i + 1:Nat):Int) := jar (by omega) (by omega)
  have hd:decide ((i:Int) < ((jaa p1 8).length:Int))=true := decide_eq_true (by omega)
  have hci := hc.ok i hi
  obtain ⟨t,ht⟩ : ∃ t:Nat,(jaa p1 8).getD i 0 = t := ⟨((jaa p1 8).getD i 0).toNat,by omega⟩
  have hP := jmi (c := jaa p1 8) hs i
  have ov := jlT (n := max (v_P p0 (jaa p1 8) i) (-v_P p0 (jaa p1 8) i)) (g := v_g p0 (jaa p1 8)) (by omega) (by omega) hg.1
  have e1:(jaO (jaq (w i)).2 (v_g p0 (jaa p1 8))).2 = decide (max (v_P p0 (jaa p1 8) i) (-v_P p0 (jaa p1 8) i) / v_g p0 (jaa p1 8)≤1000000000) := by
   rw [hw i hi,je2 (by omega) (by omega)]; exact ov.1
  have hu:v_wu (w i) := by rw [hw i hi]; exact jeh _
  refine ⟨?_,.inl ⟨(jbj p0 (jaa p1 8) (i + 1),dn,v_p8 (jbf q t (jgP (jaq (w i)) (v_g p0 (jaa p1 8))))),?_,⟨_,rfl,?_⟩,rfl⟩⟩
  ·unfold jfM
   simp only [hd,fM,Int.toNat_natCast]
   have hu1:v_wu (List.getD ((w 0).1 :: ((w 1).1 :: ((w 2).1 :: ((w 3).1 :: ([]:List Int))))) i 0,List.getD ((w 0).2 :: ((w 1).2 :: ((w 2).2 :: ((w 3).2 :: ([]:List Int))))) i 0) := by
    obtain rfl | rfl | rfl | rfl:i = 0 ∨ i = 1 ∨ i = 2 ∨ i = 3 := by omega
    all_goals exact hu
   exact ⟨fun _ => (by omega),fun _ => (by omega),fun _ => (by omega),fun _ => hu1,fun _ => jrv hu1,fun _ => ⟨hg.1,by show v_fg _ _ _ < _; omega⟩,fun _ => hci.1,fun _ => hci.2,fun _ _ => hci.1,fun _ _ => hci.2,fun p hp => (by cases hp)⟩
  ·rw [jBy p0 p1 y _ w _ dn q i t (by omega) (by omega) (by omega) ht,hw1,e1]; rfl
  ·intro h
   have h' : cond (jbj p0 (jaa p1 8) i) (decide (max (v_P p0 (jaa p1 8) i) (-v_P p0 (jaa p1 8) i) / v_g p0 (jaa p1 8)≤1000000000)) false = true := h
   cases c:jbj p0 (jaa p1 8) i
   ·rw [c] at h'; cases h'
   ·rw [c,cond_true] at h'
    rw [hq c,hw i hi,jBJ hs hg.1 (of_decide_eq_true h')]
    show _ = jbf (jck p0 (jaa p1 8) i) ((jaa p1 8).getD i 0).toNat (v_fq p0 (jaa p1 8) i)
    rw [ht,Int.toNat_natCast]
def v_wk (p0:List tQB) (c:gF) (k:Nat):Nat→Int×Int := fun j => if j < k then v_w (v_P p0 c j) else (0,0)
theorem jBL (p0:List tQB) (c:gF) (k:Nat):jfN (v_wk p0 c k) k (v_w (v_P p0 c k))=v_wk p0 c (k + 1) := by
 funext r
 unfold jfN v_wk
 by_cases h:r = k
 ·subst h
  rw [show Nat.beq r r = true from Nat.beq_refl r,cond_true,if_pos (by omega)]
 ·have:Nat.beq r k = false := by
   cases c:Nat.beq r k
   ·rfl
   ·exact absurd (Nat.eq_of_beq_eq_true c) h
  rw [this,cond_false]
  by_cases g:r < k
  ·rw [if_pos g,if_pos (by omega)]
  ·rw [if_neg g,if_neg (by omega)]
/-- The fit of a model. -/
def jcs (p0:List tQB) (c:gF):FR := cond (v_D p0 c == 0) ((0,0,0,0,0,0,0,0,0),12) (cond (jbj p0 c c.length) ((v_D p0 c / v_g p0 c,v_p8 (jck p0 c c.length)),0) ((0,0,0,0,0,0,0,0,0),8))
theorem jmj {p0:List tQB} {c:List Int}:∀ k,jbj p0 c k = true→v_D p0 c / v_g p0 c≤1000000000
 | 0,h => of_decide_eq_true h
 | k + 1,h => by
  have h' : cond (jbj p0 c k) (decide (max (v_P p0 c k) (-v_P p0 c k) / v_g p0 c≤1000000000)) false = true := h
  cases q:jbj p0 c k
  ·rw [q] at h'; cases h'
  ·exact jmj k q
theorem jrS (p0:List tQB) (p1:Int) (y:I10):je6 p0 p1 y = cond (decide (y.1 < ((jaa p1 8).length:Int))) (lpv (.inr ((0,0,0,0,0,0,0,0,0),0)) (jc1 p0 p1 y) (0,jaW (v_G p0 (jaa p1 8)))) (lpv (.inr ((0,0,0,0,0,0,0,0,0),0)) (jc2 p0 p1 y) (0,(jaO (jaq (v_w (v_D p0 (jaa p1 8)))).2 y.2.1).2,IntKind.i64.wrap (jaO (jaq (v_w (v_D p0 (jaa p1 8)))).2 y.2.1).1,v_p8 fun _ => 0)) := by kernel_rfl
theorem jrT (p0:List tQB) (p1:Int) (y:I10):jiG p0 p1 y = [decide (y.1 < ((jaa p1 8).length:Int))=true→OkL (jc1 p0 p1 y) (je5 p0 p1 y) (0,jaW (v_G p0 (jaa p1 8))),decide (y.1 < ((jaa p1 8).length:Int))=false→v_wu (jaq (v_w (v_D p0 (jaa p1 8)))).2,decide (y.1 < ((jaa p1 8).length:Int))=false→0 < y.2.1∧y.2.1 < 18446744073709551616,
  decide (y.1 < ((jaa p1 8).length:Int))=false→OkL (jc2 p0 p1 y) (jfM p0 p1 y) (0,(jaO (jaq (v_w (v_D p0 (jaa p1 8)))).2 y.2.1).2,IntKind.i64.wrap (jaO (jaq (v_w (v_D p0 (jaa p1 8)))).2 y.2.1).1,v_p8 fun _ => 0)] := by kernel_rfl
theorem jrU {p0:List tQB} {p1:Int} (hs:v_smp p0) (hc:v_ca (jaa p1 8)) (hD:0 < v_D p0 (jaa p1 8)) (d:FR) :
  OkL (je6 p0 p1) (jiG p0 p1) (0,v_D p0 (jaa p1 8),v_w8 (v_wk p0 (jaa p1 8) 0)) ∧
  lpv d (je6 p0 p1) (0,v_D p0 (jaa p1 8),v_w8 (v_wk p0 (jaa p1 8) 0))=cond (jbj p0 (jaa p1 8) (jaa p1 8).length) ((v_D p0 (jaa p1 8) / v_g p0 (jaa p1 8),v_p8 (jck p0 (jaa p1 8) (jaa p1 8).length)),0) ((0,0,0,0,0,0,0,0,0),8) := by
 have hn := hc.len
 have hDl:v_D p0 (jaa p1 8)≤2560000000000000000 := by unfold v_D; rw [jdg]; exact (jiL hs hc).2
 have e1:(jaq (v_w (v_D p0 (jaa p1 8)))).2 = v_w (v_D p0 (jaa p1 8)) := by
  rw [je2 (by omega) (by omega)]
  show v_w (max _ _)=_
  rw [show max (v_D p0 (jaa p1 8)) (-v_D p0 (jaa p1 8))=v_D p0 (jaa p1 8) by omega]
 have hg := jgQ hD (jaa p1 8).length
 have ov := jlT (n := v_D p0 (jaa p1 8)) (g := v_g p0 (jaa p1 8)) (by omega) (by omega) hg.1
 have l1 := @jBK p0 p1 hs hc hD ((jaa p1 8).length:Int) (v_wk p0 (jaa p1 8) (jaa p1 8).length) (fun k hk => by unfold v_wk; rw [if_pos hk]) (IntKind.i64.wrap (jaO (jaq (v_w (v_D p0 (jaa p1 8)))).2 (v_g p0 (jaa p1 8))).1) (.inr ((0,0,0,0,0,0,0,0,0),0))
 have e2:jbj p0 (jaa p1 8) 0 = (jaO (jaq (v_w (v_D p0 (jaa p1 8)))).2 (v_g p0 (jaa p1 8))).2 := by rw [e1,ov.1]; rfl
 rw [e2] at l1
 refine @jbN PUnit I10 FR d (je6 p0 p1) (jiG p0 p1) (fun i _ => (i,v_fg p0 (jaa p1 8) i.toNat,v_w8 (v_wk p0 (jaa p1 8) i.toNat))) 0 (jaa p1 8).length (fun _ _ => True) (fun _ _ => cond (jbj p0 (jaa p1 8) (jaa p1 8).length) ((v_D p0 (jaa p1 8) / v_g p0 (jaa p1 8),v_p8 (jck p0 (jaa p1 8) (jaa p1 8).length)),0) ((0,0,0,0,0,0,0,0,0),8)) (Nat.zero_le _) (by omega) ?_ ?_ ⟨⟩ trivial
 ·rintro t _
  rw [Int.toNat_natCast]
  refine ⟨?_,?_⟩
  ·rw [jrT]
   simp only [decide_eq_false (Int.lt_irrefl ((jaa p1 8).length:Int)),fM]
   exact ⟨fun h => (by cases h),fun _ => jrv (jeh _),fun _ => ⟨hg.1,by omega⟩,fun _ => l1.1,fun p hp => (by cases hp)⟩
  ·rw [jrS]
   simp only
   rw [decide_eq_false (Int.lt_irrefl ((jaa p1 8).length:Int)),cond_false]
   refine l1.2.trans ?_
   cases c:jbj p0 (jaa p1 8) (jaa p1 8).length
   ·rfl
   ·have h := jmj _ c
    have n0:0≤v_D p0 (jaa p1 8) / v_g p0 (jaa p1 8) := Int.ediv_nonneg (by omega) (by have := hg.1; show 0≤v_fg _ _ _; omega)
    rw [e1,ov.2 h,jar (by omega) (by omega)]
 ·rintro k t _ hk _
  have hd:decide ((k:Int) < ((jaa p1 8).length:Int))=true := decide_eq_true (by omega)
  have hk1 := jgQ hD k
  rw [Int.toNat_natCast,Int.toNat_natCast]
  have l0 := @jBI p0 p1 hs hc hD (v_fg p0 (jaa p1 8) k) (by omega) (v_wk p0 (jaa p1 8) k) k hk (.inr ((0,0,0,0,0,0,0,0,0),0))
  refine ⟨?_,.inl ⟨⟨⟩,?_,trivial,rfl⟩⟩
  ·rw [jrT]
   simp only [hd,fM]
   exact ⟨fun _ => l0.1,fun h => (by cases h),fun h => (by cases h),fun h => (by cases h),fun p hp => (by cases hp)⟩
  ·rw [jrS]
   simp only
   rw [hd,cond_true]
   refine l0.2.trans ?_
   rw [jBL]; rfl
theorem jrV (m:Int):∀ n,(jaa m n).Pairwise (· < ·)
 | 0 => List.Pairwise.nil
 | n + 1 => by
  unfold jaa
  refine List.pairwise_append.2 ⟨jrV m n,?_,?_⟩
  ·cases v_hs m n
   ·exact List.Pairwise.nil
   ·exact List.pairwise_singleton _ _
  ·intro a ha b hb
   obtain ⟨t,h1,_,rfl⟩ := (jgv n).1 ha
   cases c:v_hs m n <;> rw [c] at hb
   ·cases hb
   ·rw [List.mem_singleton.1 hb]; omega
theorem jiO {m:Int} (h:(jaa m 8).length≤4):v_ca (jaa m 8) := by
 refine ⟨h,fun j hj => ?_,fun i hi => ?_⟩
 ·obtain ⟨t,h1,_,e⟩ := (jgv 8).1 (jbF 0 hj)
  rw [e]; omega
 ·have := List.pairwise_iff_getElem.1 (jrV m 8) i (i + 1) (by omega) hi (by omega)
  rw [List.getD_eq_getElem?_getD,List.getD_eq_getElem?_getD,List.getElem?_eq_getElem hi,List.getElem?_eq_getElem (show i < (jaa m 8).length by omega)]
  exact this
theorem jiP {m:Int}:jaV m = 0 ↔ (1≤m∧m≤255)∧(jaa m 8).length≤4 := by
 unfold jaV
 cases c:s_Z5 m 1 255
 ·rw [cond_false]
  have:¬ (1≤m∧m≤255) := fun q => by rw [jbS.2 q] at c; cases c
  constructor
  ·intro h; cases h
  ·omega
 ·rw [cond_true]
  have := jbS.1 c
  by_cases h:((jaa m 8).length:Int)≤4
  ·rw [decide_eq_true h,cond_true]
   exact ⟨fun _ => ⟨this,by omega⟩,fun _ => rfl⟩
  ·rw [decide_eq_false h,cond_false]
   constructor
   ·intro q; cases q
   ·intro q; omega
theorem jgR {p0:List tQB} {c:List Int} (hs:v_smp p0) (hc:v_ca c):0≤v_D p0 c∧v_D p0 c≤2560000000000000000 := by
 unfold v_D
 rw [jdg]
 exact jiL hs hc
theorem jfO {p0:List tQB} {p1:Int} (h:(jaG [(v_cs p0).2,jaV p1] != 0)=false):v_smp p0∧v_ca (jaa p1 8) := by
 obtain ⟨h1,h2⟩ := jzu h
 exact ⟨jed.1 h1,jiO (jiP.1 h2).2⟩
theorem jrW {p0:List tQB} {c:List Int} (hs:v_smp p0) (hc:v_ca c):((jaq (v_w (v_D p0 c))).2.1 == 0 && ((jaq (v_w (v_D p0 c))).2.2 == 0 && true))=(v_D p0 c == 0) := by
 have hD := jgR hs hc
 rw [je2 (by omega) (by omega),show max (v_D p0 c) (-v_D p0 c)=v_D p0 c by omega]
 unfold v_w
 simp only
 rw [Bool.eq_iff_iff]
 simp only [Bool.and_eq_true,beq_iff_eq,and_true]
 omega
theorem jrX {p0:List tQB} {c:List Int} (hs:v_smp p0) (hc:v_ca c):(jaq (v_w (v_D p0 c))).2.2 = v_D p0 c := by
 have hD := jgR hs hc
 rw [je2 (by omega) (by omega),show max (v_D p0 c) (-v_D p0 c)=v_D p0 c by omega]
 unfold v_w
 simp only
 omega
/-- What FitOf returns. -/
def jai (p0:List tQB) (p1:Int):FR := cond (jaG [(v_cs p0).2,jaV p1] != 0) ((0,0,0,0,0,0,0,0,0),jaG [(v_cs p0).2,jaV p1]) (jcs p0 (jaa p1 8))
abbrev t_Z0 (p0:List tQB) (p1:Int):(Int×Int×Int×Int×Int×Int×Int×Int×Int)×Int := jai p0 p1
abbrev jmk (_p0:List tQB) (_p1:Int):List Prop := []
theorem jBM (p0:List tQB) (p1:Int) (_hq:∀ p∈jmk p0 p1,p):∀ p∈jme p0 p1,p := by
 simp only [jme,fM]
 refine ⟨fun h => (jfO h).1,fun h => (jfO h).2.len,fun h => (jfO h).2.ok,fun h => jrQ fun r s => ?_,fun _ => jeh _,fun h g => ?_,by simp⟩
 ·have := @jrP p0 (jaa p1 8) (jfO h).1 r s
  show _≤v_G p0 (jaa p1 8) r s∧v_G p0 (jaa p1 8) r s≤_
  omega
 ·obtain ⟨hs,hc⟩ := jfO h
  have g' : (v_D p0 (jaa p1 8) == 0)=false := (jrW hs hc).symm.trans g
  have hD := jgR hs hc
  have hne:v_D p0 (jaa p1 8) ≠ 0 := by intro q; rw [q] at g'; cases g'
  have e := jrX hs hc
  have l := (jrU (d := ((0,0,0,0,0,0,0,0,0),0)) hs hc (by omega)).1
  rw [← e] at l
  exact l
theorem jBN (p0:List tQB) (p1:Int) (_hq:∀ p∈jmk p0 p1,p):s_Z0 p0 p1 = t_Z0 p0 p1 := by
 unfold s_Z0 t_Z0 jai
 cases h:(jaG [(v_cs p0).2,jaV p1] != 0)
 ·obtain ⟨hs,hc⟩ := jfO h
  rw [cond_false,cond_false]
  unfold jcs
  have g := jrW hs hc
  have hD := jgR hs hc
  have e := jrX hs hc
  cases q:(v_D p0 (jaa p1 8) == 0)
  ·have hne:v_D p0 (jaa p1 8) ≠ 0 := by intro z; rw [z] at q; cases q
   have l := (jrU (d := ((0,0,0,0,0,0,0,0,0),0)) hs hc (by omega)).2
   rw [← e] at l
   rw [q] at g
   refine (congrArg (fun b => cond b _ _) g).trans ?_
   rw [cond_false,cond_false]
   rw [e] at l
   refine Eq.trans ?_ l
   rw [← e]; rfl
  ·rw [q] at g
   refine (congrArg (fun b => cond b _ _) g).trans ?_
   rfl
 ·rfl

abbrev jrY:Con := ⟨P_Z0,R_Z0,fun x => jmk x.1 x.2,fun x => t_Z0 x.1 x.2⟩
theorem jBO:jau Try.prog 7 jrY := okG k_Z0 e_Z0 jBb fun x hx => jaA (jBc x.1 x.2 _) (d_Z0 x.1 x.2 _ (jBM x.1 x.2 hx) (jBN x.1 x.2 hx))
def jrZ:Cons := [(66,[],jin)]
theorem jBP:jag Try.prog jrZ := cC jll <| jag.nil
def jml (p0:Int) (K:Bool→Prop):Prop := (K (!(s_Z8 p0 (-1000000000:Int) (1000000000:Int))))
theorem jBQ (p0:Int) (K:Bool→Prop):tfn jib jxZ jrZ jqa jqb p0 K = jml p0 K := by kernel_rfl
def jmm (p0:Int):Bool := (!(s_Z8 p0 (-1000000000:Int) (1000000000:Int)))
abbrev jr0 (_p0:Int):List Prop := []
theorem jBR (p0:Int) (K:Bool→Prop) (_hp:∀ p∈jr0 p0,p) (h:K (jmm p0)):jml p0 K := by
 unfold jml
 unfold jmm at h
 exact h
abbrev jr1:Con := ⟨jqa,jqb,fun x => jr0 x,fun x => jmm x⟩
theorem jBS:jau Try.prog 65 jr1 := okG jx0 jqc jBP fun x hx => jaA (jBQ x _) (jBR x _ hx rfl)
def C_Zm:Cons := [(65,[],jr1)]
theorem jBT:jag Try.prog C_Zm := cC jBS <| jag.nil
def w_Zm (p0:gF) (_p1:PUnit) (K:Int→Prop):Prop := (∃ n0,(jaX (fun (y1:Int) k2 => ((((decide (y1 < (p0.length:Int)))=true) →((zz0≤y1) ∧((y1 < (p0.length:Int)) ∧((((!(s_Z8 (p0.getD y1.toNat zz0) (-1000000000:Int) (1000000000:Int)))=true) →(K y1)) ∧(((!(s_Z8 (p0.getD y1.toNat zz0) (-1000000000:Int) (1000000000:Int)))=false) →(k2 (IntKind.i64.wrap (y1 + 1)))))))) ∧(((decide (y1 < (p0.length:Int)))=false) →(K (-1:Int))))) n0 zz0))
theorem jBU (p0:gF) (p1:PUnit) (K:Int→Prop):tfn F_Zm A_Zm C_Zm P_Zm R_Zm (p0,p1) K = w_Zm p0 p1 K := by kernel_rfl
def je8 (p0:gF) (_p1:PUnit) (y0:Int):Int ⊕ Int := (cond (decide (y0 < (p0.length:Int))) (cond (!(s_Z8 (p0.getD y0.toNat (0:Int)) (-1000000000:Int) (1000000000:Int))) (Sum.inr y0) (Sum.inl (IntKind.i64.wrap (y0 + 1)))) (Sum.inr (-1:Int)))
abbrev jiQ (p0:gF) (_p1:PUnit) (y0:Int):List Prop := [(((decide (y0 < (p0.length:Int)))=true)→((0:Int)≤y0)),(((decide (y0 < (p0.length:Int)))=true)→(y0 < (p0.length:Int)))]
def s_Zm (p0:gF) (p1:PUnit):Int := (lpv (0:Int) (je8 p0 p1) (0:Int))
abbrev jmn (p0:gF) (p1:PUnit):List Prop := [(OkL (je8 p0 p1) (jiQ p0 p1) (0:Int))]
theorem d_Zm (p0:gF) (p1:PUnit) (K:Int→Prop) (hp:∀ p∈jmn p0 p1,p) (h:K (s_Zm p0 p1)):w_Zm p0 p1 K := by
 unfold w_Zm
 unfold s_Zm at h
 obtain ⟨hp0,_⟩ := jah hp
 exact (ja5 (hp0) h (fun y0 k0 hp h => by
 unfold je8 at h; obtain ⟨hp0,hp1,_⟩ := jah hp
 exact (br' h (fun e1 h => ⟨(hp0 e1),(hp1 e1),(br' h (fun e2 h => h)
  (fun e2 h => h))⟩)
  (fun e1 h => h))))
/-- Whether a number can be a part of a fit. -/
def jbJ (x:Int):Bool := s_Z5 x (-1000000000) 1000000000
def jfP (l:gF):Int := jaZ (fun i x => cond (!(jbJ x)) (some i) none) (-1) 0 l
theorem jr2 (p0:gF) (p1:PUnit) (hl:jbA p0):OkL (je8 p0 p1) (jiQ p0 p1) 0∧lpv (0:Int) (je8 p0 p1) 0 = jaZ (fun i x => cond (!(jbJ x)) (some i) none) (-1) 0 p0 := by
 refine jn3 p0 0 (fun i x => cond (!(jbJ x)) (some i) none) (-1) hl ?_ ?_
 ·refine ⟨by simp only [jiQ,fM,decide_eq_true_eq]; simp,by simp [je8]⟩
 ·intro j hj
  have hj' : (j:Int) < p0.length := by omega
  refine ⟨by simp only [jiQ,fM,decide_eq_true_eq,Int.toNat_natCast]; simp <;> omega,?_⟩
  simp only [je8,hj',decide_true,Int.toNat_natCast,cond_true,jfh (show (j:Int)≤9223372036854775806 by unfold jbA at hl; omega)]
  have e:s_Z8 (p0.getD j 0) (-1000000000) 1000000000 = jbJ (p0.getD j 0) := rfl
  rw [e]
  cases jbJ (p0.getD j 0) <;> rfl
abbrev t_Zm (p0:gF) (_p1:PUnit):Int := jfP p0
abbrev jmo (p0:gF) (_p1:PUnit):List Prop := [jbA p0]
theorem jBV (p0:gF) (p1:PUnit) (hq:∀ p∈jmo p0 p1,p):∀ p∈jmn p0 p1,p := by
 simp only [jmn,fM]
 exact ⟨(jr2 p0 p1 (jah hq).1).1,by simp⟩
theorem jBW (p0:gF) (p1:PUnit) (hq:∀ p∈jmo p0 p1,p):s_Zm p0 p1 = t_Zm p0 p1 := by
 exact (jr2 p0 p1 (jah hq).1).2

abbrev jr3:Con := ⟨P_Zm,R_Zm,fun x => jmo x.1 x.2,fun x => t_Zm x.1 x.2⟩
theorem jBX:jau Try.prog 88 jr3 := okG k_Zm e_Zm jBT fun x hx => jaA (jBU x.1 x.2 _) (d_Zm x.1 x.2 _ (jBV x.1 x.2 hx) (jBW x.1 x.2 hx))
def jr4:Cons := [(88,[65],jr3)]
theorem jBY:jag Try.prog jr4 := cC jBX <| jag.nil
def jmq (p0:gF) (_p1:PUnit) (K:Bool→Prop):Prop := ((jbA p0) ∧(K (decide ((jfP p0) ≥ 0))))
theorem jBZ (p0:gF) (p1:PUnit) (K:Bool→Prop):tfn jh5 jxq jr4 jpy jpz (p0,p1) K = jmq p0 p1 K := by kernel_rfl
def jmr (p0:gF) (_p1:PUnit):Bool := (decide ((jfP p0) ≥ 0))
abbrev jr5 (p0:gF) (_p1:PUnit):List Prop := [(jbA p0)]
theorem jB0 (p0:gF) (p1:PUnit) (K:Bool→Prop) (hp:∀ p∈jr5 p0 p1,p) (h:K (jmr p0 p1)):jmq p0 p1 K := by
 unfold jmq
 unfold jmr at h
 obtain ⟨hp0,_⟩ := jah hp
 exact ⟨(hp0),h⟩
abbrev jr6:Con := ⟨jpy,jpz,fun x => jr5 x.1 x.2,fun x => jmr x.1 x.2⟩
theorem jB1:jau Try.prog 64 jr6 := okG jxr jpA jBY fun x hx => jaA (jBZ x.1 x.2 _) (jB0 x.1 x.2 _ hx rfl)
def C_Zv:Cons := [(64,[65],jr6),(58,[],jgt),(47,[],jij)]
theorem jB2:jag Try.prog C_Zv := cC jB1 <| cC jid <| cC jk5 <| jag.nil
def w_Zv (p0:tQC) (K:Int→Prop):Prop := ((jbA (p0.2.1 :: (p0.2.2.1 :: (p0.2.2.2.1 :: (p0.2.2.2.2.1 :: (p0.2.2.2.2.2.1 :: (p0.2.2.2.2.2.2.1 :: (p0.2.2.2.2.2.2.2.1 :: (p0.2.2.2.2.2.2.2.2 :: ([]:List Int)))))))))) ∧((((s_Z8 p0.1 zz1 (1000000000:Int))=true) →((s_Z8 p0.1 zz1 (1000000000:Int))=(s_Z8 p0.1 zz1 (1000000000:Int)))) ∧(((s_Z8 p0.1 zz1 (1000000000:Int))=(s_Z8 p0.1 zz1 (1000000000:Int))) ∧(K (s_Zl (cond (s_Z8 p0.1 zz1 (1000000000:Int)) (!(decide ((jfP (p0.2.1 :: (p0.2.2.1 :: (p0.2.2.2.1 :: (p0.2.2.2.2.1 :: (p0.2.2.2.2.2.1 :: (p0.2.2.2.2.2.2.1 :: (p0.2.2.2.2.2.2.2.1 :: (p0.2.2.2.2.2.2.2.2 :: ([]:List Int)))))))))) ≥ 0))) false) (2:Int))))))
theorem jB3 (p0:tQC) (K:Int→Prop):tfn F_Zv A_Zv C_Zv P_Zv R_Zv p0 K = w_Zv p0 K := by kernel_rfl
def s_Zv (p0:tQC):Int := (s_Zl (cond (s_Z8 p0.1 (1:Int) (1000000000:Int)) (!(decide ((jfP (p0.2.1 :: (p0.2.2.1 :: (p0.2.2.2.1 :: (p0.2.2.2.2.1 :: (p0.2.2.2.2.2.1 :: (p0.2.2.2.2.2.2.1 :: (p0.2.2.2.2.2.2.2.1 :: (p0.2.2.2.2.2.2.2.2 :: ([]:List Int)))))))))) ≥ 0))) false) (2:Int))
abbrev jms (_p0:tQC):List Prop := []
theorem d_Zv (p0:tQC) (K:Int→Prop) (_hp:∀ p∈jms p0,p) (h:K (s_Zv p0)):w_Zv p0 K := by
 unfold w_Zv
 unfold s_Zv at h
 exact ⟨(jf5 8 rfl (by decide)),rf,rfl,h⟩
/-- The parts of a fit; what is wrong with it. -/
def jas (f:Int×Int×Int×Int×Int×Int×Int×Int×Int):List Int := [f.2.1,f.2.2.1,f.2.2.2.1,f.2.2.2.2.1,f.2.2.2.2.2.1,f.2.2.2.2.2.2.1,f.2.2.2.2.2.2.2.1,f.2.2.2.2.2.2.2.2]
def jaI (f:Int×Int×Int×Int×Int×Int×Int×Int×Int):Int := cond (cond (s_Z5 f.1 1 1000000000) ((jas f).all jbJ) false) 0 2
structure v_fok (f:Int×Int×Int×Int×Int×Int×Int×Int×Int):Prop where
 den:1≤f.1∧f.1≤1000000000
 ok:∀ x∈jas f,-1000000000≤x∧x≤1000000000
theorem jgS {f:Int×Int×Int×Int×Int×Int×Int×Int×Int} (h:jaI f = 0):v_fok f := by
 unfold jaI at h
 cases c:s_Z5 f.1 1 1000000000 <;> rw [c] at h
 ·cases h
 ·cases d:(jas f).all jbJ <;> rw [d] at h
  ·cases h
  ·exact ⟨jbS.1 c,fun x hx => jbS.1 (List.all_eq_true.1 d x hx)⟩
theorem jr7 {f:Int×Int×Int×Int×Int×Int×Int×Int×Int} (h:v_fok f) {k:Nat} (hk:k < 8) : -1000000000≤(jas f).getD k 0∧(jas f).getD k 0≤1000000000 := h.ok _ (jbF 0 hk)
abbrev t_Zv (p0:Int×Int×Int×Int×Int×Int×Int×Int×Int):Int := jaI p0
abbrev jmt (_p0:Int×Int×Int×Int×Int×Int×Int×Int×Int):List Prop := []
theorem jB4 (p0:Int×Int×Int×Int×Int×Int×Int×Int×Int) (_hq:∀ p∈jmt p0,p):∀ p∈jms p0,p := by
 simp [jms]
theorem jB5 (p0:Int×Int×Int×Int×Int×Int×Int×Int×Int) (_hq:∀ p∈jmt p0,p):s_Zv p0 = t_Zv p0 := by
 unfold s_Zv t_Zv jaI
 rw [show ([p0.2.1,p0.2.2.1,p0.2.2.2.1,p0.2.2.2.2.1,p0.2.2.2.2.2.1,p0.2.2.2.2.2.2.1,p0.2.2.2.2.2.2.2.1,p0.2.2.2.2.2.2.2.2]:List Int)=jas p0 from rfl,jqF]
 unfold jfP
 rw [jue (c := fun x => !(jbJ x)) (jas p0) 0 (Int.le_refl _),show (jas p0).any (fun x => !(jbJ x)) = !((jas p0).all jbJ) by rw [List.not_all_eq_any_not],Bool.not_not]
 rfl

abbrev jmu:Con := ⟨P_Zv,R_Zv,fun x => jmt x,fun x => t_Zv x⟩
theorem jr8:jau Try.prog 36 jmu := okG k_Zv e_Zv jB2 fun x hx => jaA (jB3 x _) (d_Zv x _ (jB4 x hx) (jB5 x hx))
def C_Zg:Cons := [(39,[],jiq)]
theorem jB6:jag Try.prog C_Zg := cC jlu <| jag.nil
def w_Zg (p0:tQF) (p1:Int) (p2:Int) (p3:tQC) (K:Int→Prop):Prop := ((zz0≤p1) ∧((p1 < (p0.length:Int)) ∧((v_smp p0) ∧((zz0≤p1) ∧((p1 < (p0.length:Int)) ∧(∃ n0,(jaX (fun (y1:gG) k2 => ((((decide (y1.1 < 8))=true) →((zz0≤y1.1) ∧((y1.1 < 8) ∧((zz0≤y1.1) ∧((y1.1 < 8) ∧(k2 ((IntKind.i64.wrap (y1.1 + 1)),(IntKind.i64.wrap (y1.2 - (IntKind.i64.wrap ((List.getD (p3.2.1 :: (p3.2.2.1 :: (p3.2.2.2.1 :: (p3.2.2.2.2.1 :: (p3.2.2.2.2.2.1 :: (p3.2.2.2.2.2.2.1 :: (p3.2.2.2.2.2.2.2.1 :: (p3.2.2.2.2.2.2.2.2 :: ([]:List Int))))))))) y1.1.toNat zz0) * (List.getD ((jae p0 p1.toNat).1 :: ((jae p0 p1.toNat).2.1 :: ((jae p0 p1.toNat).2.2.1 :: ((jae p0 p1.toNat).2.2.2.1 :: ((jae p0 p1.toNat).2.2.2.2.1 :: ((jae p0 p1.toNat).2.2.2.2.2.1 :: ((jae p0 p1.toNat).2.2.2.2.2.2.1 :: ((jae p0 p1.toNat).2.2.2.2.2.2.2 :: ([]:List Int))))))))) y1.1.toNat zz0)))))))))))) ∧(((decide (y1.1 < 8))=false) →(K y1.2)))) n0 (p2,(IntKind.i64.wrap (p3.1 * (p0.getD p1.toNat (zz0,(zz0,(zz0,(zz0,zz0))))).2.2.2.2))))))))))
theorem jB7 (p0:tQF) (p1:Int) (p2:Int) (p3:tQC) (K:Int→Prop):tfn F_Zg A_Zg C_Zg P_Zg R_Zg (p0,p1,p2,p3) K = w_Zg p0 p1 p2 p3 K := by kernel_rfl
def jei (p0:tQF) (p1:Int) (_p2:Int) (p3:tQC) (y0:gG):tQG ⊕ Int := (cond (decide (y0.1 < 8)) (Sum.inl ((IntKind.i64.wrap (y0.1 + 1)),(IntKind.i64.wrap (y0.2 - (IntKind.i64.wrap ((List.getD (p3.2.1 :: (p3.2.2.1 :: (p3.2.2.2.1 :: (p3.2.2.2.2.1 :: (p3.2.2.2.2.2.1 :: (p3.2.2.2.2.2.2.1 :: (p3.2.2.2.2.2.2.2.1 :: (p3.2.2.2.2.2.2.2.2 :: ([]:List Int))))))))) y0.1.toNat (0:Int)) * (List.getD ((jae p0 p1.toNat).1 :: ((jae p0 p1.toNat).2.1 :: ((jae p0 p1.toNat).2.2.1 :: ((jae p0 p1.toNat).2.2.2.1 :: ((jae p0 p1.toNat).2.2.2.2.1 :: ((jae p0 p1.toNat).2.2.2.2.2.1 :: ((jae p0 p1.toNat).2.2.2.2.2.2.1 :: ((jae p0 p1.toNat).2.2.2.2.2.2.2 :: ([]:List Int))))))))) y0.1.toNat (0:Int)))))))) (Sum.inr y0.2))
abbrev jgT (_p0:tQF) (_p1:Int) (_p2:Int) (_p3:tQC) (y0:gG):List Prop := [(((decide (y0.1 < 8))=true)→((0:Int)≤y0.1)),(((decide (y0.1 < 8))=true)→(y0.1 < 8))]
def s_Zg (p0:tQF) (p1:Int) (p2:Int) (p3:tQC):Int := (lpv (0:Int) (jei p0 p1 p2 p3) (p2,(IntKind.i64.wrap (p3.1 * (p0.getD p1.toNat ((0:Int),((0:Int),((0:Int),(0,0))))).2.2.2.2))))
abbrev jmv (p0:tQF) (p1:Int) (p2:Int) (p3:tQC):List Prop := [((0:Int)≤p1),(p1 < (p0.length:Int)),(v_smp p0),(OkL (jei p0 p1 p2 p3) (jgT p0 p1 p2 p3) (p2,(IntKind.i64.wrap (p3.1 * (p0.getD p1.toNat ((0:Int),((0:Int),((0:Int),(0,0))))).2.2.2.2))))]
theorem d_Zg (p0:tQF) (p1:Int) (p2:Int) (p3:tQC) (K:Int→Prop) (hp:∀ p∈jmv p0 p1 p2 p3,p) (h:K (s_Zg p0 p1 p2 p3)):w_Zg p0 p1 p2 p3 K := by
 unfold w_Zg
 unfold s_Zg at h
 obtain ⟨hp0,hp1,hp2,hp3,_⟩ := jah hp
 exact ⟨(hp0),(hp1),(hp2),(hp0),(hp1),(ja5 (hp3) h (fun y0 k0 hp h => by
 unfold jei at h; obtain ⟨hp0,hp1,_⟩ := jah hp
 exact (br' h (fun e1 h => ⟨(hp0 e1),(hp1 e1),(hp0 e1),(hp1 e1),h⟩)
  (fun e1 h => h))))⟩
/-- The terms of a sample as a list; what is left of a reading without its terms from one on. -/
def ja7 (q:Int×Int×Int×Int×Int×Int×Int×Int):List Int := [q.1,q.2.1,q.2.2.1,q.2.2.2.1,q.2.2.2.2.1,q.2.2.2.2.2.1,q.2.2.2.2.2.2.1,q.2.2.2.2.2.2.2]
def jce (a:Int) (ps ts:gF) (m:Nat):Nat→Int
 | 0 => a
 | k + 1 => jce a ps ts m k - ps.getD (m + k) 0 * ts.getD (m + k) 0
def jaD (l:List tQB) (i m:Nat) (f:Int×Int×Int×Int×Int×Int×Int×Int×Int):Int := jce (f.1 * (l.getD i (0,0,0,0,0)).2.2.2.2) (jas f) (ja7 (jae l i)) m (8 - m)
theorem jfQ {a b:Int} {m n:Nat} (ha:a.natAbs≤m) (hb:b.natAbs≤n):(a * b).natAbs≤m * n := by
 rw [Int.natAbs_mul]; exact Nat.mul_le_mul ha hb
theorem jej {l:List tQB} (h:v_smp l) {i:Nat} (hi:i < l.length) {k:Nat} (hk:k < 8):((ja7 (jae l i)).getD k 0).natAbs≤100 := by
 have s := h.ok _ (jbF (0,0,0,0,0) hi)
 have p := h.ok _ (jbF (0,0,0,0,0) (show i - 1 < l.length by omega))
 have hx := s.x
 have hy := s.y
 have hz := s.z
 have gx := p.x
 have gy := p.y
 have m1 := jfQ (a := (l.getD i (0,0,0,0,0)).2.1) (b := (l.getD i (0,0,0,0,0)).2.1) (m := 10) (n := 10) (by omega) (by omega)
 have m2 := jfQ (a := (l.getD i (0,0,0,0,0)).2.1) (b := (l.getD i (0,0,0,0,0)).2.2.1) (m := 10) (n := 10) (by omega) (by omega)
 have hm:∀ x∈ja7 (jae l i),x.natAbs≤100 := by
  unfold ja7 jae
  simp only [fM]
  exact ⟨by omega,by omega,by omega,by omega,by omega,by omega,by omega,by omega,by simp⟩
 exact hm _ (jbF 0 hk)
theorem jiR {a:Int} {ps ts:List Int} {m:Nat} (hp:∀ k,k < 8→(ps.getD k 0).natAbs≤1000000000) (ht:∀ k,k < 8→(ts.getD k 0).natAbs≤100) (ha:a.natAbs≤100000000000000):∀ k,m + k≤8→(jce a ps ts m k).natAbs≤100000000000000 + 100000000000 * k
 | 0,_ => by unfold jce; omega
 | k + 1,h => by
  have ih := jiR hp ht ha k (by omega) (m := m)
  have := jfQ (hp (m + k) (by omega)) (ht (m + k) (by omega))
  unfold jce
  omega
theorem jiS {l:List tQB} (h:v_smp l) {i:Nat} (hi:i < l.length) {f:Int×Int×Int×Int×Int×Int×Int×Int×Int} (hf:v_fok f):(f.1 * (l.getD i (0,0,0,0,0)).2.2.2.2).natAbs≤100000000000000 := by
 have s := (h.ok _ (jbF (0,0,0,0,0) hi)).v
 have d := hf.den
 exact jfQ (m := 1000000000) (n := 100000) (by omega) (by omega)
theorem jgU {f:Int×Int×Int×Int×Int×Int×Int×Int×Int} (hf:v_fok f):∀ k,k < 8→((jas f).getD k 0).natAbs≤1000000000 := fun k hk => by have := jr7 hf hk; omega
theorem jiT {l:List tQB} (h:v_smp l) {i:Nat} (hi:i < l.length) {f:Int×Int×Int×Int×Int×Int×Int×Int×Int} (hf:v_fok f) {m:Nat} (hm:m≤8):(jaD l i m f).natAbs≤101000000000000 := by
 have := jiR (jgU hf) (fun k hk => jej h hi hk) (jiS h hi hf) (8 - m) (by omega) (m := m)
 unfold jaD
 omega
theorem jr9 (l:List tQB) (i m:Nat) (f:Int×Int×Int×Int×Int×Int×Int×Int×Int) (h:v_smp l) (hi:i < l.length) (hm:m≤1) (hf:v_fok f):OkL (jei l (i:Int) (m:Int) f) (jgT l (i:Int) (m:Int) f) ((m:Int),IntKind.i64.wrap (f.1 * (l.getD (i:Int).toNat (0,0,0,0,0)).2.2.2.2))∧lpv 0 (jei l (i:Int) (m:Int) f) ((m:Int),IntKind.i64.wrap (f.1 * (l.getD (i:Int).toNat (0,0,0,0,0)).2.2.2.2))=jaD l i m f := by
 have ha := jiS h hi hf
 rw [Int.toNat_natCast,jar (n := f.1 * (l.getD i (0,0,0,0,0)).2.2.2.2) (by omega) (by omega)]
 have main := @jbN Int tQG Int 0 (jei l (i:Int) (m:Int) f) (jgT l (i:Int) (m:Int) f) (fun i t => (i,t)) m 8 (fun j t => t = jce (f.1 * (l.getD i (0,0,0,0,0)).2.2.2.2) (jas f) (ja7 (jae l i)) m (j - m)) (fun _ _ => jaD l i m f) (by omega) (by omega) ?_ ?_ (f.1 * (l.getD i (0,0,0,0,0)).2.2.2.2) (by rw [Nat.sub_self]; rfl)
 ·exact main
 ·rintro t h3
  simp only [jgT,jei,fM,show decide (((8:Nat):Int) < 8)=false from rfl,cond_false,h3]
  refine ⟨?_,by first | rfl | trivial⟩
  and_intros
  all_goals first
   | (intro h; cases h; done)
   | (intro p hp; cases hp)
 ·rintro j t h0 hj h3
  have hw1:IntKind.i64.wrap ((j:Int) + 1)=((j + 1:Nat):Int) := jar (by omega) (by omega)
  have hd:decide ((j:Int) < 8)=true := decide_eq_true (by omega)
  have b1 := jiR (jgU hf) (fun k hk => jej h hi hk) ha (j - m) (by omega) (m := m)
  have b2 := jfQ (jgU hf j hj) (jej h hi hj)
  have hs:jce (f.1 * (l.getD i (0,0,0,0,0)).2.2.2.2) (jas f) (ja7 (jae l i)) m (j + 1 - m)=jce (f.1 * (l.getD i (0,0,0,0,0)).2.2.2.2) (jas f) (ja7 (jae l i)) m (j - m) - (jas f).getD j 0 * (ja7 (jae l i)).getD j 0 := by
   rw [show j + 1 - m = (j - m) + 1 by omega]
   show _ - (jas f).getD (m + (j - m)) 0 * (ja7 (jae l i)).getD (m + (j - m)) 0 = _
   rw [show m + (j - m)=j by omega]
  rw [← h3] at b1 hs
  have e1:([f.2.1,f.2.2.1,f.2.2.2.1,f.2.2.2.2.1,f.2.2.2.2.2.1,f.2.2.2.2.2.2.1,f.2.2.2.2.2.2.2.1,f.2.2.2.2.2.2.2.2]:List Int)=jas f := rfl
  have e2:([(jae l i).1,(jae l i).2.1,(jae l i).2.2.1,(jae l i).2.2.2.1,(jae l i).2.2.2.2.1,(jae l i).2.2.2.2.2.1,(jae l i).2.2.2.2.2.2.1,(jae l i).2.2.2.2.2.2.2]:List Int)=ja7 (jae l i) := rfl
  have w1:IntKind.i64.wrap ((jas f).getD j 0 * (ja7 (jae l i)).getD j 0)=(jas f).getD j 0 * (ja7 (jae l i)).getD j 0 := jar (by omega) (by omega)
  have w2:IntKind.i64.wrap (t - (jas f).getD j 0 * (ja7 (jae l i)).getD j 0)=t - (jas f).getD j 0 * (ja7 (jae l i)).getD j 0 := jar (by omega) (by omega)
  simp only [jgT,jei,fM,hd,cond_true,Int.toNat_natCast,hw1,e1,e2,w1,w2]
  refine ⟨?_,.inl ⟨_,rfl,hs.symm,by first | rfl | trivial⟩⟩
  and_intros
  all_goals first
   | (intro p hp; cases hp; done)
   | (intros; omega)
abbrev t_Zg (p0:List tQB) (p1:Int) (p2:Int) (p3:Int×Int×Int×Int×Int×Int×Int×Int×Int):Int := jaD p0 p1.toNat p2.toNat p3
abbrev jmw (p0:List tQB) (p1:Int) (p2:Int) (p3:Int×Int×Int×Int×Int×Int×Int×Int×Int):List Prop := [v_smp p0,0≤p1,p1 < p0.length,0≤p2∧p2≤1,v_fok p3]
theorem jB8 (p0:List tQB) (p1:Int) (p2:Int) (p3:Int×Int×Int×Int×Int×Int×Int×Int×Int) (hq:∀ p∈jmw p0 p1 p2 p3,p):∀ p∈jmv p0 p1 p2 p3,p := by
 obtain ⟨h1,h2,h3,h4,h5,_⟩ := jah hq
 obtain ⟨i,rfl⟩ : ∃ i:Nat,p1 = i := ⟨p1.toNat,by omega⟩
 obtain ⟨m,rfl⟩ : ∃ m:Nat,p2 = m := ⟨p2.toNat,by omega⟩
 have hl := (jr9 p0 i m p3 h1 (by omega) (by omega) h5).1
 simp only [jmv,fM]
 first
  | exact ⟨by omega,by omega,h1,hl,by simp⟩
  | exact ⟨h1,by omega,by omega,hl,by simp⟩
theorem jB9 (p0:List tQB) (p1:Int) (p2:Int) (p3:Int×Int×Int×Int×Int×Int×Int×Int×Int) (hq:∀ p∈jmw p0 p1 p2 p3,p):s_Zg p0 p1 p2 p3 = t_Zg p0 p1 p2 p3 := by
 obtain ⟨h1,h2,h3,h4,h5,_⟩ := jah hq
 obtain ⟨i,rfl⟩ : ∃ i:Nat,p1 = i := ⟨p1.toNat,by omega⟩
 obtain ⟨m,rfl⟩ : ∃ m:Nat,p2 = m := ⟨p2.toNat,by omega⟩
 exact (jr9 p0 i m p3 h1 (by omega) (by omega) h5).2

abbrev jmx:Con := ⟨P_Zg,R_Zg,fun x => jmw x.1 x.2.1 x.2.2.1 x.2.2.2,fun x => t_Zg x.1 x.2.1 x.2.2.1 x.2.2.2⟩
theorem jsa:jau Try.prog 40 jmx := okG k_Zg e_Zg jB6 fun x hx => jaA (jB7 x.1 x.2.1 x.2.2.1 x.2.2.2 _) (d_Zg x.1 x.2.1 x.2.2.1 x.2.2.2 _ (jB8 x.1 x.2.1 x.2.2.1 x.2.2.2 hx) (jB9 x.1 x.2.1 x.2.2.1 x.2.2.2 hx))
def C_Z7:Cons := [(27,[],jiF),(28,[],jk7),(36,[],jmu),(26,[],jgy),(37,[],jk0),(38,[],jl0),(34,[],jlA),(29,[],jii),(39,[],jiq),(40,[],jmx)]
theorem jCa:jag Try.prog C_Z7 := cC jmc <| cC jqH <| cC jr8 <| cC jim <| cC jqC <| cC jrz <| cC jrg <| cC jk4 <| cC jlu <| cC jsa <| jag.nil
abbrev jby (p2:tQC) (y1:gG) := (List.getD (p2.2.1 :: (p2.2.2.1 :: (p2.2.2.2.1 :: (p2.2.2.2.2.1 :: (p2.2.2.2.2.2.1 :: (p2.2.2.2.2.2.2.1 :: (p2.2.2.2.2.2.2.2.1 :: (p2.2.2.2.2.2.2.2.2 :: ([]:List Int))))))))) y1.1.toNat zz0)
def w_Z7 (p0:tQF) (p1:Int) (p2:tQC) (K:tQG→Prop):Prop := ((jbA ((v_cs p0).2 :: ((jaV p1) :: ((jaI p2) :: ([]:List Int))))) ∧(((((jaG ((v_cs p0).2 :: ((jaV p1) :: ((jaI p2) :: ([]:List Int))))) != zz0)=true) →(K (zz0,(jaG ((v_cs p0).2 :: ((jaV p1) :: ((jaI p2) :: ([]:List Int)))))))) ∧((((jaG ((v_cs p0).2 :: ((jaV p1) :: ((jaI p2) :: ([]:List Int))))) != zz0)=false) →(∃ n0,(jaX (fun (y1:gG) k2 => ((((decide (y1.1 < 8))=true) →((zz0≤y1.1) ∧((y1.1 < 8) ∧(((((jby p2 y1) != zz0)=true) →(((jby p2 y1) != zz0)=((jby p2 y1) != zz0))) ∧(((((jby p2 y1) != zz0)=true) →(((jby p2 y1) != zz0)=((jby p2 y1) != zz0))) ∧(((((jby p2 y1) != zz0)=true) →(zz0≤y1.1)) ∧(((((jby p2 y1) != zz0)=true) →(((jby p2 y1) != zz0)=((jby p2 y1) != zz0))) ∧((((jby p2 y1) != zz0)=((jby p2 y1) != zz0)) ∧((((cond ((jby p2 y1) != zz0) (!((jam .i64 (jab .i64 p1 y1.1) zz1) == zz1)) false)=true) →(K (y1.1,zz3))) ∧(((cond ((jby p2 y1) != zz0) (!((jam .i64 (jab .i64 p1 y1.1) zz1) == zz1)) false)=false) →((((-9223372036854775808:Int) < (jby p2 y1)) ∧((jby p2 y1)≤9223372036854775807)) ∧(((zz0≤y1.2) ∧(y1.2 < 18446744073709551616)) ∧(((zz0≤(max (jby p2 y1) (-(jby p2 y1)))) ∧((max (jby p2 y1) (-(jby p2 y1))) < 18446744073709551616)) ∧(k2 ((wi (y1.1 + zz1)),(ja3 y1.2 (max (jby p2 y1) (-(jby p2 y1))))))))))))))))))) ∧(((decide (y1.1 < 8))=false) →((((y1.2 != zz1)=true) →(K (zz0,zz3))) ∧(((y1.2 != zz1)=false) →(∃ n3,(jaX (fun (y4:Int) k5 => ((((decide (y4 < (((jaa p1 8).length:Nat):Int)))=true) →((zz0≤y4) ∧((y4 < (((jaa p1 8).length:Nat):Int)) ∧(∃ n6,(jaX (fun (y7:gG) k8 => ((((decide (y7.1 < (p0.length:Int)))=true) →((v_smp p0) ∧((zz0≤y7.1) ∧((y7.1 < (p0.length:Int)) ∧((zz0≤(List.getD (jaa p1 8) y4.toNat zz0)) ∧(((List.getD (jaa p1 8) y4.toNat zz0) < 8) ∧((v_smp p0) ∧((zz0≤y7.1) ∧((y7.1 < (p0.length:Int)) ∧(((zz0≤zz0) ∧(zz0≤zz1)) ∧((v_fok p2) ∧(k8 ((wi (y7.1 + zz1)),(wi (y7.2 + (wi ((List.getD ((jae p0 y7.1.toNat).1 :: ((jae p0 y7.1.toNat).2.1 :: ((jae p0 y7.1.toNat).2.2.1 :: ((jae p0 y7.1.toNat).2.2.2.1 :: ((jae p0 y7.1.toNat).2.2.2.2.1 :: ((jae p0 y7.1.toNat).2.2.2.2.2.1 :: ((jae p0 y7.1.toNat).2.2.2.2.2.2.1 :: ((jae p0 y7.1.toNat).2.2.2.2.2.2.2 :: ([]:List Int))))))))) (Int.toNat (List.getD (jaa p1 8) y4.toNat zz0)) zz0) * (jaD p0 y7.1.toNat (Int.toNat zz0) p2)))))))))))))))))) ∧(((decide (y7.1 < (p0.length:Int)))=false) →((((y7.2 != zz0)=true) →(K ((List.getD (jaa p1 8) y4.toNat zz0),(19:Int)))) ∧(((y7.2 != zz0)=false) →(k5 (wi (y4 + zz1)))))))) n6 (zz0,zz0)))))) ∧(((decide (y4 < (((jaa p1 8).length:Nat):Int)))=false) →(K (zz0,zz0))))) n3 zz0))))))) n0 (zz0,(IntKind.wrap .u64 p2.1)))))))
theorem jCb (p0:tQF) (p1:Int) (p2:tQC) (K:tQG→Prop):tfn F_Z7 A_Z7 C_Z7 P_Z7 R_Z7 (p0,p1,p2) K = w_Z7 p0 p1 p2 K := by kernel_rfl
def jek (p0:tQF) (p1:Int) (p2:tQC) (_y1:gG) (y5:Int) (y7:gG):tQG ⊕ (Int ⊕ (tQG ⊕ tQG)) := (cond (decide (y7.1 < (p0.length:Int))) (Sum.inl ((IntKind.i64.wrap (y7.1 + 1)),(IntKind.i64.wrap (y7.2 + (IntKind.i64.wrap ((List.getD ((jae p0 y7.1.toNat).1 :: ((jae p0 y7.1.toNat).2.1 :: ((jae p0 y7.1.toNat).2.2.1 :: ((jae p0 y7.1.toNat).2.2.2.1 :: ((jae p0 y7.1.toNat).2.2.2.2.1 :: ((jae p0 y7.1.toNat).2.2.2.2.2.1 :: ((jae p0 y7.1.toNat).2.2.2.2.2.2.1 :: ((jae p0 y7.1.toNat).2.2.2.2.2.2.2 :: ([]:List Int))))))))) (Int.toNat (List.getD (jaa p1 8) y5.toNat (0:Int))) (0:Int)) * (jaD p0 y7.1.toNat (Int.toNat (0:Int)) p2))))))) (cond (y7.2 != 0) (Sum.inr (Sum.inr (Sum.inr ((List.getD (jaa p1 8) y5.toNat (0:Int)),(19:Int))))) (Sum.inr (Sum.inl (IntKind.i64.wrap (y5 + 1))))))
abbrev jgV (p0:tQF) (p1:Int) (p2:tQC) (_y1:gG) (y5:Int) (y7:gG):List Prop := [(((decide (y7.1 < (p0.length:Int)))=true)→(v_smp p0)),(((decide (y7.1 < (p0.length:Int)))=true)→((0:Int)≤y7.1)),(((decide (y7.1 < (p0.length:Int)))=true)→(y7.1 < (p0.length:Int))),(((decide (y7.1 < (p0.length:Int)))=true)→((0:Int)≤(List.getD (jaa p1 8) y5.toNat (0:Int)))),(((decide (y7.1 < (p0.length:Int)))=true)→((List.getD (jaa p1 8) y5.toNat (0:Int)) < 8)),(((decide (y7.1 < (p0.length:Int)))=true)→(v_fok p2))]
def jel (p0:tQF) (p1:Int) (p2:tQC) (y1:gG) (y5:Int):Int ⊕ (tQG ⊕ tQG) := (cond (decide (y5 < (((jaa p1 8).length:Nat):Int))) (lpv (Sum.inr (Sum.inr (0,0))) (jek p0 p1 p2 y1 y5) (0,0)) (Sum.inr (Sum.inr (0,0))))
abbrev jgW (p0:tQF) (p1:Int) (p2:tQC) (y1:gG) (y5:Int):List Prop := [(((decide (y5 < (((jaa p1 8).length:Nat):Int)))=true)→((0:Int)≤y5)),(((decide (y5 < (((jaa p1 8).length:Nat):Int)))=true)→(y5 < (((jaa p1 8).length:Nat):Int))),(((decide (y5 < (((jaa p1 8).length:Nat):Int)))=true)→(OkL (jek p0 p1 p2 y1 y5) (jgV p0 p1 p2 y1 y5) (0,0)))]
def jem (p0:tQF) (p1:Int) (p2:tQC) (y1:gG):tQG ⊕ tQG := (cond (decide (y1.1 < 8)) (cond (cond ((List.getD (p2.2.1 :: (p2.2.2.1 :: (p2.2.2.2.1 :: (p2.2.2.2.2.1 :: (p2.2.2.2.2.2.1 :: (p2.2.2.2.2.2.2.1 :: (p2.2.2.2.2.2.2.2.1 :: (p2.2.2.2.2.2.2.2.2 :: ([]:List Int))))))))) y1.1.toNat (0:Int)) != 0) (!((jam .i64 (jab .i64 p1 y1.1) (1:Int)) == 1)) false) (Sum.inr (y1.1,(3:Int))) (Sum.inl ((IntKind.i64.wrap (y1.1 + 1)),(ja3 y1.2 (max (List.getD (p2.2.1 :: (p2.2.2.1 :: (p2.2.2.2.1 :: (p2.2.2.2.2.1 :: (p2.2.2.2.2.2.1 :: (p2.2.2.2.2.2.2.1 :: (p2.2.2.2.2.2.2.2.1 :: (p2.2.2.2.2.2.2.2.2 :: ([]:List Int))))))))) y1.1.toNat (0:Int)) (-(List.getD (p2.2.1 :: (p2.2.2.1 :: (p2.2.2.2.1 :: (p2.2.2.2.2.1 :: (p2.2.2.2.2.2.1 :: (p2.2.2.2.2.2.2.1 :: (p2.2.2.2.2.2.2.2.1 :: (p2.2.2.2.2.2.2.2.2 :: ([]:List Int))))))))) y1.1.toNat (0:Int)))))))) (cond (y1.2 != 1) (Sum.inr ((0:Int),(3:Int))) (lpv (Sum.inr (0,0)) (jel p0 p1 p2 y1) (0:Int))))
abbrev jgX (p0:tQF) (p1:Int) (p2:tQC) (y1:gG):List Prop := [(((decide (y1.1 < 8))=true)→((0:Int)≤y1.1)),(((decide (y1.1 < 8))=true)→(y1.1 < 8)),(((decide (y1.1 < 8))=true)→((((List.getD (p2.2.1 :: (p2.2.2.1 :: (p2.2.2.2.1 :: (p2.2.2.2.2.1 :: (p2.2.2.2.2.2.1 :: (p2.2.2.2.2.2.2.1 :: (p2.2.2.2.2.2.2.2.1 :: (p2.2.2.2.2.2.2.2.2 :: ([]:List Int))))))))) y1.1.toNat (0:Int)) != 0)=true)→((0:Int)≤y1.1))),(((decide (y1.1 < 8))=true)→(((cond ((List.getD (p2.2.1 :: (p2.2.2.1 :: (p2.2.2.2.1 :: (p2.2.2.2.2.1 :: (p2.2.2.2.2.2.1 :: (p2.2.2.2.2.2.2.1 :: (p2.2.2.2.2.2.2.2.1 :: (p2.2.2.2.2.2.2.2.2 :: ([]:List Int))))))))) y1.1.toNat (0:Int)) != 0) (!((jam .i64 (jab .i64 p1 y1.1) (1:Int)) == 1)) false)=false)→(((-9223372036854775808:Int) < (List.getD (p2.2.1 :: (p2.2.2.1 :: (p2.2.2.2.1 :: (p2.2.2.2.2.1 :: (p2.2.2.2.2.2.1 :: (p2.2.2.2.2.2.2.1 :: (p2.2.2.2.2.2.2.2.1 :: (p2.2.2.2.2.2.2.2.2 :: ([]:List Int))))))))) y1.1.toNat (0:Int)))∧((List.getD (p2.2.1 :: (p2.2.2.1 :: (p2.2.2.2.1 :: (p2.2.2.2.2.1 :: (p2.2.2.2.2.2.1 :: (p2.2.2.2.2.2.2.1 :: (p2.2.2.2.2.2.2.2.1 :: (p2.2.2.2.2.2.2.2.2 :: ([]:List Int))))))))) y1.1.toNat (0:Int))≤9223372036854775807)))),(((decide (y1.1 < 8))=true)→(((cond ((List.getD (p2.2.1 :: (p2.2.2.1 :: (p2.2.2.2.1 :: (p2.2.2.2.2.1 :: (p2.2.2.2.2.2.1 :: (p2.2.2.2.2.2.2.1 :: (p2.2.2.2.2.2.2.2.1 :: (p2.2.2.2.2.2.2.2.2 :: ([]:List Int))))))))) y1.1.toNat (0:Int)) != 0) (!((jam .i64 (jab .i64 p1 y1.1) (1:Int)) == 1)) false)=false)→(((0:Int)≤y1.2)∧(y1.2 < 18446744073709551616)))),(((decide (y1.1 < 8))=true)→(((cond ((List.getD (p2.2.1 :: (p2.2.2.1 :: (p2.2.2.2.1 :: (p2.2.2.2.2.1 :: (p2.2.2.2.2.2.1 :: (p2.2.2.2.2.2.2.1 :: (p2.2.2.2.2.2.2.2.1 :: (p2.2.2.2.2.2.2.2.2 :: ([]:List Int))))))))) y1.1.toNat (0:Int)) != 0) (!((jam .i64 (jab .i64 p1 y1.1) (1:Int)) == 1)) false)=false)→(((0:Int)≤(max (List.getD (p2.2.1 :: (p2.2.2.1 :: (p2.2.2.2.1 :: (p2.2.2.2.2.1 :: (p2.2.2.2.2.2.1 :: (p2.2.2.2.2.2.2.1 :: (p2.2.2.2.2.2.2.2.1 :: (p2.2.2.2.2.2.2.2.2 :: ([]:List Int))))))))) y1.1.toNat (0:Int)) (-(List.getD (p2.2.1 :: (p2.2.2.1 :: (p2.2.2.2.1 :: (p2.2.2.2.2.1 :: (p2.2.2.2.2.2.1 :: (p2.2.2.2.2.2.2.1 :: (p2.2.2.2.2.2.2.2.1 :: (p2.2.2.2.2.2.2.2.2 :: ([]:List Int))))))))) y1.1.toNat (0:Int)))))∧((max (List.getD (p2.2.1 :: (p2.2.2.1 :: (p2.2.2.2.1 :: (p2.2.2.2.2.1 :: (p2.2.2.2.2.2.1 :: (p2.2.2.2.2.2.2.1 :: (p2.2.2.2.2.2.2.2.1 :: (p2.2.2.2.2.2.2.2.2 :: ([]:List Int))))))))) y1.1.toNat (0:Int)) (-(List.getD (p2.2.1 :: (p2.2.2.1 :: (p2.2.2.2.1 :: (p2.2.2.2.2.1 :: (p2.2.2.2.2.2.1 :: (p2.2.2.2.2.2.2.1 :: (p2.2.2.2.2.2.2.2.1 :: (p2.2.2.2.2.2.2.2.2 :: ([]:List Int))))))))) y1.1.toNat (0:Int)))) < 18446744073709551616)))),(((decide (y1.1 < 8))=false)→(((y1.2 != 1)=false)→(OkL (jel p0 p1 p2 y1) (jgW p0 p1 p2 y1) (0:Int))))]
def s_Z7 (p0:tQF) (p1:Int) (p2:tQC):tQG := (cond ((jaG ((v_cs p0).2 :: ((jaV p1) :: ((jaI p2) :: ([]:List Int))))) != 0) ((0:Int),(jaG ((v_cs p0).2 :: ((jaV p1) :: ((jaI p2) :: ([]:List Int)))))) (lpv (0,0) (jem p0 p1 p2) ((0:Int),(IntKind.wrap .u64 p2.1))))
abbrev jmy (p0:tQF) (p1:Int) (p2:tQC):List Prop := [((((jaG ((v_cs p0).2 :: ((jaV p1) :: ((jaI p2) :: ([]:List Int))))) != 0)=false)→(OkL (jem p0 p1 p2) (jgX p0 p1 p2) ((0:Int),(IntKind.wrap .u64 p2.1))))]
theorem d_Z7 (p0:tQF) (p1:Int) (p2:tQC) (K:tQG→Prop) (hp:∀ p∈jmy p0 p1 p2,p) (h:K (s_Z7 p0 p1 p2)):w_Z7 p0 p1 p2 K := by
 unfold w_Z7
 unfold s_Z7 at h
 obtain ⟨hp0,_⟩ := jah hp
 exact ⟨(jf5 3 rfl (by decide)),(br' h (fun e0 h => h)
  (fun e0 h => (ja5 (hp0 e0) h (fun y1 k1 hp h => by
 unfold jem at h; obtain ⟨hp0,hp1,hp2,hp3,hp4,hp5,hp6,_⟩ := jah hp
 exact (br' h (fun e2 h => ⟨(hp0 e2),(hp1 e2),rf,rf,(hp2 e2),rf,rfl,(br' h (fun e3 h => h)
  (fun e3 h => ⟨(hp3 e2 e3),(hp4 e2 e3),(hp5 e2 e3),h⟩))⟩)
  (fun e2 h => (br' h (fun e4 h => h)
  (fun e4 h => (ja5 (hp6 e2 e4) h (fun y5 k5 hp h => by
 unfold jel at h; obtain ⟨hp0,hp1,hp2,_⟩ := jah hp
 exact (br' h (fun e6 h => ⟨(hp0 e6),(hp1 e6),(ja5 (hp2 e6) h (fun y7 k7 hp h => by
 unfold jek at h; obtain ⟨hp0,hp1,hp2,hp3,hp4,hp5,_⟩ := jah hp
 exact (br' h (fun e8 h => ⟨(hp0 e8),(hp1 e8),(hp2 e8),(hp3 e8),(hp4 e8),(hp0 e8),(hp1 e8),(hp2 e8),(od rfl),(hp5 e8),h⟩)
  (fun e8 h => (br' h (fun e9 h => h)
  (fun e9 h => h))))))⟩)
  (fun e6 h => h))))))))))))⟩
/-- The common divisor of a fit's numbers. -/
def v_cg (f:Int×Int×Int×Int×Int×Int×Int×Int×Int):Nat→Int
 | 0 => f.1
 | k + 1 => ja3 (v_cg f k) (max ((jas f).getD k 0) (-((jas f).getD k 0)))
theorem jsb (f:Int×Int×Int×Int×Int×Int×Int×Int×Int):∀ k,v_cg f k ∣ f.1∧∀ j,j < k→v_cg f k ∣ (jas f).getD j 0
 | 0 => ⟨Int.dvd_refl _,fun j hj => absurd hj (Nat.not_lt_zero _)⟩
 | k + 1 => by
  obtain ⟨h1,h2⟩ := jsb f k
  have a:v_cg f (k + 1) ∣ v_cg f k := jhv _ _
  have b:v_cg f (k + 1) ∣ max ((jas f).getD k 0) (-((jas f).getD k 0)) := juf _ _
  refine ⟨Int.dvd_trans a h1,fun j hj => ?_⟩
  rcases Nat.lt_or_ge j k with g | g
  ·exact Int.dvd_trans a (h2 j g)
  ·obtain rfl:j = k := by omega
   rcases Int.le_total 0 ((jas f).getD j 0) with q | q
   ·rw [show max ((jas f).getD j 0) (-((jas f).getD j 0))=(jas f).getD j 0 by omega] at b; exact b
   ·rw [show max ((jas f).getD j 0) (-((jas f).getD j 0)) = -((jas f).getD j 0) by omega] at b; exact (Int.dvd_neg).1 b
theorem jmz {f:Int×Int×Int×Int×Int×Int×Int×Int×Int} (h:0 < f.1):∀ k,0 < v_cg f k∧v_cg f k≤f.1
 | 0 => ⟨h,Int.le_refl _⟩
 | k + 1 => by
  have ih := jmz h k
  have d:ja3 (v_cg f k) (max ((jas f).getD k 0) (-((jas f).getD k 0))) ∣ v_cg f k := jhv _ _
  have e := Int.le_of_dvd ih.1 d
  have n:0≤ja3 (v_cg f k) (max ((jas f).getD k 0) (-((jas f).getD k 0))) := by unfold ja3; omega
  have z:ja3 (v_cg f k) (max ((jas f).getD k 0) (-((jas f).getD k 0))) ≠ 0 := by
   intro q
   rw [q] at d
   have := Int.zero_dvd.1 d
   omega
  exact ⟨by show 0 < ja3 _ _; omega,by show ja3 _ _≤_; omega⟩
/-- The sum of a term times what is left; what is wrong with a fit. -/
def jbz (l:List tQB) (f:Int×Int×Int×Int×Int×Int×Int×Int×Int) (t m:Nat):Int := jaw (fun i => (ja7 (jae l i)).getD t 0 * jaD l i 0 f) 0 m
def jc3 (l:List tQB) (m:Int) (f:Int×Int×Int×Int×Int×Int×Int×Int×Int):Int×Int := jaZ (fun _ (t:Int) => cond (jbz l f t.toNat l.length != 0) (some (t,19)) none) (0,0) 0 (jaa m 8)
def jen (l:List tQB) (m:Int) (f:Int×Int×Int×Int×Int×Int×Int×Int×Int):Int×Int := jaZ (fun t (n:Int) => cond (cond (n != 0) (!(v_hs m t.toNat)) false) (some (t,3)) none) (cond (v_cg f 8 != 1) (0,3) (jc3 l m f)) 0 (jas f)
def ja6 (l:List tQB) (m:Int) (f:Int×Int×Int×Int×Int×Int×Int×Int×Int):Int×Int := cond (jaG [(v_cs l).2,jaV m,jaI f] != 0) (0,jaG [(v_cs l).2,jaV m,jaI f]) (jen l m f)
theorem jsc {x y z:Int} (h:(jaG [x,y,z] != 0)=false):x = 0∧y = 0∧z = 0 := by
 obtain ⟨h1,h2⟩ := jfi (jf7 h)
 obtain ⟨h3,h4⟩ := jfi h2
 exact ⟨h1,h3,(jfi h4).1⟩
theorem jCc {p0:List tQB} {p1:Int} {p2:Int×Int×Int×Int×Int×Int×Int×Int×Int} (hs:v_smp p0) (hc:v_ca (jaa p1 8)) (hf:v_fok p2) {k:Nat} (hk:k < (jaa p1 8).length) (y:gG) (d:Int ⊕ (tQG ⊕ tQG)) :
  OkL (jek p0 p1 p2 y (k:Int)) (jgV p0 p1 p2 y (k:Int)) (0,0)∧lpv d (jek p0 p1 p2 y (k:Int)) (0,0)=cond (jbz p0 p2 ((jaa p1 8).getD k 0).toNat p0.length != 0) (.inr (.inr ((jaa p1 8).getD k 0,19))) (.inl (((k + 1:Nat):Int))) := by
 have hl := hs.len
 have hn := hc.len
 have hck := hc.ok k hk
 have hwk:IntKind.i64.wrap ((k:Int) + 1)=((k + 1:Nat):Int) := jar (by omega) (by omega)
 obtain ⟨t,ht⟩ : ∃ t:Nat,(jaa p1 8).getD k 0 = t := ⟨((jaa p1 8).getD k 0).toNat,by omega⟩
 have b:∀ j,j < p0.length→-10100000000000000≤(ja7 (jae p0 j)).getD t 0 * jaD p0 j 0 p2∧(ja7 (jae p0 j)).getD t 0 * jaD p0 j 0 p2≤10100000000000000 := fun j hj => by
  have a1 := jej hs hj (show t < 8 by omega)
  have a2 := jiT hs hj hf (m := 0) (by omega)
  have := jbn (x := (ja7 (jae p0 j)).getD t 0) (y := jaD p0 j 0 p2) (a := 100) (b := 101000000000000) (by omega) (by omega) (by omega) (by omega)
  omega
 have bs:∀ j,j≤p0.length→-((j:Int) * 10100000000000000)≤jbz p0 p2 t j∧jbz p0 p2 t j≤(j:Int) * 10100000000000000 := fun j hj => jeF j 0 fun q _ hq => b q (by omega)
 refine @jbN Int tQG (Int ⊕ (tQG ⊕ tQG)) d (jek p0 p1 p2 y (k:Int)) (jgV p0 p1 p2 y (k:Int)) (fun i s => (i,s)) 0 p0.length (fun j s => s = jbz p0 p2 t j) (fun _ _ => cond (jbz p0 p2 ((jaa p1 8).getD k 0).toNat p0.length != 0) (.inr (.inr ((jaa p1 8).getD k 0,19))) (.inl (((k + 1:Nat):Int)))) (Nat.zero_le _) (by omega) ?_ ?_ 0 rfl
 ·rintro s rfl
  refine ⟨?_,?_⟩
  ·simp only [jgV,fM,decide_eq_false (Int.lt_irrefl (p0.length:Int))]
   exact ⟨fun h => (by cases h),fun h => (by cases h),fun h => (by cases h),fun h => (by cases h),fun h => (by cases h),fun h => (by cases h),fun p hp => (by cases hp)⟩
  ·unfold jek
   rw [decide_eq_false (Int.lt_irrefl (p0.length:Int)),cond_false]
   simp only [Int.toNat_natCast]
   rw [hwk,ht,Int.toNat_natCast]
   cases (jbz p0 p2 t p0.length != 0) <;> rfl
 ·rintro j s _ hj rfl
  have hw1:IntKind.i64.wrap ((j:Int) + 1)=((j + 1:Nat):Int) := jar (by omega) (by omega)
  have hd:decide ((j:Int) < (p0.length:Int))=true := decide_eq_true (by omega)
  have bj := b j hj
  have bsj := bs j (by omega)
  have e:jbz p0 p2 t (j + 1)=jbz p0 p2 t j + (ja7 (jae p0 j)).getD t 0 * jaD p0 j 0 p2 := by
   unfold jbz
   rw [jcx,Nat.zero_add]
  refine ⟨?_,.inl ⟨jbz p0 p2 t (j + 1),?_,rfl,rfl⟩⟩
  ·simp only [jgV,fM,Int.toNat_natCast]
   exact ⟨fun _ => hs,fun _ => (by omega),fun _ => (by omega),fun _ => hck.1,fun _ => hck.2,fun _ => hf,fun p hp => (by cases hp)⟩
  ·unfold jek
   rw [hd,cond_true]
   simp only [Int.toNat_natCast]
   rw [ht,Int.toNat_natCast,hw1]
   show Sum.inl (_,IntKind.i64.wrap (jbz p0 p2 t j + IntKind.i64.wrap ((ja7 (jae p0 j)).getD t 0 * jaD p0 j 0 p2)))=_
   rw [jar (n := (ja7 (jae p0 j)).getD t 0 * jaD p0 j 0 p2) (by omega) (by omega),← e,jar (n := jbz p0 p2 t (j + 1)) (by omega) (by omega)]
theorem jCd {p0:List tQB} {p1:Int} {p2:Int×Int×Int×Int×Int×Int×Int×Int×Int} (hs:v_smp p0) (hc:v_ca (jaa p1 8)) (hf:v_fok p2) (y:gG) (d:tQG ⊕ tQG) :
  OkL (jel p0 p1 p2 y) (jgW p0 p1 p2 y) 0∧lpv d (jel p0 p1 p2 y) 0 = .inr (jc3 p0 p1 p2) := by
 have hn := hc.len
 refine @jbN PUnit Int (tQG ⊕ tQG) d (jel p0 p1 p2 y) (jgW p0 p1 p2 y) (fun i _ => i) 0 (jaa p1 8).length (fun _ _ => True) (fun j _ => .inr (jaZ (fun _ (t:Int) => cond (jbz p0 p2 t.toNat p0.length != 0) (some (t,19)) none) (0,0) (j:Int) ((jaa p1 8).drop j))) (Nat.zero_le _) (by omega) ?_ ?_ ⟨⟩ trivial
 ·rintro s _
  rw [List.drop_length]
  refine ⟨?_,?_⟩
  ·simp only [jgW,fM,decide_eq_false (Int.lt_irrefl ((jaa p1 8).length:Int))]
   exact ⟨fun h => (by cases h),fun h => (by cases h),fun h => (by cases h),fun p hp => (by cases hp)⟩
  ·unfold jel
   rw [decide_eq_false (Int.lt_irrefl ((jaa p1 8).length:Int)),cond_false]; rfl
 ·rintro k s _ hk _
  have hd:decide ((k:Int) < ((jaa p1 8).length:Int))=true := decide_eq_true (by omega)
  obtain ⟨l1,l2⟩ := jCc hs hc hf hk y (.inr (.inr (0,0)))
  rw [jdz 0 hk]
  have e:jaZ (fun _ (t:Int) => cond (jbz p0 p2 t.toNat p0.length != 0) (some (t,(19:Int))) none) (0,0) (k:Int) ((jaa p1 8).getD k 0 :: (jaa p1 8).drop (k + 1))=cond (jbz p0 p2 ((jaa p1 8).getD k 0).toNat p0.length != 0) ((jaa p1 8).getD k 0,19) (jaZ (fun _ (t:Int) => cond (jbz p0 p2 t.toNat p0.length != 0) (some (t,(19:Int))) none) (0,0) ((k:Int) + 1) ((jaa p1 8).drop (k + 1))) := by
   simp only [jaZ]
   cases (jbz p0 p2 ((jaa p1 8).getD k 0).toNat p0.length != 0) <;> rfl
  rw [e,show (k:Int) + 1 = ((k + 1:Nat):Int) by omega]
  refine ⟨?_,?_⟩
  ·simp only [jgW,fM]
   exact ⟨fun _ => (by omega),fun _ => (by omega),fun _ => l1,fun p hp => (by cases hp)⟩
  ·unfold jel
   rw [hd,cond_true,l2]
   cases (jbz p0 p2 ((jaa p1 8).getD k 0).toNat p0.length != 0)
   ·exact .inl ⟨⟨⟩,rfl,trivial,rfl⟩
   ·exact .inr rfl
theorem jsd {p0:List tQB} {p1:Int} {p2:Int×Int×Int×Int×Int×Int×Int×Int×Int} (hs:v_smp p0) (hc:v_ca (jaa p1 8)) (hf:v_fok p2) (d:gG) :
  OkL (jem p0 p1 p2) (jgX p0 p1 p2) (0,p2.1)∧lpv d (jem p0 p1 p2) (0,p2.1)=jen p0 p1 p2 := by
 have hd1 := hf.den
 refine @jbN Int tQG tQG d (jem p0 p1 p2) (jgX p0 p1 p2) (fun i s => (i,s)) 0 8 (fun j s => s = v_cg p2 j) (fun j _ => jaZ (fun t (n:Int) => cond (cond (n != 0) (!(v_hs p1 t.toNat)) false) (some (t,3)) none) (cond (v_cg p2 8 != 1) (0,3) (jc3 p0 p1 p2)) (j:Int) ((jas p2).drop j)) (by omega) (by omega) ?_ ?_ p2.1 rfl
 ·rintro s rfl
  have e:(jas p2).drop 8 = [] := rfl
  obtain ⟨l1,l2⟩ := jCd hs hc hf (8,v_cg p2 8) (.inr (0,0))
  rw [e]
  refine ⟨?_,?_⟩
  ·simp only [jgX,fM,show decide (((8:Nat):Int) < 8)=false from rfl]
   exact ⟨fun h => (by cases h),fun h => (by cases h),fun h => (by cases h),fun h => (by cases h),fun h => (by cases h),fun h => (by cases h),fun _ _ => l1,fun p hp => (by cases hp)⟩
  ·unfold jem
   rw [show decide (((8:Nat):Int) < 8)=false from rfl,cond_false]
   simp only [jaZ]
   cases (v_cg p2 8 != 1)
   ·rw [cond_false,cond_false]
    exact l2
   ·rfl
 ·rintro j s _ hj rfl
  have hw1:IntKind.i64.wrap ((j:Int) + 1)=((j + 1:Nat):Int) := jar (by omega) (by omega)
  have hd:decide ((j:Int) < 8)=true := decide_eq_true (by omega)
  have hp := jr7 hf (show j < 8 by omega)
  have hg := jmz (f := p2) (by omega) j
  have hlen:(jas p2).length = 8 := rfl
  have ev:(jam .i64 (jab .i64 p1 (j:Int)) 1 == 1)=v_hs p1 j := rfl
  have e1:([p2.2.1,p2.2.2.1,p2.2.2.2.1,p2.2.2.2.2.1,p2.2.2.2.2.2.1,p2.2.2.2.2.2.2.1,p2.2.2.2.2.2.2.2.1,p2.2.2.2.2.2.2.2.2]:List Int)=jas p2 := rfl
  rw [jdz 0 (show j < (jas p2).length by omega)]
  have e:jaZ (fun t (n:Int) => cond (cond (n != 0) (!(v_hs p1 t.toNat)) false) (some (t,(3:Int))) none) (cond (v_cg p2 8 != 1) (0,3) (jc3 p0 p1 p2)) (j:Int) ((jas p2).getD j 0 :: (jas p2).drop (j + 1))=cond (cond ((jas p2).getD j 0 != 0) (!(v_hs p1 j)) false) ((j:Int),3) (jaZ (fun t (n:Int) => cond (cond (n != 0) (!(v_hs p1 t.toNat)) false) (some (t,(3:Int))) none) (cond (v_cg p2 8 != 1) (0,3) (jc3 p0 p1 p2)) ((j:Int) + 1) ((jas p2).drop (j + 1))) := by
   simp only [jaZ,Int.toNat_natCast]
   cases (cond ((jas p2).getD j 0 != 0) (!(v_hs p1 j)) false) <;> rfl
  rw [e,show (j:Int) + 1 = ((j + 1:Nat):Int) by omega]
  refine ⟨?_,?_⟩
  ·simp only [jgX,fM,hd,Int.toNat_natCast,e1]
   exact ⟨fun _ => (by omega),fun _ => (by omega),fun _ _ => (by omega),fun _ _ => (by omega),fun _ _ => (by omega),fun _ _ => (by omega),fun h => (by cases h),fun p hp => (by cases hp)⟩
  ·unfold jem
   rw [hd,cond_true]
   simp only [Int.toNat_natCast,e1,ev,hw1]
   cases (cond ((jas p2).getD j 0 != 0) (!(v_hs p1 j)) false)
   ·exact .inl ⟨_,rfl,rfl,rfl⟩
   ·exact .inr rfl
abbrev t_Z7 (p0:List tQB) (p1:Int) (p2:Int×Int×Int×Int×Int×Int×Int×Int×Int):Int×Int := ja6 p0 p1 p2
abbrev jmA (_p0:List tQB) (_p1:Int) (_p2:Int×Int×Int×Int×Int×Int×Int×Int×Int):List Prop := []
theorem jCe (p0:List tQB) (p1:Int) (p2:Int×Int×Int×Int×Int×Int×Int×Int×Int) (_hq:∀ p∈jmA p0 p1 p2,p):∀ p∈jmy p0 p1 p2,p := by
 simp only [jmy,fM]
 refine ⟨fun h => ?_,by simp⟩
 obtain ⟨h1,h2,h3⟩ := jsc h
 have hf := jgS h3
 have hd := hf.den
 rw [jbk (by omega) (by omega)]
 exact (jsd (jed.1 h1) (jiO (jiP.1 h2).2) hf (0,0)).1
theorem jCf (p0:List tQB) (p1:Int) (p2:Int×Int×Int×Int×Int×Int×Int×Int×Int) (_hq:∀ p∈jmA p0 p1 p2,p):s_Z7 p0 p1 p2 = t_Z7 p0 p1 p2 := by
 unfold s_Z7 t_Z7 ja6
 cases h:(jaG [(v_cs p0).2,jaV p1,jaI p2] != 0)
 ·obtain ⟨h1,h2,h3⟩ := jsc h
  have hf := jgS h3
  have hd := hf.den
  rw [cond_false,cond_false,jbk (by omega) (by omega)]
  exact (jsd (jed.1 h1) (jiO (jiP.1 h2).2) hf (0,0)).2
 ·rfl

abbrev jse:Con := ⟨P_Z7,R_Z7,fun x => jmA x.1 x.2.1 x.2.2,fun x => t_Z7 x.1 x.2.1 x.2.2⟩
theorem jCg:jau Try.prog 9 jse := okG k_Z7 e_Z7 jCa fun x hx => jaA (jCb x.1 x.2.1 x.2.2 _) (d_Z7 x.1 x.2.1 x.2.2 _ (jCe x.1 x.2.1 x.2.2 hx) (jCf x.1 x.2.1 x.2.2 hx))
def jsf:Cons := [(11,[],jeU)]
theorem jCh:jag Try.prog jsf := cC jfH <| jag.nil
def jmB (p0:tQC) (K:Int→Prop):Prop := ((((!(s_Z5 p0.1 zz1 (1000000000:Int)))=true) →(K (2:Int))) ∧(((!(s_Z5 p0.1 zz1 (1000000000:Int)))=false) →(∃ n0,(jaX (fun (y1:Int) k2 => ((((decide (y1 < 8))=true) →((zz0≤y1) ∧((y1 < 8) ∧((((!(s_Z5 (List.getD (p0.2.1 :: (p0.2.2.1 :: (p0.2.2.2.1 :: (p0.2.2.2.2.1 :: (p0.2.2.2.2.2.1 :: (p0.2.2.2.2.2.2.1 :: (p0.2.2.2.2.2.2.2.1 :: (p0.2.2.2.2.2.2.2.2 :: ([]:List Int))))))))) y1.toNat zz0) (-1000000000:Int) (1000000000:Int)))=true) →(K (2:Int))) ∧(((!(s_Z5 (List.getD (p0.2.1 :: (p0.2.2.1 :: (p0.2.2.2.1 :: (p0.2.2.2.2.1 :: (p0.2.2.2.2.2.1 :: (p0.2.2.2.2.2.2.1 :: (p0.2.2.2.2.2.2.2.1 :: (p0.2.2.2.2.2.2.2.2 :: ([]:List Int))))))))) y1.toNat zz0) (-1000000000:Int) (1000000000:Int)))=false) →(k2 (IntKind.i64.wrap (y1 + 1)))))))) ∧(((decide (y1 < 8))=false) →(K zz0)))) n0 zz0))))
theorem jCi (p0:tQC) (K:Int→Prop):tfn jo1 jwH jsf jo2 jo3 p0 K = jmB p0 K := by kernel_rfl
def jiU (p0:tQC):Int := (cond (!(s_Z5 p0.1 (1:Int) (1000000000:Int))) (2:Int) (cond (!(s_Z5 p0.2.1 (-1000000000:Int) (1000000000:Int))) (2:Int) (cond (!(s_Z5 p0.2.2.1 (-1000000000:Int) (1000000000:Int))) (2:Int) (cond (!(s_Z5 p0.2.2.2.1 (-1000000000:Int) (1000000000:Int))) (2:Int) (cond (!(s_Z5 p0.2.2.2.2.1 (-1000000000:Int) (1000000000:Int))) (2:Int) (cond (!(s_Z5 p0.2.2.2.2.2.1 (-1000000000:Int) (1000000000:Int))) (2:Int) (cond (!(s_Z5 p0.2.2.2.2.2.2.1 (-1000000000:Int) (1000000000:Int))) (2:Int) (cond (!(s_Z5 p0.2.2.2.2.2.2.2.1 (-1000000000:Int) (1000000000:Int))) (2:Int) (cond (!(s_Z5 p0.2.2.2.2.2.2.2.2 (-1000000000:Int) (1000000000:Int))) (2:Int) (0:Int))))))))))
abbrev jmC (_p0:tQC):List Prop := []
theorem jCj (p0:tQC) (K:Int→Prop) (_hp:∀ p∈jmC p0,p) (h:K (jiU p0)):jmB p0 K := by
 unfold jmB
 unfold jiU at h
 exact (br' h (fun e0 h => h)
  (fun e0 h => ⟨31,fun _ => ⟨(od rfl),(od rfl),(br' h (fun e1 h => h)
  (fun e1 h => ⟨fun _ => ⟨(od rfl),(od rfl),(br' h (fun e2 h => h)
  (fun e2 h => ⟨fun _ => ⟨(od rfl),(od rfl),(br' h (fun e3 h => h)
  (fun e3 h => ⟨fun _ => ⟨(od rfl),(od rfl),(br' h (fun e4 h => h)
  (fun e4 h => ⟨fun _ => ⟨(od rfl),(od rfl),(br' h (fun e5 h => h)
  (fun e5 h => ⟨fun _ => ⟨(od rfl),(od rfl),(br' h (fun e6 h => h)
  (fun e6 h => ⟨fun _ => ⟨(od rfl),(od rfl),(br' h (fun e7 h => h)
  (fun e7 h => ⟨fun _ => ⟨(od rfl),(od rfl),(br' h (fun e8 h => h)
  (fun e8 h => ⟨nof,fun _ => h⟩))⟩,fun e => Bool.noConfusion (show true = false from e)⟩))⟩,fun e => Bool.noConfusion (show true = false from e)⟩))⟩,fun e => Bool.noConfusion (show true = false from e)⟩))⟩,fun e => Bool.noConfusion (show true = false from e)⟩))⟩,fun e => Bool.noConfusion (show true = false from e)⟩))⟩,fun e => Bool.noConfusion (show true = false from e)⟩))⟩,fun e => Bool.noConfusion (show true = false from e)⟩))⟩,fun e => Bool.noConfusion (show true = false from e)⟩))
abbrev jmD (p0:Int×Int×Int×Int×Int×Int×Int×Int×Int):Int := jaI p0
abbrev jmE (_p0:Int×Int×Int×Int×Int×Int×Int×Int×Int):List Prop := []
theorem jCk (p0:Int×Int×Int×Int×Int×Int×Int×Int×Int) (_hq:∀ p∈jmE p0,p):∀ p∈jmC p0,p := by
 simp [jmC]
theorem jCl (p0:Int×Int×Int×Int×Int×Int×Int×Int×Int) (_hq:∀ p∈jmE p0,p):jiU p0 = jmD p0 := by
 unfold jiU jmD jaI
 cases c:s_Z5 p0.1 1 1000000000
 ·rfl
 simp only [jas,List.all_cons,List.all_nil,cond_true,Bool.not_true,cond_false]
 have e:∀ x,s_Z5 x (-1000000000) 1000000000 = jbJ x := fun _ => rfl
 simp only [e]
 cases jbJ p0.2.1
 ·rfl
 cases jbJ p0.2.2.1
 ·rfl
 cases jbJ p0.2.2.2.1
 ·rfl
 cases jbJ p0.2.2.2.2.1
 ·rfl
 cases jbJ p0.2.2.2.2.2.1
 ·rfl
 cases jbJ p0.2.2.2.2.2.2.1
 ·rfl
 cases jbJ p0.2.2.2.2.2.2.2.1
 ·rfl
 cases jbJ p0.2.2.2.2.2.2.2.2 <;> rfl

abbrev jsg:Con := ⟨jo2,jo3,fun x => jmE x,fun x => jmD x⟩
theorem jCm:jau Try.prog 10 jsg := okG jwJ jwI jCh fun x hx => jaA (jCi x _) (jCj x _ (jCk x hx) (jCl x hx))
def C_Zi:Cons := []
theorem jCn:jag Try.prog C_Zi := jag.nil
abbrev jcf (p0:tQF) (p1:Int) := (p0.getD p1.toNat (zz0,(zz0,(zz0,(zz0,zz0)))))
def w_Zi (p0:tQF) (p1:Int) (K:tQJ→Prop):Prop := ((zz0≤p1) ∧((p1 < (p0.length:Int)) ∧((((decide (p1 > zz0))=true) →((zz0≤(wi (p1 - zz1))) ∧(((wi (p1 - zz1)) < (p0.length:Int)) ∧((zz0≤(wi (p1 - zz1))) ∧(((wi (p1 - zz1)) < (p0.length:Int)) ∧(K (zz1,((jcf p0 p1).2.1,((jcf p0 p1).2.2.1,((jcf p0 p1).2.2.2.1,((wi ((jcf p0 p1).2.1 * (jcf p0 p1).2.1)),((wi ((jcf p0 p1).2.1 * (jcf p0 p1).2.2.1)),((wi ((jcf p0 p1).2.1 - (p0.getD (Int.toNat (wi (p1 - zz1))) (zz0,(zz0,(zz0,(zz0,zz0))))).2.1)),(wi ((jcf p0 p1).2.2.1 - (p0.getD (Int.toNat (wi (p1 - zz1))) (zz0,(zz0,(zz0,(zz0,zz0))))).2.2.1))))))))))))))) ∧(((decide (p1 > zz0))=false) →(K (zz1,((jcf p0 p1).2.1,((jcf p0 p1).2.2.1,((jcf p0 p1).2.2.2.1,((wi ((jcf p0 p1).2.1 * (jcf p0 p1).2.1)),((wi ((jcf p0 p1).2.1 * (jcf p0 p1).2.2.1)),(zz0,zz0))))))))))))
theorem jCo (p0:tQF) (p1:Int) (K:tQJ→Prop):tfn F_Zi A_Zi C_Zi P_Zi R_Zi (p0,p1) K = w_Zi p0 p1 K := by kernel_rfl
def s_Zi (p0:tQF) (p1:Int):tQJ := (cond (decide (p1 > 0)) ((1:Int),((p0.getD p1.toNat ((0:Int),((0:Int),((0:Int),(0,0))))).2.1,((p0.getD p1.toNat ((0:Int),((0:Int),((0:Int),(0,0))))).2.2.1,((p0.getD p1.toNat ((0:Int),((0:Int),((0:Int),(0,0))))).2.2.2.1,((IntKind.i64.wrap ((p0.getD p1.toNat ((0:Int),((0:Int),((0:Int),(0,0))))).2.1 * (p0.getD p1.toNat ((0:Int),((0:Int),((0:Int),(0,0))))).2.1)),((IntKind.i64.wrap ((p0.getD p1.toNat ((0:Int),((0:Int),((0:Int),(0,0))))).2.1 * (p0.getD p1.toNat ((0:Int),((0:Int),((0:Int),(0,0))))).2.2.1)),((IntKind.i64.wrap ((p0.getD p1.toNat ((0:Int),((0:Int),((0:Int),(0,0))))).2.1 - (p0.getD (Int.toNat (IntKind.i64.wrap (p1 - 1))) ((0:Int),((0:Int),((0:Int),(0,0))))).2.1)),(IntKind.i64.wrap ((p0.getD p1.toNat ((0:Int),((0:Int),((0:Int),(0,0))))).2.2.1 - (p0.getD (Int.toNat (IntKind.i64.wrap (p1 - 1))) ((0:Int),((0:Int),((0:Int),(0,0))))).2.2.1))))))))) ((1:Int),((p0.getD p1.toNat ((0:Int),((0:Int),((0:Int),(0,0))))).2.1,((p0.getD p1.toNat ((0:Int),((0:Int),((0:Int),(0,0))))).2.2.1,((p0.getD p1.toNat ((0:Int),((0:Int),((0:Int),(0,0))))).2.2.2.1,((IntKind.i64.wrap ((p0.getD p1.toNat ((0:Int),((0:Int),((0:Int),(0,0))))).2.1 * (p0.getD p1.toNat ((0:Int),((0:Int),((0:Int),(0,0))))).2.1)),((IntKind.i64.wrap ((p0.getD p1.toNat ((0:Int),((0:Int),((0:Int),(0,0))))).2.1 * (p0.getD p1.toNat ((0:Int),((0:Int),((0:Int),(0,0))))).2.2.1)),(0,0))))))))
abbrev jmF (p0:tQF) (p1:Int):List Prop := [((0:Int)≤p1),(p1 < (p0.length:Int)),(((decide (p1 > 0))=true)→((0:Int)≤(IntKind.i64.wrap (p1 - 1)))),(((decide (p1 > 0))=true)→((IntKind.i64.wrap (p1 - 1)) < (p0.length:Int)))]
theorem d_Zi (p0:tQF) (p1:Int) (K:tQJ→Prop) (hp:∀ p∈jmF p0 p1,p) (h:K (s_Zi p0 p1)):w_Zi p0 p1 K := by
 unfold w_Zi
 unfold s_Zi at h
 obtain ⟨hp0,hp1,hp2,hp3,_⟩ := jah hp
 exact ⟨(hp0),(hp1),(br' h (fun e0 h => ⟨(hp2 e0),(hp3 e0),(hp2 e0),(hp3 e0),h⟩)
  (fun e0 h => h))⟩
abbrev t_Zi (p0:List tQB) (p1:Int):Int×Int×Int×Int×Int×Int×Int×Int := jae p0 p1.toNat
abbrev jmG (p0:List tQB) (p1:Int):List Prop := [v_smp p0,0≤p1,p1 < p0.length]
theorem jCp (p0:List tQB) (p1:Int) (hq:∀ p∈jmG p0 p1,p):∀ p∈jmF p0 p1,p := by
 obtain ⟨h1,h2,h3,_⟩ := jah hq
 have hl := h1.len
 have hw:IntKind.i64.wrap (p1 - 1)=p1 - 1 := jar (by omega) (by omega)
 simp only [jmF,fM,hw,decide_eq_true_eq]
 and_intros
 all_goals first | (intros; omega) | (intro p hp; cases hp)
theorem jCq (p0:List tQB) (p1:Int) (hq:∀ p∈jmG p0 p1,p):s_Zi p0 p1 = t_Zi p0 p1 := by
 obtain ⟨h1,h2,h3,_⟩ := jah hq
 have hl := h1.len
 have hw:IntKind.i64.wrap (p1 - 1)=p1 - 1 := jar (by omega) (by omega)
 obtain ⟨w1,w2,w3,w4⟩ := jra h1 (show p1.toNat < p0.length by omega)
 unfold s_Zi t_Zi jae
 rw [hw,w1,w2]
 by_cases h0:p1 > 0
 ·rw [decide_eq_true h0,cond_true,show (p1 - 1).toNat = p1.toNat - 1 by omega,w3,w4]
 ·rw [decide_eq_false h0,cond_false,show p1.toNat - 1 = p1.toNat by omega,Int.sub_self,Int.sub_self]

abbrev jmH:Con := ⟨P_Zi,R_Zi,fun x => jmG x.1 x.2,fun x => t_Zi x.1 x.2⟩
theorem jsh:jau Try.prog 12 jmH := okG k_Zi e_Zi jCn fun x hx => jaA (jCo x.1 x.2 _) (d_Zi x.1 x.2 _ (jCp x.1 x.2 hx) (jCq x.1 x.2 hx))
def C_Zq:Cons := []
theorem jCr:jag Try.prog C_Zq := jag.nil
def w_Zq (p0:gF) (K:(List Int)→Prop):Prop := (∃ n0,(jaX (fun (y1:Int) k2 => ((((decide (y1 > 0))=true) →((decide (y1 > 0))=(decide (y1 > 0)))) ∧((((decide (y1 > 0))=true) →((decide (y1 > 0))=(decide (y1 > 0)))) ∧((((decide (y1 > 0))=true) →((decide (y1 > 0))=(decide (y1 > 0)))) ∧((((decide (y1 > 0))=true) →(zz0≤(IntKind.i64.wrap (y1 - 1)))) ∧((((decide (y1 > 0))=true) →((IntKind.i64.wrap (y1 - 1)) < (p0.length:Int))) ∧((((decide (y1 > 0))=true) →((decide (y1 > 0))=(decide (y1 > 0)))) ∧((((decide (y1 > 0))=true) →((decide (y1 > 0))=(decide (y1 > 0)))) ∧(((decide (y1 > 0))=(decide (y1 > 0))) ∧((((cond (decide (y1 > 0)) ((p0.getD (Int.toNat (IntKind.i64.wrap (y1 - 1))) zz0) == 0) false)=true) →(k2 (IntKind.i64.wrap (y1 - 1)))) ∧(((cond (decide (y1 > 0)) ((p0.getD (Int.toNat (IntKind.i64.wrap (y1 - 1))) zz0) == 0) false)=false) →((zz0≤y1) ∧((y1≤(p0.length:Int)) ∧(K (List.take y1.toNat p0))))))))))))))) n0 (p0.length:Int)))
theorem jCs (p0:gF) (K:(List Int)→Prop):tfn F_Zq A_Zq C_Zq P_Zq R_Zq p0 K = w_Zq p0 K := by kernel_rfl
def je9 (p0:gF) (y0:Int):Int ⊕ (List Int) := (cond (cond (decide (y0 > 0)) ((p0.getD (Int.toNat (IntKind.i64.wrap (y0 - 1))) (0:Int)) == 0) false) (Sum.inl (IntKind.i64.wrap (y0 - 1))) (Sum.inr (List.take y0.toNat p0)))
abbrev jiV (p0:gF) (y0:Int):List Prop := [(((decide (y0 > 0))=true)→((0:Int)≤(IntKind.i64.wrap (y0 - 1)))),(((decide (y0 > 0))=true)→((IntKind.i64.wrap (y0 - 1)) < (p0.length:Int))),(((cond (decide (y0 > 0)) ((p0.getD (Int.toNat (IntKind.i64.wrap (y0 - 1))) (0:Int)) == 0) false)=false)→((0:Int)≤y0)),(((cond (decide (y0 > 0)) ((p0.getD (Int.toNat (IntKind.i64.wrap (y0 - 1))) (0:Int)) == 0) false)=false)→(y0≤(p0.length:Int)))]
def s_Zq (p0:gF):(List Int) := (lpv [] (je9 p0) (p0.length:Int))
abbrev jmI (p0:gF):List Prop := [(OkL (je9 p0) (jiV p0) (p0.length:Int))]
theorem d_Zq (p0:gF) (K:(List Int)→Prop) (hp:∀ p∈jmI p0,p) (h:K (s_Zq p0)):w_Zq p0 K := by
 unfold w_Zq
 unfold s_Zq at h
 obtain ⟨hp0,_⟩ := jah hp
 exact (ja5 (hp0) h (fun y0 k0 hp h => by
 unfold je9 at h; obtain ⟨hp0,hp1,hp2,hp3,_⟩ := jah hp
 exact ⟨rf,rf,rf,(hp0),(hp1),rf,rf,rfl,(br' h (fun e1 h => h)
  (fun e1 h => ⟨(hp2 e1),(hp3 e1),h⟩))⟩))
def jaF (a b:Int):Int := cond (decide (a < b)) (-1) (cond (decide (a > b)) 1 0)
theorem jsi {a b:Int}:0 < jaF a b ↔ b < a := by
 unfold jaF
 rcases Int.lt_trichotomy a b with h | h | h
 ·rw [decide_eq_true h]; simp; omega
 ·subst h; simp
 ·rw [decide_eq_false (show ¬ a < b by omega),decide_eq_true (show a > b from h)]; simp; omega
/-! Digits to the base 10^9,the lowest one first. -/
def jac:List Int→Int
 | [] => 0
 | d :: r => d + 1000000000 * jac r
def jaE (l:gF):Prop := ∀ d∈l,0≤d∧d < 1000000000
def jay (n:Nat):List Int := if h:n = 0 then [] else ((n % 1000000000:Nat):Int) :: jay (n / 1000000000)
termination_by n
decreasing_by exact Nat.div_lt_self (Nat.pos_of_ne_zero h) (by decide)
theorem jdr:jay 0 = [] := by unfold jay; rfl
theorem jfR {n:Nat} (h:n ≠ 0):jay n = ((n % 1000000000:Nat):Int) :: jay (n / 1000000000) := by rw [jay,dif_neg h]
theorem jgY (n:Nat):jaE (jay n) := by
 induction n using Nat.strongRecOn with
 | _ n ih =>
  by_cases h:n = 0
  ·subst h; rw [jdr]; intro d hd; cases hd
  ·rw [jfR h]
   intro d hd
   rcases List.mem_cons.1 hd with rfl | hd
   ·omega
   ·exact ih _ (Nat.div_lt_self (Nat.pos_of_ne_zero h) (by decide)) d hd
theorem jgZ (n:Nat):jac (jay n)=n := by
 induction n using Nat.strongRecOn with
 | _ n ih =>
  by_cases h:n = 0
  ·subst h; rw [jdr]; rfl
  ·rw [jfR h]
   show _ + 1000000000 * jac _ = _
   rw [ih _ (Nat.div_lt_self (Nat.pos_of_ne_zero h) (by decide))]
   omega
theorem jdO:∀ {l:List Int},jaE l→0≤jac l
 | [],_ => Int.le_refl _
 | d :: r,h => by
  have := h d (by simp)
  have := jdO (l := r) fun x hx => h x (by simp [hx])
  show 0≤d + 1000000000 * jac r
  omega
/-- What so many digits can say. -/
def jaC (k:Nat):Int := 1000000000 ^ k
theorem jsj:jaC 0 = 1 := rfl
theorem jc4 (k:Nat):jaC (k + 1)=1000000000 * jaC k := by unfold jaC; rw [Int.pow_succ,Int.mul_comm]
theorem jfa (k:Nat):1≤jaC k := by
 induction k with
 | zero => exact Int.le_refl _
 | succ k ih => rw [jc4]; omega
theorem jg0 (a b:Nat):jaC (a + b)=jaC a * jaC b := by unfold jaC; rw [Int.pow_add]
theorem jiW {a b:Nat} (h:a≤b):jaC a≤jaC b := by
 obtain ⟨c,rfl⟩ : ∃ c,b = a + c := ⟨b - a,by omega⟩
 rw [jg0]
 have h1 := jfa a
 have h2 := jfa c
 have := Int.mul_le_mul_of_nonneg_left h2 (show 0≤jaC a by omega)
 omega
theorem jg1:∀ {l:List Int},jaE l→jac l < jaC l.length
 | [],_ => by decide
 | d :: r,h => by
  have := h d (by simp)
  have := jg1 (l := r) fun x hx => h x (by simp [hx])
  show d + 1000000000 * jac r < jaC (r.length + 1)
  rw [jc4]; omega
theorem jsk (n:Nat):jay n = [] ∨ jaC ((jay n).length - 1)≤n := by
 induction n using Nat.strongRecOn with
 | _ n ih =>
  by_cases h:n = 0
  ·subst h; exact .inl jdr
  ·right
   rw [jfR h,List.length_cons,Nat.add_sub_cancel]
   rcases ih (n / 1000000000) (Nat.div_lt_self (Nat.pos_of_ne_zero h) (by decide)) with e | e
   ·rw [e]; show (1:Int)≤n; omega
   ·generalize hL:(jay (n / 1000000000)).length = L at *
    rcases Nat.eq_zero_or_pos L with h0 | h0
    ·rw [h0]; show (1:Int)≤n; omega
    ·rw [show L = L - 1 + 1 by omega,jc4]
     omega
theorem jg2 (n:Nat):(n:Int) < jaC (jay n).length := by
 have := jg1 (jgY n)
 rwa [jgZ] at this
theorem jCt {a b:Nat} (h:jaC a < jaC b):a < b := by
 rcases Nat.lt_or_ge a b with g | g
 ·exact g
 ·have := jiW g; omega
theorem jg3 {n k:Nat} (h:(n:Int) < jaC k):(jay n).length≤k := by
 rcases jsk n with e | e
 ·rw [e]; simp
 ·have := jCt (show jaC ((jay n).length - 1) < jaC k by omega)
  omega
theorem jsl {m n:Nat} (h:(jay m).length < (jay n).length):m < n := by
 have h1 := jg2 m
 rcases jsk n with e | e
 ·rw [e] at h; simp at h
 ·have := jiW (show (jay m).length≤(jay n).length - 1 by omega)
  omega
/-- Without zeros at the end. -/
def jbt:List Int→List Int
 | [] => []
 | d :: r => match jbt r with
  | [] => cond (d == 0) [] [d]
  | x :: q => d :: x :: q
theorem jmJ:∀ {l:List Int},jaE l→jbt l = jay (jac l).toNat
 | [],_ => by rw [show (jac []).toNat = 0 from rfl,jdr]; rfl
 | d :: r,h => by
  have hd := h d (by simp)
  have hr:jaE r := fun x hx => h x (by simp [hx])
  have hn := jdO hr
  have ih := jmJ hr
  have e:jac (d :: r)=d + 1000000000 * jac r := rfl
  have e1:(d + 1000000000 * jac r).toNat % 1000000000 = d.toNat := by omega
  have e2:(d + 1000000000 * jac r).toNat / 1000000000 = (jac r).toNat := by omega
  rw [e]
  unfold jbt
  rw [ih]
  by_cases hz:jac r = 0
  ·rw [hz,show (0:Int).toNat = 0 from rfl,jdr]
   by_cases hd0:d = 0
   ·subst hd0; rw [show ((0:Int) + 1000000000 * 0).toNat = 0 from rfl,jdr]; rfl
   ·rw [hz] at e1 e2
    rw [jfR (by omega),e1,e2,show (0:Int).toNat = 0 from rfl,jdr,Int.toNat_of_nonneg hd.1,show (d == 0)=false from beq_eq_false_iff_ne.2 hd0]; rfl
  ·rw [jfR (n := (d + 1000000000 * jac r).toNat) (by omega),e1,e2,Int.toNat_of_nonneg hd.1]
   cases hq:jay (jac r).toNat with
   | nil =>
    have := jgZ (jac r).toNat
    rw [hq] at this
    have:(0:Int)=((jac r).toNat:Int) := this
    omega
   | cons x q => rfl
theorem jg4:∀ (a b:gF),jac (a ++ b)=jac a + jaC a.length * jac b
 | [],b => by show jac b = 0 + 1 * jac b; omega
 | d :: a,b => by
  show d + 1000000000 * jac (a ++ b)=d + 1000000000 * jac a + jaC (a.length + 1) * jac b
  rw [jg4 a b,jc4,Int.mul_add,Int.mul_assoc]; omega
theorem jsm:∀ n,jac (List.replicate n 0)=0
 | 0 => rfl
 | n + 1 => by rw [List.replicate_succ]; show (0:Int) + 1000000000 * jac _ = 0; rw [jsm n]; rfl
theorem jmK:∀ (l:gF) (i:Nat) (x:Int),i < l.length→jac (l.set i x)=jac l + jaC i * (x - l.getD i 0)
 | [],i,x,h => by simp at h
 | d :: r,0,x,_ => by
  show x + 1000000000 * jac r = d + 1000000000 * jac r + 1 * (x - d)
  omega
 | d :: r,i + 1,x,h => by
  show d + 1000000000 * jac (r.set i x)=d + 1000000000 * jac r + jaC (i + 1) * (x - r.getD i 0)
  rw [jmK r i x (by simpa using h),jc4,Int.mul_add,Int.mul_assoc]; omega
theorem jsn (l:gF) (i:Nat) (h:i < l.length):jac l = jac (l.take i) + jaC i * (l.getD i 0 + 1000000000 * jac (l.drop (i + 1))) := by
 have e:l = l.take i ++ (l.getD i 0 :: l.drop (i + 1)) := by rw [← jdz 0 h,List.take_append_drop]
 have := jg4 (l.take i) (l.getD i 0 :: l.drop (i + 1))
 rw [← e] at this
 rw [this,List.length_take,Nat.min_eq_left (Nat.le_of_lt h)]; rfl
/-- A whole number,as its sign and its digits. -/
def jap (n:Int):Int×List Int := (n.sign,jay n.natAbs)
def jaH (p:Int×List Int):Int := p.1 * jac p.2
theorem jc5 (n:Int):jaH (jap n)=n := by
 unfold jaH jap
 simp only
 rw [jgZ]
 exact Int.sign_mul_natAbs n
theorem jiX {l:List Int} {i:Nat} (h:i < l.length):jac (l.take (i + 1))=jac (l.take i) + jaC i * l.getD i 0 := by
 have e:l.take (i + 1)=l.take i ++ [l.getD i 0] := by
  rw [List.take_succ_eq_append_getElem h,List.getD_eq_getElem?_getD,List.getElem?_eq_getElem h]; rfl
 rw [e,jg4,List.length_take,Nat.min_eq_left (Nat.le_of_lt h)]
 show _ + jaC i * (l.getD i 0 + 1000000000 * 0)=_
 rw [Int.mul_zero,Int.add_zero]
theorem jmL {l:List Int} (h:jaE l) (i:Nat):jaE (l.take i) := fun d hd => h d (List.mem_of_mem_take hd)
theorem jCu {l:List Int} (h:jaE l) (i:Nat):jaE (l.drop i) := fun d hd => h d (List.mem_of_mem_drop hd)
theorem jeo {l:List Int} (h:jaE l) (i:Nat):0≤l.getD i 0∧l.getD i 0 < 1000000000 := by
 rcases Nat.lt_or_ge i l.length with hi | hi
 ·exact h _ (jbF 0 hi)
 ·rw [List.getD_eq_getElem?_getD,List.getElem?_eq_none hi]; simp
theorem jiY {l:List Int} {x:Int} (h:jaE l) (hx:0≤x∧x < 1000000000):jaE (l ++ [x]) := fun d hd => by
 rcases List.mem_append.1 hd with hd | hd
 ·exact h d hd
 ·simp at hd; subst hd; exact hx
theorem jso {l:List Int} {x:Int} {i:Nat} (h:jaE l) (hx:0≤x∧x < 1000000000):jaE (l.set i x) := fun d hd => by
 rcases List.mem_or_eq_of_mem_set hd with hd | rfl
 ·exact h d hd
 ·exact hx
theorem jiZ (l:gF) (x:Int):jac (l ++ [x])=jac l + jaC l.length * x := by
 rw [jg4]
 show _ + jaC l.length * (x + 1000000000 * 0)=_
 rw [Int.mul_zero,Int.add_zero]
theorem jsp {a b:List Int} (ha:jaE a) (hb:jaE b) {i:Nat} (hia:i < a.length) (hib:i < b.length) (hd:a.drop (i + 1)=b.drop (i + 1)) (h:a.getD i 0 < b.getD i 0):jac a < jac b := by
 rw [jsn a i hia,jsn b i hib,hd]
 have h1 := jg1 (jmL ha i)
 rw [List.length_take,Nat.min_eq_left (Nat.le_of_lt hia)] at h1
 have h2 := jdO (jmL hb i)
 have h3 := jfa i
 have := Int.mul_le_mul_of_nonneg_left (show 1≤b.getD i 0 - a.getD i 0 by omega) (show 0≤jaC i by omega)
 rw [Int.mul_add,Int.mul_add]
 rw [Int.mul_sub] at this
 omega
/-- jeR from a number down to 0; t: what is carried besides. -/
theorem jCv {τ σ ρ:Type} {dd:ρ} {st:σ→σ ⊕ ρ} {sp:σ→List Prop} (mk:Int→τ→σ) (n:Nat) (I:Nat→τ→Prop) (F:Nat→τ→ρ) (hl:n≤4611686018427387904)
  (hn:∀ t,I 0 t→(∀ p∈sp (mk (-1) t),p)∧st (mk (-1) t) = .inr (F 0 t))
  (hc:∀ (j:Nat) (t:τ),j < n→I (j + 1) t→(∀ p∈sp (mk j t),p)∧((∃ t',st (mk j t) = .inl (mk ((j:Int) - 1) t')∧I j t'∧F j t' = F (j + 1) t) ∨ st (mk j t) = .inr (F (j + 1) t))) (t:τ) (h:I n t):OkL st sp (mk ((n:Int) - 1) t)∧lpv dd st (mk ((n:Int) - 1) t)=F n t := by
 have key:∀ (j f:Nat) (t:τ),j≤n→j < f→I j t→OkN st sp f (mk ((j:Int) - 1) t)∧runL dd st f (mk ((j:Int) - 1) t)=F j t := by
  intro j
  induction j with
  | zero =>
   intro f t _ hf hi
   obtain ⟨g1,g2⟩ := hn t hi
   cases f with
   | zero => omega
   | succ f => unfold OkN runL; rw [show ((0:Nat):Int) - 1 = -1 from rfl,g2]; exact ⟨⟨g1,trivial⟩,rfl⟩
  | succ j ih =>
   intro f t hjn hf hi
   obtain ⟨g1,g2⟩ := hc j t (by omega) hi
   cases f with
   | zero => omega
   | succ f =>
    unfold OkN runL
    rw [show ((j + 1:Nat):Int) - 1 = (j:Int) by omega]
    rcases g2 with ⟨t',e,i',f'⟩ | e
    ·rw [e]
     obtain ⟨q1,q2⟩ := ih f t' (by omega) (by omega) i'
     exact ⟨⟨g1,q1⟩,by rw [← f']; exact q2⟩
    ·rw [e]; exact ⟨⟨g1,trivial⟩,rfl⟩
 exact key n fuel t (Nat.le_refl _) (by unfold fuel; omega) h
/-- What holds at each round,and falls,ends in what is asked. -/
theorem jCw {σ ρ:Type} {d:ρ} {st:σ→σ ⊕ ρ} {sp:σ→List Prop} (I:σ→Prop) (μ:σ→Nat) (R:ρ→Prop)
  (h:∀ x,I x→(∀ p∈sp x,p)∧match st x with | .inl y => I y∧μ y < μ x | .inr r => R r) {x:σ} (hx:I x) (hm:μ x < fuel):OkL st sp x∧R (lpv d st x) := by
 have key:∀ (n:Nat) (x:σ),I x→μ x < n→OkN st sp n x∧R (runL d st n x) := by
  intro n
  induction n with
  | zero => intro x _ hn; omega
  | succ n ih =>
   intro x hi hn
   obtain ⟨h1,h2⟩ := h x hi
   unfold OkN runL
   cases hst:st x with
   | inl y =>
    rw [hst] at h2
    obtain ⟨q1,q2⟩ := ih y h2.1 (by omega)
    exact ⟨⟨h1,q1⟩,q2⟩
   | inr r => rw [hst] at h2; exact ⟨⟨h1,trivial⟩,h2⟩
 exact key fuel x hx hm
theorem jmM {τ σ ρ:Type} {dd:ρ} {st:σ→σ ⊕ ρ} {sp:σ→List Prop} (mk:Int→τ→σ) (a n:Nat) (I:Nat→τ→Prop) (R:ρ→Prop) (ha:a≤n) (hl:n≤4611686018427387904)
  (hn:∀ t,I n t→(∀ p∈sp (mk n t),p)∧∃ r,st (mk n t) = .inr r∧R r)
  (hc:∀ (j:Nat) (t:τ),a≤j→j < n→I j t→(∀ p∈sp (mk j t),p)∧((∃ t',st (mk j t) = .inl (mk ((j + 1:Nat):Int) t')∧I (j + 1) t') ∨ ∃ r,st (mk j t) = .inr r∧R r)) (t:τ) (h:I a t):OkL st sp (mk a t)∧R (lpv dd st (mk a t)) := by
 have key:∀ (m j f:Nat) (t:τ),a≤j→m + j = n→m < f→I j t→OkN st sp f (mk j t)∧R (runL dd st f (mk j t)) := by
  intro m
  induction m with
  | zero =>
   intro j f t _ hj hf hi
   have:j = n := by omega
   subst this
   obtain ⟨g1,r,g2,g3⟩ := hn t hi
   cases f with
   | zero => omega
   | succ f => unfold OkN runL; rw [g2]; exact ⟨⟨g1,trivial⟩,g3⟩
  | succ m ih =>
   intro j f t haj hj hf hi
   obtain ⟨g1,g2⟩ := hc j t haj (by omega) hi
   cases f with
   | zero => omega
   | succ f =>
    unfold OkN runL
    rcases g2 with ⟨t',e,i'⟩ | ⟨r,e,g3⟩
    ·rw [e]
     obtain ⟨q1,q2⟩ := ih (j + 1) f t' (by omega) (by omega) (by omega) i'
     exact ⟨⟨g1,q1⟩,q2⟩
    ·rw [e]; exact ⟨⟨g1,trivial⟩,g3⟩
 exact key (n - a) a fuel t (Nat.le_refl _) (by omega) (by unfold fuel; omega) h
/-- A sum,digit by digit: a round. -/
theorem jCx {out:List Int} {s R X:Int} (h:jac out + jaC out.length * (s + 1000000000 * R)=X):jac (out ++ [s % 1000000000]) + jaC (out.length + 1) * (s / 1000000000 + R)=X := by
 rw [jiZ,jc4,← h]
 have e:s = 1000000000 * (s / 1000000000) + s % 1000000000 := (Int.mul_ediv_add_emod s 1000000000).symm
 generalize s / 1000000000 = q at *
 generalize s % 1000000000 = r at *
 subst e
 grind
/-- A product,digit by digit: a round. -/
theorem jCy {out b:List Int} {i k:Nat} {x c s V:Int} (hk:k < b.length) (ho:i + k < out.length) (hs:s = out.getD (i + k) 0 + x * b.getD k 0 + c)
  (h:jac out + c * jaC (i + k)=V + x * jaC i * jac (b.take k)):jac (out.set (i + k) (s % 1000000000)) + (s / 1000000000) * jaC (i + k + 1)=V + x * jaC i * jac (b.take (k + 1)) := by
 rw [jmK _ _ _ ho,jiX hk,jc4,jg0]
 rw [jg0] at h
 have e:s = 1000000000 * (s / 1000000000) + s % 1000000000 := (Int.mul_ediv_add_emod s 1000000000).symm
 generalize s / 1000000000 = q at *
 generalize s % 1000000000 = r at *
 generalize out.getD (i + k) 0 = o at *
 generalize b.getD k 0 = d at *
 generalize jaC i = P at *
 generalize jaC k = Q at *
 generalize jac out = X at *
 generalize jac (b.take k)=Y at *
 grind
theorem jCz {o x d c:Int} (ho:0≤o∧o < 1000000000) (hx:0≤x∧x < 1000000000) (hd:0≤d∧d < 1000000000) (hc:0≤c∧c < 1000000000):0≤x * d∧x * d≤999999998000000001∧0≤o + x * d + c∧(o + x * d + c) / 1000000000 < 1000000000 := by
 have h1:0≤x * d := Int.mul_nonneg hx.1 hd.1
 have h2:0≤(999999999 - x) * (999999999 + d) := Int.mul_nonneg (by omega) (by omega)
 have h3:0≤(999999999 + x) * (999999999 - d) := Int.mul_nonneg (by omega) (by omega)
 have h4:0≤(999999999 - x) * (999999999 - d) := Int.mul_nonneg (by omega) (by omega)
 simp only [Int.sub_mul,Int.mul_sub,Int.mul_add,Int.add_mul] at h2 h3 h4
 omega
theorem jsq:∀ (l:gF),jbt (l ++ [0])=jbt l
 | [] => rfl
 | d :: r => by
  rw [List.cons_append]
  unfold jbt
  rw [jsq r]
theorem jsr {d:Int} (h:d ≠ 0):∀ (l:gF),jbt (l ++ [d])=l ++ [d]
 | [] => by
  show (match jbt [] with | [] => cond (d == 0) [] [d] | x :: q => d :: x :: q)=_
  rw [show jbt []=[] from rfl]
  simp only
  rw [show (d == 0)=false from beq_eq_false_iff_ne.2 h]; rfl
 | x :: r => by
  rw [List.cons_append]
  unfold jbt
  rw [jsr h r]
  cases r <;> rfl
theorem jss (p0:gF) (h:p0.length≤10000000000000):OkL (je9 p0) (jiV p0) (p0.length:Int)∧lpv ([]:List Int) (je9 p0) (p0.length:Int)=jbt p0 := by
 refine jf6 (fun (y:Int) => 0≤y∧y≤p0.length∧jbt (p0.take y.toNat)=jbt p0) (fun (y:Int) => y.toNat) (fun _ => jbt p0) ?_ ⟨by omega,Int.le_refl _,by rw [Int.toNat_natCast,List.take_length]⟩ (by unfold fuel; omega)
 rintro y ⟨h1,h2,h3⟩
 rcases Int.lt_or_le 0 y with h0 | h0
 ·have hw:IntKind.i64.wrap (y - 1)=y - 1 := jar (by omega) (by omega)
  have hk:(y - 1).toNat < p0.length := by omega
  have ht := jFI hk
  rw [show (y - 1).toNat + 1 = y.toNat by omega] at ht
  simp only [jiV,je9,hw,decide_eq_true (show y > 0 from h0),fM,cond_true]
  refine ⟨⟨fun _ => by omega,fun _ => by omega,fun _ => by omega,fun _ => h2,by simp⟩,?_⟩
  rcases int0 (p0.getD (y - 1).toNat 0) with ⟨z,_,e⟩ | ⟨z,_,e⟩ <;> rw [e]
  ·simp only [cond_true]
   refine ⟨⟨by omega,by omega,?_⟩,by omega,trivial⟩
   rw [← h3,ht,z,jsq]
  ·simp only [cond_false]
   rw [← h3,ht,jsr z]
 ·have:y = 0 := by omega
  subst this
  simp only [jiV,je9,decide_eq_false (show ¬ (0:Int) > 0 by omega),fM,cond_false]
  refine ⟨⟨fun h => (by cases h),fun h => (by cases h),fun _ => Int.le_refl _,fun _ => h2,by simp⟩,?_⟩
  rw [← h3]; rfl
abbrev t_Zq (p0:gF):List Int := jbt p0
abbrev jmN (p0:gF):List Prop := [p0.length≤10000000000000]
theorem jCA (p0:gF) (hq:∀ p∈jmN p0,p):∀ p∈jmI p0,p := by
 simp only [jmI,fM]
 exact ⟨(jss p0 (jah hq).1).1,by simp⟩
theorem jCB (p0:gF) (hq:∀ p∈jmN p0,p):s_Zq p0 = t_Zq p0 := by
 exact (jss p0 (jah hq).1).2

abbrev jmO:Con := ⟨P_Zq,R_Zq,fun x => jmN x,fun x => t_Zq x⟩
theorem jst:jau Try.prog 89 jmO := okG k_Zq e_Zq jCr fun x hx => jaA (jCs x _) (d_Zq x _ (jCA x hx) (jCB x hx))
end Go.Proofs.Ytcdbaepeabefnaa
