/- MagnetThereAndBack: the given statement is proved: at every input the law returns true, and the input reads as it did. No condition. -/
import Derived.Test.YtdkhhafmidokmaaWalkMagnetThereAndBack
import Derived.Test.YtdkhhafmidokmaaLayB
import Derived.Test.YtdkhhafmidokmaaMxU
import Derived.Test.YtdkhhafmidokmaaRows
import Derived.ProofKit
namespace Go.Proofs.Ytdkhhafmidokmaa
open Go Go.Mx
set_option maxRecDepth 100000
/-- A field recorded later on the way out,earlier on the way back; samples of the way out. -/
def v_out (f:gF) (g:Nat):List Int := (List.range f.length).map fun i => f.getD (i - g) 0
def v_bck (f:gF) (g:Nat):List Int := (List.range f.length).map fun i => f.getD (min (f.length - 1) (i + g)) 0
def v_ssk (f:gF) (g k:Nat):Int×Int×Int×Int×Int := ((k:Int),0,0,0,(v_out f g).getD k 0)
def v_sss (f:gF) (g:Nat):List (Int×Int×Int×Int×Int) := (List.range' 0 f.length).map (v_ssk f g)
theorem v_out_len (f:gF) (g:Nat):(v_out f g).length = f.length := by unfold v_out; simp
theorem v_bck_len (f:gF) (g:Nat):(v_bck f g).length = f.length := by unfold v_bck; simp
theorem v_sss_len (f:gF) (g:Nat):(v_sss f g).length = f.length := by unfold v_sss; simp
theorem v_out_get {f:List Int} {g k:Nat} (hk:k < f.length):(v_out f g).getD k 0 = f.getD (k - g) 0 := by
  unfold v_out
  rw [List.getD_eq_getElem?_getD,List.getElem?_map,List.getElem?_range hk]; rfl
theorem v_bck_get {f:List Int} {g k:Nat} (hk:k < f.length):(v_bck f g).getD k 0 = f.getD (min (f.length - 1) (k + g)) 0 := by
  unfold v_bck
  rw [List.getD_eq_getElem?_getD,List.getElem?_map,List.getElem?_range hk]; rfl
theorem v_sss_get {f:List Int} {g k:Nat} (hk:k < f.length):(v_sss f g).getD k (0,0,0,0,0) = v_ssk f g k := by
  unfold v_sss
  rw [List.getD_eq_getElem?_getD,List.getElem?_map,List.getElem?_range' hk]; simp
theorem v_out_ser {f:List Int} {g:Nat} (h:v_ser f):v_ser (v_out f g) := by
  refine ⟨by rw [v_out_len]; exact h.ne,by rw [v_out_len]; exact h.len,fun x hx => ?_⟩
  obtain ⟨i,hi,rfl⟩ := List.mem_map.1 hx
  have := List.mem_range.1 hi
  exact v_ser_get h (by omega)
theorem v_bck_ser {f:List Int} {g:Nat} (h:v_ser f):v_ser (v_bck f g) := by
  have hne := h.ne
  refine ⟨by rw [v_bck_len]; exact h.ne,by rw [v_bck_len]; exact h.len,fun x hx => ?_⟩
  obtain ⟨i,hi,rfl⟩ := List.mem_map.1 hx
  exact v_ser_get h (by omega)
theorem v_serr_of {l:List Int} (h:v_ser l):v_serr l = 0 := by
  have hne := h.ne
  have hl := h.len
  unfold v_serr
  rcases int0 (l.length:Int) with ⟨_,_,e0⟩ | ⟨h0,_,e0⟩ <;> rw [e0]
  · omega
  rcases dec0 (a := 40) (b := (l.length:Int)) with ⟨_,_,_,_,e1⟩ | ⟨h1,_,_,_,e1⟩ <;> rw [e1]
  · omega
  rw [show l.all v_val = true from List.all_eq_true.2 fun x hx => tx_within.2 (h.ok x hx)]; rfl
theorem v_ms_zero {f:List Int} {g:Nat}:∀ k,k + 2 * g≤f.length→v_ms (v_out f g) (v_bck f g) g k = 0
  | 0,_ => rfl
  | k + 1,h => by
    unfold v_ms
    rw [v_ms_zero k (by omega),v_out_get (by omega),v_bck_get (by omega),show k + 2 * g - g = k + g by omega,show min (f.length - 1) (k + g) = k + g by omega]
    omega
theorem v_best_zero {o b:List Int} {g:Nat} (h1:v_ser o) (h2:v_ser b) (he:o.length = b.length) (hg:2 * g < o.length) (hz:(v_mis o b g).1 = 0):∀ j,g≤j→2 * j < o.length→v_best o b j≤g∧(v_mis o b (v_best o b j)).1 = 0
  | 0,h,_ => by
    obtain rfl:g = 0 := by omega
    exact ⟨Nat.le_refl _,hz⟩
  | j + 1,h,hj => by
    have a := v_mis_le (g := j + 1) h1 h2 he
    have b' := v_mis_le (g := v_best o b j) h1 h2 he
    have stay:(v_mis o b (v_best o b j)).1 = 0→v_best o b (j + 1) = v_best o b j := fun e => by
      have := Int.mul_nonneg a.1 b'.2.2.1
      conv => lhs; unfold v_best v_better
      rw [e,Int.zero_mul,decide_eq_false (by omega)]; rfl
    rcases Nat.lt_or_ge j g with h3 | h3
    · obtain rfl:g = j + 1 := by omega
      rcases Int.lt_or_le 0 (v_mis o b (v_best o b j)).1 with h4 | h4
      · have e:v_best o b (j + 1) = j + 1 := by
          have := Int.mul_pos h4 (v_mis_pos (b := b) (g := j + 1) hj)
          conv => lhs; unfold v_best v_better
          rw [hz,Int.zero_mul,decide_eq_true this]; rfl
        rw [e]; exact ⟨Nat.le_refl _,hz⟩
      · have e0:(v_mis o b (v_best o b j)).1 = 0 := by omega
        have := v_best_le o b j
        rw [stay e0]; exact ⟨by omega,e0⟩
    · obtain ⟨i1,i2⟩ := v_best_zero h1 h2 he hg hz j h3 (by omega)
      rw [stay i2]; exact ⟨i1,i2⟩
theorem v_lag_zero {f:List Int} {g:Nat} (h:v_ser f) (hg:g≤5) (hg2:2 * g < f.length):v_lag (v_out f g) (v_bck f g)≤g∧(v_mis (v_out f g) (v_bck f g) (v_lag (v_out f g) (v_bck f g))).1 = 0 := by
  have e1 := v_out_len f g
  have e2 := v_bck_len f g
  have ht:v_top (v_out f g) = min 5 ((f.length - 1) / 2) := by unfold v_top; rw [e1]
  refine v_best_zero (v_out_ser h) (v_bck_ser h) (by omega) (by omega) ?_ _ (by omega) (by omega)
  unfold v_mis
  exact v_ms_zero _ (by omega)
theorem v_lof_tb {f:List Int} {g:Nat} (h:v_ser f):v_lof (v_out f g) (v_bck f g) = ((v_lag (v_out f g) (v_bck f g):Int),0) := by
  have e1 := v_out_len f g
  have e2 := v_bck_len f g
  rcases v_lof_cases (v_out f g) (v_bck f g) with ⟨d1,_⟩ | ⟨d1,⟨d2,_⟩ | ⟨d2,⟨d3,_⟩ | ⟨d3,e⟩⟩⟩
  · exact (d1 (v_serr_of (v_out_ser h))).elim
  · exact (d2 (v_serr_of (v_bck_ser h))).elim
  · omega
  · exact e
theorem v_sss_smp {f:List Int} {g:Nat} (h:v_ser f) (hl:f.length≤20):v_smp (v_sss f g) := by
  have hne := h.ne
  have hn := v_sss_len f g
  refine ⟨fun e => by rw [e] at hn; simp at hn; omega,by omega,fun x hx => ?_,fun k h1 h2 => ?_⟩
  · obtain ⟨i,hi,rfl⟩ := List.mem_map.1 hx
    obtain ⟨k,hk,rfl⟩ := List.mem_range'.1 hi
    have := v_ser_get (v_out_ser (g := g) h) (i := 0 + 1 * k) (by rw [v_out_len]; omega)
    exact ⟨by simp only [v_ssk]; omega,by simp only [v_ssk]; omega,by simp only [v_ssk]; omega,by simp only [v_ssk]; omega,this⟩
  · rw [v_sss_get (by omega),v_sss_get (by omega)]
    simp only [v_ssk]; omega
theorem v_lgx_tb {f:List Int} {g:Nat} (h:v_ser f) (hl:f.length≤20) (hg:g≤5) (hg2:2 * g < f.length):v_lgx (v_sss f g) (g:Int) = (v_lgd (v_sss f g) g,0) := by
  have hn := v_sss_len f g
  rcases v_lgx_cases (v_sss f g) g with ⟨c1,_⟩ | ⟨_,⟨c2,_⟩ | ⟨_,⟨c3,_⟩ | ⟨_,e⟩⟩⟩
  · exact (c1 (v_cs_iff.2 (v_sss_smp h hl))).elim
  · rw [show s_Z3 (g:Int) 0 5 = true from tx_within.2 (by omega)] at c2; cases c2
  · omega
  · rw [e,Int.toNat_natCast]
theorem plain_l0 (p0:gF) (g:Nat) (y1:Int×List Int×List Int) (n:Int) (h:v_ser p0) (hl:p0.length≤20) (hg:g≤5) (hg2:2 * g < p0.length):OkL (st_Z1_0 p0 g y1 (n,v_sss p0 g)) (sp_Z1_0 p0 g y1 (n,v_sss p0 g)) 0∧lpv (.inr (.inr false)) (st_Z1_0 p0 g y1 (n,v_sss p0 g)) 0 = .inr (.inr true) := by
  have hx := v_lgx_tb h hl hg hg2
  have hn:(v_lgd (v_sss p0 g) g).length = p0.length - g := by rw [v_lgd_len,v_sss_len]
  have hns := v_sss_len p0 g
  have main := @for_is PUnit Int ((Int×List (Int×Int×Int×Int×Int)) ⊕ ((Int×List Int×List Int) ⊕ Bool)) (.inr (.inr false)) (st_Z1_0 p0 g y1 (n,v_sss p0 g)) (sp_Z1_0 p0 g y1 (n,v_sss p0 g)) (fun i _ => i) 0 (p0.length - g) (fun _ _ => True) (fun _ _ => .inr (.inr true)) (Nat.zero_le _) (by omega) ?_ ?_ ⟨⟩ trivial
  · exact main
  · rintro t _
    simp only [sp_Z1_0,st_Z1_0,hx,hn,fM,decide_eq_false (Int.lt_irrefl ((p0.length - g:Nat):Int)),cond_false]
    refine ⟨?_,by first | rfl | trivial⟩
    and_intros
    all_goals first
      | (intro h; cases h; done)
      | (intro p hp; cases hp)
  · rintro j t h0 hj _
    have hw1:IntKind.i64.wrap ((j:Int) + 1) = ((j + 1:Nat):Int) := wrap_id (by omega) (by omega)
    have hd:decide ((j:Int) < ((p0.length - g:Nat):Int)) = true := decide_eq_true (by omega)
    have e:(v_lgd (v_sss p0 g) g).getD j (0,0,0,0,0) = ((j:Int),0,0,0,p0.getD j 0) := by
      rw [v_lgd_get (by omega)]
      unfold v_lgk
      rw [v_sss_get (by omega),v_sss_get (by omega)]
      simp only [v_ssk]
      rw [v_out_get (by omega),show j + g - g = j by omega]
    simp only [sp_Z1_0,st_Z1_0,hx,hn,fM,hd,cond_true,Int.toNat_natCast,e,hw1,beq_self_eq_true,Bool.and_self,Bool.not_true,cond_false]
    refine ⟨?_,.inl ⟨⟨⟩,by first | rfl | trivial,trivial,by first | rfl | trivial⟩⟩
    and_intros
    all_goals first
      | (intro p hp; cases hp; done)
      | (intros; omega)
theorem plain_l1 (p0:gF) (g:Nat) (n:Int) (h:v_ser p0) (hl:p0.length≤20) (hg:g≤5) (hg2:2 * g < p0.length):OkL (st_Z1_1 p0 g (n,v_out p0 g,v_bck p0 g)) (sp_Z1_1 p0 g (n,v_out p0 g,v_bck p0 g)) (0,[])∧lpv (.inr false) (st_Z1_1 p0 g (n,v_out p0 g,v_bck p0 g)) (0,[]) = .inr true := by
  have ho := v_out_len p0 g
  have main := @for_is (List (Int×Int×Int×Int×Int)) (Int×List (Int×Int×Int×Int×Int)) ((Int×List Int×List Int) ⊕ Bool) (.inr false) (st_Z1_1 p0 g (n,v_out p0 g,v_bck p0 g)) (sp_Z1_1 p0 g (n,v_out p0 g,v_bck p0 g)) (fun i t => (i,t)) 0 p0.length (fun j t => t = (List.range' 0 j).map (v_ssk p0 g)) (fun _ _ => .inr true) (Nat.zero_le _) (by omega) ?_ ?_ [] rfl
  · exact main
  · rintro t h1
    have e:t = v_sss p0 g := h1
    have hx := v_lgx_tb h hl hg hg2
    have hn:(v_lgd (v_sss p0 g) g).length = p0.length - g := by rw [v_lgd_len,v_sss_len]
    have hw:IntKind.i64.wrap ((p0.length:Int) - g) = ((p0.length - g:Nat):Int) := by rw [wrap_id (by omega) (by omega)]; omega
    obtain ⟨l1,l2⟩ := plain_l0 p0 g (n,v_out p0 g,v_bck p0 g) p0.length h hl hg hg2
    subst e
    simp only [sp_Z1_1,st_Z1_1,fM,decide_eq_false (Int.lt_irrefl (p0.length:Int)),hx,hn,hw,cond_false,bne_self_eq_false,l2]
    refine ⟨?_,by first | rfl | trivial⟩
    and_intros
    all_goals first
      | (intro h; cases h; done)
      | (intro p hp; cases hp; done)
      | (intros; exact l1)
  · rintro j t h0 hj h1
    have hw1:IntKind.i64.wrap ((j:Int) + 1) = ((j + 1:Nat):Int) := wrap_id (by omega) (by omega)
    have hd:decide ((j:Int) < (p0.length:Int)) = true := decide_eq_true (by omega)
    have hlen:t.length = j := by rw [h1]; simp
    simp only [sp_Z1_1,st_Z1_1,fM,hd,cond_true,Int.toNat_natCast,hw1]
    refine ⟨?_,.inl ⟨t ++ [v_ssk p0 g j],rfl,by rw [h1,List.range'_concat,List.map_append]; simp,by first | rfl | trivial⟩⟩
    and_intros
    all_goals first
      | (intro h; cases h; done)
      | (intro p hp; cases hp; done)
      | (intros; simp only [List.length_cons,List.length_nil]; omega)
      | (intros; omega)
theorem plain_l2 (p0:gF) (g:Nat) (h:v_ser p0) (hl:p0.length≤30) (hg:g≤5) (hg2:2 * g < p0.length):OkL (st_Z1_2 p0 g) (sp_Z1_2 p0 g) (0,List.replicate p0.length 0,List.replicate p0.length 0)∧lpv false (st_Z1_2 p0 g) (0,List.replicate p0.length 0,List.replicate p0.length 0) = true := by
  have ho := v_out_len p0 g
  have hb := v_bck_len p0 g
  have hne := h.ne
  have main := @for_is (List Int×List Int) (Int×List Int×List Int) Bool false (st_Z1_2 p0 g) (sp_Z1_2 p0 g) (fun i t => (i,t)) 0 p0.length (fun j t => (t.1.length = p0.length∧t.2.length = p0.length)∧∀ k,k < j→k < p0.length→t.1.getD k 0 = (v_out p0 g).getD k 0∧t.2.getD k 0 = (v_bck p0 g).getD k 0) (fun _ _ => true) (Nat.zero_le _) (by omega) ?_ ?_ (List.replicate p0.length 0,List.replicate p0.length 0) ⟨⟨List.length_replicate,List.length_replicate⟩,fun k hk => by omega⟩
  · exact main
  · rintro ⟨t1,t2⟩ ⟨⟨h1,h2⟩,h3⟩
    simp only at h1 h2 h3
    have e1:t1 = v_out p0 g := gd_ext 0 (by omega) fun k hk => (h3 k (by omega) (by omega)).1
    have e2:t2 = v_bck p0 g := gd_ext 0 (by omega) fun k hk => (h3 k (by omega) (by omega)).2
    subst e1 e2
    obtain ⟨z1,z2⟩ := v_lag_zero h hg hg2
    have hc := v_mis_pos (o := v_out p0 g) (b := v_bck p0 g) (g := v_lag (v_out p0 g) (v_bck p0 g)) (by omega)
    have hin:s_Z3 (v_lag (v_out p0 g) (v_bck p0 g):Int) 0 g = true := tx_within.2 (by omega)
    have hcb:((v_mis (v_out p0 g) (v_bck p0 g) (v_lag (v_out p0 g) (v_bck p0 g))).2 == 0) = false := by
      rw [beq_eq_false_iff_ne]; omega
    have s1 := v_out_ser (g := g) h
    have s2 := v_bck_ser (g := g) h
    simp only [sp_Z1_2,st_Z1_2,fM,decide_eq_false (Int.lt_irrefl (p0.length:Int)),v_lof_tb h,cond_false,bne_self_eq_false,hin,Bool.not_true,Int.toNat_natCast,z2,hcb]
    refine ⟨?_,?_⟩
    · and_intros
      all_goals first
        | (intro h; cases h; done)
        | (intro p hp; cases hp; done)
        | (intros; first | exact s1 | exact s2 | omega | (unfold lenOk; omega))
        | (intro _ _ _ h20; exact (plain_l1 p0 g p0.length h (by have := of_decide_eq_false h20; omega) hg hg2).1)
    · cases c:decide ((p0.length:Int) > 20)
      · have := of_decide_eq_false c
        rw [cond_false,(plain_l1 p0 g p0.length h (by omega) hg hg2).2]
      · rfl
  · rintro j ⟨t1,t2⟩ h0 hj ⟨⟨h1,h2⟩,h3⟩
    simp only at h1 h2 h3
    have hw1:IntKind.i64.wrap ((j:Int) + 1) = ((j + 1:Nat):Int) := wrap_id (by omega) (by omega)
    have hw2:IntKind.i64.wrap ((j:Int) - g) = (j:Int) - g := wrap_id (by omega) (by omega)
    have hw3:IntKind.i64.wrap ((j:Int) + g) = (j:Int) + g := wrap_id (by omega) (by omega)
    have hw4:IntKind.i64.wrap ((p0.length:Int) - 1) = (p0.length:Int) - 1 := wrap_id (by omega) (by omega)
    have hd:decide ((j:Int) < (p0.length:Int)) = true := decide_eq_true (by omega)
    have n1:(max 0 ((j:Int) - g)).toNat = j - g := by omega
    have n2:(min ((p0.length:Int) - 1) ((j:Int) + g)).toNat = min (p0.length - 1) (j + g) := by omega
    simp only [sp_Z1_2,st_Z1_2,fM,hd,cond_true,Int.toNat_natCast,hw1,hw2,hw3,hw4,n1,n2]
    refine ⟨?_,.inl ⟨(t1.set j (p0.getD (j - g) 0),t2.set j (p0.getD (min (p0.length - 1) (j + g)) 0)),rfl,⟨⟨by show (t1.set _ _).length = _; rw [List.length_set]; exact h1,by show (t2.set _ _).length = _; rw [List.length_set]; exact h2⟩,fun k hk hk2 => ?_⟩,by first | rfl | trivial⟩⟩
    · and_intros
      all_goals first
        | (intro h; cases h; done)
        | (intro p hp; cases hp; done)
        | (intros; omega)
    · show (t1.set j _).getD k 0 = _∧(t2.set j _).getD k 0 = _
      rw [gd_set (by omega),gd_set (by omega),v_out_get hk2,v_bck_get hk2]
      split
      · rename_i e; subst e; exact ⟨rfl,rfl⟩
      · have := h3 k (by omega) hk2
        rw [v_out_get hk2,v_bck_get hk2] at this
        exact this
/-- The plain law. -/
theorem plain_Z1 (p0:gF) (p1:Int) (_:okPs P_Z1 (p0,p1)):(∀ p∈pre_Z1 p0 p1,p)∧s_Z1 p0 p1 = true := by
  unfold pre_Z1 s_Z1
  simp only [fM]
  by_cases g1:(p0.length:Int) < 6
  · rw [decide_eq_true g1]; simp
  by_cases g2:(p0.length:Int) > 30
  · rw [decide_eq_true g2]; simp
  rw [decide_eq_false g1,decide_eq_false g2]
  rcases int0 (v_serr p0) with ⟨z,_,e⟩ | ⟨z,_,e⟩
  rotate_left
  · simp [z]
  cases c:s_Z3 p1 0 5
  · simp
  have hb := tx_within.1 c
  obtain ⟨g,rfl⟩ : ∃ g:Nat,p1 = g := ⟨p1.toNat,by omega⟩
  rw [wrap_id (n := 2 * (g:Int)) (by omega) (by omega)]
  by_cases g3:2 * (g:Int) ≥ (p0.length:Int)
  · rw [decide_eq_true g3]; simp
  rw [decide_eq_false g3]
  obtain ⟨l1,l2⟩ := plain_l2 p0 g (v_serr_ok z) (by omega) (by omega) (by omega)
  rw [Int.toNat_natCast,l2]
  simp [z,l1]
  omega

theorem own:ownKnob Try.prog.godebug = none := by kernel_rfl
theorem laidOut:laidOutB Try.prog = true := by kernel_rfl
theorem hfn10:Try.prog.funcs[10]? = some (fnOf Try.prog 10) := by kernel_rfl
theorem hps10:(fnOf Try.prog 10).params.size = 2 := by kernel_rfl
theorem lifted_MagnetThereAndBack (os:Os) (started:os.Started) (H:Type) (enc:TypeId×Value→H) :
    ReturnsInHanded {} Try.checked os 10 .any (Rows.magnetThereAndBackSpec.pre6 enc Try.prog (fnOf Try.prog 10) [] false) (Rows.magnetThereAndBackSpec.post enc Try.prog (fnOf Try.prog 10) false true false false) :=
  said_of (C := Try.checked) (ss := P_Z1.map shP) own started (by kernel_rfl) hfn10
    (ChangeSpec.witness6 (enc := enc) (C := Try.checked) false ⟨#[],zeroArgs P_Z1,[]⟩ 8 (by kernel_rfl) (by kernel_rfl) (by kernel_rfl) (by kernel_rfl)) rfl
    (fun ds h => by
      rw [hps10] at h
      match ds,h with
      | [_,_],_ => rfl)
    laidOut (by kernel_rfl) (rt := (fnOf Try.prog 10).resultTypes.getD 0 0) (by kernel_rfl) (by kernel_rfl) (by kernel_rfl)
    (law_of ok_Z1 fun x hx => ⟨(plain_Z1 x.1 x.2 hx).1,congrArg (fun b => V.p (.bool b)) (plain_Z1 x.1 x.2 hx).2⟩) (fun _ => rfl)
theorem MagnetThereAndBack_holds:Rows.MagnetThereAndBackSaid :=
  OpenClaim.holds_of_wide 10 (fnOf Try.prog 10) rfl rfl rfl rfl rfl rfl rfl ⟨rfl,rfl,rfl,rfl,rfl⟩ rfl rfl rfl rfl rfl (by kernel_rfl) hfn10 (by kernel_rfl)
    (of_decide_eq_true (by kernel_rfl)) (by unfold Func.isWrapper; first | (rw [if_pos (by decide +kernel)]; kernel_rfl) | (rw [if_neg (by decide +kernel)]; exact ⟨rfl,rfl⟩))
    (fun os started H enc _ => lifted_MagnetThereAndBack os started H enc)
end Go.Proofs.Ytdkhhafmidokmaa
