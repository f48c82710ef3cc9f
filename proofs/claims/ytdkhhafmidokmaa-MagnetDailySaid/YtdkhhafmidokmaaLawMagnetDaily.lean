/- MagnetDaily: the given statement is proved: at every input the law returns true, and the input reads as it did. No condition. -/
import Derived.Test.YtdkhhafmidokmaaWalkMagnetDaily
import Derived.Test.YtdkhhafmidokmaaLayB
import Derived.Test.YtdkhhafmidokmaaMxU
import Derived.Test.YtdkhhafmidokmaaRows
import Derived.ProofKit
namespace Go.Proofs.Ytdkhhafmidokmaa
open Go Go.Mx
set_option maxRecDepth 100000
theorem v_ceil_le {n d c:Int} (hd:0 < d) (h:n≤c * d):v_ceil n d≤c := by
  have := Int.le_ediv_of_mul_le (a := -c) (b := -n) hd (by rw [Int.neg_mul]; omega)
  unfold v_ceil; omega
theorem v_ceil_bd {n d:Int} (hd:0 < d):n / d≤v_ceil n d∧v_ceil n d≤n / d + 1 := by
  have h1 := Int.mul_ediv_add_emod n d
  have h2 := Int.emod_nonneg n (show d ≠ 0 by omega)
  have h3 := Int.emod_lt_of_pos n hd
  constructor
  · have h4 := Int.mul_ediv_add_emod (-n) d
    have h5 := Int.emod_nonneg (-n) (show d ≠ 0 by omega)
    have h6:n / d≤-((-n) / d) := by
      have:(-n) / d≤-(n / d) := by
        refine Int.ediv_le_of_le_mul hd ?_
        rw [Int.neg_mul,Int.mul_comm]; omega
      omega
    exact h6
  · refine v_ceil_le hd ?_
    rw [Int.add_mul,Int.mul_comm]; omega
theorem v_chr_eq {b:Int×List (Int×Int)} {t c:Int} (hd:0 < v_cd b t) (h:v_cn b t = c * v_cd b t):v_chr b t = (c,c) := by
  unfold v_chr v_ceil
  rw [h,Int.mul_ediv_cancel _ (by omega),← Int.neg_mul,Int.mul_ediv_cancel _ (by omega),Int.neg_neg]
theorem v_bok_lt {b:Int×List (Int×Int)} (h:v_bok b) {i:Nat}:∀ k,i < k→k < b.2.length→(b.2.getD i (0,0)).1 < (b.2.getD k (0,0)).1
  | 0,hk,_ => by omega
  | k + 1,hk,hj => by
    have g := h.asc (k + 1) (by omega) hj
    rw [Nat.add_sub_cancel] at g
    rcases Nat.lt_or_ge i k with e | e
    · have := v_bok_lt h k e (by omega); omega
    · obtain rfl:i = k := by omega
      exact g
theorem v_iw_pt {b:Int×List (Int×Int)} (h:v_bok b) {i:Nat} (hi:i < b.2.length):v_iw b (b.2.getD i (0,0)).1 = true := by
  have h2 := h.two
  unfold v_iw
  refine tx_within.2 ⟨?_,?_⟩
  · rcases Nat.eq_zero_or_pos i with z | z
    · subst z; omega
    · have := v_bok_lt h i z hi; omega
  · rcases Nat.lt_or_ge i (b.2.length - 1) with z | z
    · have := v_bok_lt h (b.2.length - 1) z (by omega); omega
    · obtain rfl:i = b.2.length - 1 := by omega
      omega
theorem v_pos_pt {b:Int×List (Int×Int)} (h:v_bok b) {i:Nat} (hi:i < b.2.length) {t:Int} (h1:0 < i→(b.2.getD (i - 1) (0,0)).1 < t) (h2:t≤(b.2.getD i (0,0)).1):v_pos t b.2 = i := by
  have hle := v_pos_le t b.2
  rcases Nat.lt_trichotomy (v_pos t b.2) i with g | g | g
  · have := v_pos_ge h.asl (t := t) (i - 1) (by omega) (by omega)
    have := h1 (by omega)
    omega
  · exact g
  · have := v_pos_lt (t := t) g
    omega
/-- At the ticks of points the change is exact. -/
theorem v_chr_pt {b:Int×List (Int×Int)} (h:v_bok b) {i:Nat} (hi:i < b.2.length):v_chr b (b.2.getD i (0,0)).1 = ((b.2.getD i (0,0)).2 - b.1,(b.2.getD i (0,0)).2 - b.1) := by
  have c := v_chb_of h (v_iw_pt h hi)
  have hp := v_pos_pt h hi (t := (b.2.getD i (0,0)).1) (fun h0 => v_bok_lt h i (by omega) hi) (Int.le_refl _)
  refine v_chr_eq c.d.1 ?_
  unfold v_cn
  have hc:v_cd b (b.2.getD i (0,0)).1 = (b.2.getD (v_pi b (b.2.getD i (0,0)).1) (0,0)).1 - (b.2.getD (v_pi b (b.2.getD i (0,0)).1 - 1) (0,0)).1 := rfl
  rcases Nat.eq_zero_or_pos i with z | z
  · have e:v_pi b (b.2.getD i (0,0)).1 = 1 := by unfold v_pi; rw [hp]; omega
    rw [e] at hc ⊢
    subst z
    rw [Int.sub_self,Int.mul_zero,Int.add_zero]
  · have e:v_pi b (b.2.getD i (0,0)).1 = i := by unfold v_pi; rw [hp]; omega
    rw [e] at hc ⊢
    rw [← hc,← Int.add_mul]
    congr 1
    omega
/-- Between two points it lies between theirs. -/
theorem v_chr_seg {b:Int×List (Int×Int)} (h:v_bok b) {i:Nat} (h0:0 < i) (hi:i < b.2.length) {t:Int} (h1:(b.2.getD (i - 1) (0,0)).1≤t) (h2:t≤(b.2.getD i (0,0)).1):min ((b.2.getD (i - 1) (0,0)).2 - b.1) ((b.2.getD i (0,0)).2 - b.1)≤(v_chr b t).1∧(v_chr b t).2≤max ((b.2.getD (i - 1) (0,0)).2 - b.1) ((b.2.getD i (0,0)).2 - b.1) := by
  rcases Int.lt_or_le (b.2.getD (i - 1) (0,0)).1 t with g | g
  · have hp := v_pos_pt h hi (t := t) (fun _ => g) h2
    have e:v_pi b t = i := by unfold v_pi; rw [hp]; omega
    have hd:0 < v_cd b t := by unfold v_cd; rw [e]; have := v_bok_lt h i (show i - 1 < i by omega) hi; omega
    have hn:v_cn b t = ((b.2.getD (i - 1) (0,0)).2 - b.1) * v_cd b t + (((b.2.getD i (0,0)).2 - b.1) - ((b.2.getD (i - 1) (0,0)).2 - b.1)) * (t - (b.2.getD (i - 1) (0,0)).1) := by
      unfold v_cn; rw [e]; congr 2; omega
    have hs:0≤t - (b.2.getD (i - 1) (0,0)).1∧t - (b.2.getD (i - 1) (0,0)).1≤v_cd b t := by unfold v_cd; rw [e]; omega
    unfold v_chr
    generalize v_cd b t = d at *
    generalize v_cn b t = n at *
    generalize t - (b.2.getD (i - 1) (0,0)).1 = s at *
    generalize (b.2.getD (i - 1) (0,0)).2 - b.1 = x at *
    generalize (b.2.getD i (0,0)).2 - b.1 = y at *
    have e2:n = x * (d - s) + y * s := by rw [hn]; grind
    have m1 := Int.mul_le_mul_of_nonneg_right (show min x y≤x by omega) (show 0≤d - s by omega)
    have m2 := Int.mul_le_mul_of_nonneg_right (show min x y≤y by omega) hs.1
    have m3 := Int.mul_le_mul_of_nonneg_right (show x≤max x y by omega) (show 0≤d - s by omega)
    have m4 := Int.mul_le_mul_of_nonneg_right (show y≤max x y by omega) hs.1
    have k1:min x y * d = min x y * (d - s) + min x y * s := by rw [← Int.mul_add]; congr 1; omega
    have k2:max x y * d = max x y * (d - s) + max x y * s := by rw [← Int.mul_add]; congr 1; omega
    exact ⟨Int.le_ediv_of_mul_le hd (by omega),v_ceil_le hd (by omega)⟩
  · obtain rfl:t = (b.2.getD (i - 1) (0,0)).1 := by omega
    rw [v_chr_pt h (show i - 1 < b.2.length by omega)]
    simp only
    omega
/-- A station whose readings and datum are all greater. -/
def v_grt (b:Int×List (Int×Int)) (m:Int):Int×List (Int×Int) := (b.1 + m,b.2.map fun x => (x.1,x.2 + m))
theorem v_grt_len (b:Int×List (Int×Int)) (m:Int):(v_grt b m).2.length = b.2.length := by simp [v_grt]
theorem v_grt_get {b:Int×List (Int×Int)} {m:Int} {k:Nat} (hk:k < b.2.length):(v_grt b m).2.getD k (0,0) = ((b.2.getD k (0,0)).1,(b.2.getD k (0,0)).2 + m) := by
  unfold v_grt
  simp only
  rw [List.getD_eq_getElem?_getD,List.getElem?_map,List.getElem?_eq_getElem hk,gd_get (0,0) hk]; rfl
theorem v_pos_map (t m:Int):∀ l:List (Int×Int),v_pos t (l.map fun x => (x.1,x.2 + m)) = v_pos t l
  | [] => rfl
  | x :: r => by
    have := v_pos_map t m r
    rw [List.map_cons]
    unfold v_pos
    rw [this]
theorem v_grt_chr {b:Int×List (Int×Int)} (h:v_bok b) {t m:Int} (hw:v_iw b t = true):v_iw (v_grt b m) t = true∧v_chr (v_grt b m) t = v_chr b t := by
  have c := v_chb_of h hw
  have ci := c.i
  have h2 := h.two
  have hp:v_pi (v_grt b m) t = v_pi b t := by unfold v_pi v_grt; simp only; rw [v_pos_map]
  have hd:v_cd (v_grt b m) t = v_cd b t := by
    unfold v_cd
    rw [hp,v_grt_get ci.2,v_grt_get (show v_pi b t - 1 < b.2.length by omega)]
  have hn:v_cn (v_grt b m) t = v_cn b t := by
    unfold v_cn
    rw [hd,hp,v_grt_get ci.2,v_grt_get (show v_pi b t - 1 < b.2.length by omega)]
    simp only
    rw [show (v_grt b m).1 = b.1 + m from rfl]
    congr 2 <;> omega
  refine ⟨?_,by unfold v_chr; rw [hn,hd]⟩
  unfold v_iw at *
  rw [v_grt_len,v_grt_get (by omega),v_grt_get (by omega)]
  exact hw
theorem v_cha_ok {b:Int×List (Int×Int)} {t:Int} (h:(v_cb b).2 = 0) (hw:v_iw b t = true):v_cha b t = (v_chr b t,0) := by
  unfold v_cha
  rw [h,hw]; rfl
section
variable {p0:Int×List (Int×Int)} {p1 p2:Int} (h:(v_cb p0).2 = 0) (hw:v_iw p0 p1 = true) (hm:0≤p2∧p2≤100000)
include h hw hm
theorem i_0 (y:Int):OkL (st_Z1_0 p0 p1 p2 y) (sp_Z1_0 p0 p1 p2 y) (0,[] ++ p0.2)∧lpv (.inr false) (st_Z1_0 p0 p1 p2 y) (0,[] ++ p0.2) = .inr true := by
  have bok := v_cb_ok h
  have hl := bok.len
  have hd := bok.d
  refine @for_is (List (Int×Int)) (Int×List (Int×Int)) (Int ⊕ Bool) (.inr false) (st_Z1_0 p0 p1 p2 y) (sp_Z1_0 p0 p1 p2 y) (fun i t => (i,t)) 0 p0.2.length (fun j t => t.length = p0.2.length∧∀ k,k < p0.2.length→t.getD k (0,0) = if k < j then (v_grt p0 p2).2.getD k (0,0) else p0.2.getD k (0,0)) (fun _ _ => .inr true) (Nat.zero_le _) (by omega) ?_ ?_ ([] ++ p0.2) ⟨rfl,fun k hk => by rw [if_neg (by omega)]; rfl⟩
  · rintro t ⟨h1,h2⟩
    have e:t = (v_grt p0 p2).2 := gd_ext (0,0) (by rw [v_grt_len]; exact h1) fun k hk => by rw [h2 k (by omega),if_pos (by omega)]
    have w1:IntKind.i64.wrap (p0.1 + p2) = p0.1 + p2 := wrap_id (by omega) (by omega)
    have hg:(p0.1 + p2,(v_grt p0 p2).2) = v_grt p0 p2 := rfl
    have e1:v_cha (p0.1,([]:List (Int×Int)) ++ p0.2) p1 = (v_chr p0 p1,0) := v_cha_ok h hw
    obtain ⟨g1,g2⟩ := v_grt_chr (m := p2) bok hw
    subst e
    simp only [sp_Z1_0,st_Z1_0,fM,decide_eq_false (show ¬ ((p0.2.length:Int) < ((v_grt p0 p2).2.length:Int)) by omega),cond_false,w1,hg,e1]
    refine ⟨⟨fun e => (by cases e),fun e => (by cases e),fun p hp => by cases hp⟩,?_⟩
    rcases int0 (v_cb (v_grt p0 p2)).2 with ⟨z,z1,_⟩ | ⟨z,z1,_⟩
    · rw [z1,v_cha_ok z g1,g2]
      simp
    · rw [z1]; rfl
  · rintro j t h0 hj ⟨h1,h2⟩
    have hw1:IntKind.i64.wrap ((j:Int) + 1) = ((j + 1:Nat):Int) := wrap_id (by omega) (by omega)
    have hd1:decide ((j:Int) < (t.length:Int)) = true := decide_eq_true (by omega)
    have o := bok.ok j hj
    have e := h2 j hj
    rw [if_neg (by omega)] at e
    have w2:IntKind.i64.wrap ((p0.2.getD j (0,0)).2 + p2) = (p0.2.getD j (0,0)).2 + p2 := wrap_id (by omega) (by omega)
    simp only [sp_Z1_0,st_Z1_0,fM,hd1,cond_true,Int.toNat_natCast,hw1,e,w2]
    refine ⟨⟨fun _ => (by omega),fun _ => (by omega),fun p hp => by cases hp⟩,.inl ⟨t.set j ((p0.2.getD j (0,0)).1,(p0.2.getD j (0,0)).2 + p2),rfl,⟨by rw [List.length_set]; exact h1,fun k hk => ?_⟩,by first | rfl | trivial⟩⟩
    rw [gd_set (by omega)]
    split
    · rename_i e; subst e
      rw [if_pos (by omega),v_grt_get hj]
    · rw [h2 k hk]
      split
      · rw [if_pos (by omega)]
      · rw [if_neg (by omega)]
theorem i_1:OkL (st_Z1_1 p0 p1 p2) (sp_Z1_1 p0 p1 p2) 0∧lpv false (st_Z1_1 p0 p1 p2) 0 = true := by
  have bok := v_cb_ok h
  have hl := bok.len
  have hd := bok.d
  have q := i_0 h hw hm
  have e1:v_cha (p0.1,([]:List (Int×Int)) ++ p0.2) p1 = (v_chr p0 p1,0) := v_cha_ok h hw
  refine @for_is Unit Int Bool false (st_Z1_1 p0 p1 p2) (sp_Z1_1 p0 p1 p2) (fun i _ => i) 0 p0.2.length (fun _ _ => True) (fun _ _ => true) (Nat.zero_le _) (by omega) ?_ ?_ () trivial
  · rintro t _
    obtain ⟨q1,q2⟩ := q p0.2.length
    simp only [sp_Z1_1,st_Z1_1,fM,decide_eq_false (Int.lt_irrefl (p0.2.length:Int)),cond_false,q2]
    refine ⟨?_,by first | rfl | trivial⟩
    exact ⟨fun e => (by cases e),fun e => (by cases e),fun e => (by cases e),fun e => (by cases e),fun e => (by cases e),fun e => (by cases e),fun e => (by cases e),fun _ => (by simp only [List.length_nil]; omega),fun _ => q1,fun p hp => by cases hp⟩
  · rintro j t h0 hj _
    have hw1:IntKind.i64.wrap ((j:Int) + 1) = ((j + 1:Nat):Int) := wrap_id (by omega) (by omega)
    have hw2:IntKind.i64.wrap ((j:Int) - 1) = (j:Int) - 1 := wrap_id (by omega) (by omega)
    have n1:((j:Int) - 1).toNat = j - 1 := by omega
    have hd1:decide ((j:Int) < (p0.2.length:Int)) = true := decide_eq_true (by omega)
    have o := bok.ok j hj
    have o2 := bok.ok (j - 1) (by omega)
    have e2:v_cha (p0.1,([]:List (Int×Int)) ++ p0.2) (p0.2.getD j (0,0)).1 = (((p0.2.getD j (0,0)).2 - p0.1,(p0.2.getD j (0,0)).2 - p0.1),0) := by
      rw [← v_chr_pt bok hj]; exact v_cha_ok h (v_iw_pt bok hj)
    have w3:IntKind.i64.wrap ((p0.2.getD j (0,0)).2 - p0.1) = (p0.2.getD j (0,0)).2 - p0.1 := wrap_id (by omega) (by omega)
    have w4:IntKind.i64.wrap ((p0.2.getD (j - 1) (0,0)).2 - p0.1) = (p0.2.getD (j - 1) (0,0)).2 - p0.1 := wrap_id (by omega) (by omega)
    simp only [sp_Z1_1,st_Z1_1,fM,hd1,cond_true,Int.toNat_natCast,hw1,hw2,n1,e1,e2,w3,w4,bne_self_eq_false,beq_self_eq_true,Bool.and_self,Bool.not_true,cond_false]
    refine ⟨⟨fun _ => (by omega),fun _ => (by omega),fun _ => (by simp only [List.length_nil]; omega),fun _ _ e => (by have := of_decide_eq_true e; omega),fun _ _ e => (by have := of_decide_eq_true e; omega),fun _ _ e => ?_,fun _ _ e => ?_,fun e => (by cases e),fun e => (by cases e),fun p hp => by cases hp⟩,?_⟩
    · cases c:decide ((j:Int) > 0) <;> rw [c] at e
      · cases e
      · have := of_decide_eq_true c; omega
    · cases c:decide ((j:Int) > 0) <;> rw [c] at e
      · cases e
      · have := of_decide_eq_true c; omega
    · cases c:cond (decide ((j:Int) > 0)) (s_Z2 p1 (p0.2.getD (j - 1) (0,0)).1 (p0.2.getD j (0,0)).1) false
      · exact .inl ⟨(),by first | rfl | trivial,trivial,by first | rfl | trivial⟩
      · cases c2:decide ((j:Int) > 0) <;> rw [c2] at c
        · cases c
        · have hj0 := of_decide_eq_true c2
          have hb := tx_within.1 c
          obtain ⟨s1,s2⟩ := v_chr_seg bok (show 0 < j by omega) hj hb.1 hb.2
          rw [decide_eq_false (show ¬ (v_chr p0 p1).1 < min ((p0.2.getD (j - 1) (0,0)).2 - p0.1) ((p0.2.getD j (0,0)).2 - p0.1) by omega),decide_eq_false (show ¬ (v_chr p0 p1).2 > max ((p0.2.getD (j - 1) (0,0)).2 - p0.1) ((p0.2.getD j (0,0)).2 - p0.1) by omega)]
          exact .inl ⟨(),by first | rfl | trivial,trivial,by first | rfl | trivial⟩
end
/-- The plain law. -/
theorem plain_Z1 (p0:Int×List (Int×Int)) (p1 p2:Int) (_:okPs P_Z1 (p0,p1,p2)):(∀ p∈pre_Z1 p0 p1 p2,p)∧s_Z1 p0 p1 p2 = true := by
  unfold pre_Z1 s_Z1
  simp only [fM]
  by_cases g1:(p0.2.length:Int)≤22
  rotate_left
  · rw [decide_eq_false g1]; simp
  rw [decide_eq_true g1]
  rcases int0 (v_cb p0).2 with ⟨z,e,_⟩ | ⟨z,e,_⟩
  rotate_left
  · rw [e]; simp
  have bok := v_cb_ok z
  have b2 := bok.two
  have b3 := bok.len
  rw [e]
  cases c:v_iw p0 p1
  · simp; omega
  cases d:s_Z2 p2 0 100000
  · simp; omega
  have hm := tx_within.1 d
  have ch := v_chb_of bok c
  have e1:v_cha (p0.1,([]:List (Int×Int)) ++ p0.2) p1 = (v_chr p0 p1,0) := v_cha_ok z c
  obtain ⟨l1,l2⟩ := i_1 z c hm
  have bd := v_ceil_bd (n := v_cn p0 p1) ch.d.1
  obtain ⟨nb1,nb2⟩ : -1000000000000000000≤v_cn p0 p1 / v_cd p0 p1∧v_cn p0 p1 / v_cd p0 p1≤1000000000000000000 := by
    have := Int.natAbs_ediv_le_natAbs (v_cn p0 p1) (v_cd p0 p1)
    have := ch.n
    omega
  have hw:s_Z2 (IntKind.i64.wrap ((v_chr p0 p1).2 - (v_chr p0 p1).1)) 0 1 = true := by
    unfold v_chr
    simp only
    rw [wrap_id (by omega) (by omega)]
    exact tx_within.2 (by omega)
  rw [e1,l2]
  simp only [hw]
  simp [l1]
  omega

theorem own:ownKnob Try.prog.godebug = none := by kernel_rfl
theorem laidOut:laidOutB Try.prog = true := by kernel_rfl
theorem hfn3:Try.prog.funcs[3]? = some (fnOf Try.prog 3) := by kernel_rfl
theorem hps3:(fnOf Try.prog 3).params.size = 3 := by kernel_rfl
theorem lifted_MagnetDaily (os:Os) (started:os.Started) (H:Type) (enc:TypeId×Value→H) :
    ReturnsInHanded {} Try.checked os 3 .any (Rows.magnetDailySpec.pre6 enc Try.prog (fnOf Try.prog 3) [] false) (Rows.magnetDailySpec.post enc Try.prog (fnOf Try.prog 3) false true false false) :=
  said_of (C := Try.checked) (ss := P_Z1.map shP) own started (by kernel_rfl) hfn3
    (ChangeSpec.witness6 (enc := enc) (C := Try.checked) false ⟨#[],zeroArgs P_Z1,[]⟩ 8 (by kernel_rfl) (by kernel_rfl) (by kernel_rfl) (by kernel_rfl)) rfl
    (fun ds h => by
      rw [hps3] at h
      match ds,h with
      | [_,_,_],_ => rfl)
    laidOut (by kernel_rfl) (rt := (fnOf Try.prog 3).resultTypes.getD 0 0) (by kernel_rfl) (by kernel_rfl) (by kernel_rfl)
    (law_of ok_Z1 fun x hx => ⟨(plain_Z1 x.1 x.2.1 x.2.2 hx).1,congrArg (fun b => V.p (.bool b)) (plain_Z1 x.1 x.2.1 x.2.2 hx).2⟩) (fun _ => rfl)
theorem MagnetDaily_holds:Rows.MagnetDailySaid :=
  OpenClaim.holds_of_wide 3 (fnOf Try.prog 3) rfl rfl rfl rfl rfl rfl rfl ⟨rfl,rfl,rfl,rfl,rfl⟩ rfl rfl rfl rfl rfl (by kernel_rfl) hfn3 (by kernel_rfl)
    (of_decide_eq_true (by kernel_rfl)) (by unfold Func.isWrapper; first | (rw [if_pos (by decide +kernel)]; kernel_rfl) | (rw [if_neg (by decide +kernel)]; exact ⟨rfl,rfl⟩))
    (fun os started H enc _ => lifted_MagnetDaily os started H enc)
end Go.Proofs.Ytdkhhafmidokmaa
