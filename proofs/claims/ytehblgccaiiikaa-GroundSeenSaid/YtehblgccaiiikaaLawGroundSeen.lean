/- GroundSeen: the given statement is proved: at every input the law returns true, and the input reads as it did. No condition. -/
import Derived.Test.YtehblgccaiiikaaWalkGroundSeen
import Derived.Test.YtehblgccaiiikaaLayB
import Derived.Test.YtehblgccaiiikaaMxU
import Derived.Test.YtehblgccaiiikaaRows
import Derived.ProofKit
namespace Go.Proofs.Ytehblgccaiiikaa
open Go Go.Mx
set_option maxRecDepth 100000
theorem v_sn_less {l:List (Int×Int)} {s t:Int} {i:Nat} (h:v_mok l) (hs:v_sok s) (hi:i < l.length) (hn:v_sn l s (t + 1) i = true):v_sn l s t i = true := by
  have hp := (v_snp_of h hs hi).dd
  unfold v_sn v_snb at *
  have h1 := of_decide_eq_true hn
  rw [Int.add_mul,Int.one_mul] at h1
  exact decide_eq_true (by omega)
theorem v_seen_sub {l:List (Int×Int)} {s t:Int} (h:v_mok l) (hs:v_sok s) {x:Int} (hx:x∈v_seen l s (t + 1)):v_has (v_seen l s t) x = true := by
  obtain ⟨i,hi,h1,h2⟩ := v_sel_mem.1 hx
  have hil:i < l.length := by have := List.mem_range'.1 hi; omega
  exact decide_eq_true (v_sel_mem.2 ⟨i,hi,v_sn_less h hs hil h1,h2⟩)
theorem v_seen_len (l:gC) (s t:Int):(v_seen l s t).length≤l.length := by
  have := v_sel_len (v_sn l s t) (List.range' 0 l.length)
  rw [List.length_range'] at this
  exact this
theorem l_seen_0 {p0:List (Int×Int)} {p1 p2:Int} (h:v_mok p0) (hs:v_sok p1) (e1:v_seenAt p0 p1 p2 = (v_seen p0 p1 p2,0)) (e2:v_seenAt p0 p1 (p2 + 1) = (v_seen p0 p1 (p2 + 1),0)) (hw:IntKind.i64.wrap (p2 + 1) = p2 + 1) :
    OkL (st_Z0_0 p0 p1 p2) (sp_Z0_0 p0 p1 p2) 0∧lpv false (st_Z0_0 p0 p1 p2) 0 = true := by
  have hl := h.len
  have l1 := v_seen_len p0 p1 p2
  have l2 := v_seen_len p0 p1 (p2 + 1)
  have lk:lenOk (v_seen p0 p1 p2) := lenOk_le (n := 4) (by omega) (by decide)
  refine @for_is Unit Int Bool false (st_Z0_0 p0 p1 p2) (sp_Z0_0 p0 p1 p2) (fun i _ => i) 0 (v_seen p0 p1 (p2 + 1)).length (fun _ _ => True) (fun _ _ => true) (by omega) (by omega) ?_ ?_ () trivial
  · rintro u -
    simp only [sp_Z0_0,st_Z0_0,fM,List.nil_append,hw,e2,show decide (((v_seen p0 p1 (p2 + 1)).length:Int) < ((v_seen p0 p1 (p2 + 1)).length:Int)) = false from decide_eq_false (by omega),cond_false]
    refine ⟨?_,trivial⟩
    and_intros
    all_goals first
      | (intro h; cases h; done)
      | (intro p hp; cases hp)
  · rintro j u - hj -
    have hd1:decide ((j:Int) < ((v_seen p0 p1 (p2 + 1)).length:Int)) = true := decide_eq_true (by omega)
    have hw1:IntKind.i64.wrap ((j:Int) + 1) = ((j + 1:Nat):Int) := wrap_id (by omega) (by omega)
    have hh := v_seen_sub h hs (v_getD_mem (d := 0) hj)
    simp only [sp_Z0_0,st_Z0_0,fM,List.nil_append,hw,e1,e2,hd1,cond_true,Int.toNat_natCast,hh,Bool.not_true,cond_false,hw1]
    refine ⟨?_,.inl ⟨(),trivial,trivial,trivial⟩⟩
    and_intros
    all_goals first
      | (intro p hp; cases hp; done)
      | exact fun _ => lk
      | (intros; omega)
theorem seen_st (p0:gC) (p1 p2:Int):st_Z0_1 p0 p1 p2 = st_Z0_0 p0 p1 p2 := rfl
/-- The plain law. -/
theorem plain_Z0 (p0:gC) (p1 p2:Int) (_:okPs P_Z0 (p0,p1,p2)):(∀ p∈pre_Z0 p0 p1 p2,p)∧s_Z0 p0 p1 p2 = true := by
  unfold pre_Z0 s_Z0
  simp only [fM,List.nil_append,List.length_nil,seen_st]
  rcases Decidable.em ((p0.length:Int)≤6) with h6 | h6
  rotate_left
  · rw [decide_eq_false h6]; simp
  rw [decide_eq_true h6]
  rcases int0 (v_cm p0).2 with ⟨z,e,e'⟩ | ⟨z,e,e'⟩
  rotate_left
  · have r1:v_seenAt p0 p1 p2 = ([],(v_cm p0).2) := by unfold v_seenAt; rw [e]; rfl
    simp only [r1,e,e']
    simp [z]; omega
  have hm := tx_cm_ok z
  have hl := hm.len
  cases c1:s_Z1 p1 1 20
  · have r1:v_seenAt p0 p1 p2 = ([],2) := by unfold v_seenAt; rw [e,c1]; rfl
    simp only [r1,e,e']
    simp; omega
  have hs := tx_within.1 c1
  cases c2:s_Z1 p2 0 100000
  · have r1:v_seenAt p0 p1 p2 = ([],2) := by unfold v_seenAt; rw [e,c1,c2]; rfl
    simp only [r1,e,e']
    simp; omega
  have ht := tx_within.1 c2
  have r1:v_seenAt p0 p1 p2 = (v_seen p0 p1 p2,0) := by unfold v_seenAt; rw [e,c1,c2]; rfl
  have l1 := v_seen_len p0 p1 p2
  have lk:lenOk (v_seen p0 p1 p2) := lenOk_le (n := 4) (by omega) (by decide)
  have hw:IntKind.i64.wrap (p2 + 1) = p2 + 1 := wrap_id (by omega) (by omega)
  rcases Decidable.em (p2 = 100000) with h7 | h7
  · simp only [r1,e,e',beq_iff_eq.2 h7]
    simp [hm,hs,ht,lk]; omega
  · have c3:s_Z1 (p2 + 1) 0 100000 = true := tx_within.2 (by omega)
    have r2:v_seenAt p0 p1 (p2 + 1) = (v_seen p0 p1 (p2 + 1),0) := by unfold v_seenAt; rw [e,c1,c3]; rfl
    obtain ⟨o,v⟩ := l_seen_0 hm hs r1 r2 hw
    simp only [hw,r1,r2,e,e',beq_eq_false_iff_ne.2 h7,v]
    simp [hm,hs,ht,lk,o]; omega

theorem own:ownKnob Try.prog.godebug = none := by kernel_rfl
theorem laidOut:laidOutB Try.prog = true := by kernel_rfl
theorem hfn10:Try.prog.funcs[10]? = some (fnOf Try.prog 10) := by kernel_rfl
theorem hps10:(fnOf Try.prog 10).params.size = 3 := by kernel_rfl
theorem lifted_GroundSeen (os:Os) (started:os.Started) (H:Type) (enc:TypeId×Value→H) :
    ReturnsInHanded {} Try.checked os 10 .any (Rows.groundSeenSpec.pre6 enc Try.prog (fnOf Try.prog 10) [] false) (Rows.groundSeenSpec.post enc Try.prog (fnOf Try.prog 10) false true false false) :=
  said_of (C := Try.checked) (ss := P_Z0.map shP) own started (by kernel_rfl) hfn10
    (ChangeSpec.witness6 (enc := enc) (C := Try.checked) false ⟨#[],zeroArgs P_Z0,[]⟩ 8 (by kernel_rfl) (by kernel_rfl) (by kernel_rfl) (by kernel_rfl)) rfl
    (fun ds h => by
      rw [hps10] at h
      match ds,h with
      | [_,_,_],_ => rfl)
    laidOut (by kernel_rfl) (rt := (fnOf Try.prog 10).resultTypes.getD 0 0) (by kernel_rfl) (by kernel_rfl) (by kernel_rfl)
    (law_of ok_Z0 fun x hx => ⟨(plain_Z0 x.1 x.2.1 x.2.2 hx).1,congrArg (fun b => V.p (.bool b)) (plain_Z0 x.1 x.2.1 x.2.2 hx).2⟩) (fun _ => rfl)
theorem GroundSeen_holds:Rows.GroundSeenSaid :=
  OpenClaim.holds_of_wide 10 (fnOf Try.prog 10) rfl rfl rfl rfl rfl rfl rfl ⟨rfl,rfl,rfl,rfl,rfl⟩ rfl rfl rfl rfl rfl (by kernel_rfl) hfn10 (by kernel_rfl)
    (of_decide_eq_true (by kernel_rfl)) (by unfold Func.isWrapper; first | (rw [if_pos (by decide +kernel)]; kernel_rfl) | (rw [if_neg (by decide +kernel)]; exact ⟨rfl,rfl⟩))
    (fun os started H enc _ => lifted_GroundSeen os started H enc)
end Go.Proofs.Ytehblgccaiiikaa
