/- GroundStrings: the given statement is proved: at every input the law returns true, and the input reads as it did. No condition. -/
import Derived.Test.YtepdfhjmngbhhaaGreatDoorWalkGroundStrings
import Derived.Test.YtepdfhjmngbhhaaGreatDoorLayB
import Derived.Test.YtepdfhjmngbhhaaGreatDoorMxUl
import Derived.Test.YtepdfhjmngbhhaaGreatDoorRows
import Derived.Test.YtepdfhjmngbhhaaGreatDoorCards
import Derived.Test.YtepdfhjmngbhhaaGreatDoorTie
import Derived.ProofKit
import Derived.SevenTiedAt
namespace Go.Proofs.YtepdfhjmngbhhaaGreatDoor
open Go Go.Mx
set_option maxRecDepth 100000
theorem fs_cm {l:List tQA} (h:(v_cm l).2 = 0):l ≠ []∧l.length≤4∧∀ x∈l,(1≤x.1∧x.1≤20)∧(0≤x.2∧x.2≤10) := by
  unfold v_cm at h
  by_cases h0:l = []
  · subst h0; exact absurd h (by decide)
  · have hl:l.length ≠ 0 := fun e => h0 (List.length_eq_zero_iff.1 e)
    rw [show ((l.length:Int) == 0) = false from beq_false_of_ne (by omega),cond_false] at h
    by_cases h4:(l.length:Int) > 4
    · rw [decide_eq_true h4] at h; exact absurd h (show ¬ ((8:Int) = 0) by decide)
    · rw [decide_eq_false h4,cond_false] at h
      refine ⟨h0,by omega,fun x hx => ?_⟩
      obtain ⟨k,hk,rfl⟩ := List.mem_iff_getElem.1 hx
      have hn := v_scan_end (P := fun v:Int×Int => v.2 = 0) l 0 h (fun j x v _ hv hz => by
        unfold v_cm1 at hv
        cases c1:cond (s_Z4 x.1 1 20) (s_Z4 x.2 0 10) false with
        | false => rw [c1] at hv; simp only [cond_false,sJ] at hv; subst hv; exact absurd hz (show ¬ ((2:Int) = 0) by decide)
        | true =>
          rw [c1] at hv
          simp only [cond_true] at hv
          cases c2:cond (j == (l.length:Int) - 1) (x.2 == 0) true with
          | false => rw [c2] at hv; simp only [cond_false,sJ] at hv; subst hv; exact absurd hz (show ¬ ((3:Int) = 0) by decide)
          | true => rw [c2] at hv; cases hv) k hk
      unfold v_cm1 at hn
      cases c1:cond (s_Z4 l[k].1 1 20) (s_Z4 l[k].2 0 10) false with
      | false => rw [c1] at hn; cases hn
      | true =>
        cases c2:s_Z4 l[k].1 1 20 with
        | false => rw [c2] at c1; cases c1
        | true =>
          rw [c2] at c1
          exact ⟨tx_within.1 c2,tx_within.1 c1⟩
theorem fs_cd {l:List (Int×Int×Int)} (h:(v_cd l).2 = 0):l ≠ []∧l.length≤6∧∀ x∈l,(1≤x.1∧x.1≤20)∧(0≤x.2.1∧x.2.1≤100000)∧(0≤x.2.2∧x.2.2≤100000) := by
  unfold v_cd at h
  by_cases h0:l = []
  · subst h0; exact absurd h (by decide)
  · have hl:l.length ≠ 0 := fun e => h0 (List.length_eq_zero_iff.1 e)
    rw [show ((l.length:Int) == 0) = false from beq_false_of_ne (by omega),cond_false] at h
    by_cases h4:(l.length:Int) > 6
    · rw [decide_eq_true h4] at h; exact absurd h (show ¬ ((8:Int) = 0) by decide)
    · rw [decide_eq_false h4,cond_false] at h
      refine ⟨h0,by omega,fun x hx => ?_⟩
      obtain ⟨k,hk,rfl⟩ := List.mem_iff_getElem.1 hx
      have hn := v_scan_end (P := fun v:Int×Int => v.2 = 0) l 0 h (fun j x v _ hv hz => by
        unfold v_cd1 at hv
        cases c1:cond (s_Z4 x.1 1 20) (cond (s_Z4 x.2.1 0 100000) (s_Z4 x.2.2 0 100000) false) false with
        | false => rw [c1] at hv; simp only [cond_false,sJ] at hv; subst hv; exact absurd hz (show ¬ ((2:Int) = 0) by decide)
        | true =>
          rw [c1] at hv
          simp only [cond_true] at hv
          cases c2:cond (decide (x.2.1≤x.2.2)) (cond (j == 0) true (decide (x.1 > (l.getD (j - 1).toNat (0,0,0)).1))) false with
          | false => rw [c2] at hv; simp only [cond_false,sJ] at hv; subst hv; exact absurd hz (show ¬ ((9:Int) = 0) by decide)
          | true => rw [c2] at hv; cases hv) k hk
      unfold v_cd1 at hn
      cases c1:cond (s_Z4 l[k].1 1 20) (cond (s_Z4 l[k].2.1 0 100000) (s_Z4 l[k].2.2 0 100000) false) false with
      | false => rw [c1] at hn; cases hn
      | true =>
        cases c2:s_Z4 l[k].1 1 20 with
        | false => rw [c2] at c1; cases c1
        | true =>
          rw [c2,cond_true] at c1
          cases c3:s_Z4 l[k].2.1 0 100000 with
          | false => rw [c3] at c1; cases c1
          | true =>
            rw [c3] at c1
            exact ⟨tx_within.1 c2,tx_within.1 c3,tx_within.1 c1⟩
theorem fs_model {l:List tQA} (h:(v_cm l).2 = 0):v_prs (fun w => v_opt2 w 120) (fun l => (v_cm l).2) (v_fmt v_fwx l) = (l,0) := by
  obtain ⟨h1,h2,h3⟩ := fs_cm h
  refine v_prs_fmt h1 (by omega) (fun x hx => ?_) (fun x hx => ?_) (fun x hx => ?_) h <;> obtain ⟨a,b⟩ := h3 x hx
  · exact v_fwx_size ⟨by omega,by omega⟩ ⟨by omega,by omega⟩
  · exact v_fwx_no (by omega) b.1
  · exact v_fwx_opt ⟨by omega,by omega⟩ ⟨b.1,by omega⟩
theorem fs_data {l:List (Int×Int×Int)} (h:(v_cd l).2 = 0):v_prs (fun w => v_opt3 w 58 44) (fun l => (v_cd l).2) (v_fmt v_fwd l) = (l,0) := by
  obtain ⟨h1,h2,h3⟩ := fs_cd h
  refine v_prs_fmt h1 (by omega) (fun x hx => ?_) (fun x hx => ?_) (fun x hx => ?_) h <;> obtain ⟨a,b,c⟩ := h3 x hx
  · exact v_fwd_size ⟨by omega,by omega⟩ ⟨by omega,by omega⟩ ⟨by omega,by omega⟩
  · exact v_fwd_no (by omega) b.1 c.1
  · exact v_fwd_opt ⟨by omega,by omega⟩ ⟨b.1,by omega⟩ ⟨c.1,by omega⟩
theorem fs_seq (a:ByteArray):v_seq a a = true := by rw [v_seq_iff]; exact decide_eq_true rfl
/-- The plain law. -/
theorem plain_Z3 (p0:gC) (p1:gB) (p2:ByteArray) (hx:okPs P_Z3 (p0,p1,p2)):(∀ p∈pre_Z3 p0 p1 p2,p)∧s_Z3 p0 p1 p2 = true := by
  obtain ⟨⟨_,hm⟩,⟨_,hd⟩,_⟩ := hx
  have hm' : v_fmok p0 := fun x hx => ⟨⟨(hm x hx).1.1,(hm x hx).1.2⟩,⟨(hm x hx).2.1,(hm x hx).2.2⟩⟩
  have hd' : v_fdok p1 := fun x hx => ⟨⟨(hd x hx).1.1,(hd x hx).1.2⟩,⟨(hd x hx).2.1.1,(hd x hx).2.1.2⟩,⟨(hd x hx).2.2.1,(hd x hx).2.2.2⟩⟩
  unfold pre_Z3 s_Z3
  simp only [fM,List.nil_append,List.length_nil,fs_seq,bne_self_eq_false,decide_true,Bool.not_true,cond_false,Bool.false_eq_true]
  have hl1 := v_prs_len (fun w => v_opt2 w 120) (fun l => (v_cm l).2)
  have hl2 := v_prs_len (fun w => v_opt3 w 58 44) (fun l => (v_cd l).2)
  have hsmall:(cond (cond (!(decide ((p0.length:Int)≤6))) true (!(decide ((p1.length:Int)≤8)))) true (decide ((p2.size:Int) > 100))) = false→p0.length≤6∧p1.length≤8 := fun h => by
    by_cases h6:(p0.length:Int)≤6
    · by_cases h8:(p1.length:Int)≤8
      · omega
      · rw [decide_eq_true h6,decide_eq_false h8] at h; cases h
    · rw [decide_eq_false h6] at h; cases h
  refine ⟨?_,?_⟩
  · and_intros
    all_goals first | (intro h; have := hsmall h; omega) | (intro h _; have := hsmall h; omega) | (intro _; exact hm') | (intro _; exact hd') | (intro _ _; exact hd') | (intros; exact hl1 _) | (intros; exact hl2 _) | (simp; done)
  · cases (cond (cond (!(decide ((p0.length:Int)≤6))) true (!(decide ((p1.length:Int)≤8)))) true (decide ((p2.size:Int) > 100))) with
    | true => rfl
    | false =>
      simp only [cond_false]
      have hD:cond ((v_cd p1).2 != 0) true (cond ((v_prs (fun w => v_opt3 w 58 44) (fun l => (v_cd l).2) (v_fmt v_fwd p1)).2 == 0) (decide ((v_prs (fun w => v_opt3 w 58 44) (fun l => (v_cd l).2) (v_fmt v_fwd p1)).1 = p1)) false) = true := by
        rcases int0 (v_cd p1).2 with ⟨z,e,_⟩ | ⟨z,e,_⟩
        · rw [e,cond_false,fs_data z]; simp
        · rw [e]; rfl
      rcases int0 (v_cm p0).2 with ⟨z,_,e⟩ | ⟨z,_,e⟩
      · simp only [e,cond_true,List.nil_append,fs_model z,bne_self_eq_false,decide_true,Bool.not_true,cond_false]
        exact hD
      · rw [e,cond_false]
        exact hD

theorem own:ownKnob Tryz.prog.godebug = none := by kernel_rfl
theorem laidOut:laidOutB Tryz.prog = true := by kernel_rfl
theorem hfn4:Tryz.prog.funcs[4]? = some (fnOf Tryz.prog 4) := by kernel_rfl
theorem hps4:(fnOf Tryz.prog 4).params.size = 3 := by kernel_rfl
theorem globs (W:World) (h:laidMetH Tryz.prog Rows.groundStringsRow.laid W) (hs:W.ShapedOpen Tryz.prog):Glob (fun b => b < W.heap.size) W where
  g := fun g cs hg => by
    cases hg
  q := fun g q hq => by
    match g,hq with
    | 0,hq => cases hq
    | 1,hq =>
      obtain rfl := Option.some.inj hq
      exact glob_any (P := Tryz.prog) (Go.Proofs.cell_of_shapedOpen_int (P := Tryz.prog) (g := 1) (t := 3) (zero := #[.int .i64 0]) hs (of_decide_eq_true (by kernel_rfl)) (by kernel_rfl) rfl (by kernel_rfl) (by kernel_rfl) Tryz.underlying3)
    | 2,hq =>
      obtain rfl := Option.some.inj hq
      exact glob_ifc h (by kernel_rfl) (n := "strconv.ErrSyntax") (.tail _ (.tail _ (.tail _ (.tail _ (.tail _ (.head _)))))) (by kernel_rfl) (t := 207) (by kernel_rfl) Tryz.underlying207
    | 3,hq =>
      obtain rfl := Option.some.inj hq
      exact glob_ifc h (by kernel_rfl) (n := "strconv.ErrRange") (.tail _ (.tail _ (.tail _ (.tail _ (.head _))))) (by kernel_rfl) (t := 207) (by kernel_rfl) Tryz.underlying207
    | 4,hq =>
      obtain rfl := Option.some.inj hq
      exact glob_tab (zs := Lib.pow10Tab) (k := .u64) h (by kernel_rfl) (n := "internal/strconv.uint64pow10") (.tail _ (.tail _ (.head _))) (by kernel_rfl) (t := 311) (by kernel_rfl) Tryz.underlying311 (by kernel_rfl) (by kernel_rfl) (by kernel_rfl)
    | _ + 5,hq => cases hq
theorem lifted_GroundStrings (os:Os) (started:os.Started) (H:Type) (enc:TypeId×Value→H) :
    ReturnsInHanded {} Tryz.checked os 4 .any (fun w args => (Rows.groundStringsSpec.pre enc Tryz.prog (fnOf Tryz.prog 4) Rows.groundStringsRow.domain false w args∧laidMetH Tryz.prog Rows.groundStringsRow.laid w)∧sizedMet enc Tryz.prog (fnOf Tryz.prog 4) (OpenSpec.ofChange Rows.groundStringsSpec) false w args)
      (Rows.groundStringsSpec.post enc Tryz.prog (fnOf Tryz.prog 4) false true false false) :=
  said_of_laids (C := Tryz.checked) (laid := Rows.groundStringsRow.laid) (ss := P_Z3.map shP) (by kernel_rfl) own started (by kernel_rfl) hfn4
    (ChangeSpec.witness_shaped (enc := enc) (C := Tryz.checked) (os := os) (X := fun w _ => laidMetH Tryz.prog Rows.groundStringsRow.laid w) false (World.laidAll Tryz.prog os Rows.groundStringsRow.laid) (zeroArgs P_Z3) 8 (World.laidAll_os _ _ _)
      (World.shaped_of_ZipB (by kernel_rfl) (by kernel_rfl)) (by kernel_rfl) (by kernel_rfl) (by kernel_rfl)
      (by rw [MakeChecks.laidMetH_plain _ _ _ (by kernel_rfl)]; exact laidMet_laidAll _ (by kernel_rfl) (by kernel_rfl))) rfl
    (fun ds h => by
      rw [hps4] at h
      match ds,h with
      | [_,_,_],_ => rfl)
    laidOut (by kernel_rfl) (rt := (fnOf Tryz.prog 4).resultTypes.getD 0 0) (by kernel_rfl) (by kernel_rfl) (by kernel_rfl)
    (law_of ok_Z3 fun x hx => ⟨(plain_Z3 x.1 x.2.1 x.2.2 hx).1,congrArg (fun b => V.p (.bool b)) (plain_Z3 x.1 x.2.1 x.2.2 hx).2⟩) globs
theorem GroundStrings_holds:Rows.GroundStringsSaid :=
  OpenClaim.holds_of_wide 4 (fnOf Tryz.prog 4) rfl rfl rfl rfl rfl rfl rfl ⟨rfl,rfl,rfl,rfl,rfl⟩ rfl rfl rfl rfl rfl (by kernel_rfl) hfn4 (by kernel_rfl)
    (of_decide_eq_true (by kernel_rfl)) (by unfold Func.isWrapper; first | (rw [if_pos (by decide +kernel)]; kernel_rfl) | (rw [if_neg (by decide +kernel)]; exact ⟨rfl,rfl⟩))
    (fun os started H enc _ => lifted_GroundStrings os started H enc)
theorem GroundStringsCard_holds:Rows.GroundStringsCardSaid :=
  Claim7.holds_tied_plain_at .later [] [.data,.data,.data,.data,.sentinel,.sentinel,.pinned] true (true,"c5ecd20dd795f11de65871ff9b567c1d3094557c7ee3f0a20aed00f7b83d932c") true GroundStrings_holds (fun _ h => by cases h) (by kernel_rfl) (fun _ h => by cases h) groundStrings_row_tie rfl ⟨rfl,rfl⟩ (by kernel_rfl) rfl
    (fun f fn hf hfn => by
      obtain rfl:f = 4 := Option.some.inj ((show Tryz.prog.funcNamed "cloverleaf/cloverleaflaw04.GroundStrings" = some 4 by kernel_rfl).symm.trans hf) |>.symm
      obtain rfl:fn = fnOf Tryz.prog 4 := (Option.some.inj (hfn4.symm.trans hfn)).symm
      exact ⟨by kernel_rfl,fun j t ht => by
        have hm:t∈(fnOf Tryz.prog 4).params.toList := by simpa using Array.mem_of_getElem? ht
        have hall:((fnOf Tryz.prog 4).params.toList.all fun u => !Tryz.prog.wantsStandIn u) = true := by kernel_rfl
        exact (show Tryz.prog.wantsStandIn t = false by simpa using List.all_eq_true.1 hall t hm)⟩)
    (by kernel_rfl)
end Go.Proofs.YtepdfhjmngbhhaaGreatDoor
