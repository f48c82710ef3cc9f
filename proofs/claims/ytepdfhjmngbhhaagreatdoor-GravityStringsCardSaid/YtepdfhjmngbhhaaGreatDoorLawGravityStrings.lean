/- GravityStrings: the given statement is proved: at every input the law returns true, and the input reads as it did. No condition. -/
import Derived.Test.YtepdfhjmngbhhaaGreatDoorWalkGravityStrings
import Derived.Test.YtepdfhjmngbhhaaGreatDoorLayB
import Derived.Test.YtepdfhjmngbhhaaGreatDoorMxUl
import Derived.Test.YtepdfhjmngbhhaaGreatDoorRows
import Derived.Test.YtepdfhjmngbhhaaGreatDoorCards
import Derived.Test.YtepdfhjmngbhhaaGreatDoorTie
import Derived.ProofKit
import Derived.SevenTiedAt
namespace Go.Proofs.YtepdfhjmngbhhaaGreatDoor
open Go Go.Mx
set_option maxRecDepth 100000
theorem gs_seq (a:ByteArray):v_seq a a = true := by rw [v_seq_iff]; exact decide_eq_true rfl
theorem gs_fil {l:List Int} (h:v_filerr l = 0):v_pfil (v_fmt v_itoa l) = (l,0) := by
  have h0:v_fw0 l = 0 := by
    unfold v_filerr at h
    cases e:(v_fw0 l != 0) with
    | true =>
      rw [e,cond_true] at h
      rw [h] at e; cases e
    | false => exact bne0' e
  have hw := tx_fw h0
  have hne:l ≠ [] := fun e => by have := hw.one; rw [e] at this; simp at this
  have hsz := v_join_size 20 32 (l.map v_itoa) (fun y hy => by
    obtain ⟨z,hz,rfl⟩ := List.mem_map.1 hy
    have := hw.all z hz
    exact v_itoa_len (by omega) (by omega))
  have h9 := hw.nine
  rw [List.length_map] at hsz
  have hs:(v_fmt v_itoa l).size≤60000 := by
    show (v_join (l.map v_itoa) ⟨#[32]⟩).size≤_
    omega
  have hg:v_gn 7 0 (v_ct (v_fmt v_itoa l) 32) [] = some l := v_gn_fmt (k := 7) (by decide) hne (fun x hx => by have := hw.all x hx; omega) (fun i x _ _ => by omega)
  unfold v_pfil
  rw [decide_eq_false (show ¬ ((v_fmt v_itoa l).size:Int) > 60000 by omega),cond_false,v_gnp_some hg]
  dsimp only
  rw [h]; rfl
theorem gs_net {p:Int×List tQC} (h:(v_net p).2 = 0):v_pnet (fun n => (v_net n).2) (v_fnet p) = (p,0) := by
  obtain ⟨hn,h0⟩ := tx_net h
  have h1 := hn.n1
  have h8 := hn.n8
  have hl := hn.len
  refine v_pnet_rt (by omega) (by omega) (fun x hx => ?_) h
  obtain ⟨a,b,_,c,d,_⟩ := hn.all x hx
  exact ⟨by omega,by omega,by omega,by omega⟩
theorem gs_fl (s:ByteArray):lenOk (v_pfil s).1 := by
  have:(v_pfil s).1.length≤60001 := by
    unfold v_pfil
    by_cases h:(s.size:Int) > 60000
    · rw [decide_eq_true h]; exact Nat.zero_le _
    · rw [decide_eq_false h,cond_false]
      have h1 := v_gnp_len 7 0 (v_ct s 32)
      have h2 := v_ct_len s 32
      generalize v_gnp 7 0 (v_ct s 32) = G at h1 ⊢
      cases (!G.2)
      · cases (v_filerr G.1 != 0)
        · show G.1.length≤_; omega
        · exact Nat.zero_le _
      · exact Nat.zero_le _
  unfold lenOk; omega
/-- The plain law. -/
theorem plain_Z1 (p0:gF) (p1:Int×List tQC) (p2:ByteArray) (hx:okPs P_Z1 (p0,p1,p2)):(∀ p∈pre_Z1 p0 p1 p2,p)∧s_Z1 p0 p1 p2 = true := by
  obtain ⟨⟨_,hf⟩,⟨hn,_,ht⟩,_⟩ := hx
  have hf' : v_inok p0 := fun x hx => ⟨(hf x hx).1,(hf x hx).2⟩
  have hn' : v_in64 p1.1 := ⟨hn.1,hn.2⟩
  have ht' : v_tiok p1.2 := fun x hx => ⟨⟨(ht x hx).1.1,(ht x hx).1.2⟩,⟨(ht x hx).2.1.1,(ht x hx).2.1.2⟩,⟨(ht x hx).2.2.1.1,(ht x hx).2.2.1.2⟩,⟨(ht x hx).2.2.2.1,(ht x hx).2.2.2.2⟩⟩
  unfold pre_Z1 s_Z1
  have hp1:((p1.1,p1.2):Int×List tQC) = p1 := rfl
  simp only [fM,List.nil_append,List.length_nil,hp1,gs_seq,bne_self_eq_false,decide_true,Bool.not_true,cond_false,Bool.false_eq_true]
  have hl2 := v_pnet_len (fun n => (v_net n).2)
  have hsmall:(cond (cond (!(decide ((p0.length:Int)≤11))) true (!(decide ((p1.2.length:Int)≤14)))) true (decide ((p2.size:Int) > 300))) = false→p0.length≤11∧p1.2.length≤14 := fun h => by
    by_cases h6:(p0.length:Int)≤11
    · by_cases h8:(p1.2.length:Int)≤14
      · omega
      · rw [decide_eq_true h6,decide_eq_false h8] at h; cases h
    · rw [decide_eq_false h6] at h; cases h
  refine ⟨?_,?_⟩
  · and_intros
    all_goals first | (intro h; have := hsmall h; omega) | (intro h _; have := hsmall h; omega) | (intros; exact hf') | (intros; exact hn') | (intros; exact ht') | (intros; exact gs_fl _) | (intros; exact hl2 _) | (simp; done)
  · cases (cond (cond (!(decide ((p0.length:Int)≤11))) true (!(decide ((p1.2.length:Int)≤14)))) true (decide ((p2.size:Int) > 300))) with
    | true => rfl
    | false =>
      simp only [cond_false]
      have hD:cond ((v_net p1).2 != 0) true (cond ((v_pnet (fun n => (v_net n).2) (v_fnet p1)).2 == 0) (decide ((v_pnet (fun n => (v_net n).2) (v_fnet p1)).1 = p1)) false) = true := by
        rcases int0 (v_net p1).2 with ⟨z,e,_⟩ | ⟨z,e,_⟩
        · rw [e,cond_false,gs_net z]; simp
        · rw [e]; rfl
      rcases int0 (v_filerr p0) with ⟨z,_,e⟩ | ⟨z,_,e⟩
      · simp only [e,cond_true,gs_fil z,bne_self_eq_false,decide_true,Bool.not_true,cond_false]
        exact hD
      · rw [e,cond_false]
        exact hD

theorem own:ownKnob Tryz.prog.godebug = none := by kernel_rfl
theorem laidOut:laidOutB Tryz.prog = true := by kernel_rfl
theorem hfn5:Tryz.prog.funcs[5]? = some (fnOf Tryz.prog 5) := by kernel_rfl
theorem hps5:(fnOf Tryz.prog 5).params.size = 3 := by kernel_rfl
theorem globs (W:World) (h:laidMetH Tryz.prog Rows.gravityStringsRow.laid W) (hs:W.ShapedOpen Tryz.prog):Glob (fun b => b < W.heap.size) W where
  g := fun g cs hg => by
    match g,hg with
    | 0,hg =>
      have e:[.int .i64 1,.int .i64 (-2),.int .i64 1] = cs := Option.some.inj hg
      subst e
      exact glob_ints (zs := [1,-2,1]) (k := .i64) h (by kernel_rfl) (n := "cloverleaf/gravity.second") (.tail _ (.tail _ (.tail _ (.tail _ (.tail _ (.tail _ (.head _))))))) (by kernel_rfl) (t := 204) (by kernel_rfl) Tryz.underlying204 Tryz.underlying3 (by kernel_rfl)
    | _ + 1,hg => cases hg
  q := fun g q hq => by
    match g,hq with
    | 0,hq => cases hq
    | 1,hq =>
      obtain rfl := Option.some.inj hq
      exact glob_any (P := Tryz.prog) (Go.Proofs.cell_of_shapedOpen_int (P := Tryz.prog) (g := 1) (t := 3) (zero := #[.int .i64 0]) hs (of_decide_eq_true (by kernel_rfl)) (by kernel_rfl) rfl (by kernel_rfl) (by kernel_rfl) Tryz.underlying3)
    | 2,hq =>
      obtain rfl := Option.some.inj hq
      exact glob_ifc h (by kernel_rfl) (n := "strconv.ErrSyntax") (.tail _ (.tail _ (.tail _ (.tail _ (.tail _ (.head _)))))) (by kernel_rfl) (t := 207) (by kernel_rfl) Tryz.underlying207
    | 3,hq =>
      obtain rfl := Option.some.inj hq
      exact glob_ifc h (by kernel_rfl) (n := "strconv.ErrRange") (.tail _ (.tail _ (.tail _ (.tail _ (.head _))))) (by kernel_rfl) (t := 207) (by kernel_rfl) Tryz.underlying207
    | 4,hq =>
      obtain rfl := Option.some.inj hq
      exact glob_tab (zs := Lib.pow10Tab) (k := .u64) h (by kernel_rfl) (n := "internal/strconv.uint64pow10") (.tail _ (.tail _ (.head _))) (by kernel_rfl) (t := 311) (by kernel_rfl) Tryz.underlying311 (by kernel_rfl) (by kernel_rfl) (by kernel_rfl)
    | _ + 5,hq => cases hq
theorem lifted_GravityStrings (os:Os) (started:os.Started) (H:Type) (enc:TypeId×Value→H) :
    ReturnsInHanded {} Tryz.checked os 5 .any (fun w args => (Rows.gravityStringsSpec.pre enc Tryz.prog (fnOf Tryz.prog 5) Rows.gravityStringsRow.domain false w args∧laidMetH Tryz.prog Rows.gravityStringsRow.laid w)∧sizedMet enc Tryz.prog (fnOf Tryz.prog 5) (OpenSpec.ofChange Rows.gravityStringsSpec) false w args)
      (Rows.gravityStringsSpec.post enc Tryz.prog (fnOf Tryz.prog 5) false true false false) :=
  said_of_laids (C := Tryz.checked) (laid := Rows.gravityStringsRow.laid) (ss := P_Z1.map shP) (by kernel_rfl) own started (by kernel_rfl) hfn5
    (ChangeSpec.witness_shaped (enc := enc) (C := Tryz.checked) (os := os) (X := fun w _ => laidMetH Tryz.prog Rows.gravityStringsRow.laid w) false (World.laidAll Tryz.prog os Rows.gravityStringsRow.laid) (zeroArgs P_Z1) 8 (World.laidAll_os _ _ _)
      (World.shaped_of_ZipB (by kernel_rfl) (by kernel_rfl)) (by kernel_rfl) (by kernel_rfl) (by kernel_rfl)
      (by rw [MakeChecks.laidMetH_plain _ _ _ (by kernel_rfl)]; exact laidMet_laidAll _ (by kernel_rfl) (by kernel_rfl))) rfl
    (fun ds h => by
      rw [hps5] at h
      match ds,h with
      | [_,_,_],_ => rfl)
    laidOut (by kernel_rfl) (rt := (fnOf Tryz.prog 5).resultTypes.getD 0 0) (by kernel_rfl) (by kernel_rfl) (by kernel_rfl)
    (law_of ok_Z1 fun x hx => ⟨(plain_Z1 x.1 x.2.1 x.2.2 hx).1,congrArg (fun b => V.p (.bool b)) (plain_Z1 x.1 x.2.1 x.2.2 hx).2⟩) globs
theorem GravityStrings_holds:Rows.GravityStringsSaid :=
  OpenClaim.holds_of_wide 5 (fnOf Tryz.prog 5) rfl rfl rfl rfl rfl rfl rfl ⟨rfl,rfl,rfl,rfl,rfl⟩ rfl rfl rfl rfl rfl (by kernel_rfl) hfn5 (by kernel_rfl)
    (of_decide_eq_true (by kernel_rfl)) (by unfold Func.isWrapper; first | (rw [if_pos (by decide +kernel)]; kernel_rfl) | (rw [if_neg (by decide +kernel)]; exact ⟨rfl,rfl⟩))
    (fun os started H enc _ => lifted_GravityStrings os started H enc)
theorem GravityStringsCard_holds:Rows.GravityStringsCardSaid :=
  Claim7.holds_tied_plain_at .later [] [.data,.data,.data,.data,.sentinel,.sentinel,.widerDeep,.pinned] true (true,"c5ecd20dd795f11de65871ff9b567c1d3094557c7ee3f0a20aed00f7b83d932c") true GravityStrings_holds (fun _ h => by cases h) (by kernel_rfl) (fun _ h => by cases h) gravityStrings_row_tie rfl ⟨rfl,rfl⟩ (by kernel_rfl) rfl
    (fun f fn hf hfn => by
      obtain rfl:f = 5 := Option.some.inj ((show Tryz.prog.funcNamed "cloverleaf/cloverleaflaw05.GravityStrings" = some 5 by kernel_rfl).symm.trans hf) |>.symm
      obtain rfl:fn = fnOf Tryz.prog 5 := (Option.some.inj (hfn5.symm.trans hfn)).symm
      exact ⟨by kernel_rfl,fun j t ht => by
        have hm:t∈(fnOf Tryz.prog 5).params.toList := by simpa using Array.mem_of_getElem? ht
        have hall:((fnOf Tryz.prog 5).params.toList.all fun u => !Tryz.prog.wantsStandIn u) = true := by kernel_rfl
        exact (show Tryz.prog.wantsStandIn t = false by simpa using List.all_eq_true.1 hall t hm)⟩)
    (by kernel_rfl)
end Go.Proofs.YtepdfhjmngbhhaaGreatDoor
