/- The iterator of strings.SplitSeq, at a separator of one byte: what it hands on. -/
import Derived.Test.YtepdfhjmngbhhaaGreatDoorShAGravityStrings
import Derived.Test.YtepdfhjmngbhhaaGreatDoorMxO
import Derived.Shelf.Strings.Search3
import Derived.Test.YtepdfhjmngbhhaaGreatDoorLayC
import Derived.RangeFuncNested
import Derived.RangeFuncBound
import Derived.RangeFuncCalls
import Derived.RangeFuncLeaves
import Derived.Shelf.Abstract
import Derived.Shelf.RegionOpen
import Derived.WalkKit
import Derived.OwnWalkIn
import Derived.TacticsInMore
import Derived.LoopNIn
import Derived.LoopIn
namespace Go.Proofs
open Go.RowKit Go.Shelf Go.Mx
attribute [local go_sem] Oper.semAt_some
/-- Its cells. -/
structure SqC (c d e:Nat) (s sep:ByteArray) (W:World):Prop where
  s:W.cell? ⟨c,0,none⟩ = some (.string s)
  f:W.frozen? ⟨c,0,none⟩ = false
  sep:W.cell? ⟨d,0,none⟩ = some (.string sep)
  e:W.cell? ⟨e,0,none⟩ = some (.int .i64 0)
set_option maxHeartbeats 2000000
set_option maxRecDepth 100000
theorem Sq.iter (l c d e:Nat) (hcd:c ≠ d) (hce:c ≠ e) (b:UInt8) (s0:ByteArray) (hs0:s0.size≤4611686018427387904) (J Jx:List ByteArray→World→Prop)
    (hY:∀ pre x W s,J pre W→SqC c d e s ⟨#[b]⟩ W→(∃ r,v_pcs s0 ⟨#[b]⟩ = pre ++ x :: r)→YieldAt Fence.wide 0 Tryz.prog l #[.string x] W fun r W' => (r = .returned (.bool true)∧J (pre ++ [x]) W'∧SqC c d e s ⟨#[b]⟩ W') ∨ (r = .returned (.bool false)∧Jx (pre ++ [x]) W'))
    (hJ:∀ pre W s s',J pre W→SqC c d e s ⟨#[b]⟩ W→J pre (W.setCell ⟨c,0,none⟩ (.string s')))
    (W:World) (hW:SqC c d e s0 ⟨#[b]⟩ W) (h0:J [] W) :
    CallsIn Fence.wide 0 Tryz.prog 195 #[.func (.yield l) #[] #[],.pointer (some ⟨d,0,none⟩),.pointer (some ⟨c,0,none⟩),.pointer (some ⟨e,0,none⟩)] W fun r W' => (∃ v,r = .returned v) ∧
      ((∃ ys,ys = v_pcs s0 ⟨#[b]⟩∧J ys W') ∨ (∃ pre,Jx pre W')) := by
  refine callsIn_of_wp Tryz.func195 rfl trivial ?_ rfl
  simp only [Tryz.ntmps195,List.size_toArray,List.length_cons,List.length_nil,Nat.reduceAdd,Nat.reduceSub,Array.replicate_succ,Array.replicate_zero,List.push_toArray,List.append_toArray,List.nil_append,List.cons_append]
  have g1 := hW.s; have g2 := hW.sep; have g3 := hW.e
  gi_wp2
  gi_loopw [] (fun wr => ∃ (pre:List ByteArray) (s:ByteArray),v_pcs s0 ⟨#[b]⟩ = pre ++ v_pcs s ⟨#[b]⟩∧s.size≤s0.size∧J pre wr∧SqC c d e s ⟨#[b]⟩ wr)
    (fun wr => match wr.cell? ⟨c,0,none⟩ with | some (.string s) => s.size | _ => 0)
  case atStart => exact ⟨[],s0,rfl,Nat.le_refl _,h0,hW⟩
  case round =>
    obtain ⟨pre,s,hp,hle,hJs,hC⟩ := hrel
    have k1 := hC.s; have k2 := hC.sep; have k3 := hC.e; have k4 := hC.f
    have hc := Any.strings_Index_one Tryz.lays143 s b
    have hio:Lib.indexB s ⟨#[b]⟩ = Lib.indexByte s.data.toList b := Lib.index_one _ _
    rcases Lib.indexB_cases s ⟨#[b]⟩ with hx | ⟨i,hx,hi⟩
    · rw [← hio,hx] at hc
      rw [v_pcs_miss hx] at hp
      obtain ⟨fn,tmps,assign,body,hy,hR⟩ := hY pre s wr s hJs hC ⟨[],hp⟩
      gi_wp2_with (refine ⟨trivial,rfl,?_⟩; refine (callsIn_wide.2 (hc _)).mono ?_; rintro r w' ⟨rfl,hw⟩; subst hw)
      refine ⟨rfl,hR.mono ?_⟩
      rintro r W3 (⟨rfl,hJ3,hk3⟩ | ⟨rfl,hJx3⟩)
      · gi_wp2
        go_end0
        exact ⟨⟨_,rfl⟩,.inl ⟨_,rfl,by rw [hp]; exact hJ3⟩⟩
      · gi_wp2
        go_end0
        exact ⟨⟨_,rfl⟩,.inr ⟨_,hJx3⟩⟩
    · rw [← hio,hx] at hc
      have hi' : i + 1≤s.size := hi
      have hw64:wrap64 (i:Int) = i := by rw [wrap64]; omega
      rw [v_pcs_hit (sep := ⟨#[b]⟩) (Nat.le_refl 1) hx] at hp
      obtain ⟨fn,tmps,assign,body,hy,hR⟩ := hY pre (s.extract 0 i) wr s hJs hC ⟨_,hp⟩
      gi_wp2_with (refine ⟨trivial,rfl,?_⟩; refine (callsIn_wide.2 (hc _)).mono ?_; rintro r w' ⟨rfl,hw⟩; subst hw)
      refine ⟨rfl,hR.mono ?_⟩
      rintro r W3 (⟨rfl,hJ3,hk3⟩ | ⟨rfl,hJx3⟩)
      · have q1 := hk3.s; have q2 := hk3.sep; have q3 := hk3.e; have q4 := hk3.f
        gi_wp2
        have hsz:(s.extract (i + 1) s.size).size = s.size - (i + 1) := by rw [ByteArray.size_extract]; omega
        have e1:(W3.setCell ⟨c,0,none⟩ (Value.string (s.extract (i + 1) s.size))).cell? ⟨c,0,none⟩ = some (Value.string (s.extract (i + 1) s.size)) := World.cell?_setCell_same' _ _ _ (by rw [q1]; rfl)
        refine ⟨⟨pre ++ [s.extract 0 i],s.extract (i + 1) s.size,?_,by rw [hsz]; omega,hJ _ _ _ _ hJ3 hk3,⟨e1,?_,?_,?_⟩⟩,?_⟩
        · rw [hp,List.append_assoc]; rfl
        · rw [World.frozen?_setCell]; exact q4
        · exact (World.cell?_setCell_other _ _ _ _ (fun e => hcd (congrArg Addr.block e))).trans q2
        · exact (World.cell?_setCell_other _ _ _ _ (fun e => hce (congrArg Addr.block e))).trans q3
        · rw [e1,k1]; simp only [hsz]; omega
      · gi_wp2
        refine bodyPost_ret (results_none rfl _ _ _) rfl ?_
        exact ⟨⟨_,rfl⟩,.inr ⟨_,hJx3⟩⟩
theorem Sq.call (s sep:ByteArray) (w:World):Calls Tryz.prog 96 #[.string s,.string sep] w fun e w' =>
    e = .returned (.func (.func 195) #[] #[.pointer (some ⟨w.heap.size + 1,0,none⟩),.pointer (some ⟨w.heap.size,0,none⟩),.pointer (some ⟨w.heap.size + 2,0,none⟩)]) ∧
      w' = ((w.alloc (.cells #[.string s] 9)).alloc (.cells #[.string sep] 9)).alloc (.cells #[.int .i64 0] 3) := by
  go_enter Tryz.func96,Tryz.ntmps96
  go_wp2
  go_ret
  exact ⟨rfl,rfl⟩
end Go.Proofs
