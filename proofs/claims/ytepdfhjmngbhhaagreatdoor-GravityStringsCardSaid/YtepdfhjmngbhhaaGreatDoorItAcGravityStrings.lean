/- strings.SplitSeq: what a loop over it is handed. -/
import Derived.Test.YtepdfhjmngbhhaaGreatDoorItAsGravityStrings
import Derived.Test.YtepdfhjmngbhhaaGreatDoorLayC
namespace Go.Mx
open Go.Proofs Go.RowKit
variable [Laid]
omit [Laid] in
theorem sqc_of {c d e:Nat} {s sep:ByteArray} {W:World} {t1 t2 t3:TypeId} (h1:W.heap[c]? = some (.cells #[.string s] t1 (0,0))) (h2:W.heap[d]? = some (.cells #[.string sep] t2 (0,0))) (h3:W.heap[e]? = some (.cells #[.int .i64 0] t3 (0,0))):SqC c d e s sep W :=
  ⟨by simp [World.cell?,h1],by simp [World.frozen?,h1],by simp [World.cell?,h2],by simp [World.cell?,h3]⟩
omit [Laid] in
theorem sqc_keep {c d e:Nat} {s sep:ByteArray} {W W' : World} (h:SqC c d e s sep W) (h1:W'.heap[c]? = W.heap[c]?) (h2:W'.heap[d]? = W.heap[d]?) (h3:W'.heap[e]? = W.heap[e]?):SqC c d e s sep W' :=
  ⟨(cell_block (a := ⟨c,0,none⟩) h1).trans h.s,by have := h.f; simp only [World.frozen?] at this ⊢; rw [h1]; exact this,(cell_block (a := ⟨d,0,none⟩) h2).trans h.sep,(cell_block (a := ⟨e,0,none⟩) h3).trans h.e⟩
theorem iterC_splitSeq (s:ByteArray) (b:UInt8) (hs0:s.size≤4611686018427387904):IterC Tryz.prog 96 [.p (.str s),.p (.str ⟨#[b]⟩)] ((v_pcs s ⟨#[b]⟩).map fun x => [.p (.str x)]) := by
  intro w S vals hsz hv hS hG
  obtain rfl := vals2 hsz hv (fun _ h => rel_str h) (fun _ h => rel_str h)
  refine callsIn_wide.2 ((Sq.call s ⟨#[b]⟩ w).mono ?_)
  rintro e w1 ⟨rfl,hw1⟩
  generalize hn:w.heap.size = n at hw1 ⊢
  have hsz1:w1.heap.size = n + 3 := by rw [hw1]; simp [hn]
  have hfr:Fr (fun _ => False) w w1 := by
    refine ⟨by rw [hw1]; rfl,by rw [hw1]; rfl,by rw [hw1]; rfl,by omega,fun k hk _ => ?_⟩
    rw [hw1]
    exact (Below.heap_alloc _ _ _ (by simp; omega)).trans ((Below.heap_alloc _ _ _ (by simp; omega)).trans (Below.heap_alloc _ _ _ hk))
  have b1:w1.heap[n]? = some (.cells #[.string s] 9 (0,0)) := by
    rw [hw1]
    refine (Below.heap_alloc _ _ _ (by simp; omega)).trans ((Below.heap_alloc _ _ _ (by simp; omega)).trans ?_)
    rw [← hn]; exact World.alloc_heap_new w _
  have b2:w1.heap[n + 1]? = some (.cells #[.string ⟨#[b]⟩] 9 (0,0)) := by
    rw [hw1]
    refine (Below.heap_alloc _ _ _ (by simp; omega)).trans ?_
    have := World.alloc_heap_new (w.alloc (.cells #[.string s] 9)) (.cells #[.string ⟨#[b]⟩] 9)
    rwa [World.size_alloc,hn] at this
  have b3:w1.heap[n + 2]? = some (.cells #[.int .i64 0] 3 (0,0)) := by
    rw [hw1]
    have := World.alloc_heap_new ((w.alloc (.cells #[.string s] 9)).alloc (.cells #[.string ⟨#[b]⟩] 9)) (.cells #[.int .i64 0] 3)
    rwa [World.size_alloc,World.size_alloc,hn] at this
  refine ⟨hfr,195,#[],_,fun k => k = n ∨ k = n + 1 ∨ k = n + 2,rfl,by kernel_rfl,fun k hk => ⟨by omega,?_⟩,?_⟩
  · rcases hk with rfl | rfl | rfl
    · exact ⟨_,_,_,b1⟩
    · exact ⟨_,_,_,b2⟩
    · exact ⟨_,_,_,b3⟩
  intro l w2 J Jx hC hJ0 hS2 hR
  have hW2:SqC n (n + 1) (n + 2) s ⟨#[b]⟩ w2 := sqc_of ((hC _ (.inl rfl)).trans b1) ((hC _ (.inr (.inl rfl))).trans b2) ((hC _ (.inr (.inr rfl))).trans b3)
  refine (Sq.iter l n (n + 1) (n + 2) (by omega) (by omega) b s hs0
    (fun pre W => ∃ S1 W0,J pre.length S1 W0∧Fr (fun k => k = n ∨ k = n + 1 ∨ k = n + 2) W0 W∧∀ k,S1 k→k < W0.heap.size) (fun pre W => Jx W) ?_ ?_ w2 hW2 ⟨S,w2,hJ0,⟨rfl,rfl,rfl,Nat.le_refl _,fun _ _ _ => rfl⟩,hS2⟩).mono ?_
  · rintro pre x W s' ⟨S1,W0,hJ,hf,hlt⟩ hc ⟨r,hr⟩
    refine (hR pre.length S1 W0 W S1 #[.string x] [.p (.str x)] hJ hf (fun _ h => h) (fun _ h => .inl h) (fun k hk => Nat.lt_of_lt_of_le (hlt k hk) hf.size) ?_ rfl ?_).mono ?_
    · rw [hr,List.map_append,List.map_cons]; simp
    · intro i v hi
      match i,hi with
      | 0,hi => cases hi; exact .p _ _ (.str _)
      | i + 1,hi => simp at hi
    · rintro e W2 (⟨rfl,h1,h2,h3⟩ | ⟨rfl,h1,h2⟩)
      · refine .inl ⟨rfl,⟨S1,W2,by rw [List.length_append]; exact h1,⟨rfl,rfl,rfl,Nat.le_refl _,fun _ _ _ => rfl⟩,fun k hk => ?_⟩,sqc_keep hc (h3 _ (.inl rfl)) (h3 _ (.inr (.inl rfl))) (h3 _ (.inr (.inr rfl)))⟩
        exact Nat.lt_of_lt_of_le (Nat.lt_of_lt_of_le (hlt k hk) hf.size) h2.size
      · exact .inr ⟨rfl,h1⟩
  · rintro pre W s1 s2 ⟨S1,W0,hJ,hf,hlt⟩ hc
    refine ⟨S1,W0,hJ,⟨hf.os,hf.tape,hf.output,by rw [World.size_setCell]; exact hf.size,fun k hk hn' => ?_⟩,hlt⟩
    refine Eq.trans ?_ (hf.block k hk hn')
    have hkn:n ≠ k := fun e => hn' (.inl e.symm)
    simp [World.setCell,Array.getElem?_modify,hkn]
  · rintro e w' ⟨hv,hr⟩
    refine ⟨hv,?_⟩
    rcases hr with ⟨ys,rfl,S1,W0,hJ,hf,_⟩ | ⟨pre,hJx⟩
    · exact ⟨W0,.inl ⟨S1,by rw [List.length_map]; exact hJ⟩,hf⟩
    · exact ⟨w',.inr hJx,⟨rfl,rfl,rfl,Nat.le_refl _,fun _ _ _ => rfl⟩⟩
end Go.Mx
