/- A function that is handed a pointer to a block of the caller's own. -/
import Derived.Test.YtonjnpefnbnohaaMxP
namespace Go.Mx
open Go.RowKit

def noSite : Nat := 1000000007

def cFnM (P : Program) (f : FuncId) : Option AFn :=
  match P.funcs[f]? with
  | some fn => match fn.body with
    | some c => match cCode P (noSite :: sitesOf c) c, optAll (cRes P) fn.results.toList with
      | some ac, some rs => some ⟨fn.ntmps, (sitesOf c).length, rs, ac⟩
      | _, _ => none
    | none => none
  | none => none

def initStM (F : AFn) (args : List V) (ps : List Pv) : St := ⟨args ++ List.replicate (F.nt - args.length) .und, ⟨0, .live, ps.map .p⟩ :: List.replicate F.ns ⟨0, .dead, []⟩⟩

section
variable {P : Program}

theorem init_simM {w : World} {S : Nat → Prop} {F : AFn} {args : List V} {ps : List Pv} {vals : Array Value} {c sz : Nat} {arr : Array Value} {ty : TypeId} (hc : w.heap[c]? = some (.cells arr ty (0, 0))) (hsz : arr.size = sz) (hle : ps.length ≤ sz)
    (hps : ∀ (i : Nat) (x : Pv), ps[i]? = some x → PRel S w x (arr.getD i undef)) (hSc : ¬ S c) (hn : vals.size = args.length) (hv : ∀ i v, args[i]? = some v → VRel (PlcM c sz) S w v (vals.getD i undef)) (hS : ∀ b, S b → b < w.heap.size) {nt : Nat} (hnt : F.nt = nt) :
    Sim 1 w S (fun b => b = c) [] (PlcM c sz) S (initStM F args ps) { tmps := vals ++ Array.replicate (nt - vals.size) undef, defers := [] } w := by
  subst hnt
  refine ⟨rfl, by simp [initStM, hn], ?_, ?_, ?_, ?_, hS, fun _ e => e, fun _ e => .inl e, Fr.refl _ _, ?_⟩
  · intro t v ht
    simp only [initStM] at ht ⊢
    rw [getD_of_list, Array.toList_append]
    rw [List.getElem?_append] at ht ⊢
    split at ht
    · rename_i hlt
      rw [if_pos (by simpa [hn] using hlt)]
      have := hv t v ht
      rwa [getD_of_list] at this
    · rw [List.getElem?_replicate] at ht
      split at ht
      · simp only [Option.some.injEq] at ht; subst ht; exact .und _
      · cases ht
  · intro t b hb
    simp only [initStM] at hb
    match t with
    | 0 =>
      simp only [List.getElem?_cons_zero, Option.some.injEq] at hb; subst hb
      unfold BRel
      refine .inr ⟨c, sz, arr, ty, by simp [PlcM], hc, hsz, by simpa using hle, ?_, hSc, .inl ⟨by decide, rfl⟩⟩
      intro i x hx
      simp only [List.getElem?_map] at hx
      cases hq : ps[i]? with
      | none => simp [hq] at hx
      | some q =>
        simp only [hq, Option.map_some, Option.some.injEq] at hx; subst hx
        exact .p _ _ (hps i q hq)
    | t + 1 =>
      simp only [List.getElem?_cons_succ, List.getElem?_replicate] at hb
      split at hb
      · simp only [Option.some.injEq] at hb; subst hb; trivial
      · cases hb
  · intro t b ver hb hver
    have hbv : b.ver = 0 := by
      simp only [initStM] at hb
      match t with
      | 0 => simp only [List.getElem?_cons_zero, Option.some.injEq] at hb; subst hb; rfl
      | t + 1 =>
        simp only [List.getElem?_cons_succ, List.getElem?_replicate] at hb
        split at hb
        · simp only [Option.some.injEq] at hb; subst hb; rfl
        · cases hb
    simp only [PlcM]
    rw [if_neg (by omega)]
  · intro t1 t2 b1 b2 c1 s1 c2 s2 g1 g2 _ _ p1 p2 hne
    simp only [PlcM] at p1 p2
    split at p1
    · split at p2
      · omega
      · cases p2
    · cases p1
  · intro t ht
    have : t = 0 := by omega
    subst this
    exact ⟨c, sz, by simp [PlcM], rfl, fun arr' ty' fz e => by rw [hc] at e; injection e with e; injection e with e _ _; subst e; exact hsz⟩

theorem retm_of {f : FuncId} {F : AFn} (hc : cFnM P f = some F) {args : List V} {ps ps' : List Pv} {r : V}
    (h : AWp P 1 F.code (Done fun s => (∃ v, resV s F.res = some v ∧ purR s.hp v = some r ∧ ((slotsR v).all fun t => decide (1 ≤ t)) = true) ∧ s.hp[0]? = some ⟨0, .live, ps'.map .p⟩) (initStM F args ps)) : RetM P f args ps r ps' := by
  intro w S vals c sz arr ty h1 h2 h3 h4 h5 hn hv hS
  unfold cFnM at hc
  split at hc
  · rename_i fn hfn
    split at hc
    · rename_i cd hb
      split at hc
      · rename_i ac rs hac hrs
        simp only [Option.some.injEq] at hc
        subst hc
        refine callsIn_of_wp (fn := fn) (c := cd) hfn hb trivial ?_ rfl
        refine awp_sound (ro := none) (m := 1) (w0 := w) (S0 := S) (Jo := fun b => b = c) (D := []) cd ac _ _ _ _ w hac ⟨_, _, init_simM h1 h2 h3 h4 h5 hn hv hS rfl⟩ h ?_
        intro e s a' w' hq ⟨Φ, S1, hsim⟩
        have fin : ((∃ v, resV s rs = some v ∧ purR s.hp v = some r ∧ ((slotsR v).all fun t => decide (1 ≤ t)) = true) ∧ s.hp[0]? = some ⟨0, .live, ps'.map .p⟩) → a'.defers = [] ∧ ∃ v, (results fn a'.tmps).run P w' = .ok v w' ∧
            (∃ x S', Ending.returned v = .returned x ∧ (∀ b, S b → S' b) ∧ (∀ b, S' b → S b ∨ w.heap.size ≤ b) ∧ (∀ b, S' b → b < w'.heap.size) ∧ VRel Plc0 S' w' r x ∧ Fr (fun b => b = c) w w' ∧
              ¬ S' c ∧ ∃ arr' ty', w'.heap[c]? = some (.cells arr' ty' (0, 0)) ∧ arr'.size = sz ∧ ps'.length ≤ sz ∧ ∀ (i : Nat) (x : Pv), ps'[i]? = some x → PRel S' w' x (arr'.getD i undef)) := by
          rintro ⟨⟨v, k1, k2, k3⟩, k4⟩
          obtain ⟨x, hx, hvx⟩ := results_run hsim hrs k1
          have hm : ∀ t ∈ slotsR v, 1 ≤ t := fun t ht => by
            rw [List.all_eq_true] at k3; simpa using k3 t ht
          obtain ⟨S2, g1, g2, g3⟩ := frzAll_sim (slotsR v) S1 s hsim hm
          have hb0 : (frzAll s.hp (slotsR v))[0]? = some ⟨0, .live, ps'.map .p⟩ := by
            rw [frzAll_other' _ _ _ (fun e => by have := hm 0 e; omega)]; exact k4
          have hB := g3.hp 0 _ hb0
          unfold BRel at hB
          simp only at hB
          obtain ⟨c2, sz2, j0, j1, j2⟩ := g3.io 0 (by decide)
          rcases hB with ⟨hB, hB2⟩ | ⟨c', sz', arr', ty', q1, q2, q3, q4, q5, q6, q7⟩
          · rw [hB] at j0; cases j0
          · rw [q1] at j0; injection j0 with j0; injection j0 with e1 e2
            subst e1 e2
            have j3 := j2 arr ty (0, 0)
            subst j1
            have j4 := j3 h1
            refine ⟨hsim.defers, x, hx, x, S2, rfl, g3.Sold, g3.Snew, g3.Slt, purR_rel hsim g1 hvx k2 g2, g3.frame, q6, arr', ty', q2, by rw [q3, ← j4, h2], by simp at q4; omega, fun i y hy => ?_⟩
            have := q5 i (.p y) (by simp [hy])
            cases this with | p _ _ h => exact h
        cases e with
        | normal => exact fin hq
        | ret => exact fin hq
        | exit id => exact hq.elim
      · cases hc
    · cases hc
  · cases hc
end
end Go.Mx
