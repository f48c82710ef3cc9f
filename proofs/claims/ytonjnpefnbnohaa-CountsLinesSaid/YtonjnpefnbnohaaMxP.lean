/- From the body's walk to the function's contract. -/
import Derived.Test.YtonjnpefnbnohaaMxO
namespace Go.Mx
open Go.RowKit

inductive ARes where
  | tmp (t : Nat)
  | cell1 (t : Nat)
  | celln (t n : Nat)

structure AFn where
  nt : Nat
  ns : Nat
  res : List ARes
  code : ACode

def cRes (P : Program) : ResultVar → Option ARes
  | .tmp t => some (.tmp t)
  | .cell a t => match agg? P t, sz? P t with
    | some true, some n => some (.celln a n)
    | some false, some _ => some (.cell1 a)
    | _, _ => none

def cFn (P : Program) (f : FuncId) : Option AFn :=
  match P.funcs[f]? with
  | some fn => match fn.body with
    | some c => match cCode P (sitesOf c) c, optAll (cRes P) fn.results.toList with
      | some ac, some rs => some ⟨fn.ntmps, (sitesOf c).length, rs, ac⟩
      | _, _ => none
    | none => none
  | none => none

def resV1 (st : St) : ARes → Option V
  | .tmp t => some (st.get (.t t))
  | .cell1 t => match behind st.hp (st.get (.t t)) with
    | some cs => cs[0]?
    | none => none
  | .celln t n => match behind st.hp (st.get (.t t)) with
    | some cs => if n ≤ cs.length then some (.agg (cs.take n)) else none
    | none => none

def resV (st : St) (rs : List ARes) : Option V := match optAll (resV1 st) rs with
  | some [v] => some v
  | some vs => some (.tup vs)
  | none => none

def purR (hp : List Blk) : V → Option V
  | .tup vs => (optAll (pur hp) vs).map .tup
  | v => pur hp v
def slotsR : V → List Nat
  | .tup vs => vs.flatMap slots
  | v => slots v

def resSem (tmps : Array Value) : ResultVar → Sem Value
  | .tmp t => pure (tmps.getD t undef)
  | .cell b t => do loadVar t (← asAddr (tmps.getD b undef))

theorem results_eq (fn : Func) (tmps : Array Value) : results fn tmps = (do let vs ← fn.results.mapM (resSem tmps); pure (if h : vs.size = 1 then vs[0] else .tuple vs)) := by
  unfold results
  congr 1

def initSt (F : AFn) (args : List V) : St := ⟨args ++ List.replicate (F.nt - args.length) .und, List.replicate F.ns ⟨0, .dead, []⟩⟩

def Done (R : St → Prop) : AEx → St → Prop
  | .exit _, _ => False
  | _, s => R s

section
variable {P : Program} {m : Nat} {w0 : World} {S0 Jo : Nat → Prop} {D : List Deferred} {Φ : Plc} {S : Nat → Prop} {st : St} {a : Act} {w : World}

theorem res1_run (h : Sim m w0 S0 Jo D Φ S st a w) {rv : ResultVar} {ar : ARes} (hc : cRes P rv = some ar) {v : V} (hv : resV1 st ar = some v) :
    ∃ x, ((resSem a.tmps) rv).run P w = .ok x w ∧ VRel Φ S w v x := by
  have tmpR : ∀ t, VRel Φ S w (st.get (.t t)) (a.tmps.getD t undef) := fun t => rel_get h (.tmp t)
  cases rv with
  | tmp t =>
    simp only [cRes, Option.some.injEq] at hc; subst hc
    simp only [resV1, Option.some.injEq] at hv; subst hv
    exact ⟨_, rfl, tmpR t⟩
  | cell b t =>
    simp only [cRes] at hc
    split at hc
    · rename_i n ha hn
      simp only [Option.some.injEq] at hc; subst hc
      simp only [resV1] at hv
      split at hv
      · rename_i cs hcs
        split at hv
        · rename_i hle
          simp only [Option.some.injEq] at hv; subst hv
          obtain ⟨x, w', Φ', S', h1, h2, h3⟩ := give_ldn (P := P) h ha hn (tmpR b) hcs hle
          obtain ⟨c, o, f, he, hf⟩ := behind_rel h (tmpR b) hcs
          rw [he] at h1
          have hl := run_loadCells P (c := c) (o := o) f n 0 w #[] (fun j hj => by
            have hlt : j < cs.length := by omega
            have := (hf j cs[j] (List.getElem?_eq_getElem hlt)).1
            simpa using this)
          refine ⟨.agg (#[] ++ ((List.range' 0 n).map f).toArray), ?_, .agg _ _ ?_ ?_⟩
          · simp only [resSem, he, asAddr, loadVar, Sem.run_bind, Sem.run_pure, Result.andThen_ok, agg_run ha, sz_run hn, if_true]
            simp only [loadCells, hl, Result.andThen_ok]
          · simp; omega
          · intro i u hi
            rw [List.getElem?_take] at hi
            split at hi
            · rename_i hlt
              have e : (#[] ++ ((List.range' 0 n).map f).toArray).getD i undef = f i := by
                simp [Array.getD, hlt]
              rw [e]; exact (hf i u hi).2
            · cases hi
        · cases hv
      · cases hv
    · rename_i n ha hn
      simp only [Option.some.injEq] at hc; subst hc
      simp only [resV1] at hv
      split at hv
      · rename_i cs hcs
        obtain ⟨c, o, f, he, hf⟩ := behind_rel h (tmpR b) hcs
        obtain ⟨h1, h2⟩ := hf 0 v hv
        simp only [Nat.add_zero] at h1
        refine ⟨f 0, ?_, h2⟩
        simp [resSem, he, asAddr, loadVar, agg_run ha, h1]
      · cases hv
    · cases hc

theorem resL_run (h : Sim m w0 S0 Jo D Φ S st a w) : ∀ (l : List ResultVar) (rs : List ARes) (vs : List V), optAll (cRes P) l = some rs → optAll (resV1 st) rs = some vs →
    ∃ xs : List Value, (l.mapM (m := Sem) (resSem a.tmps)).run P w = .ok xs w ∧ xs.length = vs.length ∧
      ∀ (i : Nat) (v : V), vs[i]? = some v → VRel Φ S w v ((xs[i]?).getD undef)
  | [], rs, vs, h1, h2 => by
    simp only [optAll, Option.some.injEq] at h1; subst h1
    simp only [optAll, Option.some.injEq] at h2; subst h2
    exact ⟨[], rfl, rfl, by simp⟩
  | r :: l, rs, vs, h1, h2 => by
    simp only [optAll] at h1
    split at h1
    · rename_i ar ars h3 h4
      simp only [Option.some.injEq] at h1; subst h1
      simp only [optAll] at h2
      split at h2
      · rename_i v vs' h5 h6
        simp only [Option.some.injEq] at h2; subst h2
        obtain ⟨x, k1, k2⟩ := res1_run h h3 h5
        obtain ⟨xs, g1, g2, g3⟩ := resL_run h l ars vs' h4 h6
        refine ⟨x :: xs, ?_, by simp [g2], ?_⟩
        · rw [List.mapM_cons, Sem.run_bind, k1, Result.andThen_ok, Sem.run_bind, g1]; rfl
        · intro i u hi
          match i with
          | 0 => simp at hi; subst hi; exact k2
          | i + 1 => simpa using g3 i u (by simpa using hi)
      · cases h2
    · cases h1

theorem results_run (h : Sim m w0 S0 Jo D Φ S st a w) {fn : Func} {rs : List ARes} (hc : optAll (cRes P) fn.results.toList = some rs) {v : V} (hv : resV st rs = some v) : ∃ x, (results fn a.tmps).run P w = .ok x w ∧ VRel Φ S w v x := by
  unfold resV at hv
  cases hvs : optAll (resV1 st) rs with
  | none => simp [hvs] at hv
  | some vs =>
    obtain ⟨xs, h1, h2, h3⟩ := resL_run h _ _ _ hc hvs
    have hm : (fn.results.mapM (m := Sem) (resSem a.tmps)).run P w = .ok xs.toArray w := by
      rw [Array.mapM_eq_mapM_toList, Sem.run_map, h1]; rfl
    have hr : (results fn a.tmps).run P w = .ok (if h : xs.toArray.size = 1 then xs.toArray[0] else .tuple xs.toArray) w := by
      rw [results_eq, Sem.run_bind, hm]; rfl
    refine ⟨_, hr, ?_⟩
    rw [hvs] at hv
    match vs, xs, h2, h3, hv with
    | [u], [x], _, h3, hv =>
      simp only [Option.some.injEq] at hv; subst hv
      simpa using h3 0 u rfl
    | [], [], _, _, hv =>
      simp only [Option.some.injEq] at hv; subst hv
      simpa using VRel.tup [] #[] rfl (by simp)
    | u1 :: u2 :: us, x1 :: x2 :: xs, h2, h3, hv =>
      simp only [Option.some.injEq] at hv; subst hv
      rw [dif_neg (by simp)]
      refine .tup _ _ (by simpa using h2) fun i c hi => ?_
      rw [getD_of_list]; exact h3 i c hi

theorem purR_rel (h : Sim m w0 S0 Jo D Φ S st a w) {S' : Nat → Prop} (hS : ∀ b, S b → S' b) {v v' : V} {x : Value} (hv : VRel Φ S w v x) (hp : purR st.hp v = some v')
    (hf : ∀ t ∈ slotsR v, ∀ b c sz, st.hp[t]? = some b → b.st.ok = true → Φ t b.ver = some (.blk c sz) → S' c) : VRel Plc0 S' w v' x := by
  cases v with
  | tup vs =>
    simp only [purR, Option.map_eq_some_iff] at hp
    obtain ⟨l, hl, rfl⟩ := hp
    obtain ⟨arr, rfl, hn, hc⟩ := inv_tup hv
    obtain ⟨h1, h2⟩ := optAll_get vs l hl
    refine .tup _ _ (by rw [h1, hn]) fun i c hi => ?_
    obtain ⟨u, hu, hpu⟩ := h2 i c hi
    exact pur_rel h hS (hc i u hu) hpu (fun t ht => hf t (by simp only [slotsR, List.mem_flatMap]; exact ⟨u, List.mem_of_getElem? hu, ht⟩))
  | _ => exact pur_rel h hS hv hp hf

theorem init_sim {F : AFn} {args : List V} {vals : Array Value} (hn : vals.size = args.length) (hv : ∀ i v, args[i]? = some v → VRel Plc0 S w v (vals.getD i undef)) (hS : ∀ b, S b → b < w.heap.size) {nt : Nat} (hnt : F.nt = nt) :
    Sim 0 w S (fun _ => False) [] Plc0 S (initSt F args) { tmps := vals ++ Array.replicate (nt - vals.size) undef, defers := [] } w := by
  subst hnt
  refine ⟨rfl, by simp [initSt, hn], ?_, ?_, fun _ _ _ _ _ => rfl, ?_, hS, fun _ e => e, fun _ e => .inl e, Fr.refl _ _, fun t ht => absurd ht (Nat.not_lt_zero _)⟩
  · intro t v ht
    simp only [initSt] at ht ⊢
    rw [getD_of_list, Array.toList_append]
    rw [List.getElem?_append] at ht ⊢
    split at ht
    · rename_i hlt
      rw [if_pos (by simpa [hn] using hlt)]
      have := hv t v ht
      rwa [getD_of_list] at this
    · rw [List.getElem?_replicate] at ht
      split at ht
      · simp only [Option.some.injEq] at ht; subst ht; exact .und _
      · cases ht
  · intro t b hb
    simp only [initSt, List.getElem?_replicate] at hb
    split at hb
    · simp only [Option.some.injEq] at hb; subst hb; trivial
    · cases hb
  · intro t1 t2 b1 b2 c1 s1 c2 s2 _ _ _ _ p1
    cases p1

theorem ret_of {f : FuncId} {F : AFn} (hc : cFn P f = some F) {args : List V} {r : V} (h : AWp P 0 F.code (Done fun s => ∃ v, resV s F.res = some v ∧ purR s.hp v = some r) (initSt F args)) : Ret P f args r := by
  intro w S vals hn hv hS
  unfold cFn at hc
  split at hc
  · rename_i fn hfn
    split at hc
    · rename_i c hb
      split at hc
      · rename_i ac rs hac hrs
        simp only [Option.some.injEq] at hc
        subst hc
        refine callsIn_of_wp (fn := fn) (c := c) hfn hb trivial ?_ rfl
        refine awp_sound (ro := none) (m := 0) (w0 := w) (S0 := S) (Jo := fun _ => False) (D := []) c ac _ _ _ _ w hac ⟨_, _, init_sim hn hv hS rfl⟩ h ?_
        intro e s a' w' hq ⟨Φ, S1, hsim⟩
        have fin : (∃ v, resV s rs = some v ∧ purR s.hp v = some r) → a'.defers = [] ∧ ∃ v, (results fn a'.tmps).run P w' = .ok v w' ∧
            (∃ x S', Ending.returned v = .returned x ∧ (∀ b, S b → S' b) ∧ (∀ b, S' b → S b ∨ w.heap.size ≤ b) ∧ (∀ b, S' b → b < w'.heap.size) ∧ VRel Plc0 S' w' r x ∧ Fr (fun _ => False) w w') := by
          rintro ⟨v, h1, h2⟩
          obtain ⟨x, hx, hvx⟩ := results_run hsim hrs h1
          obtain ⟨S2, g1, g2, g3⟩ := frzAll_sim (slotsR v) S1 s hsim (fun _ _ => Nat.zero_le _)
          exact ⟨hsim.defers, x, hx, x, S2, rfl, g3.Sold, g3.Snew, g3.Slt, purR_rel hsim g1 hvx h2 g2, g3.frame⟩
        cases e with
        | normal => exact fin hq
        | ret => exact fin hq
        | exit id => exact hq.elim
      · cases hc
    · cases hc
  · cases hc
end
end Go.Mx
