import Derived.Test.YtehblgccaiiikaaMxBk
import Derived.Test.YtehblgccaiiikaaFnGroundSeenA
import Derived.KernelRfl
namespace Go.Proofs.Ytehblgccaiiikaa
open Go Go.Mx
set_option maxRecDepth 100000
def itB:EIter := fun f cap => match decide (f = 144) || decide (f = 152),cap with
  | true,[[.sl c es full]] => if c = 2∧(es.all fun e => e.length == 2) = true∧es.length≤1000 then some (v_back es) else none
  | _,_ => none
theorem itB_ok:IterOk Try.prog itB := by
  intro f cap vs h
  unfold itB at h
  split at h
  · rename_i c es full hf
    split at h
    · rename_i hc
      obtain ⟨rfl,hc,hl⟩ := hc
      simp only [sJ] at h; subst h
      have hall:∀ e∈es,e.length = 2 := by simpa using hc
      rcases Bool.or_eq_true _ _ |>.mp hf with hf | hf
      · obtain rfl := of_decide_eq_true hf
        exact it_back (c := 2) e_Z1n es full hall (by omega)
      · obtain rfl := of_decide_eq_true hf
        exact it_back (c := 2) e_Z2j es full hall (by omega)
    · cases h
  · cases h
def tab:Tab := [(69,0,F_Z1t.erase),(74,0,F_Z8.erase),(73,0,F_Zi.erase),(95,0,F_Zb.erase),(75,0,F_Z1a.erase),(76,0,F_Z1b.erase),(14,0,F_Z6.erase),(77,0,F_Z1c.erase),(78,0,F_Z1d.erase),(125,0,F_Z1e.erase),(145,0,F_Zm.erase),(126,0,F_Zs.erase),(79,0,F_Zf.erase),(80,0,F_Z1x.erase),(16,0,F_Z1o.erase),(70,0,F_Z1u.erase),(71,0,F_Z1v.erase),(91,0,F_Z1y.erase),(92,0,F_Z1z.erase),(28,0,F_Z1p.erase),(93,0,F_Z20.erase),(110,0,F_Z2a.erase),(52,0,F_Z1s.erase),(101,0,F_Z24.erase),(107,0,F_Z28.erase),(94,0,F_Z21.erase),(133,0,F_Z2c.erase),(132,1,F_Z2d.erase),(96,0,F_Z22.erase),(102,0,F_Z25.erase),(103,0,F_Z26.erase),(137,0,F_Z2h.erase),(136,0,F_Z2g.erase),(154,0,F_Z2f.erase),(135,0,F_Z2e.erase),(106,0,F_Z27.erase),(108,0,F_Z29.erase),(48,0,F_Z1r.erase),(124,0,F_Z2b.erase),(72,0,F_Z1w.erase),(98,0,F_Z23.erase),(32,0,F_Z1q.erase),(58,0,F_Zh.erase),(12,0,F_Z1m.erase)]
theorem tab_ok:Tab.ok Try.prog tab :=
  Tab.ok_cons (b := 0) (show cFn Try.prog 69 = some (F_Z1t.erase) from e_Z1t) <|
  Tab.ok_cons (b := 0) (show cFn Try.prog 74 = some (F_Z8.erase) from e_Z8) <|
  Tab.ok_cons (b := 0) (show cFn Try.prog 73 = some (F_Zi.erase) from e_Zi) <|
  Tab.ok_cons (b := 0) (show cFn Try.prog 95 = some (F_Zb.erase) from e_Zb) <|
  Tab.ok_cons (b := 0) (show cFn Try.prog 75 = some (F_Z1a.erase) from e_Z1a) <|
  Tab.ok_cons (b := 0) (show cFn Try.prog 76 = some (F_Z1b.erase) from e_Z1b) <|
  Tab.ok_cons (b := 0) (show cFn Try.prog 14 = some (F_Z6.erase) from e_Z6) <|
  Tab.ok_cons (b := 0) (show cFn Try.prog 77 = some (F_Z1c.erase) from e_Z1c) <|
  Tab.ok_cons (b := 0) (show cFn Try.prog 78 = some (F_Z1d.erase) from e_Z1d) <|
  Tab.ok_cons (b := 0) (show cFn Try.prog 125 = some (F_Z1e.erase) from e_Z1e) <|
  Tab.ok_cons (b := 0) (show cFn Try.prog 145 = some (F_Zm.erase) from e_Zm) <|
  Tab.ok_cons (b := 0) (show cFn Try.prog 126 = some (F_Zs.erase) from e_Zs) <|
  Tab.ok_cons (b := 0) (show cFn Try.prog 79 = some (F_Zf.erase) from e_Zf) <|
  Tab.ok_cons (b := 0) (show cFn Try.prog 80 = some (F_Z1x.erase) from e_Z1x) <|
  Tab.ok_cons (b := 0) (show cFn Try.prog 16 = some (F_Z1o.erase) from e_Z1o) <|
  Tab.ok_cons (b := 0) (show cFn Try.prog 70 = some (F_Z1u.erase) from e_Z1u) <|
  Tab.ok_cons (b := 0) (show cFn Try.prog 71 = some (F_Z1v.erase) from e_Z1v) <|
  Tab.ok_cons (b := 0) (show cFn Try.prog 91 = some (F_Z1y.erase) from e_Z1y) <|
  Tab.ok_cons (b := 0) (show cFn Try.prog 92 = some (F_Z1z.erase) from e_Z1z) <|
  Tab.ok_cons (b := 0) (show cFn Try.prog 28 = some (F_Z1p.erase) from e_Z1p) <|
  Tab.ok_cons (b := 0) (show cFn Try.prog 93 = some (F_Z20.erase) from e_Z20) <|
  Tab.ok_cons (b := 0) (show cFn Try.prog 110 = some (F_Z2a.erase) from e_Z2a) <|
  Tab.ok_cons (b := 0) (show cFn Try.prog 52 = some (F_Z1s.erase) from e_Z1s) <|
  Tab.ok_cons (b := 0) (show cFn Try.prog 101 = some (F_Z24.erase) from e_Z24) <|
  Tab.ok_cons (b := 0) (show cFn Try.prog 107 = some (F_Z28.erase) from e_Z28) <|
  Tab.ok_cons (b := 0) (show cFn Try.prog 94 = some (F_Z21.erase) from e_Z21) <|
  Tab.ok_cons (b := 0) (show cFn Try.prog 133 = some (F_Z2c.erase) from e_Z2c) <|
  Tab.ok_cons (b := 1) (show cFnM Try.prog 132 = some (F_Z2d.erase) from e_Z2d) <|
  Tab.ok_cons (b := 0) (show cFn Try.prog 96 = some (F_Z22.erase) from e_Z22) <|
  Tab.ok_cons (b := 0) (show cFn Try.prog 102 = some (F_Z25.erase) from e_Z25) <|
  Tab.ok_cons (b := 0) (show cFn Try.prog 103 = some (F_Z26.erase) from e_Z26) <|
  Tab.ok_cons (b := 0) (show cFn Try.prog 137 = some (F_Z2h.erase) from e_Z2h) <|
  Tab.ok_cons (b := 0) (show cFn Try.prog 136 = some (F_Z2g.erase) from e_Z2g) <|
  Tab.ok_cons (b := 0) (show cFn Try.prog 154 = some (F_Z2f.erase) from e_Z2f) <|
  Tab.ok_cons (b := 0) (show cFn Try.prog 135 = some (F_Z2e.erase) from e_Z2e) <|
  Tab.ok_cons (b := 0) (show cFn Try.prog 106 = some (F_Z27.erase) from e_Z27) <|
  Tab.ok_cons (b := 0) (show cFn Try.prog 108 = some (F_Z29.erase) from e_Z29) <|
  Tab.ok_cons (b := 0) (show cFn Try.prog 48 = some (F_Z1r.erase) from e_Z1r) <|
  Tab.ok_cons (b := 0) (show cFn Try.prog 124 = some (F_Z2b.erase) from e_Z2b) <|
  Tab.ok_cons (b := 0) (show cFn Try.prog 72 = some (F_Z1w.erase) from e_Z1w) <|
  Tab.ok_cons (b := 0) (show cFn Try.prog 98 = some (F_Z23.erase) from e_Z23) <|
  Tab.ok_cons (b := 0) (show cFn Try.prog 32 = some (F_Z1q.erase) from e_Z1q) <|
  Tab.ok_cons (b := 0) (show cFn Try.prog 58 = some (F_Zh.erase) from e_Zh) <|
  Tab.ok_cons (b := 0) (show cFn Try.prog 12 = some (F_Z1m.erase) from e_Z1m) <|
  Tab.ok_nil
def agP:V→Bool
  | .agg cs => (allP cs).isSome
  | _ => false
theorem agP_pur {v:V} (h:agP v = true) (hp:List Blk):pur hp v = some v := by
  cases v with
  | agg cs =>
    simp only [agP,Option.isSome_iff_exists] at h
    obtain ⟨ps,h⟩ := h
    have e := allP_map h
    subst e
    simp only [pur,purC_map]; rfl
  | _ => simp [agP] at h
def upTo (g:Nat→Option V):Nat→Option (List V)
  | 0 => some []
  | n + 1 => match upTo g n,g n with
    | some l,some v => if agP v = true then some (l ++ [v]) else none
    | _,_ => none
theorem upTo_is {g:Nat→Option V}:∀ {n:Nat} {l:List V},upTo g n = some l→l.length = n∧∀ k,k < n→g k = some (l.getD k .und)∧agP (l.getD k .und) = true
  | 0,l,h => by simp only [upTo,sJ] at h; subst h; exact ⟨rfl,fun k hk => absurd hk (Nat.not_lt_zero _)⟩
  | n + 1,l,h => by
    simp only [upTo] at h
    split at h
    · rename_i l0 v hl hv
      split at h
      · rename_i ha
        simp only [sJ] at h; subst h
        obtain ⟨h1,h2⟩ := upTo_is hl
        refine ⟨by simp [h1],fun k hk => ?_⟩
        by_cases e:k = n
        · subst e
          have:(l0 ++ [v]).getD k .und = v := by simp [List.getD,← h1]
          rw [this]; exact ⟨hv,ha⟩
        · have:(l0 ++ [v]).getD k .und = l0.getD k .und := by simp only [List.getD]; rw [List.getElem?_append_left (by omega)]
          rw [this]; exact h2 k (by omega)
      · cases h
    · cases h
def evM (P:Program) (t:Tab) (u:Nat):EFun := evAll P t itB EFun.none 100 u
theorem evM_ok:(evM Try.prog tab 20).Ok Try.prog := evAll_ok tab_ok itB_ok EFun.none_ok 20
def itG (P:Program) (t:Tab):EIter := fun f cap => match decide (f = 1000000097),cap with
  | true,[[q]] => match (evM P t 20).F 94 [.agg [.p q]] with
    | some (.p (.int .i64 (.ofNat n))) => if n≤1000 then (upTo (fun k => (evM P t 20).F 96 [.agg [.p q],.p (.int .i64 (k:Int))]) n).map fun l => v_ups n fun k => l.getD k .und else none
    | _ => none
  | _,_ => itB f cap
theorem itG_ok:IterOk Try.prog (itG Try.prog tab) := by
  intro f cap vs h
  unfold itG at h
  split at h
  · rename_i q hf
    obtain rfl := of_decide_eq_true hf
    split at h
    · rename_i n hn
      split at h
      · rename_i hle
        cases hl:upTo (fun k => (evM Try.prog tab 20).F 96 [.agg [.p q],.p (.int .i64 (k:Int))]) n with
        | none => simp [hl] at h
        | some l =>
          simp only [hl,Option.map_some,sJ] at h
          subst h
          obtain ⟨h1,h2⟩ := upTo_is hl
          exact it_ups (cF := 94) (mF := 96) e_Z2i rfl q n (by omega) _ _ (evM_ok.F _ _ _ hn) (fun k hk => evM_ok.F _ _ _ (h2 k hk).1) (fun k hp hk => agP_pur (h2 k hk).2 hp)
      · cases h
    · cases h
  · exact itB_ok _ _ _ h
/-- The examples of the document. -/
def s_Z1m:Bool := true
abbrev con_Z1m:Con := ⟨P_Z1m,R_Z1m,fun _ => [],fun _ => s_Z1m⟩
theorem ok_Z1m:ConOk Try.prog 12 con_Z1m := ⟨k_Z1m,fun _ _ => ret_ev tab_ok (it := (itG Try.prog tab)) itG_ok EFun.none_ok (n := 100) (d := 20) (by kernel_rfl)⟩
end Go.Proofs.Ytehblgccaiiikaa
