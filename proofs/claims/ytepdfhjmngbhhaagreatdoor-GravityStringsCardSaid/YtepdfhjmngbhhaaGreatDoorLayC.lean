/- Layers of the walk: abstract values, operations, calls, loops, and what they do. No condition. -/
import Derived.Test.YtepdfhjmngbhhaaGreatDoorLayB
import Derived.Lib.ItoaNum
import Derived.Lib.AtoiAll
import Derived.Lib.AtoiTie
import Derived.Shelf.Strconv.Itoa3
import Derived.Shelf.Strings.Cut
import Derived.Shelf.Strings.OnBuilder
import Derived.Shelf.Strings.Split
import Derived.Shelf.Strings.Prefix
import Derived.Shelf.Strconv.ErrVarAll
import Derived.Lib.AtoiErrMem
import Derived.Lib.Split
import Derived.Lib.SplitLaws
namespace Go.Mx
open Go
def v_dgt (b:UInt8):Bool := decide (48≤b.toNat∧b.toNat≤57)
def v_dval:List UInt8→Nat→Nat
 | [],a => a
 | b :: r,a => v_dval r (a * 10 + (b.toNat - 48))
def v_nml (l:List UInt8):Bool := !l.isEmpty && l.all v_dgt && (l.head? != some 48 || l.length == 1)
theorem v_dval_app:∀ (l r:List UInt8) (a:Nat),v_dval (l ++ r) a = v_dval r (v_dval l a)
 | [],_,_ => rfl
 | b :: l,r,a => v_dval_app l r _
theorem v_dval_ge:∀ (l:List UInt8) (a:Nat),a≤v_dval l a
 | [],a => Nat.le_refl a
 | b :: l,a => Nat.le_trans (by omega) (v_dval_ge l (a * 10 + (b.toNat - 48)))
theorem v_dgt_of {d:Nat} (h:d < 10):v_dgt (UInt8.ofNat (48 + d)) = true∧(UInt8.ofNat (48 + d)).toNat = 48 + d := by
 have e:(UInt8.ofNat (48 + d)).toNat = 48 + d := by rw [UInt8.toNat_ofNat']; omega
 exact ⟨decide_eq_true (by rw [e]; omega),e⟩
theorem v_dig_ne (u:Nat):Lib.decDigits u ≠ [] := by
 rw [Lib.decDigits]
 split
 ·simp
 ·simp
theorem v_dig_all (u:Nat):(Lib.decDigits u).all v_dgt = true := by
 induction u using Nat.strongRecOn with
 | _ u ih =>
  rw [Lib.decDigits]
  split
  ·rename_i h
   rw [List.all_cons,(v_dgt_of h).1]; rfl
  ·rw [List.all_append,ih (u / 10) (by omega)]
   rw [List.all_cons,(v_dgt_of (show u % 10 < 10 by omega)).1]; rfl
theorem v_dig_val (u:Nat):v_dval (Lib.decDigits u) 0 = u := by
 induction u using Nat.strongRecOn with
 | _ u ih =>
  rw [Lib.decDigits]
  split
  ·rename_i h
   simp only [v_dval,(v_dgt_of h).2]; omega
  ·rw [v_dval_app,ih (u / 10) (by omega)]
   simp only [v_dval,(v_dgt_of (show u % 10 < 10 by omega)).2]; omega
theorem v_dig_head (u:Nat) (h:(Lib.decDigits u).head? = some 48):u = 0 := by
 induction u using Nat.strongRecOn with
 | _ u ih =>
  rw [Lib.decDigits] at h
  split at h
  ·rename_i hu
   simp only [List.head?_cons,sJ] at h
   have := congrArg UInt8.toNat h
   rw [(v_dgt_of hu).2] at this
   have e:(48:UInt8).toNat = 48 := rfl
   omega
  ·rename_i hu
   obtain ⟨a,r,e⟩ := List.exists_cons_of_ne_nil (v_dig_ne (u / 10))
   rw [e] at h
   have:u / 10 = 0 := ih (u / 10) (by omega) (by rw [e]; exact h)
   omega
theorem v_dig_0:Lib.decDigits 0 = [48] := by rw [Lib.decDigits]; rfl
theorem v_dig_nml (u:Nat):v_nml (Lib.decDigits u) = true := by
 unfold v_nml
 rw [v_dig_all]
 have h1:(Lib.decDigits u).isEmpty = false := by
  cases h:Lib.decDigits u with
  | nil => exact absurd h (v_dig_ne u)
  | cons a r => rfl
 rw [h1]
 by_cases h:(Lib.decDigits u).head? = some 48
 ·have := v_dig_head u h
  subst this
  rw [v_dig_0]; rfl
 ·have:((Lib.decDigits u).head? != some 48) = true := by simpa using h
  rw [this]; rfl
theorem v_nml_iff {l:List UInt8}:v_nml l = true ↔ l ≠ []∧l.all v_dgt = true∧(l.head? = some 48→l.length = 1) := by
 unfold v_nml
 cases l with
 | nil => simp
 | cons a r =>
  simp
  intro _ _
  constructor
  ·rintro (h | h) g
   ·exact absurd g h
   ·exact h
  ·intro h
   by_cases g:a = 48
   ·exact .inr (h g)
   ·exact .inl g
theorem v_dig_of:∀ (n:Nat) (l:List UInt8),l.length = n→v_nml l = true→Lib.decDigits (v_dval l 0) = l := by
 intro n
 induction n with
 | zero =>
  intro l hl h
  exact absurd (List.length_eq_zero_iff.1 hl) (v_nml_iff.1 h).1
 | succ n ih =>
  intro l hl h
  obtain ⟨h1,h2,h3⟩ := v_nml_iff.1 h
  obtain ⟨r,b,rfl⟩ : ∃ r b,l = r ++ [b] := ⟨l.dropLast,l.getLast h1,(List.dropLast_concat_getLast h1).symm⟩
  rw [List.all_append,Bool.and_eq_true] at h2
  have hb:48≤b.toNat∧b.toNat≤57 := by
   have := h2.2
   simp [v_dgt] at this
   exact this
  have eb:UInt8.ofNat (48 + (b.toNat - 48)) = b := by
   rw [show 48 + (b.toNat - 48) = b.toNat by omega]; exact UInt8.ofNat_toNat
  rw [v_dval_app]
  simp only [v_dval]
  cases r with
  | nil =>
   simp only [v_dval]
   rw [Lib.decDigits,dif_pos (by omega),show 0 * 10 + (b.toNat - 48) = b.toNat - 48 by omega,eb]; rfl
  | cons a r =>
   have hn:v_nml (a :: r) = true := v_nml_iff.2 ⟨by simp,h2.1,fun q => by
    have := h3 q
    simp at this⟩
   have ha:a ≠ 48 := by
    rintro rfl
    have := h3 rfl
    simp at this
   have hda:v_dgt a = true := by have := h2.1; simp at this; exact this.1
   have hpos:1≤v_dval (a :: r) 0 := by
    show 1≤v_dval r (0 * 10 + (a.toNat - 48))
    refine Nat.le_trans ?_ (v_dval_ge r _)
    have h48:48≤a.toNat := by simp [v_dgt] at hda; exact hda.1
    have:a.toNat ≠ 48 := fun e => ha (UInt8.toNat_inj.1 e)
    omega
   rw [Lib.decDigits,dif_neg (by omega),show (v_dval (a :: r) 0 * 10 + (b.toNat - 48)) / 10 = v_dval (a :: r) 0 by omega,show (v_dval (a :: r) 0 * 10 + (b.toNat - 48)) % 10 = b.toNat - 48 by omega,eb,ih (a :: r) (by simp at hl ⊢; omega) hn]
def v_canon (l:List UInt8):Option Int := match l with
 | [] => none
 | b :: r => match b == 45 with
  | true => if v_nml r = true∧r ≠ [48] then some (-(v_dval r 0:Int)) else none
  | false => if v_nml (b :: r) = true then some (v_dval (b :: r) 0:Int) else none
theorem v_canon_itoa (n:Int):v_canon (Lib.itoa n) = some n := by
 unfold Lib.itoa
 split
 ·rename_i h
  have h1 := v_dig_nml n.natAbs
  have h2:Lib.decDigits n.natAbs ≠ [48] := fun e => by
   have := v_dig_head n.natAbs (by rw [e]; rfl)
   omega
  unfold v_canon
  simp only [show ((45:UInt8) == 45) = true from rfl]
  rw [if_pos ⟨h1,h2⟩,v_dig_val]
  congr 1; omega
 ·rename_i h
  have h1 := v_dig_nml n.toNat
  have hv := v_dig_val n.toNat
  cases e:Lib.decDigits n.toNat with
  | nil => exact absurd e (v_dig_ne _)
  | cons b r =>
   rw [e] at h1 hv
   have hb:(b == 45) = false := by
    have := (v_nml_iff.1 h1).2.1
    simp [v_dgt] at this
    have h48 := this.1.1
    cases q:b == 45
    ·rfl
    ·have:b = 45 := by simpa using q
     subst this
     exact absurd h48 (by decide)
   unfold v_canon
   simp only [hb]
   rw [if_pos h1,hv]
   congr 1; omega
theorem v_canon_of {l:List UInt8} {n:Int} (h:v_canon l = some n):l = Lib.itoa n := by
 unfold v_canon at h
 cases l with
 | nil => cases h
 | cons b r =>
  simp only at h
  cases q:b == 45
  ·simp only [q] at h
   split at h
   ·rename_i hn
    simp only [sJ] at h
    subst h
    have := v_dig_of _ (b :: r) rfl hn
    unfold Lib.itoa
    rw [if_neg (by omega),Int.toNat_natCast,this]
   ·cases h
  ·simp only [q] at h
   have hb:b = 45 := by simpa using q
   subst hb
   split at h
   ·rename_i hn
    simp only [sJ] at h
    subst h
    have := v_dig_of _ r rfl hn.1
    have h1:v_dval r 0 ≠ 0 := fun e => by
     rw [e,v_dig_0] at this
     exact hn.2 this.symm
    unfold Lib.itoa
    rw [if_pos (by omega),show (-(v_dval r 0:Int)).natAbs = v_dval r 0 by omega,this]
   ·cases h
theorem v_canon_iff {l:List UInt8} {n:Int}:v_canon l = some n ↔ l = Lib.itoa n := ⟨v_canon_of,fun h => by rw [h]; exact v_canon_itoa n⟩
theorem v_decFrom:∀ (l:List UInt8) (a:Nat),l.all v_dgt = true→Lib.decFrom a l = some (v_dval l a)
 | [],_,_ => rfl
 | b :: r,a,h => by
  rw [List.all_cons,Bool.and_eq_true] at h
  have hb:48≤b.toNat∧b.toNat≤57 := of_decide_eq_true h.1
  unfold Lib.decFrom Lib.digitVal
  rw [if_pos hb]
  exact v_decFrom r _ h.2
theorem v_decNat {l:List UInt8} (h:v_nml l = true):Lib.decNat l = some (v_dval l 0) := by
 obtain ⟨h1,h2,_⟩ := v_nml_iff.1 h
 unfold Lib.decNat
 cases l with
 | nil => exact absurd rfl h1
 | cons a r =>
  rw [if_neg (by simp)]
  exact v_decFrom _ 0 h2
theorem v_atoi_canon {l:List UInt8} {n:Int} (h:v_canon l = some n):Lib.atoi l = some n := by
 unfold v_canon at h
 cases l with
 | nil => cases h
 | cons b r =>
  simp only at h
  cases q:b == 45
  ·simp only [q] at h
   split at h
   ·rename_i hn
    have h43:(b == 43) = false := by
     have := (v_nml_iff.1 hn).2.1
     rw [List.all_cons,Bool.and_eq_true] at this
     have hb:48≤b.toNat∧b.toNat≤57 := of_decide_eq_true this.1
     cases q2:b == 43
     ·rfl
     ·have:b = 43 := by simpa using q2
      subst this
      exact absurd hb.1 (by decide)
    unfold Lib.atoi
    simp only [q,h43,v_decNat hn]
    exact h
   ·cases h
  ·simp only [q] at h
   split at h
   ·rename_i hn
    unfold Lib.atoi
    simp only [q,v_decNat hn.1]
    exact h
   ·cases h
def v_atn (l:List UInt8):Int := match Lib.atoiAll l with
 | .ok v => v
 | .range => Lib.atoiSat l
 | _ => 0
def v_ate (l:List UInt8):Bool := match Lib.atoiAll l with
 | .ok _ => true
 | _ => false
theorem v_at_canon {l:List UInt8} {n:Int} (hl:l.length≤18) (h:v_canon l = some n):v_ate l = true∧v_atn l = n := by
 have e:Lib.atoiAll l = .ok n := by rw [Lib.atoiAll_short l hl,v_atoi_canon h]; rfl
 unfold v_ate v_atn
 rw [e]
 exact ⟨rfl,rfl⟩
theorem v_at_iff {l:List UInt8} (hl:l.length≤18) {n:Int}:(v_ate l = true∧Lib.itoa (v_atn l) = l∧v_atn l = n) ↔ v_canon l = some n := by
 constructor
 ·rintro ⟨_,h2,rfl⟩
  exact v_canon_iff.2 h2.symm
 ·intro h
  obtain ⟨a,b⟩ := v_at_canon hl h
  exact ⟨a,by rw [b]; exact (v_canon_of h).symm,b⟩
end Go.Mx
namespace Go.Mx
open Go Go.Shelf Go.RowKit Go.Sort
variable [Laid]
variable {P:Program} {ρ:Ren}

def tabQ (k:IntKind) (zs:List Int):Array Value→Prop := fun cs => cs = (zs.map fun z => Value.int k z).toArray
def intQ:Array Value→Prop := fun cs => ∃ m,cs[0]? = some (Value.int .i64 m)
def ifcQ:Array Value→Prop := fun cs => ∃ t p,cs = #[.iface t p]

theorem Glob.var {S:Nat→Prop} {w:World} (h:Glob S w) {n:String} {g:Nat} (hg:P.globalNamed n = some g) {q:Array Value→Prop} (hq:Laid.Q g = some q):∃ cs,w.var? P n = some cs∧q cs := by
 obtain ⟨_,cs,ty,fz,h1,h2⟩ := h.q g q hq
 exact ⟨cs,by simp only [World.var?,hg,Option.bind_some,h1],h2⟩
theorem Glob.int {S:Nat→Prop} {w:World} (h:Glob S w) {g:Nat} (hq:Laid.Q g = some intQ):∃ m,w.cell? ⟨g,0,none⟩ = some (.int .i64 m) := by
 obtain ⟨_,cs,ty,fz,h1,m,h2⟩ := h.q g _ hq
 exact ⟨m,by simp only [World.cell?,h1]; simpa using h2⟩

omit [Laid] in
theorem fr_of_below {w w' : World} (h:Below w.heap.size w w'):Fr (fun _ => False) w w' := ⟨h.os,h.tape,h.output,h.size,fun b hb _ => h.block b hb⟩
omit [Laid] in
theorem vals1 {S:Nat→Prop} {w:World} {vals:Array Value} {a:V} {x:Value} (hs:vals.size = [a].length) (h:∀ i v,[a][i]? = some v→VRel Plc0 S w v (vals.getD i undef)) (hx:∀ v,VRel Plc0 S w a v→v = x):vals = #[x] := by
 refine Array.ext (by simpa using hs) fun i h1 h2 => ?_
 obtain rfl:i = 0 := by simp at h2; omega
 have := hx _ (h 0 a rfl)
 simpa [Array.getD,show 0 < vals.size by omega] using this
omit [Laid] in
theorem vals2 {S:Nat→Prop} {w:World} {vals:Array Value} {a b:V} {x y:Value} (hs:vals.size = [a,b].length) (h:∀ i v,[a,b][i]? = some v→VRel Plc0 S w v (vals.getD i undef)) (hx:∀ v,VRel Plc0 S w a v→v = x) (hy:∀ v,VRel Plc0 S w b v→v = y):vals = #[x,y] := by
 have hs' : vals.size = 2 := by simpa using hs
 have h0 := hx _ (h 0 a rfl)
 have h1 := hy _ (h 1 b rfl)
 simp only [Array.getD,hs'] at h0 h1
 refine Array.ext (by simpa using hs) fun i k1 k2 => ?_
 have:i = 0 ∨ i = 1 := by simp at k2; omega
 rcases this with rfl | rfl
 ·simpa using h0
 ·simpa using h1
omit [Laid] in
theorem rel_str {Φ:Plc} {S:Nat→Prop} {w:World} {s:ByteArray} {v:Value} (h:VRel Φ S w (.p (.str s)) v):v = .string s := by
 cases h with | p _ _ h => cases h; rfl
omit [Laid] in
theorem rel_int {Φ:Plc} {S:Nat→Prop} {w:World} {k:IntKind} {n:Int} {v:Value} (h:VRel Φ S w (.p (.int k n)) v):v = .int k n := by
 cases h with | p _ _ h => cases h; rfl

def v_itoa (n:Int):ByteArray := ⟨(Lib.itoa n).toArray⟩
theorem ret_itoa (L:Proofs.LaysM.n171 P ρ) {g:Nat} (hg:P.globalNamed "internal/strconv.uint64pow10" = some g) (hQ:Laid.Q g = some (tabQ .u64 Lib.pow10Tab)) (n:Int) (h0 : -9223372036854775808≤n) (h1:n≤9223372036854775807) :
  Ret P (ρ.f 171) [.p (.int .i64 n)] (.p (.str (v_itoa n))) := by
 intro w S vals hs hv hS hG
 obtain rfl := vals1 hs hv fun _ h => rel_int h
 obtain ⟨cs,c1,rfl⟩ := hG.var hg hQ
 refine callsIn_wide.2 ((Proofs.Any.strconv_Itoa L n h0 h1 w c1).mono ?_)
 rintro e w' ⟨rfl,k,os,rfl⟩
 refine ⟨_,S,rfl,fun _ h => h,fun _ h => .inl h,fun b hb => ?_,.p _ _ (.str _),⟨rfl,rfl,rfl,?_,fun b hb _ => ?_⟩⟩
 ·have := hS b hb; simp only [grow,Array.size_append,World.heap_drewN]; omega
 ·simp only [grow,Array.size_append,World.heap_drewN]; omega
 ·simp only [grow,World.heap_drewN]; exact Array.getElem?_append_left hb

def v_trimp (s p:ByteArray):ByteArray := ⟨(Lib.trimPrefix s.data.toList p.data.toList).toArray⟩
theorem ret_trimPrefix (L:Proofs.Lays.n101 P ρ) (s p:ByteArray):Ret P (ρ.f 101) [.p (.str s),.p (.str p)] (.p (.str (v_trimp s p))) := by
 intro w S vals hs hv hS hG
 obtain rfl := vals2 hs hv (fun _ h => rel_str h) (fun _ h => rel_str h)
 refine callsIn_wide.2 ((Proofs.Any.strings_TrimPrefix L s p w).mono ?_)
 rintro e w' ⟨rfl,rfl⟩
 exact ⟨_,S,rfl,fun _ h => h,fun _ h => .inl h,hS,.p _ _ (.str _),⟨rfl,rfl,rfl,Nat.le_refl _,fun _ _ _ => rfl⟩⟩

def v_join (xs:List ByteArray) (sep:ByteArray):ByteArray := ⟨(Lib.join (xs.map (·.data.toList)) sep.data.toList).toArray⟩
theorem ret_join (L:Proofs.Lays.n156 P ρ) (X:Proofs.Builder.Extra P ρ) (xs:List ByteArray) (sep:ByteArray) (full:Bool) (hN:xs.length≤140737488355328) (hlen:(v_join xs sep).size≤140737488355328) :
  Ret P (ρ.f 156) [.p (.sl 1 (xs.map fun s => [.str s]) full),.p (.str sep)] (.p (.str (v_join xs sep))) := by
 intro w S vals hsz hv hS hG
 have hlen' : (Lib.join (xs.map (·.data.toList)) sep.data.toList).length≤140737488355328 := hlen
 have fin:∀ e w',e = Ending.returned (.string (v_join xs sep))∧Below w.heap.size w w'→∃ x S',e = Ending.returned x∧(∀ b,S b→S' b)∧(∀ b,S' b→S b ∨ w.heap.size≤b)∧(∀ b,S' b→b < w'.heap.size)∧VRel Plc0 S' w' (.p (.str (v_join xs sep))) x∧Fr (fun _ => False) w w' := by
  rintro e w' ⟨rfl,hb⟩
  exact ⟨_,S,rfl,fun _ h => h,fun _ h => .inl h,fun b h => Nat.lt_of_lt_of_le (hS b h) hb.size,.p _ _ (.str _),fr_of_below hb⟩
 have h0 := hv 0 _ rfl
 cases h0 with
 | p _ _ h0 =>
  generalize hval:vals.getD 0 undef = v0 at h0
  have hvals:vals = #[v0,.string sep] := by
   refine Array.ext (by simpa using hsz) fun i k1 k2 => ?_
   have hs2:vals.size = 2 := by simpa using hsz
   have h1 := rel_str (hv 1 _ rfl)
   simp only [Array.getD,hs2] at hval h1
   have:i = 0 ∨ i = 1 := by simp at k2; omega
   rcases this with rfl | rfl
   ·simpa using hval
   ·simpa using h1
  subst hvals
  generalize hes:(xs.map fun s => [Pv.str s]) = es at h0
  cases h0 with
  | slnil =>
   obtain rfl:xs = [] := List.map_eq_nil_iff.1 hes
   exact callsIn_wide.2 ((Proofs.Any.strings_Join_none L X none 0 sep w).mono fun e w' ⟨he,hw⟩ => fin e w' ⟨he,hw ▸ Below.refl _ _⟩)
  | sl0 _ _ a cap h =>
   obtain rfl:xs = [] := List.map_eq_nil_iff.1 hes
   exact callsIn_wide.2 ((Proofs.Any.strings_Join_none L X (some a) cap sep w).mono fun e w' ⟨he,hw⟩ => fin e w' ⟨he,hw ▸ Below.refl _ _⟩)
  | sl _ _ _ b o n cap cell hs hn h0 hc hf hk h1 h2 =>
   obtain rfl:xs.length = n := by rw [← hn,← hes,List.length_map]
   refine callsIn_wide.2 ((Proofs.Any.strings_Join L X b o cap xs sep w (fun j x hx => ?_) (hS b hs) hN hc hlen').mono fun e w' ⟨he,hw⟩ => fin e w' ⟨he,hw⟩)
   have hj:es[j]? = some [.str x] := by rw [← hes,List.getElem?_map,hx]; rfl
   have c1 := h1 j 0 _ _ hj rfl
   have c2 := h2 j 0 _ _ hj rfl
   rw [Nat.mul_one,Nat.add_zero] at c1
   rw [c1]
   generalize cell j 0 = v at c2
   cases c2
   rfl

def v_spl (s sep:ByteArray):List ByteArray := Lib.splitB sep 0 (Lib.countB s sep) s
end Go.Mx
namespace Go.Mx
open Go Go.Shelf Go.RowKit Go.Sort
variable [Laid]
variable {P:Program} {ρ:Ren}

omit [Laid] in
theorem below_bytes (w:World) (e:TypeId) (t:ByteArray):Below w.heap.size w (Lib.bytesWorld w e t) := Lib.bytesWorld_below w e t

theorem ret_atoi (L:Proofs.LaysC.n172 P ρ) {g1 g2:Nat} (hg1:P.globalNamed "strconv.ErrSyntax" = some g1) (hQ1:Laid.Q g1 = some ifcQ) (hg2:P.globalNamed "strconv.ErrRange" = some g2) (hQ2:Laid.Q g2 = some ifcQ) (s:ByteArray) (hlim:s.size≤281474976710656) :
  Ret P (ρ.f 172) [.p (.str s)] (.tup [.p (.int .i64 (v_atn s.data.toList)),.p (.ifc (v_ate s.data.toList))]) := by
 intro w S vals hsz hv hS hG
 obtain rfl := vals1 hsz hv fun _ h => rel_str h
 have fin:∀ (n:Int) (b:Bool) (x:Value) (w' : World),v_atn s.data.toList = n→v_ate s.data.toList = b→PRel S w' (.ifc b) x→Below w.heap.size w w' →
   ∃ x' S',Ending.returned (.tuple #[.int .i64 n,x]) = Ending.returned x'∧(∀ b,S b→S' b)∧(∀ b,S' b→S b ∨ w.heap.size≤b)∧(∀ b,S' b→b < w'.heap.size)∧VRel Plc0 S' w' (.tup [.p (.int .i64 (v_atn s.data.toList)),.p (.ifc (v_ate s.data.toList))]) x'∧Fr (fun _ => False) w w' := by
  rintro n b x w' rfl rfl hx hb
  refine ⟨_,S,rfl,fun _ h => h,fun _ h => .inl h,fun b h => Nat.lt_of_lt_of_le (hS b h) hb.size,.tup _ _ rfl fun i c hc => ?_,fr_of_below hb⟩
  match i,hc with
  | 0,hc => cases hc; exact .p _ _ (.int _ _)
  | 1,hc => cases hc; exact .p _ _ hx
  | i + 2,hc => simp at hc
 cases h:Lib.atoiAll s.data.toList
 case ok v =>
  refine callsIn_wide.2 ((Proofs.Any.strconv_Atoi_ok L s (by omega) v h w).mono ?_)
  rintro e w' ⟨rfl,hw⟩
  refine fin v true _ w' (by unfold v_atn; rw [h]) (by unfold v_ate; rw [h]) .ifn ?_
  rcases hw with rfl | ⟨t,rfl⟩
  ·exact Below.refl _ _
  ·exact below_bytes _ _ _
 rotate_left
 case range =>
  obtain ⟨cs,c1,tp,p,rfl⟩ := hG.var hg2 hQ2
  refine callsIn_wide.2 ((Proofs.Any.strconv_Atoi_range_var L s hlim h tp p w c1).mono ?_)
  rintro e w' ⟨N,rfl,_,_,hb⟩
  exact fin _ false _ w' (by unfold v_atn; rw [h]) (by unfold v_ate; rw [h]) (.ifs _ _) hb
 obtain ⟨cs,c1,tp,p,rfl⟩ := hG.var hg1 hQ1
 refine callsIn_wide.2 ((Proofs.Any.strconv_Atoi_syntax_var L s hlim h tp p w c1).mono ?_)
 rintro e w' ⟨N,rfl,_,_,hb⟩
 exact fin 0 false _ w' (by unfold v_atn; rw [h]) (by unfold v_ate; rw [h]) (.ifs _ _) hb

theorem ret_split (L:Proofs.Lays.n146 P ρ) (L9:(P.info? (ρ.t 9)).map (fun i => (i.zero,i.size,i.bytes)) = some (some (Value.string ByteArray.empty),1,16)) (hQ:Laid.Q (ρ.g 1) = some intQ) (s sep:ByteArray) (hs:s.size < 4294967281) (h1:1≤sep.size) (full:Bool) :
  Ret P (ρ.f 146) [.p (.str s),.p (.str sep)] (.p (.sl 1 ((v_spl s sep).map fun x => [.str x]) full)) := by
 intro w S vals hsz hv hS hG
 obtain rfl := vals2 hsz hv (fun _ h => rel_str h) (fun _ h => rel_str h)
 obtain ⟨m,hm⟩ := hG.int hQ
 refine callsIn_wide.2 ((Proofs.Any.strings_Split L L9 s sep m w hs hm h1).mono ?_)
 rintro e w' ⟨rfl,rfl⟩
 have hlen:(v_spl s sep).length = Lib.countB s sep + 1 := Lib.splitB_all sep h1 0 _ s rfl
 refine ⟨_,fun b => S b ∨ b = w.heap.size,rfl,fun _ h => .inl h,fun b h => h.imp_right fun e => by omega,fun b h => ?_,.p _ _ ?_,?_⟩
 ·rw [World.size_alloc]; rcases h with h | h
  ·have := hS b h; omega
  ·omega
 ·have e := PRel.sl (S := fun b => S b ∨ b = w.heap.size) (w := w.alloc (.cells ((Lib.splitB sep 0 (Lib.countB s sep) s).map Value.string).toArray (ρ.t 9))) 1 ((v_spl s sep).map fun x => [.str x]) full w.heap.size 0 (Lib.countB s sep + 1) (Lib.countB s sep + 1) (fun i _ => .string ((v_spl s sep).getD i ByteArray.empty)) (.inr rfl) (by rw [List.length_map,hlen]) (by omega) (Nat.le_refl _) (fun _ => rfl)
   (fun e he => by obtain ⟨x,_,rfl⟩ := List.mem_map.1 he; rfl)
   (fun i j e x hi hj => by
    rw [List.getElem?_map] at hi
    cases hx:(v_spl s sep)[i]? with
    | none => rw [hx] at hi; cases hi
    | some y =>
     rw [hx] at hi; cases hi
     obtain rfl:j = 0 := by cases j with | zero => rfl | succ j => simp at hj
     have hh:(w.alloc (.cells ((Lib.splitB sep 0 (Lib.countB s sep) s).map Value.string).toArray (ρ.t 9))).heap[w.heap.size]? = _ := World.alloc_heap_new w _
     simp only [World.cell?,hh]
     rw [show 0 + (i * 1 + 0) = i by omega]
     simp only [List.getElem?_toArray,List.getElem?_map]
     have hx' : (Lib.splitB sep 0 (Lib.countB s sep) s)[i]? = some y := hx
     rw [hx',List.getD_eq_getElem?_getD,hx]; rfl)
   (fun i j e x hi hj => by
    rw [List.getElem?_map] at hi
    cases hx:(v_spl s sep)[i]? with
    | none => rw [hx] at hi; cases hi
    | some y =>
     rw [hx] at hi; cases hi
     obtain rfl:j = 0 := by cases j with | zero => rfl | succ j => simp at hj
     cases hj
     rw [List.getD_eq_getElem?_getD,hx]; exact .str _)
  exact e
 ·exact ⟨rfl,rfl,rfl,by rw [World.size_alloc]; omega,fun b hb _ => Below.heap_alloc _ _ _ hb⟩
end Go.Mx
namespace Go.Mx
open Go
theorem v_fuel (sep:ByteArray) (h1:1≤sep.size):∀ (k k' : Nat) (s:ByteArray),s.size≤k→s.size≤k'→Lib.splitB sep 0 k s = Lib.splitB sep 0 k' s
 | k,k',s,h,h' => by
  rcases Lib.indexB_cases s sep with hx | ⟨i,hx,hi⟩
  ·rw [Lib.splitB_miss sep 0 k s hx,Lib.splitB_miss sep 0 k' s hx]
  ·match k,k',h,h' with
   | 0,_,h,_ => omega
   | _ + 1,0,_,h' => omega
   | k + 1,k' + 1,h,h' =>
    rw [Lib.splitB_hit sep 0 k s i hx,Lib.splitB_hit sep 0 k' s i hx]
    have hs:(s.extract (i + sep.size) s.size).size = s.size - (i + sep.size) := by rw [ByteArray.size_extract]; omega
    rw [v_fuel sep h1 k k' _ (by omega) (by omega)]
def v_pcs (s sep:ByteArray):List ByteArray := Lib.splitB sep 0 s.size s
theorem v_pcs_miss {s sep:ByteArray} (h:Lib.indexB s sep = -1):v_pcs s sep = [s] := Lib.splitB_miss sep 0 _ s h
theorem v_pcs_hit {s sep:ByteArray} (h1:1≤sep.size) {i:Nat} (h:Lib.indexB s sep = i):v_pcs s sep = s.extract 0 i :: v_pcs (s.extract (i + sep.size) s.size) sep := by
 unfold v_pcs
 rcases Lib.indexB_cases s sep with hx | ⟨j,hx,hi⟩
 ·omega
 ·have:j = i := by omega
  subst this
  obtain ⟨n,hn⟩ : ∃ n,s.size = n + 1 := ⟨s.size - 1,by omega⟩
  conv => lhs; rw [hn]
  rw [Lib.splitB_hit sep 0 n s j hx]
  have hs:(s.extract (j + sep.size) s.size).size = s.size - (j + sep.size) := by rw [ByteArray.size_extract]; omega
  rw [v_fuel sep h1 n (s.extract (j + sep.size) s.size).size _ (by omega) (Nat.le_refl _),Nat.add_zero]
end Go.Mx
namespace Go.Mx
open Go
def v_spb (b:UInt8):List UInt8→List (List UInt8)
 | [] => [[]]
 | c :: r => if c = b then [] :: v_spb b r else match v_spb b r with
  | [] => [[c]]
  | p :: q => (c :: p) :: q
theorem v_spb_is (b:UInt8):∀ l:List UInt8,v_spb b l = if Lib.indexByte l b == -1 then [l] else l.take (Lib.indexByte l b).toNat :: v_spb b (l.drop ((Lib.indexByte l b).toNat + 1))
 | [] => rfl
 | c :: r => by
  rw [v_spb]
  by_cases h:c = b
  ·subst h
   have e:Lib.indexByte (c :: r) c = 0 := by rw [Lib.indexByte]; simp
   rw [e]; simp
  ·have ih := v_spb_is b r
   have hge := Lib.indexByte_ge r b
   have hcb:(c == b) = false := by simpa using h
   rw [if_neg h]
   by_cases h2:Lib.indexByte r b = -1
   ·have e:Lib.indexByte (c :: r) b = -1 := by rw [Lib.indexByte,hcb,h2]; rfl
    rw [h2] at ih
    rw [ih,e]; rfl
   ·have h3:(Lib.indexByte r b == -1) = false := by simpa using h2
    have e:Lib.indexByte (c :: r) b = Lib.indexByte r b + 1 := by rw [Lib.indexByte,hcb,h3]; rfl
    rw [h3] at ih
    have h4:(Lib.indexByte r b + 1 == -1) = false := by
     have:Lib.indexByte r b + 1 ≠ -1 := by omega
     simpa using this
    have h5:(Lib.indexByte r b + 1).toNat = (Lib.indexByte r b).toNat + 1 := by omega
    rw [ih,e,h4,h5]
    rfl
theorem splitK_spb (b:UInt8):∀ (k:Nat) (l:List UInt8),l.length≤k→Lib.splitK [b] 0 k l = v_spb b l
 | 0,l,h => by
  obtain rfl:l = [] := List.length_eq_zero_iff.1 (by omega)
  rfl
 | k + 1,l,h => by
  rw [v_spb_is b l,Lib.splitK,Lib.index_one]
  by_cases h2:(Lib.indexByte l b == -1) = true
  ·rw [if_pos h2,if_pos h2]
  ·rw [if_neg h2,if_neg h2,Nat.add_zero]
   congr 1
   refine splitK_spb b k _ ?_
   have:l ≠ [] := by rintro rfl; exact h2 rfl
   have := List.length_pos_iff.2 this
   simp only [List.length_drop,List.length_cons,List.length_nil]; omega
theorem v_pcs_spb (s:ByteArray) (b:UInt8):(v_pcs s ⟨#[b]⟩).map (·.data.toList) = v_spb b s.data.toList := by
 unfold v_pcs
 rw [Lib.splitB_data]
 exact splitK_spb b _ _ (Nat.le_of_eq (Array.length_toList ..))
end Go.Mx
namespace Go.Mx
open Go
def v_dd (n:Nat):List UInt8 := if n = 0 then [] else Lib.decDigits n
theorem v_dd_step {n:Nat} (h:n ≠ 0):v_dd n = v_dd (n / 10) ++ [UInt8.ofNat (48 + n % 10)] := by
 unfold v_dd
 rw [if_neg h,Lib.decDigits]
 by_cases h2:n < 10
 ·rw [dif_pos h2,if_pos (by omega),Nat.mod_eq_of_lt h2]; rfl
 ·rw [dif_neg h2,if_neg (by omega)]
theorem v_dd_itoa {n:Int} (h:n ≠ 0):Lib.itoa n = (if n < 0 then [45] else []) ++ v_dd n.natAbs := by
 unfold Lib.itoa v_dd
 rw [if_neg (show n.natAbs ≠ 0 by omega)]
 split
 ·rfl
 ·rw [show n.natAbs = n.toNat by omega]; rfl
end Go.Mx
namespace Go.Mx
open Go
theorem ba_ext {a b:ByteArray} (h:a.data.toList = b.data.toList):a = b := by
 obtain ⟨⟨a⟩⟩ := a; obtain ⟨⟨b⟩⟩ := b; simpa using h
theorem v_seq_iff {a b:ByteArray}:v_seq a b = decide (a = b) := by
 unfold v_seq
 by_cases h:a = b
 ·subst h; simp
 ·rw [decide_eq_false h]
  have:a.data.toList ≠ b.data.toList := fun e => h (ba_ext e)
  simpa using this
theorem ba_len (s:ByteArray):s.data.toList.length = s.size := by obtain ⟨⟨l⟩⟩ := s; rfl
theorem v_dval_lt:∀ (l:List UInt8) (a:Nat),l.all v_dgt = true→v_dval l a < (a + 1) * 10 ^ l.length
 | [],a,_ => by simp [v_dval]
 | b :: r,a,h => by
  rw [List.all_cons,Bool.and_eq_true] at h
  have hb:48≤b.toNat∧b.toNat≤57 := of_decide_eq_true h.1
  have := v_dval_lt r (a * 10 + (b.toNat - 48)) h.2
  rw [v_dval,List.length_cons,Nat.pow_succ]
  refine Nat.lt_of_lt_of_le this ?_
  rw [Nat.mul_comm (10 ^ r.length) 10,← Nat.mul_assoc]
  exact Nat.mul_le_mul_right _ (by omega)
theorem v_spb_no {b:UInt8}:∀ {l:List UInt8},b ∉ l→v_spb b l = [l]
 | [],_ => rfl
 | c :: r,h => by
  simp only [List.mem_cons,not_or] at h
  rw [v_spb,if_neg (fun e => h.1 e.symm),v_spb_no h.2]
theorem v_spb_ne (b:UInt8) (l:List UInt8):v_spb b l ≠ [] := by
 rw [v_spb_is]; split <;> simp
theorem v_spb_mem {b:UInt8}:∀ {l p:List UInt8},p∈v_spb b l→b ∉ p∧p.length≤l.length
 | [],p,h => by simp [v_spb] at h; subst h; simp
 | c :: r,p,h => by
  rw [v_spb] at h
  split at h
  ·rename_i e
   rcases List.mem_cons.1 h with rfl | h
   ·simp
   ·have := v_spb_mem h
    exact ⟨this.1,by simp; omega⟩
  ·rename_i e
   have hne := v_spb_ne b r
   cases hs:v_spb b r with
   | nil => exact absurd hs hne
   | cons q t =>
    rw [hs] at h
    rcases List.mem_cons.1 h with rfl | h
    ·have := v_spb_mem (b := b) (l := r) (p := q) (by rw [hs]; simp)
     exact ⟨by simp only [List.mem_cons,not_or]; exact ⟨fun x => e x.symm,this.1⟩,by simp; exact this.2⟩
    ·have := v_spb_mem (b := b) (l := r) (p := p) (by rw [hs]; simp [h])
     exact ⟨this.1,by simp; omega⟩
theorem v_spb_app {b:UInt8}:∀ {p l:List UInt8},b ∉ p→v_spb b (p ++ b :: l) = p :: v_spb b l
 | [],l,_ => by rw [List.nil_append,v_spb,if_pos rfl]
 | c :: p,l,h => by
  simp only [List.mem_cons,not_or] at h
  rw [List.cons_append,v_spb,if_neg (fun e => h.1 e.symm),v_spb_app h.2]
theorem v_spb_len (b:UInt8):∀ l:List UInt8,(v_spb b l).length≤l.length + 1
 | [] => by simp [v_spb]
 | c :: r => by
  have := v_spb_len b r
  rw [v_spb]
  split
  ·simp; omega
  ·split
   ·simp
   ·rename_i p q hs
    rw [hs] at this
    simp at this ⊢; omega
def v_ct (s:ByteArray) (b:Int):List ByteArray := (v_spb (UInt8.ofNat b.toNat) s.data.toList).map fun l => ⟨l.toArray⟩
theorem v_pcs_ct (s:ByteArray) (b:UInt8):v_pcs s ⟨#[b]⟩ = v_ct s b.toNat := by
 have h := v_pcs_spb s b
 unfold v_ct
 rw [show UInt8.ofNat ((b.toNat:Int)).toNat = b by simp,← h,List.map_map]
 exact (List.map_id _).symm.trans (List.map_congr_left fun x _ => rfl)
theorem v_ct_len (s:ByteArray) (b:Int):(v_ct s b).length≤s.size + 1 := by
 unfold v_ct
 rw [List.length_map,← ba_len]; exact v_spb_len _ _
theorem v_ct_mem {s:ByteArray} {b:Int} {p:ByteArray} (h:p∈v_ct s b):p.size≤s.size := by
 obtain ⟨l,hl,rfl⟩ := List.mem_map.1 h
 have := (v_spb_mem hl).2
 rw [ba_len] at this
 exact this
def v_nbr (s:ByteArray) (k:Int):Int×Bool := match v_canon s.data.toList with
 | some n => cond (decide ((s.size:Int) - (cond (decide (n < 0)) 1 0)≤k)) (n,true) (0,false)
 | none => (0,false)
def v_ddb (n:Int):ByteArray := ⟨(v_dd n.natAbs).toArray⟩
theorem v_scat_list (a b:ByteArray):(v_scat a b).data.toList = a.data.toList ++ b.data.toList := by
 unfold v_scat; rw [ByteArray.data_append,Array.toList_append]
theorem v_scat_size (a b:ByteArray):(v_scat a b).size = a.size + b.size := by
 rw [← ba_len,v_scat_list,List.length_append,ba_len,ba_len]
theorem v_scat_assoc (a b c:ByteArray):v_scat (v_scat a b) c = v_scat a (v_scat b c) := ba_ext (by simp only [v_scat_list,List.append_assoc])
theorem v_scat_nil (a:ByteArray):v_scat (⟨#[]⟩ : ByteArray) a = a := ba_ext (by rw [v_scat_list]; rfl)
theorem v_scat_nil2 (a:ByteArray):v_scat a (⟨#[]⟩ : ByteArray) = a := ba_ext (by rw [v_scat_list]; simp)
theorem v_size_max (n:Int) (h1 : -9223372036854775807≤n) (h2:n≤9223372036854775807):max n (IntKind.i64.wrap ((0:Int) - n)) = (n.natAbs:Int) := by
 rw [wrap_id (by omega) (by omega)]; omega
def v_dgb (n:Int):Int := 48 + (n.natAbs % 10:Nat)
theorem v_dgb_is (n:Int):IntKind.u8.wrap (IntKind.i64.wrap (48 + max (n.tmod 10) (IntKind.i64.wrap ((0:Int) - n.tmod 10)))) = v_dgb n := by
 have h0:(n.tmod 10).natAbs = n.natAbs % 10 := by rw [Int.natAbs_tmod]; rfl
 have hlt:n.natAbs % 10 < 10 := Nat.mod_lt _ (by decide)
 rw [v_size_max _ (by omega) (by omega),h0,wrap_id (by omega) (by omega)]
 unfold v_dgb
 have:IntKind.u8.wrap (48 + ((n.natAbs % 10:Nat):Int)) = 48 + ((n.natAbs % 10:Nat):Int) := by
  generalize n.natAbs % 10 = d at hlt ⊢
  simp only [IntKind.wrap]
  simp [IntKind.bits,IntKind.signed]
  omega
 exact this
theorem dec_is {dd pre:ByteArray} {st:Int×ByteArray→(Int×ByteArray) ⊕ ByteArray} {sp:Int×ByteArray→List Prop}
  (hst:∀ y,st y = cond (y.1 != 0) (.inl (IntKind.i64.wrap (y.1.tdiv 10),v_scat (v_sof [v_dgb y.1]) y.2)) (.inr (v_scat pre y.2)))
  (hsp:∀ y,((y.1 ≠ 0→v_bts [v_dgb y.1])∧(y.1 ≠ 0→((v_sof [v_dgb y.1]).size:Int) + y.2.size≤9223372036854775807)∧(y.1 = 0→(pre.size:Int) + y.2.size≤9223372036854775807))→∀ p∈sp y,p)
  (hpre:pre.size≤1) (n:Int) (h1 : -9223372036854775808≤n) (h2:n≤9223372036854775807):OkL st sp (n,⟨#[]⟩)∧lpv dd st (n,⟨#[]⟩) = v_scat pre (v_ddb n) := by
 have hs1:∀ m:Int,(v_sof [v_dgb m]).size = 1 := fun m => by unfold v_sof; rfl
 have hd:∀ m:Int,m.natAbs % 10 < 10 := fun m => Nat.mod_lt _ (by decide)
 have h := loop_is (d := dd) (st := st) (sp := sp) (fun y => -9223372036854775808≤y.1∧y.1≤9223372036854775807∧(y.2.size = 0 ∨ y.2.size + y.1.natAbs≤4611686018427387904)) (fun y => y.1.natAbs) (fun y => v_scat pre (v_scat (v_ddb y.1) y.2)) (fun y hI => by
  obtain ⟨g1,g2,g3⟩ := hI
  have hdiv:(y.1.tdiv 10).natAbs = y.1.natAbs / 10 := by rw [Int.natAbs_tdiv]; rfl
  refine ⟨hsp y ⟨fun _ => ?_,fun hne => ?_,fun he => ?_⟩,?_⟩
  ·intro b hb
   simp only [List.mem_singleton] at hb; subst hb
   have := hd y.1
   unfold v_dgb; omega
  ·rw [hs1]; omega
  ·omega
  ·rw [hst]
   by_cases hz:y.1 = 0
   ·rw [show (y.1 != 0) = false by simp [hz]]
    simp only [cond_false]
    rw [hz]
    show v_scat pre (v_scat (v_ddb 0) y.2) = _
    rw [show v_ddb 0 = ⟨#[]⟩ from rfl,v_scat_nil]
   ·rw [show (y.1 != 0) = true by simp [hz]]
    simp only [cond_true]
    rw [wrap_id (n := y.1.tdiv 10) (by omega) (by omega)]
    refine ⟨⟨by omega,by omega,.inr ?_⟩,by omega,?_⟩
    ·rw [v_scat_size,hs1]; omega
    ·congr 1
     rw [← v_scat_assoc]
     congr 1
     have hstep := v_dd_step (n := y.1.natAbs) (by omega)
     refine ba_ext ?_
     rw [v_scat_list]
     show v_dd (y.1.tdiv 10).natAbs ++ (v_sof [v_dgb y.1]).data.toList = v_dd y.1.natAbs
     rw [hstep,hdiv]
     congr 1) (x := (n,⟨#[]⟩)) ⟨h1,h2,.inl rfl⟩ (by unfold fuel; omega)
 exact ⟨h.1,h.2.trans (by show v_scat pre (v_scat (v_ddb n) ⟨#[]⟩) = _; rw [v_scat_nil2])⟩
theorem v_itoa_dd (n:Int):v_itoa n = cond (n == 0) (⟨#[48]⟩ : ByteArray) (cond (decide (n < 0)) (v_scat ⟨#[45]⟩ (v_ddb n)) (v_scat ⟨#[]⟩ (v_ddb n))) := by
 by_cases h0:n = 0
 ·subst h0
  refine ba_ext ?_
  show Lib.itoa 0 = [48]
  unfold Lib.itoa
  rw [if_neg (by decide)]
  exact v_dig_0
 ·rw [show (n == 0) = false by simp [h0],cond_false]
  have h := v_dd_itoa h0
  refine ba_ext ?_
  show Lib.itoa n = _
  rw [h]
  by_cases hn:n < 0
  ·rw [if_pos hn,decide_eq_true hn,cond_true,v_scat_list]; rfl
  ·rw [if_neg hn,decide_eq_false hn,cond_false,v_scat_list]; rfl
theorem v_six_get {s:ByteArray} {j:Nat} (h:j < s.size):v_six s j = (((s.data.toList.getD j 0).toNat:Nat):Int) := by
 obtain ⟨⟨l⟩⟩ := s
 unfold v_six
 have hj:j < l.length := h
 rw [Int.toNat_natCast]
 have e:(⟨⟨l⟩⟩ : ByteArray)[j]? = some l[j] := by
  rw [getElem?_pos _ j h]; rfl
 rw [e]
 show _ = ((l.getD j 0).toNat:Int)
 rw [List.getD_eq_getElem?_getD,List.getElem?_eq_getElem hj]; rfl
theorem v_ssub_list {s:ByteArray} {a b:Nat}:(v_ssub s a b).data.toList = (s.data.toList.drop a).take (b - a) := by
 unfold v_ssub
 rw [Int.toNat_natCast,Int.toNat_natCast,ByteArray.data_extract,Array.toList_extract]
theorem u8_of {b:UInt8} {p:Int} (h0:0≤p) (h1:p < 256):(((b.toNat:Nat):Int) == p) = decide (b = UInt8.ofNat p.toNat) := by
 have e:(UInt8.ofNat p.toNat).toNat = p.toNat := by rw [UInt8.toNat_ofNat']; omega
 by_cases h:b = UInt8.ofNat p.toNat
 ·rw [decide_eq_true h,h,e]; simp; omega
 ·rw [decide_eq_false h]
  have:((b.toNat:Nat):Int) ≠ p := fun e2 => h (UInt8.toNat_inj.1 (by rw [e]; omega))
  simpa using this
theorem cut_is {s:ByteArray} {p:Int} {dd:List ByteArray} {st:Int×(Int×List ByteArray)→(Int×(Int×List ByteArray)) ⊕ List ByteArray} {sp:Int×(Int×List ByteArray)→List Prop} (hp0:0≤p) (hp1:p < 256) (hs:s.size≤1000000)
  (hst:∀ y,st y = cond (decide (y.1 < (s.size:Int))) (cond (v_six s y.1 == p) (.inl (IntKind.i64.wrap (y.1 + 1),(IntKind.i64.wrap (y.1 + 1),y.2.2 ++ [v_ssub s y.2.1 y.1]))) (.inl (IntKind.i64.wrap (y.1 + 1),y.2))) (.inr (y.2.2 ++ [v_ssub s y.2.1 s.size])))
  (hsp:∀ y:Int×(Int×List ByteArray),(0≤y.1∧y.1≤(s.size:Int)∧0≤y.2.1∧y.2.1≤y.1∧y.2.2.length≤1000000)→∀ q∈sp y,q):OkL st sp (0,(0,[]))∧lpv dd st (0,(0,[])) = v_ct s p := by
 generalize hl:s.data.toList = l
 have hsl:s.size = l.length := by rw [← hl,ba_len]
 have h := for_is (dd := dd) (st := st) (sp := sp) (fun i (t:Int×List ByteArray) => (i,t)) 0 s.size
  (fun j t => ∃ a:Nat,t.1 = a∧a≤j∧t.2.length≤j∧UInt8.ofNat p.toNat ∉ (l.drop a).take (j - a))
  (fun _ t => t.2 ++ (v_spb (UInt8.ofNat p.toNat) (l.drop t.1.toNat)).map fun q => ⟨q.toArray⟩) (Nat.zero_le _) (by omega) (fun t ht => ?_) (fun j t _ hj ht => ?_) (0,[]) ⟨0,rfl,Nat.le_refl _,Nat.le_refl _,by simp⟩
 ·refine ⟨h.1,h.2.trans ?_⟩
  unfold v_ct
  rw [hl]; rfl
 ·obtain ⟨a,h1,h2,h3,h4⟩ := ht
  refine ⟨hsp _ ⟨show (0:Int)≤(_:Nat) by omega,show ((_:Nat):Int)≤(_:Nat) by omega,show (0:Int)≤t.1 by omega,show t.1≤((_:Nat):Int) by omega,show t.2.length≤1000000 by omega⟩,?_⟩
  rw [hst,decide_eq_false (by dsimp only; omega)]
  simp only [cond_false]
  congr 2
  rw [h1,Int.toNat_natCast]
  have:l.drop a = (l.drop a).take (s.size - a) := by
   rw [List.take_of_length_le]; simp; omega
  rw [← this] at h4
  rw [v_spb_no h4]
  show _ = [(⟨(l.drop a).toArray⟩ : ByteArray)]
  congr 1
  refine ba_ext ?_
  rw [v_ssub_list,hl,← this]
 ·obtain ⟨a,h1,h2,h3,h4⟩ := ht
  refine ⟨hsp _ ⟨show (0:Int)≤(_:Nat) by omega,show ((_:Nat):Int)≤(_:Nat) by omega,show (0:Int)≤t.1 by omega,show t.1≤((_:Nat):Int) by omega,show t.2.length≤1000000 by omega⟩,.inl ?_⟩
  have hjl:j < l.length := by omega
  have hget:l.getD j 0 = l[j] := by rw [List.getD_eq_getElem?_getD,List.getElem?_eq_getElem hjl]; rfl
  rw [hst,decide_eq_true (show ((j:Nat):Int) < s.size by omega)]
  simp only [cond_true]
  rw [v_six_get hj,hl,hget,u8_of hp0 hp1,wrap_nat (show (j:Int)≤9223372036854775806 by omega)]
  have hdrop:l.drop a = (l.drop a).take (j - a) ++ l[j] :: l.drop (j + 1) := by
   have e1 := (List.take_append_drop (j - a) (l.drop a)).symm
   rw [List.drop_drop,show a + (j - a) = j by omega,List.drop_eq_getElem_cons hjl] at e1
   exact e1
  by_cases hb:l[j] = UInt8.ofNat p.toNat
  ·rw [decide_eq_true hb,cond_true]
   refine ⟨_,rfl,⟨j + 1,rfl,Nat.le_refl _,by simp; omega,by simp⟩,?_⟩
   rw [List.append_assoc]
   congr 1
   rw [h1,Int.toNat_natCast,Int.toNat_natCast]
   conv => rhs; rw [hdrop,hb,v_spb_app h4]
   rw [List.map_cons]
   show _ :: _ = _ :: _
   congr 1
   refine ba_ext ?_
   rw [v_ssub_list,hl]
  ·rw [decide_eq_false hb,cond_false]
   refine ⟨t,rfl,⟨a,h1,by omega,by omega,?_⟩,rfl⟩
   have e2:(l.drop a).take (j + 1 - a) = (l.drop a).take (j - a) ++ [l[j]] := by
    have hlt:((l.drop a).take (j - a)).length = j - a := by simp; omega
    conv => lhs; rw [hdrop]
    rw [List.take_append,hlt,show j + 1 - a - (j - a) = 1 by omega,List.take_of_length_le (by rw [hlt]; omega)]; rfl
   rw [e2]
   simp only [List.mem_append,List.mem_singleton,not_or]
   exact ⟨h4,fun e => hb e.symm⟩
theorem dgt_of (b:UInt8):cond (decide (((b.toNat:Nat):Int) < 48)) true (decide (((b.toNat:Nat):Int) > 57)) = !(v_dgt b) := by
 unfold v_dgt
 by_cases h1:48≤b.toNat
 ·rw [decide_eq_false (show ¬ ((b.toNat:Nat):Int) < 48 by omega),cond_false]
  by_cases h2:b.toNat≤57
  ·rw [decide_eq_false (show ¬ ((b.toNat:Nat):Int) > 57 by omega),decide_eq_true ⟨h1,h2⟩]; rfl
  ·rw [decide_eq_true (show ((b.toNat:Nat):Int) > 57 by omega),decide_eq_false (fun e => h2 e.2)]; rfl
 ·rw [decide_eq_true (show ((b.toNat:Nat):Int) < 48 by omega),cond_true,decide_eq_false (show ¬ (48≤b.toNat∧b.toNat≤57) from fun e => h1 e.1)]; rfl
theorem u8_sub {n:Nat} (h1:48≤n) (h2:n≤57):IntKind.u8.wrap ((n:Int) - 48) = ((n - 48:Nat):Int) := by
 simp only [IntKind.wrap]
 simp [IntKind.bits,IntKind.signed]
 omega
theorem pow18 {k:Nat} (h:k≤18):10 ^ k≤1000000000000000000 := Nat.le_trans (Nat.pow_le_pow_right (by decide) h) (by decide)
theorem num_is {s:ByteArray} {dd:Int×Bool} {st:Int×Int→(Int×Int) ⊕ (Int×Bool)} {sp:Int×Int→List Prop} (e:Int→Int) (a:Nat) (ha:a≤s.size) (h18:s.size - a≤18) (hs:s.size≤1000000)
  (hst:∀ y,st y = cond (decide (y.1 < (s.size:Int))) (cond (cond (decide (v_six s y.1 < 48)) true (decide (v_six s y.1 > 57))) (.inr (0,false)) (.inl (IntKind.i64.wrap (y.1 + 1),IntKind.i64.wrap (IntKind.i64.wrap (10 * y.2) + IntKind.i64.wrap (IntKind.u8.wrap (v_six s y.1 - 48)))))) (.inr (e y.2,true)))
  (hsp:∀ y:Int×Int,(0≤y.1∧y.1≤(s.size:Int))→∀ q∈sp y,q) :
  OkL st sp ((a:Int),0)∧lpv dd st ((a:Int),0) = cond ((s.data.toList.drop a).all v_dgt) (e (v_dval (s.data.toList.drop a) 0:Nat),true) (0,false) := by
 generalize hl:s.data.toList = l
 have hsl:s.size = l.length := by rw [← hl,ba_len]
 have h := for_is (dd := dd) (st := st) (sp := sp) (fun i (t:Int) => (i,t)) a s.size
  (fun j t => ∃ m:Nat,t = m∧m < 10 ^ (j - a))
  (fun j t => cond ((l.drop j).all v_dgt) (e (v_dval (l.drop j) t.toNat:Nat),true) (0,false)) ha (by omega) (fun t ht => ?_) (fun j t haj hj ht => ?_) 0 ⟨0,rfl,by simp⟩
 ·exact h
 ·obtain ⟨m,rfl,_⟩ := ht
  refine ⟨hsp _ ⟨show (0:Int)≤(_:Nat) by omega,show ((_:Nat):Int)≤(_:Nat) by omega⟩,?_⟩
  rw [hst,decide_eq_false (show ¬ (((s.size:Nat):Int) < s.size) by omega),hsl,List.drop_length]
  rfl
 ·obtain ⟨m,rfl,hm⟩ := ht
  refine ⟨hsp _ ⟨show (0:Int)≤(_:Nat) by omega,show ((_:Nat):Int)≤(_:Nat) by omega⟩,?_⟩
  have hjl:j < l.length := by omega
  have hget:l.getD j 0 = l[j] := by rw [List.getD_eq_getElem?_getD,List.getElem?_eq_getElem hjl]; rfl
  rw [hst,decide_eq_true (show ((j:Nat):Int) < s.size by omega)]
  simp only [cond_true]
  rw [v_six_get hj,hl,hget,dgt_of,wrap_nat (show (j:Int)≤9223372036854775806 by omega),List.drop_eq_getElem_cons hjl]
  have hall:(l[j] :: l.drop (j + 1)).all v_dgt = (v_dgt l[j] && (l.drop (j + 1)).all v_dgt) := rfl
  rw [hall]
  cases hd:v_dgt l[j] with
  | false => exact .inr rfl
  | true =>
   left
   have hb:48≤l[j].toNat∧l[j].toNat≤57 := of_decide_eq_true hd
   have hp := pow18 (k := j - a) (by omega)
   have hp2:10 ^ (j + 1 - a) = 10 ^ (j - a) * 10 := by rw [show j + 1 - a = (j - a) + 1 by omega,Nat.pow_succ]
   have hp3 := pow18 (k := j + 1 - a) (by omega)
   refine ⟨_,rfl,⟨m * 10 + (l[j].toNat - 48),?_,by rw [hp2]; omega⟩,?_⟩
   ·rw [u8_sub hb.1 hb.2,wrap_id (n := 10 * (m:Int)) (by omega) (by omega),wrap_id (n := ((l[j].toNat - 48:Nat):Int)) (by omega) (by omega),wrap_id (by omega) (by omega)]
    omega
   ·rw [u8_sub hb.1 hb.2,wrap_id (n := 10 * (m:Int)) (by omega) (by omega),wrap_id (n := ((l[j].toNat - 48:Nat):Int)) (by omega) (by omega),wrap_id (by omega) (by omega)]
    rw [v_dval,show (10 * (m:Int) + ((l[j].toNat - 48:Nat):Int)).toNat = m * 10 + (l[j].toNat - 48) by omega,Int.toNat_natCast]
    rfl
theorem v_dval_pos {r:List UInt8} (h:v_nml r = true) (h2:r ≠ [48]):1≤v_dval r 0 := by
 have := v_dig_of _ r rfl h
 rcases Nat.eq_zero_or_pos (v_dval r 0) with e | e
 ·rw [e,v_dig_0] at this; exact absurd this.symm h2
 ·exact e
theorem v_nbr_neg {s:ByteArray} {r:List UInt8} (h:s.data.toList = 45 :: r) (k:Int) :
  v_nbr s k = cond (cond (cond ((s.size:Int) == 1) true (decide ((s.size:Int) - 1 > k))) true (decide (r.head? = some 48))) (0,false) (cond (r.all v_dgt) (-(v_dval r 0:Int),true) (0,false)) := by
 have hs:s.size = r.length + 1 := by rw [← ba_len,h]; rfl
 unfold v_nbr
 rw [h]
 unfold v_canon
 simp only [show ((45:UInt8) == 45) = true from rfl]
 by_cases hc:v_nml r = true∧r ≠ [48]
 ·have hpos := v_dval_pos hc.1 hc.2
  obtain ⟨g1,g2,g3⟩ := v_nml_iff.1 hc.1
  rw [if_pos hc]
  dsimp only
  have hne:r.length ≠ 0 := fun e => g1 (List.length_eq_zero_iff.1 e)
  have hhead:decide (r.head? = some 48) = false := decide_eq_false (fun e => hc.2 (by
   have := g3 e
   obtain ⟨x,rfl⟩ := List.length_eq_one_iff.1 this
   simp at e; rw [e]))
  rw [decide_eq_true (show -(v_dval r 0:Int) < 0 by omega),hhead,g2,show ((s.size:Int) == 1) = false by simp; omega]
  by_cases hk:(s.size:Int) - 1≤k
  ·rw [decide_eq_false (show ¬ ((s.size:Int) - 1 > k) by omega),cond_true,decide_eq_true hk]; rfl
  ·rw [decide_eq_true (show ((s.size:Int) - 1 > k) by omega),cond_true,decide_eq_false hk]; rfl
 ·rw [if_neg hc]
  dsimp only
  by_cases h1:r = []
  ·subst h1
   rw [show ((s.size:Int) == 1) = true by simp; simp at hs; omega]; rfl
  ·rw [show ((s.size:Int) == 1) = false by
    have:r.length ≠ 0 := fun e => h1 (List.length_eq_zero_iff.1 e)
    simp; omega]
   by_cases h2:r.head? = some 48
   ·rw [decide_eq_true h2]
    cases decide ((s.size:Int) - 1 > k) <;> rfl
   ·have:r.all v_dgt = false := by
     cases h3:r.all v_dgt with
     | false => rfl
     | true => exact absurd ⟨v_nml_iff.2 ⟨h1,h3,fun e => absurd e h2⟩,fun e => h2 (by rw [e]; rfl)⟩ hc
    rw [this]
    cases decide ((s.size:Int) - 1 > k) <;> cases decide (r.head? = some 48) <;> rfl
theorem v_nbr_pos {s:ByteArray} (h:s.data.toList.head? ≠ some 45) (k:Int) :
  v_nbr s k = cond (cond (cond ((s.size:Int) == 0) true (decide ((s.size:Int) - 0 > k))) true (cond (decide (s.data.toList.head? = some 48)) (decide ((s.size:Int) > 1)) false)) (0,false) (cond (s.data.toList.all v_dgt) ((v_dval s.data.toList 0:Int),true) (0,false)) := by
 have hs := ba_len s
 unfold v_nbr
 generalize s.data.toList = l at h hs ⊢
 cases l with
 | nil =>
  rw [show ((s.size:Int) == 0) = true by have:s.size = 0 := hs.symm; rw [this]; rfl]; rfl
 | cons b r =>
  have hb:(b == 45) = false := by
   cases q:b == 45
   ·rfl
   ·exact absurd (by simpa using q) h
  unfold v_canon
  simp only [hb]
  rw [show ((s.size:Int) == 0) = false by have:r.length + 1 = s.size := hs; rw [← this]; simp; omega]
  by_cases hc:v_nml (b :: r) = true
  ·obtain ⟨g1,g2,g3⟩ := v_nml_iff.1 hc
   rw [if_pos hc,g2]
   dsimp only
   rw [decide_eq_false (show ¬ ((v_dval (b :: r) 0:Int) < 0) by omega)]
   have h1:(cond (decide ((b :: r).head? = some 48)) (decide ((s.size:Int) > 1)) false) = false := by
    by_cases e:(b :: r).head? = some 48
    ·rw [decide_eq_true e,decide_eq_false (by have := g3 e; omega)]; rfl
    ·rw [decide_eq_false e]; rfl
   rw [h1]
   by_cases hk:(s.size:Int) - 0≤k
   ·rw [decide_eq_false (show ¬ ((s.size:Int) - 0 > k) by omega),cond_false,decide_eq_true hk]; rfl
   ·rw [decide_eq_true (show ((s.size:Int) - 0 > k) by omega),cond_false,decide_eq_false hk]; rfl
  ·rw [if_neg hc]
   dsimp only
   by_cases h2:(b :: r).head? = some 48∧s.size ≠ 1
   ·have:(decide ((s.size:Int) > 1)) = true := decide_eq_true (by simp at hs; have := h2.2; omega)
    rw [decide_eq_true h2.1,this]
    cases decide ((s.size:Int) - 0 > k) <;> rfl
   ·have:(b :: r).all v_dgt = false := by
     cases h3:(b :: r).all v_dgt with
     | false => rfl
     | true => exact absurd (v_nml_iff.2 ⟨by simp,h3,fun e => by
       rcases Nat.decEq s.size 1 with g | g
       ·exact absurd ⟨e,g⟩ h2
       ·omega⟩) hc
    rw [this]
    cases decide ((s.size:Int) - 0 > k) <;> cases (cond (decide ((b :: r).head? = some 48)) (decide ((s.size:Int) > 1)) false) <;> rfl
end Go.Mx
namespace Go.Mx
open Go
def v_jn (b:UInt8):List (List UInt8)→List UInt8
 | [] => []
 | [p] => p
 | p :: q :: r => p ++ b :: v_jn b (q :: r)
theorem v_spb_jn {b:UInt8}:∀ {ps:List (List UInt8)},ps ≠ []→(∀ p∈ps,b ∉ p)→v_spb b (v_jn b ps) = ps
 | [],h,_ => absurd rfl h
 | [p],_,h => by simp only [v_jn]; exact v_spb_no (h p (by simp))
 | p :: q :: r,_,h => by
  simp only [v_jn]
  rw [v_spb_app (h p (by simp)),v_spb_jn (by simp) (fun x hx => h x (by simp at hx ⊢; exact .inr hx))]
theorem join_jn (b:UInt8):∀ ps:List (List UInt8),Lib.join ps [b] = v_jn b ps
 | [] => rfl
 | [p] => by show [b].intercalate [p] = p; simp [List.intercalate]
 | p :: q :: r => by
  have ih := join_jn b (q :: r)
  simp only [v_jn,← ih]
  show [b].intercalate (p :: q :: r) = _
  simp [Lib.join,List.intercalate]
theorem v_at_rng {l:List UInt8} (h:v_ate l = true) : -9223372036854775808≤v_atn l∧v_atn l≤9223372036854775807 := by
 unfold v_ate at h
 unfold v_atn
 cases e:Lib.atoiAll l
 case ok v => exact Lib.atoiAll_bounds e
 all_goals (rw [e] at h; cases h)
end Go.Mx
namespace Go.Mx
open Go
theorem v_dig_len:∀ (k n:Nat),1≤k→n < 10 ^ k→(Lib.decDigits n).length≤k
 | 0,_,h,_ => by omega
 | k + 1,n,_,h => by
  rw [Lib.decDigits]
  split
  ·simp
  ·rename_i h10
   rcases Nat.eq_zero_or_pos k with rfl | hk
   ·simp at h; omega
   ·rw [List.length_append]
    have := v_dig_len k (n / 10) hk (by rw [Nat.pow_succ] at h; omega)
    simp; omega
theorem v_itoa_len {n:Int} (h1 : -9223372036854775808≤n) (h2:n≤9223372036854775807):(v_itoa n).size≤20 := by
 rw [← ba_len]
 show (Lib.itoa n).length≤20
 unfold Lib.itoa
 split
 ·have := v_dig_len 19 n.natAbs (by decide) (by omega)
  simp; omega
 ·have := v_dig_len 19 n.toNat (by decide) (by omega)
  omega
def v_in64 (n:Int):Prop := -9223372036854775808≤n∧n≤9223372036854775807
theorem v_itoa_len' {n:Int} (h:v_in64 n):(v_itoa n).size≤20 := v_itoa_len h.1 h.2
def v_fmt {α:Type} (w:α→ByteArray) (l:List α):ByteArray := v_join (l.map w) ⟨#[32]⟩
theorem v_join_size (c:Nat) (b:UInt8):∀ xs:List ByteArray,(∀ x∈xs,x.size≤c)→(v_join xs ⟨#[b]⟩).size≤xs.length * (c + 1) := by
 intro xs h
 rw [← ba_len]
 show (Lib.join (xs.map (·.data.toList)) [b]).length≤_
 rw [join_jn]
 induction xs with
 | nil => simp [v_jn]
 | cons x r ih =>
  have hx := h x (by simp)
  have ih := ih (fun y hy => h y (by simp [hy]))
  cases r with
  | nil => simp only [List.map_cons,List.map_nil,v_jn,List.length_cons,List.length_nil]; rw [ba_len]; omega
  | cons y r =>
   simp only [List.map_cons,v_jn,List.length_append,List.length_cons] at ih ⊢
   rw [ba_len,Nat.add_mul (r.length + 1) 1,Nat.one_mul]
   omega
theorem v_fmt_snoc {α:Type} (w:α→ByteArray) (l:List α) (x:α):v_fmt w (l ++ [x]) = cond (decide (l = [])) (w x) (v_scat (v_scat (v_fmt w l) ⟨#[32]⟩) (w x)) := by
 cases l with
 | nil =>
  refine ba_ext ?_
  show Lib.join [(w x).data.toList] [32] = _
  rw [Lib.join_one]; rfl
 | cons y r =>
  rw [decide_eq_false (by simp),cond_false]
  refine ba_ext ?_
  rw [v_scat_list,v_scat_list]
  show Lib.join (((y :: r ++ [x]).map w).map (·.data.toList)) [32] = Lib.join (((y :: r).map w).map (·.data.toList)) [32] ++ [32] ++ (w x).data.toList
  rw [List.cons_append,List.map_cons,List.map_cons,List.map_cons,List.map_cons,Lib.join_cons,Lib.join_cons]
  unfold Lib.joinTail
  simp [List.append_assoc]
theorem fmt_is {α:Type} {l:List α} (d:α) (w:α→ByteArray) {dd:ByteArray} {st:Int×ByteArray→(Int×ByteArray) ⊕ ByteArray} {sp:Int×ByteArray→List Prop} (hl:l.length≤1000) (hw:∀ x∈l,(w x).size≤100)
  (hst:∀ y,st y = cond (decide (y.1 < (l.length:Int))) (cond (decide (y.1 > 0)) (.inl (IntKind.i64.wrap (y.1 + 1),v_scat (v_scat y.2 ⟨#[32]⟩) (w (l.getD y.1.toNat d)))) (.inl (IntKind.i64.wrap (y.1 + 1),v_scat y.2 (w (l.getD y.1.toNat d))))) (.inr y.2))
  (hsp:∀ (j:Nat) (o:ByteArray),j≤l.length→o.size≤1000000→(j < l.length→l.getD j d∈l)→∀ q∈sp ((j:Int),o),q):OkL st sp (0,⟨#[]⟩)∧lpv dd st (0,⟨#[]⟩) = v_fmt w l := by
 have hsz:∀ j,j≤l.length→(v_fmt w (l.take j)).size≤101000 := fun j hj => by
  have := v_join_size 100 32 ((l.take j).map w) (fun x hx => by
   obtain ⟨y,hy,rfl⟩ := List.mem_map.1 hx
   exact hw y (List.mem_of_mem_take hy))
  have hlen:((l.take j).map w).length≤1000 := by simp; omega
  unfold v_fmt
  omega
 have h := for_is (dd := dd) (st := st) (sp := sp) (fun i (t:ByteArray) => (i,t)) 0 l.length
  (fun j t => t = v_fmt w (l.take j)) (fun _ _ => v_fmt w l) (Nat.zero_le _) (by omega) (fun t ht => ?_) (fun j t _ hj ht => ?_) ⟨#[]⟩ rfl
 ·exact h
 ·subst ht
  refine ⟨hsp _ _ (Nat.le_refl _) (by have := hsz l.length (Nat.le_refl _); omega) (fun h => absurd h (Nat.lt_irrefl _)),?_⟩
  rw [hst,decide_eq_false (show ¬ (((l.length:Nat):Int) < l.length) by omega),List.take_length]
  rfl
 ·subst ht
  have hmem := getD_mem' d hj
  refine ⟨hsp _ _ (Nat.le_of_lt hj) (by have := hsz j (Nat.le_of_lt hj); omega) (fun _ => hmem),.inl ?_⟩
  rw [hst,decide_eq_true (show ((j:Nat):Int) < l.length by omega)]
  simp only [cond_true,Int.toNat_natCast]
  rw [wrap_nat (show (j:Int)≤9223372036854775806 by omega)]
  have htake:l.take (j + 1) = l.take j ++ [l.getD j d] := by
   rw [List.take_add_one,List.getElem?_eq_getElem hj,List.getD_eq_getElem?_getD,List.getElem?_eq_getElem hj]; rfl
  have hsn := v_fmt_snoc w (l.take j) (l.getD j d)
  rw [← htake] at hsn
  by_cases h0:j = 0
  ·subst h0
   rw [decide_eq_false (show ¬ (((0:Nat):Int) > 0) by omega)]
   refine ⟨_,rfl,?_,trivial⟩
   rw [hsn,List.take_zero,decide_eq_true rfl,cond_true]
   exact v_scat_nil _
  ·rw [decide_eq_true (show ((j:Nat):Int) > 0 by omega)]
   refine ⟨_,rfl,?_,trivial⟩
   rw [hsn,decide_eq_false (show ¬ l.take j = [] from fun e => by
    have h2:(l.take j).length = 0 := by rw [e]; rfl
    rw [List.length_take] at h2; omega)]
   rfl
theorem join_is {α:Type} {l:List α} (d:α) (w:α→ByteArray) {dd:ByteArray} {st:Int×List ByteArray→(Int×List ByteArray) ⊕ ByteArray} {sp:Int×List ByteArray→List Prop} (hl:l.length≤1000) (hw:∀ x∈l,(w x).size≤100)
  (hst:∀ y,st y = cond (decide (y.1 < (l.length:Int))) (.inl (IntKind.i64.wrap (y.1 + 1),y.2 ++ [w (l.getD y.1.toNat d)])) (.inr (v_join y.2 ⟨#[32]⟩)))
  (hsp:∀ (j:Nat) (o:List ByteArray),j≤l.length→o.length≤1000→(v_join o ⟨#[32]⟩).size≤1000000→(j < l.length→l.getD j d∈l)→∀ q∈sp ((j:Int),o),q):OkL st sp (0,[])∧lpv dd st (0,[]) = v_fmt w l := by
 have hsz:∀ j,j≤l.length→(v_join ((l.take j).map w) ⟨#[32]⟩).size≤101000∧((l.take j).map w).length≤1000 := fun j hj => by
  have := v_join_size 100 32 ((l.take j).map w) (fun x hx => by
   obtain ⟨y,hy,rfl⟩ := List.mem_map.1 hx
   exact hw y (List.mem_of_mem_take hy))
  have hlen:((l.take j).map w).length≤1000 := by simp; omega
  omega
 have h := for_is (dd := dd) (st := st) (sp := sp) (fun i (t:List ByteArray) => (i,t)) 0 l.length
  (fun j t => t = (l.take j).map w) (fun _ _ => v_fmt w l) (Nat.zero_le _) (by omega) (fun t ht => ?_) (fun j t _ hj ht => ?_) [] rfl
 ·exact h
 ·subst ht
  have hz := hsz l.length (Nat.le_refl _)
  refine ⟨hsp _ _ (Nat.le_refl _) hz.2 (by omega) (fun h => absurd h (Nat.lt_irrefl _)),?_⟩
  rw [hst,decide_eq_false (show ¬ (((l.length:Nat):Int) < l.length) by omega),List.take_length]
  rfl
 ·subst ht
  have hmem := getD_mem' d hj
  have hz := hsz j (Nat.le_of_lt hj)
  refine ⟨hsp _ _ (Nat.le_of_lt hj) hz.2 (by omega) (fun _ => hmem),.inl ?_⟩
  rw [hst,decide_eq_true (show ((j:Nat):Int) < l.length by omega)]
  simp only [cond_true,Int.toNat_natCast]
  rw [wrap_nat (show (j:Int)≤9223372036854775806 by omega)]
  have htake:l.take (j + 1) = l.take j ++ [l.getD j d] := by
   rw [List.take_add_one,List.getElem?_eq_getElem hj,List.getD_eq_getElem?_getD,List.getElem?_eq_getElem hj]; rfl
  refine ⟨_,rfl,?_,trivial⟩
  rw [htake,List.map_append]; rfl
theorem v_ct_fmt {α:Type} {w:α→ByteArray} {l:List α} (hne:l ≠ []) (h:∀ x∈l,(32:UInt8) ∉ (w x).data.toList):v_ct (v_fmt w l) 32 = l.map w := by
 unfold v_ct v_fmt
 show (v_spb 32 (Lib.join ((l.map w).map (·.data.toList)) [32])).map _ = _
 rw [join_jn,v_spb_jn (by simpa using hne) (fun p hp => by
  simp only [List.map_map,List.mem_map,Function.comp] at hp
  obtain ⟨x,hx,rfl⟩ := hp
  exact h x hx),List.map_map,List.map_map]
 exact List.map_congr_left fun x _ => rfl
end Go.Mx
namespace Go.Mx
open Go
theorem splitK_count (b:UInt8):∀ (k:Nat) (l:List UInt8),l.count b≤k→Lib.splitK [b] 0 k l = v_spb b l
 | 0,l,h => by
  have hn:b ∉ l := fun hm => by have := List.count_pos_iff.2 hm; omega
  rw [v_spb_no hn]; rfl
 | k + 1,l,h => by
  rw [v_spb_is b l,Lib.splitK,Lib.index_one]
  by_cases h2:(Lib.indexByte l b == -1) = true
  ·rw [if_pos h2,if_pos h2]
  ·rw [if_neg h2,if_neg h2,Nat.add_zero]
   congr 1
   refine splitK_count b k _ ?_
   have hge := Lib.indexByte_ge l b
   have hne:Lib.indexByte l b ≠ -1 := by simpa using h2
   have hs := (Lib.indexByte_some (l := l) (c := b) (o := (Lib.indexByte l b).toNat) (by omega)).1
   have hlt := (List.getElem?_eq_some_iff.1 hs).1
   have hl:l = l.take (Lib.indexByte l b).toNat ++ b :: l.drop ((Lib.indexByte l b).toNat + 1) := by
    have e := (List.take_append_drop (Lib.indexByte l b).toNat l).symm
    rw [List.drop_eq_getElem_cons hlt,(List.getElem?_eq_some_iff.1 hs).2] at e
    exact e
   have hc:l.count b = (l.take (Lib.indexByte l b).toNat).count b + ((l.drop ((Lib.indexByte l b).toNat + 1)).count b + 1) := by
    conv => lhs; rw [hl]
    rw [List.count_append,List.count_cons_self]
   show (l.drop ((Lib.indexByte l b).toNat + 1)).count b≤k
   omega
theorem v_spl_ct (s:ByteArray) (b:UInt8):v_spl s ⟨#[b]⟩ = v_ct s b.toNat := by
 have hc:Lib.countB s ⟨#[b]⟩ = s.data.toList.count b := Lib.count_one b s.data.toList
 have h := Lib.splitB_data ⟨#[b]⟩ 0 (Lib.countB s ⟨#[b]⟩) s
 have h2:Lib.splitK (⟨#[b]⟩ : ByteArray).data.toList 0 (Lib.countB s ⟨#[b]⟩) s.data.toList = v_spb b s.data.toList := splitK_count b _ _ (by rw [hc]; exact Nat.le_refl _)
 rw [h2] at h
 unfold v_ct v_spl
 rw [show UInt8.ofNat ((b.toNat:Int)).toNat = b by simp,← h,List.map_map]
 exact (List.map_id _).symm.trans (List.map_congr_left fun x _ => rfl)
def v_nbk (k:Int) (s:ByteArray):Option Int := cond (v_nbr s k).2 (some (v_nbr s k).1) none
theorem v_nbk_iff {k:Int} {s:ByteArray} {n:Int}:v_nbk k s = some n ↔ v_canon s.data.toList = some n∧(s.size:Int) - (cond (decide (n < 0)) 1 0)≤k := by
 unfold v_nbk v_nbr
 cases h:v_canon s.data.toList with
 | none => simp
 | some m =>
  dsimp only
  by_cases hk:(s.size:Int) - (cond (decide (m < 0)) 1 0)≤k
  ·rw [decide_eq_true hk]
   simp only [cond_true,sJ]
   exact ⟨fun e => by subst e; exact ⟨rfl,hk⟩,fun e => e.1⟩
  ·rw [decide_eq_false hk]
   simp only [cond_false,sJ,reduceCtorEq,false_iff]
   rintro ⟨rfl,h2⟩
   exact hk h2
theorem v_nbk_none {k:Int} {s:ByteArray} (h:v_nbk k s = none):(v_nbr s k).2 = false := by
 unfold v_nbk at h
 cases e:(v_nbr s k).2 with
 | false => rfl
 | true => rw [e] at h; cases h
theorem v_nbk_some {k:Int} {s:ByteArray} {n:Int} (h:v_nbk k s = some n):v_nbr s k = (n,true) := by
 unfold v_nbk at h
 cases e:(v_nbr s k).2 with
 | false => rw [e] at h; cases h
 | true =>
  rw [e] at h
  simp only [cond_true,sJ] at h
  exact Prod.ext h e
theorem v_trimp_size (s:ByteArray):((v_trimp s ⟨#[45]⟩).size:Int) = (s.size:Int) - (cond (decide (s.data.toList.head? = some 45)) 1 0) := by
 rw [← ba_len,← ba_len]
 show ((Lib.trimPrefix s.data.toList [45]).length:Int) = _
 unfold Lib.trimPrefix
 cases hl:s.data.toList with
 | nil => rfl
 | cons c r =>
  by_cases hc:c = 45
  ·subst hc
   have:Lib.hasPrefix ((45:UInt8) :: r) [45] = true := by simp [Lib.hasPrefix]
   rw [if_pos this,decide_eq_true (show ((45:UInt8) :: r).head? = some 45 from rfl)]
   simp
  ·have:Lib.hasPrefix (c :: r) [45] = false := by
    show ((45:UInt8) == c && ([]:List UInt8).isPrefixOf r) = false
    rw [show ((45:UInt8) == c) = false from beq_false_of_ne (fun e => hc e.symm)]; rfl
   rw [this,decide_eq_false (show ¬ (c :: r).head? = some 45 by simp [hc])]
   simp
theorem v_canon_head {l:List UInt8} {n:Int} (h:v_canon l = some n):decide (l.head? = some 45) = decide (n < 0) := by
 have hi := v_canon_of h
 subst hi
 unfold Lib.itoa
 by_cases hn:n < 0
 ·rw [if_pos hn,decide_eq_true hn]; rfl
 ·rw [if_neg hn,decide_eq_false hn]
  refine decide_eq_false fun e => ?_
  have hd := v_dig_all n.toNat
  cases hx:Lib.decDigits n.toNat with
  | nil => exact absurd hx (v_dig_ne _)
  | cons a r =>
   rw [hx] at e hd
   rw [List.all_cons,Bool.and_eq_true] at hd
   simp only [List.head?_cons,sJ] at e
   rw [e] at hd
   exact absurd hd.1 (by decide)
theorem v_nbk_prog {k:Int} (hk:k≤16) (s:ByteArray):cond (cond (!(v_ate s.data.toList)) true (!(v_seq (v_itoa (v_atn s.data.toList)) s))) true (decide (((v_trimp s ⟨#[45]⟩).size:Int) > k)) = (v_nbk k s).isNone∧∀ n,v_nbk k s = some n→v_atn s.data.toList = n := by
 have hseq:v_seq (v_itoa (v_atn s.data.toList)) s = decide (Lib.itoa (v_atn s.data.toList) = s.data.toList) := by
  rw [v_seq_iff]
  refine decide_eq_decide.2 ⟨fun e => congrArg (fun x:ByteArray => x.data.toList) e,fun e => ba_ext ?_⟩
  exact e
 rw [hseq,v_trimp_size]
 by_cases hl:s.data.toList.length≤18
 ·cases hc:v_canon s.data.toList with
  | some n =>
   obtain ⟨h1,h2,h3⟩ := (v_at_iff hl).2 hc
   rw [h1,h3,decide_eq_true (show Lib.itoa n = s.data.toList by rw [← h3]; exact h2),v_canon_head hc]
   by_cases hd:(s.size:Int) - (cond (decide (n < 0)) 1 0)≤k
   ·have:v_nbk k s = some n := v_nbk_iff.2 ⟨hc,hd⟩
    rw [this,decide_eq_false (show ¬ (s.size:Int) - (cond (decide (n < 0)) 1 0) > k by omega)]
    exact ⟨rfl,fun m e => Option.some.inj e⟩
   ·have:v_nbk k s = none := by
     cases e:v_nbk k s with
     | none => rfl
     | some m =>
      obtain ⟨g1,g2⟩ := v_nbk_iff.1 e
      rw [hc] at g1
      obtain rfl := Option.some.inj g1
      exact absurd g2 hd
    rw [this,decide_eq_true (show (s.size:Int) - (cond (decide (n < 0)) 1 0) > k by omega)]
    exact ⟨rfl,fun m e => by cases e⟩
  | none =>
   have:v_nbk k s = none := by
    cases e:v_nbk k s with
    | none => rfl
    | some m => have := (v_nbk_iff.1 e).1; rw [hc] at this; cases this
   rw [this]
   refine ⟨?_,fun n e => by cases e⟩
   by_cases hi:Lib.itoa (v_atn s.data.toList) = s.data.toList
   ·have := v_canon_iff.2 hi.symm
    rw [hc] at this; cases this
   ·rw [decide_eq_false hi]
    cases v_ate s.data.toList <;> rfl
 ·rw [ba_len] at hl
  have:v_nbk k s = none := by
   cases e:v_nbk k s with
   | none => rfl
   | some m =>
    have := (v_nbk_iff.1 e).2
    have h2:cond (decide (m < 0)) (1:Int) 0≤1 := by cases decide (m < 0) <;> decide
    omega
  have h2:(cond (decide (s.data.toList.head? = some 45)) (1:Int) 0)≤1 := by cases decide (s.data.toList.head? = some 45) <;> decide
  rw [this,decide_eq_true (show (s.size:Int) - (cond (decide (s.data.toList.head? = some 45)) 1 0) > k by omega)]
  refine ⟨?_,fun n e => by cases e⟩
  cases (cond (!(v_ate s.data.toList)) true (!(decide (Lib.itoa (v_atn s.data.toList) = s.data.toList)))) <;> rfl
def v_gn (k sg:Int):List ByteArray→List Int→Option (List Int)
 | [],o => some o
 | w :: r,o => match v_nbk k w with
  | some n => cond (cond (decide (n < 0)) (decide ((o.length:Int) < sg)) false) none (v_gn k sg r (o ++ [n]))
  | none => none
def v_gnp (k sg:Int) (l:List ByteArray):List Int×Bool := match v_gn k sg l [] with
 | some x => (x,true)
 | none => ([],false)
def v_gno (x:Option (List Int)):List Int×Bool := match x with
 | some x => (x,true)
 | none => ([],false)
theorem gn_rng {k sg:Int} {st:List Int→ByteArray→List Int ⊕ (List Int×Bool)} {sp:List Int→ByteArray→List Prop} {fin:List Int→List Int×Bool} {fp:List Int→List Prop}
  (hst:∀ y z,st y z = match v_nbk k z with | some n => cond (cond (decide (n < 0)) (decide ((y.length:Int) < sg)) false) (.inr ([],false)) (.inl (y ++ [n])) | none => .inr ([],false)) (hfin:∀ y,fin y = (y,true))
  (hsp:∀ y z,y.length≤1100000→z.size≤1000000→∀ q∈sp y z,q) (hfp:∀ y,∀ q∈fp y,q) (l:List ByteArray) (hl:l.length≤1100000) (hz:∀ z∈l,z.size≤1000000):OkR st sp fp l []∧rngV st fin l [] = v_gnp k sg l := by
 refine rng_is (fun r y => y.length + r.length≤1100000∧∀ z∈r,z.size≤1000000) (fun r y => v_gno (v_gn k sg r y)) (fun y _ => ⟨hfp y,hfin y⟩) (fun z r y hI => ?_) l [] ⟨by simpa using hl,hz⟩
 obtain ⟨h1,h2⟩ := hI
 refine ⟨hsp y z (by omega) (h2 z (by simp)),?_⟩
 rw [hst,v_gn]
 cases v_nbk k z with
 | none => rfl
 | some n =>
  dsimp only
  cases cond (decide (n < 0)) (decide ((y.length:Int) < sg)) false with
  | true => rfl
  | false => exact ⟨⟨by simp at h1 ⊢; omega,fun z hz => h2 z (by simp [hz])⟩,rfl⟩
theorem gn_lp {k sg:Int} {l:List ByteArray} {dd:List Int×Bool} {st:Int×List Int→(Int×List Int) ⊕ (List Int×Bool)} {sp:Int×List Int→List Prop}
  (hst:∀ y,st y = cond (decide (y.1 < (l.length:Int))) (match v_nbk k (l.getD y.1.toNat ⟨#[]⟩) with | some n => cond (cond (decide (n < 0)) (decide (y.1 < sg)) false) (.inr ([],false)) (.inl (IntKind.i64.wrap (y.1 + 1),y.2 ++ [n])) | none => .inr ([],false)) (.inr (y.2,true)))
  (hsp:∀ (j:Nat) (o:List Int),j≤l.length→o.length≤1100000→(l.getD j ⟨#[]⟩).size≤1000000→∀ q∈sp ((j:Int),o),q) (hl:l.length≤1100000) (hz:∀ z∈l,z.size≤1000000):OkL st sp (0,[])∧lpv dd st (0,[]) = v_gnp k sg l := by
 have hgz:∀ j,(l.getD j ⟨#[]⟩).size≤1000000 := fun j => by
  rcases Nat.lt_or_ge j l.length with h | h
  ·exact hz _ (getD_mem' _ h)
  ·rw [List.getD_eq_getElem?_getD,List.getElem?_eq_none h]; exact Nat.zero_le _
 have h := list_is (dd := dd) (st := st) (sp := sp) (fun i (t:List Int) => (i,t)) l (⟨#[]⟩ : ByteArray) (fun r t => t.length + r.length = l.length) (fun r t => v_gno (v_gn k sg r t)) (lenOk_le hl (by decide)) (fun t ht => ?_) (fun j t hj ht => ?_) [] (by simp)
 ·exact h
 ·refine ⟨hsp _ _ (Nat.le_refl _) (by simp at ht; omega) (hgz _),?_⟩
  rw [hst,decide_eq_false (Int.lt_irrefl _),cond_false]; rfl
 ·have ht2:t.length = j := by simp at ht; omega
  refine ⟨hsp _ _ (Nat.le_of_lt hj) (by omega) (hgz _),?_⟩
  rw [hst,decide_eq_true (show ((j:Nat):Int) < l.length by omega),cond_true,Int.toNat_natCast,v_gn]
  cases hf:v_nbk k (l.getD j ⟨#[]⟩) with
  | none => exact .inr rfl
  | some n =>
   dsimp only
   rw [ht2]
   cases cond (decide (n < 0)) (decide ((j:Int) < sg)) false with
   | true => exact .inr rfl
   | false =>
    left
    rw [wrap_nat (show (j:Int)≤9223372036854775806 by omega)]
    exact ⟨_,rfl,by simp at ht ⊢; omega,rfl⟩
theorem v_gn_len {k sg:Int}:∀ {l:List ByteArray} {o r:List Int},v_gn k sg l o = some r→r.length = o.length + l.length
 | [],o,r,h => by simp only [v_gn,sJ] at h; subst h; rfl
 | w :: l,o,r,h => by
  rw [v_gn] at h
  cases hw:v_nbk k w with
  | none => rw [hw] at h; cases h
  | some n =>
   rw [hw] at h
   dsimp only at h
   cases hc:cond (decide (n < 0)) (decide ((o.length:Int) < sg)) false with
   | true => rw [hc] at h; cases h
   | false =>
    rw [hc,cond_false] at h
    have := v_gn_len h
    simp at this ⊢; omega
theorem v_nbk_itoa {k:Nat} {n:Int} (hk:1≤k) (h:n.natAbs < 10 ^ k):v_nbk k (v_itoa n) = some n := by
 refine v_nbk_iff.2 ⟨v_canon_itoa n,?_⟩
 rw [← ba_len]
 show ((Lib.itoa n).length:Int) - _≤_
 unfold Lib.itoa
 by_cases hn:n < 0
 ·rw [if_pos hn,decide_eq_true hn]
  have := v_dig_len k n.natAbs hk h
  simp; omega
 ·rw [if_neg hn,decide_eq_false hn]
  have := v_dig_len k n.toNat hk (by omega)
  simp; omega
theorem v_gn_map {k:Nat} {sg:Int} (hk:1≤k):∀ {l o:List Int},(∀ x∈l,x.natAbs < 10 ^ k)→(∀ (i:Nat) x,l[i]? = some x→x < 0→sg≤(o.length + i:Nat))→v_gn k sg (l.map v_itoa) o = some (o ++ l)
 | [],o,_,_ => by simp [v_gn]
 | n :: l,o,h1,h2 => by
  rw [List.map_cons,v_gn,v_nbk_itoa hk (h1 n (by simp))]
  dsimp only
  have hc:cond (decide (n < 0)) (decide ((o.length:Int) < sg)) false = false := by
   by_cases hn:n < 0
   ·have := h2 0 n rfl hn
    rw [decide_eq_true hn,decide_eq_false (show ¬ (o.length:Int) < sg by omega)]; rfl
   ·rw [decide_eq_false hn]; rfl
  rw [hc,cond_false,v_gn_map hk (fun x hx => h1 x (by simp [hx])) (fun i x hi hx => by
   have := h2 (i + 1) x (by simpa using hi) hx
   simp at this ⊢; omega)]
  simp
theorem v_itoa_no' {n:Int} {b:UInt8} (hb:v_dgt b = false) (h45:b ≠ 45):b ∉ (v_itoa n).data.toList := fun hm => by
 have hm:b∈Lib.itoa n := hm
 unfold Lib.itoa at hm
 split at hm
 ·rcases List.mem_cons.1 hm with h | hm
  ·exact h45 h
  ·have := List.all_eq_true.1 (v_dig_all _) b hm
   rw [hb] at this; cases this
 ·have := List.all_eq_true.1 (v_dig_all _) b hm
  rw [hb] at this; cases this
def v_inok (l:List Int):Prop := ∀ x∈l,v_in64 x
def v_tiok (l:List (Int×Int×Int×Int)):Prop := ∀ x∈l,v_in64 x.1∧v_in64 x.2.1∧v_in64 x.2.2.1∧v_in64 x.2.2.2
def v_tie (x:Int×Int×Int×Int):ByteArray := v_fmt v_itoa [x.1,x.2.1,x.2.2.1,x.2.2.2]
def v_fnet (p:Int×List (Int×Int×Int×Int)):ByteArray := v_join (v_itoa p.1 :: p.2.map v_tie) ⟨#[59]⟩
theorem v_fmt_one {α:Type} (w:α→ByteArray) (x:α):v_fmt w [x] = w x := ba_ext (by show Lib.join [(w x).data.toList] [32] = _; rw [Lib.join_one])
theorem v_tie_size {x:Int×Int×Int×Int} (h:v_in64 x.1∧v_in64 x.2.1∧v_in64 x.2.2.1∧v_in64 x.2.2.2):(v_tie x).size≤100 := by
 have := v_join_size 20 32 ([x.1,x.2.1,x.2.2.1,x.2.2.2].map v_itoa) (fun y hy => by
  obtain ⟨z,hz,rfl⟩ := List.mem_map.1 hy
  refine v_itoa_len' ?_
  simp only [List.mem_cons,List.not_mem_nil,or_false] at hz
  rcases hz with rfl | rfl | rfl | rfl
  ·exact h.1
  ·exact h.2.1
  ·exact h.2.2.1
  ·exact h.2.2.2)
 exact Nat.le_trans this (by simp)
theorem v_join_snoc (b:UInt8) (x:ByteArray):∀ l:List ByteArray,l ≠ []→v_join (l ++ [x]) ⟨#[b]⟩ = v_scat (v_scat (v_join l ⟨#[b]⟩) ⟨#[b]⟩) x
 | [],h => absurd rfl h
 | y :: r,_ => by
  refine ba_ext ?_
  rw [v_scat_list,v_scat_list]
  show Lib.join ((y :: r ++ [x]).map (·.data.toList)) [b] = Lib.join ((y :: r).map (·.data.toList)) [b] ++ [b] ++ x.data.toList
  rw [List.cons_append,List.map_cons,List.map_cons,Lib.join_cons,Lib.join_cons]
  unfold Lib.joinTail
  simp [List.append_assoc]
theorem v_take_snoc {α:Type} {l:List α} {j:Nat} (d:α) (hj:j < l.length):l.take (j + 1) = l.take j ++ [l.getD j d] := by
 rw [List.take_add_one,List.getElem?_eq_getElem hj,List.getD_eq_getElem?_getD,List.getElem?_eq_getElem hj]; rfl
theorem joinb_is {α:Type} {l:List α} (d:α) (w:α→ByteArray) (b:UInt8) (f0:ByteArray) {dd:ByteArray} {st:Int×List ByteArray→(Int×List ByteArray) ⊕ ByteArray} {sp:Int×List ByteArray→List Prop} (hl:l.length≤1000) (h0:f0.size≤100) (hw:∀ x∈l,(w x).size≤100)
  (hst:∀ y,st y = cond (decide (y.1 < (l.length:Int))) (.inl (IntKind.i64.wrap (y.1 + 1),y.2 ++ [w (l.getD y.1.toNat d)])) (.inr (v_join y.2 ⟨#[b]⟩)))
  (hsp:∀ (j:Nat) (o:List ByteArray),j≤l.length→o.length≤1001→(v_join o ⟨#[b]⟩).size≤1000000→(j < l.length→l.getD j d∈l)→∀ q∈sp ((j:Int),o),q):OkL st sp (0,[f0])∧lpv dd st (0,[f0]) = v_join (f0 :: l.map w) ⟨#[b]⟩ := by
 have hsz:∀ j,j≤l.length→(v_join (f0 :: (l.take j).map w) ⟨#[b]⟩).size≤102000∧(f0 :: (l.take j).map w).length≤1001 := fun j hj => by
  have := v_join_size 100 b (f0 :: (l.take j).map w) (fun x hx => by
   rcases List.mem_cons.1 hx with rfl | hx
   ·exact h0
   ·obtain ⟨y,hy,rfl⟩ := List.mem_map.1 hx
    exact hw y (List.mem_of_mem_take hy))
  have hlen:(f0 :: (l.take j).map w).length≤1001 := by simp; omega
  omega
 have h := for_is (dd := dd) (st := st) (sp := sp) (fun i (t:List ByteArray) => (i,t)) 0 l.length
  (fun j t => t = f0 :: (l.take j).map w) (fun _ _ => v_join (f0 :: l.map w) ⟨#[b]⟩) (Nat.zero_le _) (by omega) (fun t ht => ?_) (fun j t _ hj ht => ?_) [f0] rfl
 ·exact h
 ·subst ht
  have hz := hsz l.length (Nat.le_refl _)
  refine ⟨hsp _ _ (Nat.le_refl _) hz.2 (by omega) (fun h => absurd h (Nat.lt_irrefl _)),?_⟩
  rw [hst,decide_eq_false (Int.lt_irrefl _),List.take_length]
  rfl
 ·subst ht
  have hmem := getD_mem' d hj
  have hz := hsz j (Nat.le_of_lt hj)
  refine ⟨hsp _ _ (Nat.le_of_lt hj) hz.2 (by omega) (fun _ => hmem),.inl ?_⟩
  rw [hst,decide_eq_true (show ((j:Nat):Int) < l.length by omega)]
  simp only [cond_true,Int.toNat_natCast]
  rw [wrap_nat (show (j:Int)≤9223372036854775806 by omega)]
  refine ⟨_,rfl,?_,trivial⟩
  rw [v_take_snoc d hj,List.map_append]; rfl
theorem fmtb_is {α:Type} {l:List α} (d:α) (w:α→ByteArray) (b:UInt8) (f0:ByteArray) {dd:ByteArray} {st:Int×ByteArray→(Int×ByteArray) ⊕ ByteArray} {sp:Int×ByteArray→List Prop} (hl:l.length≤1000) (h0:f0.size≤100) (hw:∀ x∈l,(w x).size≤100)
  (hst:∀ y,st y = cond (decide (y.1 < (l.length:Int))) (.inl (IntKind.i64.wrap (y.1 + 1),v_scat (v_scat y.2 ⟨#[b]⟩) (w (l.getD y.1.toNat d)))) (.inr y.2))
  (hsp:∀ (j:Nat) (o:ByteArray),j≤l.length→o.size≤1000000→(j < l.length→l.getD j d∈l)→∀ q∈sp ((j:Int),o),q):OkL st sp (0,f0)∧lpv dd st (0,f0) = v_join (f0 :: l.map w) ⟨#[b]⟩ := by
 have hsz:∀ j,j≤l.length→(v_join (f0 :: (l.take j).map w) ⟨#[b]⟩).size≤102000 := fun j hj => by
  have := v_join_size 100 b (f0 :: (l.take j).map w) (fun x hx => by
   rcases List.mem_cons.1 hx with rfl | hx
   ·exact h0
   ·obtain ⟨y,hy,rfl⟩ := List.mem_map.1 hx
    exact hw y (List.mem_of_mem_take hy))
  have hlen:(f0 :: (l.take j).map w).length≤1001 := by simp; omega
  omega
 have h00:v_join [f0] ⟨#[b]⟩ = f0 := ba_ext (by show Lib.join [f0.data.toList] [b] = _; rw [Lib.join_one])
 have h := for_is (dd := dd) (st := st) (sp := sp) (fun i (t:ByteArray) => (i,t)) 0 l.length
  (fun j t => t = v_join (f0 :: (l.take j).map w) ⟨#[b]⟩) (fun _ _ => v_join (f0 :: l.map w) ⟨#[b]⟩) (Nat.zero_le _) (by omega) (fun t ht => ?_) (fun j t _ hj ht => ?_) f0 h00.symm
 ·exact h
 ·subst ht
  refine ⟨hsp _ _ (Nat.le_refl _) (by have := hsz l.length (Nat.le_refl _); omega) (fun h => absurd h (Nat.lt_irrefl _)),?_⟩
  rw [hst,decide_eq_false (Int.lt_irrefl _),List.take_length]
  rfl
 ·subst ht
  have hmem := getD_mem' d hj
  refine ⟨hsp _ _ (Nat.le_of_lt hj) (by have := hsz j (Nat.le_of_lt hj); omega) (fun _ => hmem),.inl ?_⟩
  rw [hst,decide_eq_true (show ((j:Nat):Int) < l.length by omega)]
  simp only [cond_true,Int.toNat_natCast]
  rw [wrap_nat (show (j:Int)≤9223372036854775806 by omega)]
  refine ⟨_,rfl,?_,trivial⟩
  rw [v_take_snoc d hj,List.map_append]
  exact (v_join_snoc b _ (f0 :: (l.take j).map w) (by simp)).symm
abbrev T4:Type := Int×Int×Int×Int
def v_pnf (i:Int) (t:Int×List T4) (row:ByteArray):(Int×List T4) ⊕ ((Int×List T4)×Int) := match v_gn 8 2 (v_ct row 32) [] with
 | some g => cond (i == 0) (match g with | [a] => .inl (a,t.2) | _ => .inr ((0,[]),7)) (match g with | [a,b,c,d] => .inl (t.1,t.2 ++ [(a,b,c,d)]) | _ => .inr ((0,[]),7))
 | none => .inr ((0,[]),7)
def v_pne (e:Int×List T4→Int) (t:Int×List T4):(Int×List T4)×Int := cond (e t != 0) ((0,[]),e t) (t,0)
def v_pnet (e:Int×List T4→Int) (s:ByteArray):(Int×List T4)×Int := cond (decide ((s.size:Int) > 60000)) ((0,[]),8) (v_go v_pnf (v_pne e) 0 (0,[]) (v_ct s 59))
theorem v_len1 (g:List Int):(∃ a,g = [a]) ∨ (((g.length:Int) == 1) = false∧∀ a,g ≠ [a]) := by
 match g with
 | [] => exact .inr ⟨rfl,by simp⟩
 | [a] => exact .inl ⟨a,rfl⟩
 | a :: b :: r => exact .inr ⟨beq_false_of_ne (by simp; omega),by simp⟩
theorem v_len4 (g:List Int):(∃ a b c d,g = [a,b,c,d]) ∨ (((g.length:Int) == 4) = false∧∀ a b c d,g ≠ [a,b,c,d]) := by
 match g with
 | [] => exact .inr ⟨rfl,by simp⟩
 | [_] => exact .inr ⟨rfl,by simp⟩
 | [_,_] => exact .inr ⟨rfl,by simp⟩
 | [_,_,_] => exact .inr ⟨rfl,by simp⟩
 | [a,b,c,d] => exact .inl ⟨a,b,c,d,rfl⟩
 | _ :: _ :: _ :: _ :: _ :: r => exact .inr ⟨beq_false_of_ne (by simp; omega),by simp⟩
theorem v_gnp_none {k sg:Int} {l:List ByteArray} (h:v_gn k sg l [] = none):v_gnp k sg l = ([],false) := by unfold v_gnp; rw [h]
theorem v_gnp_some {k sg:Int} {l:List ByteArray} {g:List Int} (h:v_gn k sg l [] = some g):v_gnp k sg l = (g,true) := by unfold v_gnp; rw [h]
theorem v_pnf_0 (t:Int×List T4) (row:ByteArray):v_pnf 0 t row = cond (cond (v_gnp 8 2 (v_ct row 32)).2 (((v_gnp 8 2 (v_ct row 32)).1.length:Int) == 1) false) (.inl ((v_gnp 8 2 (v_ct row 32)).1.getD 0 0,t.2)) (.inr ((0,[]),7)) := by
 unfold v_pnf
 cases h:v_gn 8 2 (v_ct row 32) [] with
 | none => rw [v_gnp_none h]; rfl
 | some g =>
  rw [v_gnp_some h]
  rcases v_len1 g with ⟨a,rfl⟩ | ⟨h1,h2⟩
  ·rfl
  ·simp only [h1,cond_true,cond_false]
   show (cond ((0:Int) == 0) _ _:(Int×List T4) ⊕ ((Int×List T4)×Int)) = _
   rw [show ((0:Int) == 0) = true from rfl,cond_true]
theorem v_pnf_1 {i:Int} (hi:i > 0) (t:Int×List T4) (row:ByteArray):v_pnf i t row = cond (cond (v_gnp 8 2 (v_ct row 32)).2 (((v_gnp 8 2 (v_ct row 32)).1.length:Int) == 4) false) (.inl (t.1,t.2 ++ [((v_gnp 8 2 (v_ct row 32)).1.getD 0 0,(v_gnp 8 2 (v_ct row 32)).1.getD 1 0,(v_gnp 8 2 (v_ct row 32)).1.getD 2 0,(v_gnp 8 2 (v_ct row 32)).1.getD 3 0)])) (.inr ((0,[]),7)) := by
 unfold v_pnf
 have h0:(i == 0) = false := beq_false_of_ne (by omega)
 cases h:v_gn 8 2 (v_ct row 32) [] with
 | none => rw [v_gnp_none h]; rfl
 | some g =>
  rw [v_gnp_some h]
  rcases v_len4 g with ⟨a,b,c,d,rfl⟩ | ⟨h1,h2⟩
  ·simp only [h0,cond_false]; rfl
  ·simp only [h1,h0,cond_true,cond_false]
theorem v_pnf_in {i:Int} {t t' : Int×List T4} {row:ByteArray} (h:v_pnf i t row = .inl t'):t'.2.length≤t.2.length + 1 := by
 unfold v_pnf at h
 cases hg:v_gn 8 2 (v_ct row 32) [] with
 | none => rw [hg] at h; cases h
 | some g =>
  rw [hg] at h
  dsimp only at h
  cases hi:(i == 0) with
  | true =>
   rw [hi,cond_true] at h
   split at h
   ·cases h; exact Nat.le_succ _
   ·cases h
  | false =>
   rw [hi,cond_false] at h
   split at h
   ·cases h; simp
   ·cases h
theorem pn_is {e:Int×List T4→Int} {l:List ByteArray} {dd:(Int×List T4)×Int} {st:Int×(Int×List T4)→(Int×(Int×List T4)) ⊕ ((Int×List T4)×Int)} {sp:Int×(Int×List T4)→List Prop} (hl:l.length≤70000) (hz:∀ z∈l,z.size≤60000)
  (hend:∀ y,¬ y.1 < (l.length:Int)→st y = .inr (v_pne e y.2))
  (hst:∀ y,0≤y.1→y.1 < (l.length:Int)→st y = match v_pnf y.1 y.2 (l.getD y.1.toNat ⟨#[]⟩) with | .inl t => .inl (IntKind.i64.wrap (y.1 + 1),t) | .inr v => .inr v)
  (hsp:∀ (j:Nat) (t:Int×List T4),j≤l.length→t.2.length≤70000→(l.getD j ⟨#[]⟩).size≤60000→∀ q∈sp ((j:Int),t),q)
  (a:Nat) (ha:a≤l.length) (t0:Int×List T4) (h0:t0.2.length≤a):OkL st sp ((a:Int),t0)∧lpv dd st ((a:Int),t0) = v_go v_pnf (v_pne e) a t0 (l.drop a) := by
 have hgz:∀ j,(l.getD j ⟨#[]⟩).size≤60000 := fun j => by
  rcases Nat.lt_or_ge j l.length with h | h
  ·exact hz _ (getD_mem' _ h)
  ·rw [List.getD_eq_getElem?_getD,List.getElem?_eq_none h]; exact Nat.zero_le _
 refine for_is (dd := dd) (st := st) (sp := sp) (fun i (t:Int×List T4) => (i,t)) a l.length (fun j t => t.2.length≤j) (fun j t => v_go v_pnf (v_pne e) j t (l.drop j)) ha (by omega) (fun t ht => ?_) (fun j t _ hj ht => ?_) t0 h0
 ·refine ⟨hsp _ _ (Nat.le_refl _) (by omega) (hgz _),?_⟩
  rw [hend _ (Int.lt_irrefl _),List.drop_length]; rfl
 ·refine ⟨hsp _ _ (Nat.le_of_lt hj) (by omega) (hgz _),?_⟩
  rw [hst _ (Int.natCast_nonneg j) (by show ((j:Nat):Int) < l.length; omega),drop_getD ⟨#[]⟩ hj,v_go_cons]
  dsimp only
  rw [Int.toNat_natCast]
  cases hf:v_pnf (j:Int) t (l.getD j ⟨#[]⟩) with
  | inl t' =>
   left
   rw [wrap_nat (show (j:Int)≤9223372036854775806 by omega)]
   exact ⟨t',rfl,by have := v_pnf_in hf; omega,rfl⟩
  | inr v => exact .inr rfl
theorem v_gn_12 (ws:List ByteArray):cond (v_gnp 8 1 ws).2 (((v_gnp 8 1 ws).1.length:Int) == 1) false = cond (v_gnp 8 2 ws).2 (((v_gnp 8 2 ws).1.length:Int) == 1) false∧(cond (v_gnp 8 2 ws).2 (((v_gnp 8 2 ws).1.length:Int) == 1) false = true→(v_gnp 8 1 ws).1 = (v_gnp 8 2 ws).1) := by
 match ws with
 | [w] =>
  have:v_gnp 8 1 [w] = v_gnp 8 2 [w] := by
   unfold v_gnp v_gn
   cases v_nbk 8 w with
   | none => rfl
   | some n => rfl
  rw [this]; exact ⟨rfl,fun _ => rfl⟩
 | [] => exact ⟨rfl,fun h => by cases h⟩
 | w :: w2 :: r =>
  have key:∀ sg,cond (v_gnp 8 sg (w :: w2 :: r)).2 (((v_gnp 8 sg (w :: w2 :: r)).1.length:Int) == 1) false = false := fun sg => by
   cases h:v_gn 8 sg (w :: w2 :: r) [] with
   | none => rw [v_gnp_none h]; rfl
   | some g =>
    have := v_gn_len h
    rw [v_gnp_some h]
    exact beq_false_of_ne (by simp at this ⊢; omega)
  rw [key 1,key 2]; exact ⟨rfl,fun h => by cases h⟩
theorem v_pnet_ref {e:Int×List T4→Int} {r:ByteArray} {rest:List ByteArray}:cond (cond (!(v_gnp 8 1 (v_ct r 32)).2) true (((v_gnp 8 1 (v_ct r 32)).1.length:Int) != 1)) ((0,[]),7) (v_go v_pnf (v_pne e) 1 ((v_gnp 8 1 (v_ct r 32)).1.getD 0 0,[]) rest) = v_go v_pnf (v_pne e) 0 (0,[]) (r :: rest) := by
 rw [v_go_cons,v_pnf_0]
 obtain ⟨h1,h2⟩ := v_gn_12 (v_ct r 32)
 have h3:cond (!(v_gnp 8 1 (v_ct r 32)).2) true (((v_gnp 8 1 (v_ct r 32)).1.length:Int) != 1) = !(cond (v_gnp 8 1 (v_ct r 32)).2 (((v_gnp 8 1 (v_ct r 32)).1.length:Int) == 1) false) := by
  cases (v_gnp 8 1 (v_ct r 32)).2 <;> rfl
 rw [h3,h1]
 cases hc:cond (v_gnp 8 2 (v_ct r 32)).2 (((v_gnp 8 2 (v_ct r 32)).1.length:Int) == 1) false with
 | false => rfl
 | true => rw [h2 hc]; rfl
theorem v_gnp_len (k sg:Int) (l:List ByteArray):(v_gnp k sg l).1.length≤l.length := by
 cases h:v_gn k sg l [] with
 | none => rw [v_gnp_none h]; exact Nat.zero_le _
 | some g => rw [v_gnp_some h]; have := v_gn_len h; simp at this; exact Nat.le_of_eq this
theorem v_ct_join {b:UInt8} {ws:List ByteArray} (hne:ws ≠ []) (h:∀ w∈ws,b ∉ w.data.toList):v_ct (v_join ws ⟨#[b]⟩) b.toNat = ws := by
 unfold v_ct
 rw [show UInt8.ofNat ((b.toNat:Int)).toNat = b by simp]
 show (v_spb b (Lib.join (ws.map (·.data.toList)) [b])).map _ = _
 rw [join_jn,v_spb_jn (by simpa using hne) (fun p hp => by
  obtain ⟨x,hx,rfl⟩ := List.mem_map.1 hp
  exact h x hx),List.map_map]
 exact (List.map_congr_left fun x _ => rfl).trans (List.map_id _)
theorem v_gn_fmt {k:Nat} {sg:Int} {l:List Int} (hk:1≤k) (hne:l ≠ []) (h1:∀ x∈l,x.natAbs < 10 ^ k) (h2:∀ (i:Nat) x,l[i]? = some x→x < 0→sg≤(i:Nat)):v_gn k sg (v_ct (v_fmt v_itoa l) 32) [] = some l := by
 rw [v_ct_fmt hne (fun x _ => v_itoa_no' rfl (by decide)),v_gn_map hk h1 (fun i x hi hx => by simpa using h2 i x hi hx)]; rfl
theorem v_jn_mem {b c:UInt8}:∀ {ws:List (List UInt8)},c∈v_jn b ws→c = b ∨ ∃ w∈ws,c∈w
 | [],h => by simp [v_jn] at h
 | [w],h => .inr ⟨w,by simp,h⟩
 | w :: w2 :: r,h => by
  simp only [v_jn,List.mem_append,List.mem_cons] at h
  rcases h with h | h | h
  ·exact .inr ⟨w,by simp,h⟩
  ·exact .inl h
  ·rcases v_jn_mem h with e | ⟨x,hx,hc⟩
   ·exact .inl e
   ·exact .inr ⟨x,List.mem_cons_of_mem _ hx,hc⟩
theorem v_join_mem {b c:UInt8} {ws:List ByteArray} (h:c∈(v_join ws ⟨#[b]⟩).data.toList):c = b ∨ ∃ w∈ws,c∈w.data.toList := by
 have h:c∈Lib.join (ws.map (·.data.toList)) [b] := h
 rw [join_jn] at h
 rcases v_jn_mem h with e | ⟨x,hx,hc⟩
 ·exact .inl e
 ·obtain ⟨w,hw,rfl⟩ := List.mem_map.1 hx
  exact .inr ⟨w,hw,hc⟩
theorem v_fmt_no {l:List Int} {b:UInt8} (h1:v_dgt b = false) (h2:b ≠ 45) (h3:b ≠ 32):b ∉ (v_fmt v_itoa l).data.toList := fun hm => by
 rcases v_join_mem hm with e | ⟨w,hw,hc⟩
 ·exact h3 e
 ·obtain ⟨x,_,rfl⟩ := List.mem_map.1 hw
  exact v_itoa_no' h1 h2 hc
def v_tism (x:T4):Prop := (0≤x.1∧x.1 < 100000000)∧(0≤x.2.1∧x.2.1 < 100000000)∧(-100000000 < x.2.2.1∧x.2.2.1 < 100000000)∧(-100000000 < x.2.2.2∧x.2.2.2 < 100000000)
theorem v_gn_tie {x:T4} (h:v_tism x):v_gn 8 2 (v_ct (v_tie x) 32) [] = some [x.1,x.2.1,x.2.2.1,x.2.2.2] := by
 obtain ⟨h1,h2,h3,h4⟩ := h
 refine v_gn_fmt (k := 8) (by decide) (by simp) (fun y hy => ?_) (fun i y hi hy => ?_)
 ·simp only [List.mem_cons,List.not_mem_nil,or_false] at hy
  rcases hy with rfl | rfl | rfl | rfl <;> omega
 ·match i,hi with
  | 0,hi => simp at hi; omega
  | 1,hi => simp at hi; omega
  | 2,_ => decide
  | 3,_ => decide
  | i + 4,hi => simp at hi
theorem v_go_ties {e:Int×List T4→Int}:∀ (l:List T4) (i:Int) (t:Int×List T4),0 < i→(∀ x∈l,v_tism x)→v_go v_pnf (v_pne e) i t (l.map v_tie) = v_pne e (t.1,t.2 ++ l)
 | [],i,t,_,_ => by rw [List.append_nil]; rfl
 | x :: l,i,t,hi,h => by
  rw [List.map_cons,v_go_cons]
  have hp:v_pnf i t (v_tie x) = .inl (t.1,t.2 ++ [x]) := by
   unfold v_pnf
   rw [v_gn_tie (h x (by simp))]
   dsimp only
   rw [show (i == 0) = false from beq_false_of_ne (by omega)]; rfl
  rw [hp]
  dsimp only
  rw [v_go_ties l (i + 1) _ (by omega) (fun y hy => h y (by simp [hy])),List.append_assoc]; rfl
theorem v_pnet_rt {e:Int×List T4→Int} {p:Int×List T4} (h0:0≤p.1∧p.1 < 100000000) (hl:p.2.length≤100) (h:∀ x∈p.2,v_tism x) (he:e p = 0):v_pnet e (v_fnet p) = (p,0) := by
 have hb:∀ w∈v_itoa p.1 :: p.2.map v_tie,(59:UInt8) ∉ w.data.toList := fun w hw => by
  rcases List.mem_cons.1 hw with rfl | hw
  ·exact v_itoa_no' rfl (by decide)
  ·obtain ⟨x,_,rfl⟩ := List.mem_map.1 hw
   exact v_fmt_no rfl (by decide) (by decide)
 have hct := v_ct_join (b := 59) (by simp) hb
 have hsz:(v_fnet p).size≤60000 := by
  have := v_join_size 100 59 (v_itoa p.1 :: p.2.map v_tie) (fun w hw => by
   rcases List.mem_cons.1 hw with rfl | hw
   ·exact Nat.le_trans (v_itoa_len (by omega) (by omega)) (by decide)
   ·obtain ⟨x,hx,rfl⟩ := List.mem_map.1 hw
    obtain ⟨a,b,c,d⟩ := h x hx
    exact v_tie_size ⟨⟨by omega,by omega⟩,⟨by omega,by omega⟩,⟨by omega,by omega⟩,⟨by omega,by omega⟩⟩)
  unfold v_fnet
  simp only [List.length_cons,List.length_map] at this
  omega
 unfold v_pnet
 rw [decide_eq_false (show ¬ ((v_fnet p).size:Int) > 60000 by omega),cond_false]
 have hct' : v_ct (v_fnet p) 59 = v_itoa p.1 :: p.2.map v_tie := hct
 rw [hct',v_go_cons]
 have h1:v_gn 8 2 (v_ct (v_itoa p.1) 32) [] = some [p.1] := by
  have := v_gn_fmt (k := 8) (sg := 2) (l := [p.1]) (by decide) (by simp) (fun y hy => by
   simp only [List.mem_singleton] at hy; subst hy; omega) (fun i y hi hy => by
   match i,hi with
   | 0,hi => simp at hi; omega
   | i + 1,hi => simp at hi)
  rw [v_fmt_one] at this; exact this
 have hp:v_pnf 0 (0,[]) (v_itoa p.1) = .inl (p.1,[]) := by
  unfold v_pnf
  rw [h1]; rfl
 rw [hp]
 dsimp only
 rw [v_go_ties _ _ _ (by decide) h]
 unfold v_pne
 show cond (e (p.1,[] ++ p.2) != 0) _ _ = _
 rw [List.nil_append]
 show cond (e p != 0) _ _ = _
 rw [he]; rfl
theorem v_pnet_len (e:Int×List T4→Int) (s:ByteArray):lenOk (v_pnet e s).1.2 := by
 have go:∀ (l:List ByteArray) (i:Int) (t:Int×List T4),(v_go v_pnf (v_pne e) i t l).1.2.length≤t.2.length + l.length := by
  intro l
  induction l with
  | nil =>
   intro i t
   show (v_pne e t).1.2.length≤_
   unfold v_pne
   cases (e t != 0)
   ·exact Nat.le_refl _
   ·exact Nat.zero_le _
  | cons w l ih =>
   intro i t
   rw [v_go_cons]
   cases h:v_pnf i t w with
   | inl t' =>
    have h1 := v_pnf_in h
    have h2 := ih (i + 1) t'
    dsimp only
    simp only [List.length_cons]
    omega
   | inr v =>
    dsimp only
    have:v = ((0,[]),7) := by
     unfold v_pnf at h
     cases hg:v_gn 8 2 (v_ct w 32) [] with
     | none => rw [hg] at h; cases h; rfl
     | some g =>
      rw [hg] at h
      dsimp only at h
      cases hi:(i == 0) with
      | true =>
       rw [hi,cond_true] at h
       split at h
       ·cases h
       ·cases h; rfl
      | false =>
       rw [hi,cond_false] at h
       split at h
       ·cases h
       ·cases h; rfl
    rw [this]; exact Nat.zero_le _
 have:(v_pnet e s).1.2.length≤70000 := by
  unfold v_pnet
  by_cases h:(s.size:Int) > 60000
  ·rw [decide_eq_true h]; exact Nat.zero_le _
  ·rw [decide_eq_false h,cond_false]
   have h1 := go (v_ct s 59) 0 (0,[])
   have h2 := v_ct_len s 59
   simp only [List.length_nil] at h1
   omega
 unfold lenOk; omega
end Go.Mx
