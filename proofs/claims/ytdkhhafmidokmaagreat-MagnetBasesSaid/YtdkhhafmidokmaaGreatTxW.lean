/- Layers of the walk: abstract values, operations, calls, loops, and what they do. No condition. -/
import Derived.Test.YtdkhhafmidokmaaGreatTxX
namespace Go.Mx
variable [Laid]
open Go.RowKit

omit [Laid] in
theorem LeL.leS {ps qs:List Pv} (h:LeL ps qs):LeS ps qs := ⟨h.1,fun i x y h1 h2 S w v hv => (h.2 i x y h1 h2).rel hv⟩

def finOT (T:TSt) (e:Ty) (res:List ARes) (K:List e.den→Prop):Prop :=
 match resT T res with
 | some [.own s t] => match T.c s with
  | .dyn true t' l => match Nat.beq t'.n t.n,castL t' e l with
   | true,some l' => K l'
   | _,_ => False
  | _ => False
 | some [.nil] => K []
 | _ => False
def tfnO (F:TFn) (A:Nat→Ty) (C:Cons) (ps:List PSh) (e:Ty) (x:(tyPs ps).den) (K:List e.den→Prop):Prop :=
 match Nat.ble ps.length F.nt with
 | true => tev ⟨F.nt,F.ns,0,A,C⟩ F.code (fun ex T => match ex with
  | .exit _ => False
  | _ => finOT T e F.res K) (initT (tvPs ps x))
 | false => False

def finAT (T:TSt) (e:Ty) (res:List ARes) (K:List e.den→Prop):Prop :=
 match resT T res with
 | some [.agg [.own s t]] => match T.c s with
  | .dyn true t' l => match Nat.beq t'.n t.n,castL t' e l with
   | true,some l' => K l'
   | _,_ => False
  | _ => False
 | some [.agg [.nil]] => K []
 | _ => False
def tfnA (F:TFn) (A:Nat→Ty) (C:Cons) (ps:List PSh) (e:Ty) (x:(tyPs ps).den) (K:List e.den→Prop):Prop :=
 match Nat.ble ps.length F.nt with
 | true => tev ⟨F.nt,F.ns,0,A,C⟩ F.code (fun ex T => match ex with
  | .exit _ => False
  | _ => finAT T e F.res K) (initT (tvPs ps x))
 | false => False

section
variable {P:Program}
end

inductive TfO (F:TFn) (A:Nat→Ty) (C:Cons) (ps:List PSh) (e:Ty) (x:(tyPs ps).den) (K:List e.den→Prop):Prop
 | mk (h:tfnO F A C ps e x K):TfO F A C ps e x K
inductive TfA (F:TFn) (A:Nat→Ty) (C:Cons) (ps:List PSh) (e:Ty) (x:(tyPs ps).den) (K:List e.den→Prop):Prop
 | mk (h:tfnA F A C ps e x K):TfA F A C ps e x K
def ioTV:Nat→List TV→List TV
 | _,[] => []
 | j,.sl e _ :: r => .own j e :: ioTV (j + 1) r
 | j,_ :: r => .und :: ioTV (j + 1) r
def ioTC:List TV→Nat→TC
 | .sl e l :: _,0 => .dyn true e l
 | _ :: r,s + 1 => ioTC r s
 | _,_ => .dead
def initN (m:Nat) (vs:List TV):TSt := ⟨listT (vs.take (vs.length - m) ++ ioTV 0 (vs.drop (vs.length - m))),ioTC (vs.drop (vs.length - m)),fun _ => 0,fun _ => 0⟩
def ioBack (T:TSt):Nat→Nat→List TV
 | 0,_ => []
 | m + 1,j => (match T.c j with
  | .dyn true t _ => .own j t
  | _ => .und) :: ioBack T m (j + 1)
def sameV (T:TSt):Nat→Nat→Bool
 | 0,_ => true
 | m + 1,j => Nat.beq (T.v j) 0 && sameV T m (j + 1)
def finNT (m:Nat) (T:TSt) (rs:List PSh) (res:List ARes) (K:(tyPs rs).den→Prop):Prop :=
 match resT T res with
 | some vs => match sameV T m 0 && Nat.beq vs.length (rs.length - m) && vs.all isPure,packPs T.c rs (vs ++ ioBack T m 0) with
  | true,some z => K z
  | _,_ => False
 | none => False
def tfnN (F:TFn) (A:Nat→Ty) (C:Cons) (m:Nat) (ps rs:List PSh) (x:(tyPs ps).den) (K:(tyPs rs).den→Prop):Prop :=
 match Nat.ble ps.length F.nt with
 | true => tev ⟨F.nt,F.ns + m,m,A,C⟩ F.code (fun ex T => match ex with
  | .exit _ => False
  | _ => finNT m T rs F.res K) (initN m (tvPs ps x))
 | false => False

section
variable {P:Program}
end

inductive TfN (F:TFn) (A:Nat→Ty) (C:Cons) (m:Nat) (ps rs:List PSh) (x:(tyPs ps).den) (K:(tyPs rs).den→Prop):Prop
 | mk (h:tfnN F A C m ps rs x K):TfN F A C m ps rs x K
end Go.Mx
