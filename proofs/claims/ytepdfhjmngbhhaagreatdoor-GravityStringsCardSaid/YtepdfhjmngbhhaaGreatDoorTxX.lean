/- Layers of the walk: abstract values, operations, calls, loops, and what they do. No condition. -/
import Derived.Test.YtepdfhjmngbhhaaGreatDoorTxL
namespace Go.Mx
variable [Laid]
open Go.RowKit
def initM (t:Ty) (x:t.den):TSt := ⟨listT [.ptr 0 0 []],fun s => match s with | 0 => .cells true (explode t x) | _ + 1 => .dead,fun _ => 0,fun _ => 0⟩
def isPure:TV→Bool
 | .i _ _ => true
 | .b _ => true
 | _ => false
def finMT (T:TSt) (t r:Ty) (res:List ARes) (K:r.den×t.den→Prop):Prop :=
 match resT T res with
 | some [v] => match Nat.beq (T.v 0) 0 && isPure v,packPs T.c [.one r] [v],T.c 0 with
  | true,some z,.cells true cs => match imp1 t cs with
   | some y => K (z,y)
   | none => False
  | _,_,_ => False
 | _ => False
def tfnM (F:TFn) (A:Nat→Ty) (C:Cons) (t r:Ty) (x:t.den) (K:r.den×t.den→Prop):Prop :=
 match Nat.ble 1 F.nt with
 | true => tev ⟨F.nt,F.ns + 1,1,A,C⟩ F.code (fun e T => match e with
  | .exit _ => False
  | _ => finMT T t r F.res K) (initM t x)
 | false => False
section
variable {P:Program}
def initM2 (u t:Ty) (z:u.den) (x:t.den):TSt := ⟨listT [tvP (.one u) z,.ptr 0 0 []],fun s => match s with | 0 => .cells true (explode t x) | _ + 1 => .dead,fun _ => 0,fun _ => 0⟩
def tfnM2 (F:TFn) (A:Nat→Ty) (C:Cons) (u t r:Ty) (z:u.den) (x:t.den) (K:r.den×t.den→Prop):Prop :=
 match Nat.ble 2 F.nt with
 | true => tev ⟨F.nt,F.ns + 1,1,A,C⟩ F.code (fun e T => match e with
  | .exit _ => False
  | _ => finMT T t r F.res K) (initM2 u t z x)
 | false => False
end

inductive TfM (F:TFn) (A:Nat→Ty) (C:Cons) (t r:Ty) (x:t.den) (K:r.den×t.den→Prop):Prop
 | mk (h:tfnM F A C t r x K):TfM F A C t r x K
inductive TfM2 (F:TFn) (A:Nat→Ty) (C:Cons) (u t r:Ty) (z:u.den) (x:t.den) (K:r.den×t.den→Prop):Prop
 | mk (h:tfnM2 F A C u t r z x K):TfM2 F A C u t r z x K
end Go.Mx
