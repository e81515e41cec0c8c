/- Operations are resolved by a function, and what it gives is what the model does. -/
import Derived.Test.YtbhlolmglieehaaEngD
set_option linter.unusedSimpArgs false
set_option linter.unusedVariables false
namespace Go.Proofs.Ytbhlolmglieehaa
namespace Eng

def smallDesc : TypeDesc → Bool
  | .bool | .pointer _ | .slice _ | .map _ _ | .func _ _ _ | .interface _ => true
  | _ => false

def partsAt (place : Nat → Option (Nat × Nat)) (parts : Array (Nat × Operand)) : Option (List (Nat × Nat × Operand)) :=
  parts.toList.mapM fun (i, x) => (place i).map fun p => (p.1, p.2, x)

def aggOf (P : Program) (t : TypeId) : Option Bool :=
  match P.underlying t with
  | some (.struct _) | some (.array _ _) => some true
  | some _ => some false
  | none => none

def compileOp (P : Program) (o : Op) (T : TypeId) : Option EOp :=
  match o with
  | .move x => some (.mv x)
  | .assign x => some (.mv x)
  | .pick c a b => some (.pick c a b)
  | .nilCheck x => some (.nilc x)
  | .alloc t => match P.info? t with
    | some i => i.zero.map fun z => .alloc (vcells z) t
    | none => none
  | .box t x => some (.box x t)
  | .load t x => match aggOf P t with
    | some true => (P.info? t).map fun i => .ldn x i.size
    | some false => some (.ld1 x)
    | none => none
  | .store t x y => (P.info? t).map fun i => .st x y i.size
  | .fieldAddr s x f => match P.underlying s with
    | some (.struct fs) => match fs[f]? with
      | some fd => match P.info? fd.type with
        | some i => if i.size = 0 then none else some (.off x fd.offset)
        | none => none
      | none => none
    | _ => none
  | .binOp op t x y _ => match P.underlying t with
    | some (.int _) | some .string => some (.bin op x y)
    | some (.array n e) => match P.underlying e, op with
      | some (.int k), .eql => if P.eqGuardType P.depth t = false ∧ P.cellsOf e = 1 then some (.eqa false t k n x y) else none
      | some (.int k), .neq => if P.eqGuardType P.depth t = false ∧ P.cellsOf e = 1 then some (.eqa true t k n x y) else none
      | _, _ => none
    | some d => if smallDesc d then (match op with
      | .eql => some (.eqv d false x y)
      | .neq => some (.eqv d true x y)
      | _ => none) else none
    | none => none
  | .unOp op _ x => some (.un op x)
  | .convert s t x => match P.underlying s, P.underlying t with
    | some (.int _), some (.int k) => some (.cvI k x)
    | some .string, some .string => some (.cvSS x)
    | some .string, some (.slice e) => match P.underlying e with
      | some (.int .u8) => some (.cvSB e x)
      | _ => none
    | some (.slice _), some (.slice e) => match P.underlying e with
      | some (.int .u8) => if s = t then some (.cvLit x) else none
      | _ => none
    | some (.slice e), some .string => match P.underlying e with
      | some (.int .u8) => some (.cvBS x)
      | _ => none
    | _, _ => none
  | .field t x f => match P.underlying t with
    | some (.struct fs) => match fs[f]? with
      | some fd => match aggOf P fd.type, P.info? fd.type with
        | some true, some i => some (.fld x fd.offset (some i.size))
        | some false, _ => some (.fld x fd.offset none)
        | _, _ => none
      | none => none
    | _ => none
  | .extract x i => some (.ext x i)
  | .indexAddr t x i => match P.underlying t with
    | some (.slice e) => (P.info? e).map fun j => .ixS x i j.size
    | some (.array n e) => (P.info? e).map fun j => .ixA x i n j.size
    | _ => none
  | .index t x i => match P.underlying t with
    | some .string => some (.idS x i)
    | some (.array n e) => match aggOf P e, P.info? e with
      | some true, some j => some (.idA x i n j.size (some j.size))
      | some false, some j => some (.idA x i n j.size none)
      | _, _ => none
    | _ => none
  | .slice t x lo hi mx => match P.underlying t with
    | some (.slice e) => (P.info? e).map fun j => .slS x j.size lo hi mx
    | some (.array n e) => (P.info? e).map fun j => .slA x n j.size lo hi mx
    | some .string => if mx.isSome then none else some (.slT x lo hi)
    | _ => none
  | .build t parts => match P.info? t, P.underlying t with
    | some i, some (.struct fs) => match i.zero with
      | some z => (partsAt (fun k => (fs[k]?).bind fun f => (P.info? f.type).map fun j => (f.offset, j.size)) parts).bind fun ps =>
          if fs.all fun f => (P.info? f.type).isSome then some (.build (vcells z) ps) else none
      | none => none
    | some i, some (.array _ e) => match i.zero, P.info? e with
      | some z, some j => (partsAt (fun k => some (k * j.size, j.size)) parts).map fun ps => .build (vcells z) ps
      | _, _ => none
    | _, _ => none
  | .buildSlice t n parts => match P.underlying t with
    | some (.slice e) => match P.info? e with
      | some j => match j.zero with
        | some z => if n * j.size > 2 ^ 24 ∨ (vcells z).length ≠ j.size ∨ j.size = 0 then none else
            (partsAt (fun k => some (k * j.size, j.size)) parts).map fun ps => .bsl e (zerosL (vcells z) n) n ps
        | none => none
      | none => none
    | _ => none
  | .makeSlice t l c => match P.underlying t with
    | some (.slice e) => match P.info? e with
      | some j => match j.zero with
        | some z => if (vcells z).length ≠ j.size ∨ j.size = 0 ∨ j.bytes = 0 then none else some (.mks e (vcells z) j.bytes l c)
        | none => none
      | none => none
    | _ => none
  | .makeFunc fn first cap => some (.mkf fn first cap)
  | .makeInterface t x => match P.underlying t with
    | some (.interface _) => none
    | some _ => some (.mki t x)
    | none => none
  | .call c => match c.callee with
    | .value (.func g) => match P.funcs[g]? with
      | some fn => if fn.body.isSome = true ∧ (fn.name == "runtime.NumGoroutine") = false then some (.call g c.args) else none
      | none => none
    | .value f => some (.callv f c.args)
    | .builtin .len => match c.argTypes[0]?, c.args[0]? with
      | some t, some x => match P.underlying t with
        | some .string => some (.lenT x)
        | some (.slice _) => some (.len x)
        | some (.map _ _) => some (.lenm x)
        | _ => none
      | _, _ => none
    | .builtin .append => match c.argTypes[0]?, c.argTypes[1]?, c.args[0]?, c.args[1]? with
      | some t, some u, some x, some y => match P.underlying t, P.underlying u with
        | some (.slice e), some (.slice _) | some (.slice e), some .string => match P.info? e with
          | some j => match j.zero with
            | some z => if (vcells z).length ≠ j.size ∨ j.size = 0 ∨ j.bytes = 0 then none else some (.app e (vcells z) j.bytes x y)
            | none => none
          | none => none
        | _, _ => none
      | _, _, _, _ => none
    | .builtin .copy => match c.argTypes[0]?, c.args[0]?, c.args[1]? with
      | some t, some x, some y => match P.underlying t with
        | some (.slice e) => (P.info? e).map fun j => .cpy j.size x y
        | _ => none
      | _, _, _ => none
    | .builtin .max => match c.args with
      | ⟨[x, y]⟩ => some (.mx2 x y)
      | _ => none
    | .builtin .min => match c.args with
      | ⟨[x, y]⟩ => some (.mn2 x y)
      | _ => none
    | _ => some (.raw (.call c) T)
  | o => some (.raw o T)

end Eng
end Go.Proofs.Ytbhlolmglieehaa
