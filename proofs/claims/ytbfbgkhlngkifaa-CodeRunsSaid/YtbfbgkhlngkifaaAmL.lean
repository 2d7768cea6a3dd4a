/- From the operations of the model to the abstract steps. Plain theorems.
   Conditions: none. -/
import Derived.Test.YtbfbgkhlngkifaaAmKa
namespace Go.Proofs.Ytbfbgkhlngkifaa.Am
open Go Go.RowKit
set_option linter.unusedVariables false
set_option linter.unusedSimpArgs false

def gd (b : Bool) (k : AK) : Option AK := match b with
  | true => some k
  | false => none
theorem gd_some {b : Bool} {k k' : AK} (h : gd b k = some k') : b = true ∧ k' = k := by
  cases b
  · cases h
  · cases h; exact ⟨rfl, rfl⟩
/-- The parts of a composite value with their places. -/
def placed (place : Nat → Option (Nat × Nat)) : List (Nat × Operand) → Option (List (Nat × Nat × Operand))
  | [] => some []
  | (i, x) :: r => match place i, placed place r with
    | some (o, s), some q => some ((o, s, x) :: q)
    | _, _ => none
theorem placed_fits {place : Nat → Option (Nat × Nat)} : ∀ {ps : List (Nat × Operand)} {qs : List (Nat × Nat × Operand)}, placed place ps = some qs → Fits place ps qs
  | [], qs, h => by cases h; rfl
  | (i, x) :: ps, qs, h => by
    simp only [placed] at h
    split at h
    · rename_i oo ss q h1 h2
      cases h
      have := placed_fits h2
      simp only [Fits, List.map_cons, h1] at this ⊢
      rw [this]
    · cases h
def okOpt (n : Nat) (x : Option Operand) : Bool := x.all (okO n)
def zeroOf (P : Program) (ty : TypeId) : Option (TypeInfo × Value) := match P.info? ty with
  | some ti => match ti.zero with
    | some z => some (ti, z)
    | none => none
  | none => none
def structPlaces (P : Program) (fs : List Field) : Option (List (Nat × Nat)) := fs.mapM fun f => (P.info? f.type).map fun i => (f.offset, i.size)
def okF (P : Program) (f : FuncId) : Bool := match P.funcs[f]? with
  | some fn => fn.body.isSome && !(fn.name == "runtime.NumGoroutine")
  | none => false

/-- Which function a method is, by the dynamic type. -/
def rowOf (P : Program) (name : String) (t : Nat) : Option (Nat × Nat) := match P.info? t with
  | some ti => match ti.methods.find? (·.name == name) with
    | some m => match m.path.toList, m.func with
      | [], some (f, false) => match P.underlying t with
        | some (.pointer _) => none
        | some _ => some (t, f)
        | none => none
      | _, _ => none
    | none => none
  | none => none
def rowsOf (P : Program) (name : String) : List (Nat × Nat) := (List.range P.types.size).filterMap (rowOf P name)
def cBuild (P : Program) (n : Nat) (ty : TypeId) (ps : Array (Nat × Operand)) : Option AK := match zeroOf P ty with
  | some (ti, z) => match P.underlying ty with
    | some (.struct fs) => match structPlaces P fs.toList with
      | some places => match placed (places.toArray[·]?) ps.toList with
        | some qs => gd (ps.toList.all (fun p => okO n p.2) && (cellsOf z).all plainV) (.build (cellsOf z) qs)
        | none => none
      | none => none
    | some (.array _ e) => match P.info? e with
      | some ie => match placed (fun i => some (i * ie.size, ie.size)) ps.toList with
        | some qs => gd (ps.toList.all (fun p => okO n p.2) && (cellsOf z).all plainV) (.build (cellsOf z) qs)
        | none => none
      | none => none
    | _ => none
  | none => none
def cBslice (P : Program) (n : Nat) (ty : TypeId) (len : Nat) (ps : Array (Nat × Operand)) : Option AK := match P.underlying ty with
  | some (.slice e) => match len, ps.toList, P.info? e with
   | 0, [], some _ => some (.bslice [] 0 [])
   | _, _, _ => match zeroOf P e with
    | some (ie, z) => match placed (fun i => some (i * ie.size, ie.size)) ps.toList with
      | some qs => gd (ps.toList.all (fun p => okO n p.2) && decide (0 < len * ie.size) && decide (len * ie.size ≤ 2 ^ 24) && (cellsOf z).all plainV && Nat.beq (cellsOf z).length ie.size) (.bslice (rep len (cellsOf z)) len qs)
      | none => none
    | none => none
  | _ => none
def cBin (P : Program) (n : Nat) (op : BinOp) (ty : TypeId) (x y : Operand) : Option AK := match op, P.underlying ty with
  | .eql, some .bool => gd (okO n x && okO n y) (.beq false x y)
  | .neq, some .bool => gd (okO n x && okO n y) (.beq true x y)
  | .eql, some (.pointer _) => gd (okO n x && okO n y) (.nileq false 0 x y)
  | .neq, some (.pointer _) => gd (okO n x && okO n y) (.nileq true 0 x y)
  | .eql, some (.slice _) => gd (okO n x && okO n y) (.nileq false 1 x y)
  | .neq, some (.slice _) => gd (okO n x && okO n y) (.nileq true 1 x y)
  | .eql, some (.func ..) => gd (okO n x && okO n y) (.nileq false 2 x y)
  | .neq, some (.func ..) => gd (okO n x && okO n y) (.nileq true 2 x y)
  | .eql, some (.struct _) | .eql, some (.array ..) => gd (okO n x && okO n y && plainT P 20 ty && !P.eqGuardType P.depth ty) (.eqa false (shapeT P 20 ty) x y)
  | .neq, some (.struct _) | .neq, some (.array ..) => gd (okO n x && okO n y && plainT P 20 ty && !P.eqGuardType P.depth ty) (.eqa true (shapeT P 20 ty) x y)
  | .shl, _ => match y with
    | .const (.int _ (.ofNat c)) => gd (okO n x) (.shlc x c)
    | y => gd (okO n x && okO n y) (.bin .shl x y)
  | .shr, _ => match y with
    | .const (.int _ (.ofNat c)) => gd (okO n x) (.shrc x c)
    | y => gd (okO n x && okO n y) (.bin .shr x y)
  | op, _ => gd (okO n x && okO n y) (.bin op x y)
def cConv (P : Program) (n : Nat) (src dst : TypeId) (x : Operand) : Option AK := match P.underlying src, P.underlying dst with
  | some (.int _), some (.int k) => gd (okO n x) (.cvi k x)
  | some .string, some (.slice e) => match P.underlying e with
    | some (.int .u8) => gd (okO n x) (.sob x)
    | _ => none
  | some (.slice e), some .string => match P.underlying e with
    | some (.int .u8) => gd (okO n x) (.bos x)
    | _ => none
  | _, _ => none
def cCall (P : Program) (n : Nat) (c : Call) : Option AK := match c with
  | { callee := .value (.func f), args, .. } => gd (okF P f && args.toList.all (okO n)) (.call f args.toList)
  | { callee := .value (.tmp i), args, .. } => gd (args.toList.all (okO n)) (.callv (.tmp i) args.toList)
  | { callee := .invoke x name, args, .. } => gd (okO n x && args.toList.all (okO n) && (rowsOf P name).all (fun r => okF P r.2)) (.inv (rowsOf P name) x args.toList)
  | { callee := .builtin .len, args, argTypes } => match args.toList, argTypes.toList with
    | [x], [ty] => match P.underlying ty with
      | some (.slice _) => gd (okO n x) (.len x)
      | some .string => gd (okO n x) (.lens x)
      | _ => none
    | _, _ => none
  | { callee := .builtin .append, args, argTypes } => match args.toList, argTypes.toList with
    | [x, y], [sT, xT] => match P.underlying sT, P.underlying xT with
      | some (.slice e), some (.slice _) => match zeroOf P e with
        | some (ti, z) => gd (okO n x && okO n y && decide (0 < ti.bytes) && Nat.beq (cellsOf z).length ti.size) (.app ti.size ti.bytes x y)
        | none => none
      | some (.slice e), some .string => match zeroOf P e with
        | some (ti, z) => gd (okO n x && okO n y && Nat.beq ti.bytes 1 && Nat.beq (cellsOf z).length ti.size && Nat.beq ti.size 1) (.apps x y)
        | none => none
      | _, _ => none
    | _, _ => none
  | { callee := .builtin .copy, args, argTypes } => match args.toList, argTypes.toList with
    | [x, y], [dT, _] => match P.underlying dT with
      | some (.slice e) => match P.info? e with
        | some ti => gd (okO n x && okO n y) (.cpy ti.size x y)
        | none => none
      | _ => none
    | _, _ => none
  | { callee := .builtin .clear, args, argTypes } => match args.toList, argTypes.toList with
    | [x], [dT] => match P.underlying dT with
      | some (.slice e) => match zeroOf P e with
        | some (ti, z) => gd (okO n x && (cellsOf z).all plainV && decide (0 < (cellsOf z).length)) (.clr (cellsOf z) x)
        | none => none
      | _ => none
    | _, _ => none
  | { callee := .builtin .min, args, .. } => gd (args.toList.all (okO n)) (.mn args.toList)
  | { callee := .builtin .max, args, .. } => gd (args.toList.all (okO n)) (.mx args.toList)
  | _ => none
def cSlice (P : Program) (n : Nat) (ty : TypeId) (x : Operand) (lo hi mx : Option Operand) : Option AK := match P.underlying ty with
  | some (.slice e) => match P.info? e with
    | some ti => gd (okO n x && okOpt n lo && okOpt n hi && okOpt n mx) (.slc ti.size x lo hi mx)
    | none => none
  | some .string => match mx with
    | none => gd (okO n x && okOpt n lo && okOpt n hi) (.slcs x lo hi)
    | some _ => none
  | some (.array l e) => match P.info? e with
    | some ti => gd (okO n x && okOpt n lo && okOpt n hi && okOpt n mx) (.slca l ti.size x lo hi mx)
    | none => none
  | _ => none
def cField (P : Program) (n : Nat) (ty : TypeId) (x : Operand) (f : Nat) : Option AK := match P.underlying ty with
  | some (.struct fs) => match fs[f]? with
    | some fd => match P.underlying fd.type, P.info? fd.type with
      | some d, some ti => match aggD d with
        | true => gd (okO n x) (.fldN fd.offset ti.size x)
        | false => gd (okO n x) (.fld1 fd.offset x)
      | _, _ => none
    | none => none
  | _ => none
def cIndex (P : Program) (n : Nat) (ty : TypeId) (x i : Operand) : Option AK := match P.underlying ty with
  | some .string => gd (okO n x && okO n i) (.ixs x i)
  | some (.array l e) => match P.underlying e, P.info? e with
    | some d, some ti => match aggD d with
      | true => gd (okO n x && okO n i) (.ixaN l ti.size x i)
      | false => gd (okO n x && okO n i && Nat.beq ti.size 1) (.ixa1 l x i)
    | _, _ => none
  | _ => none
def cMap (P : Program) (n : Nat) (ty : TypeId) (K : TypeId → TypeDesc → TypeId → Option AK) : Option AK := match P.underlying ty with
  | some (.map kt et) => match P.underlying kt, plainT P 20 kt with
    | some dd, true => K kt dd et
    | _, _ => none
  | _ => none
def cUpd (P : Program) (n : Nat) (ty : TypeId) (x k y : Operand) : Option AK := cMap P n ty fun kt dd _ => gd (okO n x && okO n k && okO n y) (.upd (kaD dd) (shapeT P 20 kt) x k y)
def cLkp (P : Program) (n : Nat) (ty : TypeId) (x k : Operand) (ok : Bool) : Option AK := cMap P n ty fun kt dd et => match zeroOf P et with
  | some (_, z) => gd (okO n x && okO n k && (cellsOf z).all plainV) (.lkp (kaD dd) (shapeT P 20 kt) (isAggV z) (cellsOf z) ok x k)
  | none => none
def cTas (P : Program) (n : Nat) (ty : TypeId) (ok : Bool) (x : Operand) : Option AK := match P.underlying ty, zeroOf P ty with
  | some d, some (_, z) => gd (okO n x && !ifaceD d && (cellsOf z).all plainV) (.tas ty (isAggV z) (cellsOf z) ok x)
  | _, _ => none
def cK0 (P : Program) (n : Nat) : Op → Option AK
  | .move x | .assign x => gd (okO n x) (.mv x)
  | .pick c x y => gd (okO n c && okO n x && okO n y) (.pick c x y)
  | .alloc ty => match zeroOf P ty with
    | some (_, z) => gd ((cellsOf z).all plainV) (.alloc (cellsOf z))
    | none => none
  | .box _ x => gd (okO n x) (.box x)
  | .build ty ps => cBuild P n ty ps
  | .buildSlice ty len ps => cBslice P n ty len ps
  | .load ty x => match P.underlying ty, P.info? ty with
    | some d, some ti => match aggD d with
      | true => gd (okO n x) (.ldN ti.size x)
      | false => gd (okO n x) (.ld1 x)
    | _, _ => none
  | .store ty x y => match P.info? ty with
    | some ti => gd (okO n x && okO n y) (.st ti.size x y)
    | none => none
  | .nilCheck x => gd (okO n x) (.nil x)
  | .binOp op ty x y _ => cBin P n op ty x y
  | .unOp op _ x => gd (okO n x) (.un op x)
  | .convert src dst x => cConv P n src dst x
  | .makeInterface ty x => match P.underlying ty with
    | some d => gd (okO n x && !ifaceD d) (.mkif ty x)
    | none => none
  | .makeFunc (.func f) us vs => gd (us.toList.all (okO n) && vs.toList.all (okO n)) (.mkf f us.toList vs.toList)
  | .makeSlice ty l c => match P.underlying ty with
    | some (.slice e) => match zeroOf P e with
      | some (ti, z) => gd (okO n l && okO n c && (cellsOf z).all plainV && Nat.beq (cellsOf z).length ti.size && decide (0 < ti.size)) (.mks (cellsOf z) ti.bytes l c)
      | none => none
    | _ => none
  | .slice ty x lo hi mx => cSlice P n ty x lo hi mx
  | .fieldAddr ty x f => match P.underlying ty with
    | some (.struct fs) => match fs[f]? with
      | some fd => match P.info? fd.type with
        | some ti => gd (okO n x && !(Nat.beq ti.size 0)) (.fa fd.offset x)
        | none => none
      | none => none
    | _ => none
  | .field ty x f => cField P n ty x f
  | .indexAddr ty x i => match P.underlying ty with
    | some (.slice e) => match P.info? e with
      | some ti => gd (okO n x && okO n i) (.ia ti.size x i)
      | none => none
    | some (.array l e) => match P.info? e with
      | some ti => gd (okO n x && okO n i) (.iaa l ti.size x i)
      | none => none
    | _ => none
  | .index ty x i => cIndex P n ty x i
  | .extract x i => gd (okO n x) (.ext x i)
  | .makeMap ty r => match P.underlying ty with
    | some (.map _ _) => gd (okOpt n r) (.mkm r)
    | _ => none
  | .mapUpdate ty x k y => cUpd P n ty x k y
  | .insert ty x k y => cUpd P n ty x k y
  | .lookup ty x k ok => cLkp P n ty x k ok
  | .typeAssert x _ ty ok => cTas P n ty ok x
  | .call c => cCall P n c
  | _ => none
/-- What is not covered is never to be reached. -/
def cK (P : Program) (n : Nat) (op : Op) : Option AK := match cK0 P n op with
  | some k => some k
  | none => some .stuck
theorem cK_of {P : Program} {n : Nat} {op : Op} {k : AK} (h : cK P n op = some k) : cK0 P n op = some k ∨ k = .stuck := by
  unfold cK at h
  split at h
  · rename_i k' hk
    cases h
    exact .inl hk
  · cases h
    exact .inr rfl

def AK.isPure : AK → Bool
  | .mv _ | .pick .. | .build .. | .nil _ | .bin .. | .shlc .. | .shrc .. | .un .. | .cvi .. | .mkif .. | .mkf .. | .slc .. | .slcs .. | .slca .. | .fa .. | .fld1 .. | .fldN .. | .ia .. | .iaa .. | .ixs .. | .ixa1 .. | .ixaN .. | .ext ..
  | .len _ | .lens _ | .mn _ | .mx _ | .nileq .. | .eqa .. | .beq .. | .tas .. => true
  | _ => false
def AK.isCall : AK → Bool
  | .call .. | .callv .. | .inv .. => true
  | _ => false
end Go.Proofs.Ytbfbgkhlngkifaa.Am
