/- An evaluator of the program's own code over an abstract heap. -/
import Derived.LoopN
import Derived.OrdersHeld
namespace Go.Proofs.YtohnakjamlhhkaaGreatDoor
open Go
set_option linter.unusedVariables false
noncomputable section

/-! ### The abstract heap -/
inductive AObj where
  | row (elem : TypeId) (cells : List Value) (mate : Option Nat)
  | map (es : List (Value × Value))
  | dead
  /-- An iterator over a map. -/
  | iter (m : Nat)
inductive HT where
  | leaf
  | node (v : Option AObj) (l r : HT)
def HT.get (t : HT) : Nat → Option AObj :=
  HT.rec (fun _ => none) (fun v _ _ gl gr n =>
    Nat.rec v (fun m _ => Nat.rec (gl (Nat.div m 2)) (fun _ _ => gr (Nat.div m 2)) (Nat.mod m 2)) n) t
def HT.one (v : AObj) (k : Nat) : Nat → HT :=
  Nat.rec (fun _ => .leaf) (fun _ ih n =>
    Nat.rec (.node (some v) .leaf .leaf) (fun m _ => Nat.rec (.node none (ih (Nat.div m 2)) .leaf) (fun _ _ => .node none .leaf (ih (Nat.div m 2))) (Nat.mod m 2)) n) k
def HT.set (v : AObj) (n : Nat) (t : HT) : HT :=
  HT.rec (fun n => HT.one v 24 n) (fun u l r sl sr n =>
    Nat.rec (.node (some v) l r) (fun m _ => Nat.rec (.node u (sl (Nat.div m 2)) r) (fun _ _ => .node u l (sr (Nat.div m 2))) (Nat.mod m 2)) n) t n
structure AH where
  heap : HT
  next : Nat
def AH.obj (A : AH) (i : Nat) : Option AObj := AH.rec (fun h _ => HT.get h i) A
def AH.put (A : AH) (i : Nat) (o : AObj) : AH := match A with
  | ⟨h, n⟩ => ⟨h.set o i, n⟩
/-- A number is computed before it is used. -/
def force {α : Type} (k : Nat → α) : Nat → α
  | 0 => k 0
  | n + 1 => k (Nat.succ n)
def AH.new (A : AH) (o : AObj) : Nat × AH := match A with
  | ⟨h, n⟩ => force (fun n => (n, ⟨h.set o n, Nat.succ n⟩)) n
/-- Nothing is known of a cell. -/
def unk : Value := .chan none
/-- An object's knowledge is given up. -/
def AH.kill (A : AH) (i : Nat) : AH := A.put i .dead

def nth {α : Type} (l : List α) : Nat → Option α :=
  List.rec (fun _ => none) (fun x _ ih n => Nat.rec (some x) (fun m _ => ih m) n) l
def nthV (l : List Value) : Nat → Option Value :=
  List.rec (fun _ => none) (fun x _ ih n => Nat.rec (some x) (fun m _ => ih m) n) l
def drop_ {α : Type} (o : Nat) : List α → List α :=
  Nat.rec (fun l => l) (fun _ ih l => List.rec [] (fun _ xs _ => ih xs) l) o
def take_ {α : Type} (n : Nat) : List α → Option (List α) :=
  Nat.rec (fun _ => some []) (fun _ ih l => List.rec none (fun x xs _ => Option.rec none (fun r => some (x :: r)) (ih xs)) l) n
def slice_ {α : Type} (l : List α) (o n : Nat) : Option (List α) := take_ n (drop_ o l)
/-- vs are written into l from o on. -/
def write_ (l : List Value) : Nat → List Value → Option (List Value) :=
  List.rec (fun o vs => Nat.rec (List.rec (some []) (fun _ _ _ => none) vs) (fun _ _ => none) o)
    (fun x xs ih o vs => Nat.rec
      (List.rec (some (x :: xs)) (fun v vs _ => Option.rec none (fun r => some (v :: r)) (ih 0 vs)) vs)
      (fun m _ => Option.rec none (fun r => some (x :: r)) (ih m vs)) o) l
/-- How many, counted by the kernel's own hand. -/
def len_ {α : Type} (l : List α) : Nat := List.rec (fun n => n) (fun _ _ ih n => ih (Nat.succ n)) l 0

/-! ### Values without addresses -/
def flatN : Nat → Value → Bool
  | 0, _ => false
  | k + 1, v => match v with
    | .bool _ | .int _ _ | .float _ _ | .complex _ _ _ | .string _ | .nilFunc | .nilIface => true
    | .pointer none | .slice none 0 0 | .map none => true
    | .func _ f c => f.toList.isEmpty && c.toList.isEmpty
    | .iface _ v => flatN k v
    | .agg cs | .tuple cs => cs.toList.all (flatN k)
    | _ => false
def flat (v : Value) : Bool := flatN 6 v
/-- What a computation comes to that asks no world. -/
def peval {α : Type} (P : Program) : Sem α → Option α
  | .pure a => some a
  | .program k => peval P (k P)
  | .mark _ k => peval P k
  | _ => none
def oneC : Value → Bool
  | .agg _ | .tuple _ => false
  | .chan none => false
  | _ => true

/-! ### Bytes that are not known: 7 is a byte, 8 its text; 14 the check of a sector that holds it, 15 to 18 what is left of that, 9 to 12 its bytes, 13 the sealed sector's text -/
def cellEq : Value → Value → Bool
  | .int .u8 (.ofNat a), .int .u8 (.ofNat b) => Nat.beq a b
  | .chan (some a), .chan (some b) => Nat.beq a b
  | _, _ => false
def cellsEq : List Value → List Value → Bool
  | [], [] => true
  | a :: l, b :: m => cellEq a b && cellsEq l m
  | _, _ => false
def noughts : Nat → List Value
  | 0 => []
  | n + 1 => .int .u8 (.ofNat 0) :: noughts n
/-- A sector with the byte at its place. -/
def bodyL : List Value := noughts 9 ++ (.chan (some 7) :: noughts 6)
def sealL : List Value := bodyL ++ [.chan (some 9), .chan (some 10), .chan (some 11), .chan (some 12)]
/-- A text of such bytes. -/
def strK (r : List Value) : Option Nat := match cellsEq r [.chan (some 7)] with
  | true => some 8
  | false => match cellsEq r sealL with
    | true => some 13
    | false => none
/-! ### Frames -/
inductive FT where
  | leaf
  | node (v : Value) (l r : FT)
/-- The first c numbers, all without a value yet. -/
def fullA (k : Nat) : Nat → FT :=
  Nat.rec (fun _ => .leaf) (fun _ ih c => Nat.rec .leaf (fun m _ => .node undef (ih (Nat.sub m (Nat.div m 2))) (ih (Nat.div m 2))) c) k
structure RunV where
  run : FT → Option Value
structure RunS where
  run : Value → FT → Option FT
/-- A number of a frame, ready. -/
def getC (k : Nat) : Nat → RunV :=
  Nat.rec (fun _ => ⟨fun _ => none⟩) (fun _ ih n =>
    Nat.rec ⟨fun t => FT.rec none (fun v _ _ _ _ => some v) t⟩
      (fun m _ => Nat.rec ⟨fun t => FT.rec none (fun _ l _ _ _ => (ih (Nat.div m 2)).run l) t⟩
        (fun _ _ => ⟨fun t => FT.rec none (fun _ _ r _ _ => (ih (Nat.div m 2)).run r) t⟩) (Nat.mod m 2)) n) k
/-- A number of a frame gets a value, ready. -/
def setC (k : Nat) : Nat → RunS :=
  Nat.rec (fun _ => ⟨fun _ _ => none⟩) (fun _ ih n =>
    Nat.rec ⟨fun v t => FT.rec none (fun _ l r _ _ => some (.node v l r)) t⟩
      (fun m _ => Nat.rec ⟨fun v t => FT.rec none (fun u l r _ _ => Option.rec none (fun l => some (.node u l r)) ((ih (Nat.div m 2)).run v l)) t⟩
        (fun _ _ => ⟨fun v t => FT.rec none (fun u l r _ _ => Option.rec none (fun r => some (.node u l r)) ((ih (Nat.div m 2)).run v r)) t⟩) (Nat.mod m 2)) n) k
abbrev AFr := FT
def putC (d : Option Nat) : RunS := Option.rec ⟨fun _ F => some F⟩ (fun d => setC 12 d) d
def AFr.put (F : AFr) (d : Option Nat) (v : Value) : Option AFr := (putC d).run v F
/-- An operand, ready. -/
def evC : Operand → RunV
  | .tmp t => getC 12 t
  | .const v => match flat v with
    | true => ⟨fun _ => some v⟩
    | false => ⟨fun _ => none⟩
  | .global _ => ⟨fun _ => none⟩
  | .func f => ⟨fun _ => some (.func (.func f) #[] #[])⟩
def AFr.eval (F : AFr) (x : Operand) : Option Value := (evC x).run F
structure RunVs where
  run : FT → Option (List Value)
def evsC (l : List Operand) : RunVs :=
  List.rec ⟨fun _ => some []⟩ (fun x _ ih => ⟨fun F => Option.rec none (fun v => Option.rec none (fun vs => some (v :: vs)) (ih.run F)) ((evC x).run F)⟩) l
def AFr.evals (F : AFr) (l : List Operand) : Option (List Value) := (evsC l).run F
def args_ (l : List Value) : Nat → AFr → Option AFr :=
  List.rec (fun _ F => some F) (fun v _ ih k F => Option.rec none (ih (Nat.succ k)) ((setC 12 k).run v F)) l
def AFr.enter (n : Nat) (args : List Value) : Option AFr := args_ args 0 (fullA 12 n)

/-! ### Views of values -/
def ptrOf (v : Value) : Option Addr := Value.rec (motive_1 := fun _ => Option Addr) (motive_2 := fun _ => PUnit) (motive_3 := fun _ => PUnit)
  (fun _ => none) (fun _ _ => none) (fun _ _ => none) (fun _ _ _ => none) (fun _ => none) (fun a => a) (fun _ _ _ => none) (fun _ => none) (fun _ => none)
  (fun _ _ _ _ _ => none) none (fun _ _ _ => none) none (fun _ _ => none) (fun _ _ => none) (fun _ _ => ⟨⟩) ⟨⟩ (fun _ _ _ _ => ⟨⟩) v
/-- A small number's kind and size. -/
def smallOf (v : Value) : Option (IntKind × Nat) := Value.rec (motive_1 := fun _ => Option (IntKind × Nat)) (motive_2 := fun _ => PUnit) (motive_3 := fun _ => PUnit)
  (fun _ => none) (fun k n => Int.rec (fun n => some (k, n)) (fun _ => none) n) (fun _ _ => none) (fun _ _ _ => none) (fun _ => none) (fun _ => none) (fun _ _ _ => none) (fun _ => none) (fun _ => none)
  (fun _ _ _ _ _ => none) none (fun _ _ _ => none) none (fun _ _ => none) (fun _ _ => none) (fun _ _ => ⟨⟩) ⟨⟩ (fun _ _ _ _ => ⟨⟩) v
def boolOf (v : Value) : Option Bool := Value.rec (motive_1 := fun _ => Option Bool) (motive_2 := fun _ => PUnit) (motive_3 := fun _ => PUnit)
  (fun b => some b) (fun _ _ => none) (fun _ _ => none) (fun _ _ _ => none) (fun _ => none) (fun _ => none) (fun _ _ _ => none) (fun _ => none) (fun _ => none)
  (fun _ _ _ _ _ => none) none (fun _ _ _ => none) none (fun _ _ => none) (fun _ _ => none) (fun _ _ => ⟨⟩) ⟨⟩ (fun _ _ _ _ => ⟨⟩) v
/-- A slice that has a row: where, how long, how much room. -/
def slcOf (v : Value) : Option (Addr × Nat × Nat) := Value.rec (motive_1 := fun _ => Option (Addr × Nat × Nat)) (motive_2 := fun _ => PUnit) (motive_3 := fun _ => PUnit)
  (fun _ => none) (fun _ _ => none) (fun _ _ => none) (fun _ _ _ => none) (fun _ => none) (fun _ => none) (fun a n c => Option.rec none (fun a => some (a, n, c)) a) (fun _ => none) (fun _ => none)
  (fun _ _ _ _ _ => none) none (fun _ _ _ => none) none (fun _ _ => none) (fun _ _ => none) (fun _ _ => ⟨⟩) ⟨⟩ (fun _ _ _ _ => ⟨⟩) v
/-- A value that fills one cell. -/
def oneOf (v : Value) : Bool := Value.rec (motive_1 := fun _ => Bool) (motive_2 := fun _ => PUnit) (motive_3 := fun _ => PUnit)
  (fun _ => true) (fun _ _ => true) (fun _ _ => true) (fun _ _ _ => true) (fun _ => true) (fun _ => true) (fun _ _ _ => true) (fun _ => true) (fun r => Option.rec false (fun _ => true) r)
  (fun _ _ _ _ _ => true) true (fun _ _ _ => true) true (fun _ _ => false) (fun _ _ => false) (fun _ _ => ⟨⟩) ⟨⟩ (fun _ _ _ _ => ⟨⟩) v

/-! ### Operations -/
inductive Out where
  | val (v : Value) (A : AH)
  | skip (A : AH)
  | call (f : FuncId) (args : List Value) (A : AH)

variable (P : Program)
def info (t : TypeId) : Option TypeInfo := P.info? t
def und (t : TypeId) : Option TypeDesc := P.underlying t
def sizeT (t : TypeId) : Option Nat := match P.info? t with
  | some i => some i.size
  | none => none
def zeroT (t : TypeId) : Option Value := match P.info? t with
  | some i => i.zero
  | none => none
def isAggT (t : TypeId) : Option Bool := match P.underlying t with
  | some (.struct _) | some (.array _ _) => some true
  | some _ => some false
  | none => none
def loadA (A : AH) (t : TypeId) (b o : Nat) : Option Value := match A.obj b with
  | some (.row _ cs _) => match isAggT P t with
    | some true => match sizeT P t with
      | some n => match slice_ cs o n with
        | some r => some (.agg r.toArray)
        | none => none
      | none => none
    | some false => nth cs o
    | none => none
  | _ => none
/-- The mate's knowledge is given up. -/
def unmate (A : AH) (m : Option Nat) : AH := match m with
  | some m => A.kill m
  | none => A
def storeCellsA (A : AH) (b o : Nat) (vs : List Value) : Option AH := match A.obj b with
  | some (.row e cs m) => match vs.all oneC with
    | true => match write_ cs o vs with
      | some cs' => some ((unmate A m).put b (.row e cs' none))
      | none => none
    | false => none
  | _ => none
def storeA (A : AH) (t : TypeId) (b o : Nat) (v : Value) : Option AH := match sizeT P t with
  | some n => match Nat.beq v.cells.size n with
    | true => storeCellsA A b o v.cells.toList
    | false => none
  | none => none
def intV : Value → Option Int
  | .int _ n => some n
  | _ => none
def boolV : Value → Option Bool
  | .bool b => some b
  | _ => none
def natI (n : Int) : Option Nat := match n with
  | .ofNat n => some n
  | .negSucc _ => none
def natV (v : Value) : Option Nat := match intV v with
  | some n => natI n
  | none => none
def boundsA (len cap : Nat) (lo hi : Option Value) : Option (Nat × Nat) :=
  match (match hi with | some v => natV v | none => some len) with
  | some h => match Nat.ble h cap with
    | true => match (match lo with | some v => natV v | none => some 0) with
      | some l => match Nat.ble l h with
        | true => some (l, h)
        | false => none
      | none => none
    | false => none
  | none => none
/-- A slice's row has elements of this size. -/
def spotIs (a : Addr) (sz : Nat) : Bool := match a.spot with
  | some k => Nat.beq k sz
  | none => false
def sliceOp (A : AH) (t : TypeId) (x : Value) (lo hi : Option Value) : Option Value := match P.underlying t, x with
  | some (.slice e), .slice (some a) n c => match boundsA n c lo hi, sizeT P e with
    | some (l, h), some sz => match spotIs a sz with
      | true => some (.slice (some ⟨a.block, a.off + l * sz, some sz⟩) (h - l) (c - l))
      | false => none
    | _, _ => none
  | some (.slice e), .slice none 0 0 => match boundsA 0 0 lo hi, sizeT P e with
    | some _, some _ => some (.slice none 0 0)
    | _, _ => none
  | some (.array n e), .pointer (some a) => match boundsA n n lo hi, sizeT P e, A.obj a.block with
    | some (l, h), some sz, some (.row _ cs _) => match n * sz with
      | 0 => none
      | q + 1 => match nth cs (a.off + q) with
        | some _ => some (.slice (some ⟨a.block, a.off + l * sz, some sz⟩) (h - l) (n - l))
        | none => none
    | _, _, _ => none
  | some .string, .string s => match boundsA s.size s.size lo hi with
    | some (l, h) => some (.string (s.extract l h))
    | none => none
  | _, _ => none
/-- x[l:h:m] of a slice. -/
def slice3 (t : TypeId) (x : Value) (lo hi : Option Value) (m : Nat) : Option Value := match P.underlying t, x, hi with
  | some (.slice e), .slice (some a) n c, some _ => match Nat.ble m c with
    | true => match boundsA n m lo hi, sizeT P e with
      | some (l, h), some sz => match spotIs a sz with
        | true => some (.slice (some ⟨a.block, a.off + l * sz, some sz⟩) (h - l) (m - l))
        | false => none
      | _, _ => none
    | false => none
  | some (.slice e), .slice none 0 0, some _ => match m, boundsA 0 0 lo hi, sizeT P e with
    | 0, some _, some _ => some (.slice none 0 0)
    | _, _, _ => none
  | _, _, _ => none
def fieldT (t : TypeId) (f : Nat) : Option Field := match P.underlying t with
  | some (.struct fs) => nth fs.toList f
  | _ => none
def partA (t : TypeId) (cs : List Value) (off : Nat) : Option Value := match isAggT P t with
  | some true => match sizeT P t with
    | some n => match slice_ cs off n with
      | some r => some (.agg r.toArray)
      | none => none
    | none => none
  | some false => nth cs off
  | none => none
def bytesOfA : List Value → Option (List UInt8)
  | [] => some []
  | .int .u8 n :: r => match bytesOfA r with
    | some bs => some (UInt8.ofNat n.toNat :: bs)
    | none => none
  | _ => none
/-- A method expression of a pointer type, promoted through one embedded struct: its function, and where its receiver stands. -/
def methodA (t : TypeId) (name : String) : Option (FuncId × Nat) := match P.underlying t, P.info? t with
  | some (.pointer _), some i => match i.methods.find? (·.name == name) with
    | some m => match m.path.toList, m.func with
      | [s], some (g, true) => match s.deref, P.underlying s.struct with
        | true, some (.struct fs) => match fs[s.index]? with
          | some fd => match P.underlying fd.type, sizeT P fd.type with
            | some (.struct _), some (_ + 1) => some (g, fd.offset)
            | _, _ => none
          | none => none
        | _, _ => none
      | _, _ => none
    | none => none
  | _, _ => none
/-- A key of a kind of type, told apart from another one. -/
def keyT (t : TypeId) (k : Value) : Bool := match P.underlying t, k with
  | some (.int _), .int _ _ => true
  | some .string, .string _ => true
  | _, _ => false
/-- Equality of two keys. -/
def keyEq : Value → Value → Option Bool
  | .int j a, .int k b => match decide (j = k) with
    | true => some (a == b)
    | false => none
  | .string a, .string b => some (a == b)
  | _, _ => none
def findA (k : Value) : List (Value × Value) → Option (Option Value)
  | [] => some none
  | (a, v) :: r => match keyEq k a with
    | some true => some (some v)
    | some false => findA k r
    | none => none
def updA (k v : Value) : List (Value × Value) → Option (List (Value × Value))
  | [] => some [(k, v)]
  | (a, u) :: r => match keyEq k a with
    | some true => some ((k, v) :: r)
    | some false => match updA k v r with
      | some r' => some ((a, u) :: r')
      | none => none
    | none => none
def delA (k : Value) : List (Value × Value) → Option (List (Value × Value))
  | [] => some []
  | (a, u) :: r => match keyEq k a with
    | some true => some r
    | some false => match delA k r with
      | some r' => some ((a, u) :: r')
      | none => none
    | none => none
/-- The type of a map's keys, if the map's type is one. -/
def mapK (t : TypeId) : Option (TypeId × TypeId) := match P.underlying t with
  | some (.map k e) => some (k, e)
  | _ => none
def lenOfA (A : AH) (t : TypeId) (x : Value) : Option Nat := match P.underlying t, x with
  | some .string, .string s => some s.size
  | some (.array n _), _ => some n
  | some (.slice _), .slice _ n _ => some n
  | some (.map _ _), .map none => some 0
  | some (.map _ _), .map (some r) => match A.obj r with
    | some (.map es) => some es.length
    | _ => none
  | _, _ => none
/-- The first n elements (of sz cells) of a slice or a string. -/
def firstA (A : AH) (sz n : Nat) : Value → Option (List Value)
  | .slice none _ _ => match n with | 0 => some [] | _ => none
  | .slice (some a) _ _ => match n with
    | 0 => some []
    | _ => match A.obj a.block with
      | some (.row _ cs _) => slice_ cs a.off (n * sz)
      | _ => none
  | .string s => match sz with
    | 1 => some ((s.extract 0 n).data.toList.map fun b => .int .u8 b.toNat)
    | _ => none
  | _ => none
/-- How long something is that may be appended. -/
def lenX : Value → Option Nat
  | .slice _ m _ => some m
  | .string s => some s.size
  | _ => none
/-- Types whose values may be appended, all of them. -/
def apT (t : TypeId) : Bool := match P.underlying t with
  | some (.slice _) | some .string => true
  | _ => false
/-- The type of a row's elements; nought: not known. -/
def sameT (e e' : TypeId) (o : Nat) : TypeId := match Nat.beq e e' && Nat.beq o 0 with
  | true => e
  | false => 0
/-- append(s, x): always a new row; the old one is its mate. -/
def appendA (A : AH) (st xt : TypeId) (s x : Value) : Option (Value × AH) := match P.underlying st, apT P xt, s with
  | some (.slice e), true, .slice base n c => match P.info? e, lenX x with
    | some i, some m => match firstA A i.size n s, firstA A i.size m x with
      | some old, some new => match m, i.zero with
        | 0, _ => some (s, A)
        | _ + 1, some z => match Nat.beq z.cells.size i.size && Nat.ble (n + m) 1000000 && Nat.ble i.bytes 1000000 with
          | true => match base with
            | none =>
              let r := A.new (.row e (old ++ new) none)
              some (.slice (some ⟨r.1, 0, some i.size⟩) (n + m) (n + m), r.2)
            | some a => match A.obj a.block, (match a.spot with | some k => Nat.beq k i.size | none => false) with
              | some (.row e' cs mt), true =>
                let r := (unmate A mt).next
                let A1 := (unmate A mt).put a.block (.row e' (cs.take (a.off + n * i.size)) (some r))
                let q := A1.new (.row (sameT e e' a.off) (old ++ new) (some a.block))
                some (.slice (some ⟨q.1, 0, some i.size⟩) (n + m) (n + m), q.2)
              | _, _ => none
          | false => none
        | _, _ => none
      | _, _ => none
    | _, _ => none
  | _, _, _ => none
def copyA (A : AH) (dt : TypeId) (d s : Value) : Option (Value × AH) := match P.underlying dt, d with
  | some (.slice e), .slice base dn _ => match P.info? e, lenX s with
    | some i, some m => match Nat.min m dn with
      | 0 => some (.int .i64 0, A)
      | n + 1 => match firstA A i.size (n + 1) s, base with
        | some (c :: cells), some a => match storeCellsA A a.block a.off (c :: cells) with
          | some A' => some (.int .i64 (n + 1), A')
          | none => none
        | _, _ => none
    | _, _ => none
  | _, _ => none
def repl (zs : List Value) : Nat → List Value
  | 0 => []
  | n + 1 => zs ++ repl zs n
/-- The cells of a type's nought, if they are plain. -/
def zeroC (e : TypeId) : Option (List Value) := match P.info? e with
  | some i => match i.zero with
    | some z => match z.cells.toList.all oneC && z.cells.toList.all flat && Nat.beq z.cells.size i.size && Nat.ble i.bytes 1000000 with
      | true => some z.cells.toList
      | false => none
    | none => none
  | none => none
def clearA (A : AH) (t : TypeId) (x : Value) : Option AH := match P.underlying t, x with
  | some (.map _ _), .map (some r) => match A.obj r with
    | some (.map _) => some (A.put r (.map []))
    | _ => none
  | some (.slice _), .slice none 0 0 => some A
  | some (.slice e), .slice (some a) n _ => match n, zeroC P e with
    | 0, _ => some A
    | n + 1, some (z :: zs) => storeCellsA A a.block a.off (repl (z :: zs) (n + 1))
    | _, _ => none
  | _, _ => none
def builtinA (A : AH) (b : Builtin) (ts : List TypeId) (ty : TypeId) (consts : List Bool) (args : List Value) : Option Out := match b, ts, args with
  | .len, t :: _, [x] => match lenOfA P A t x with
    | some n => some (.val (.int .i64 n) A)
    | none => none
  | .append, t :: u :: _, [s, x] => match appendA P A t u s x with
    | some (v, A') => some (.val v A')
    | none => none
  | .copy, t :: _, [d, s] => match copyA P A t d s with
    | some (v, A') => some (.val v A')
    | none => none
  | .clear, t :: _, [x] => match clearA P A t x with
    | some A' => some (.val (.tuple #[]) A')
    | none => none
  | .delete, t :: _, [.map (some r), k] => match A.obj r, mapK P t with
    | some (.map es), some (kt, _) => match keyT P kt k, delA k es with
      | true, some es' => some (.val (.tuple #[]) (A.put r (.map es')))
      | _, _ => none
    | _, _ => none
  | .min, _, [.int k x, .int _ y] => some (.val (.int k (if y < x then y else x)) A)
  | _, _, _ => none
def eqA (t : TypeId) (x y : Value) : Option Bool := match P.underlying t, x, y with
  | some (.pointer _), .pointer (some _), .pointer none | some (.pointer _), .pointer none, .pointer (some _) => some false
  | some (.slice _), .slice (some _) _ _, .slice none _ _ | some (.slice _), .slice none _ _, .slice (some _) _ _ => some false
  | some (.map _ _), .map (some _), .map none | some (.map _ _), .map none, .map (some _) => some false
  | some (.func _ _ _), .func _ _ _, .nilFunc | some (.func _ _ _), .nilFunc, .func _ _ _ => some false
  | some .string, .chan (some i), .chan (some j) => match Nat.beq i j && (Nat.beq i 8 || Nat.beq i 13) with
    | true => some true
    | false => none
  | _, _, _ => none
/-- A check, by a byte less. -/
def shrA (a b : Value) : Option Value := match a, b with
  | .chan (some k), .int _ (.ofNat 8) => match Nat.ble 14 k && Nat.ble k 17 with
    | true => some (.chan (some (Nat.succ k)))
    | false => none
  | _, _ => none
/-- An operation, ready. -/
structure RunO where
  run : AFr → AH → Option Out
def noO : RunO := ⟨fun _ _ => none⟩
def valO (A : AH) (r : Option Value) : Option Out := Option.rec none (fun v => some (.val v A)) r
/-- A plain value. -/
def flatR (A : AH) (r : Option Value) : Option Out := match r with
  | some v => match flat v with
    | true => some (.val v A)
    | false => none
  | none => none
def opMove (x : Operand) : RunO := ⟨fun F A => valO A ((evC x).run F)⟩
/-- The address that an operand holds. -/
structure RunP where
  run : FT → Option Addr
def ptrC (x : Operand) : RunP := ⟨fun F => Option.rec none ptrOf ((evC x).run F)⟩
def cellsOf (o : Option AObj) : Option (List Value) := Option.rec none (fun o => AObj.rec (fun _ cs _ => some cs) (fun _ => none) none (fun _ => none) o) o
/-- One cell. -/
def cellA (A : AH) (a : Addr) : Option Value := Addr.rec (fun b o _ => Option.rec none (fun cs => nthV cs o) (cellsOf (A.obj b))) a
/-- n cells. -/
def cellsA (A : AH) (n : Nat) (a : Addr) : Option Value := Addr.rec (fun b o _ => Option.rec none (fun cs => Option.rec none (fun r => some (.agg r.toArray)) (slice_ cs o n)) (cellsOf (A.obj b))) a
def setV (v : Value) (l : List Value) : Nat → Option (List Value) :=
  List.rec (fun _ => none) (fun x xs ih n => Nat.rec (some (v :: xs)) (fun m _ => Option.rec none (fun r => some (x :: r)) (ih m)) n) l
def storeRow (A : AH) (b o : Nat) (v : Value) (ob : Option AObj) : Option AH :=
  Option.rec none (fun o' => AObj.rec (fun e cs m => Option.rec none (fun cs => some ((unmate A m).put b (.row e cs none))) (setV v cs o)) (fun _ => none) none (fun _ => none) o') ob
/-- One cell is written. -/
def storeCell (A : AH) (v : Value) (a : Addr) : Option AH :=
  Bool.rec none (Addr.rec (fun b o _ => storeRow A b o v (A.obj b)) a) (oneOf v)
def opPick (F : AFr) (A : AH) (c : Operand) (a : Operand) (b : Operand) : Option Out := match F.eval c with 
    | some (.bool t) => match F.eval (match t with | true => a | false => b) with
      | some v => some (.val v A)
      | none => none
    | _ => none
def opAlloc (F : AFr) (A : AH) (e : TypeId) : Option Out := match zeroT P e with
    | some z => match z.cells.toList.all oneC && z.cells.toList.all flat with
      | true =>
        let r := A.new (.row e z.cells.toList none)
        some (.val (.pointer (some ⟨r.1, 0, none⟩)) r.2)
      | false => none
    | none => none
def opBox (F : AFr) (A : AH) (e : TypeId) (x : Operand) : Option Out := match F.eval x with 
    | some v => match v.cells.toList.all oneC with
      | true =>
        let r := A.new (.row e v.cells.toList none)
        some (.val (.pointer (some ⟨r.1, 0, none⟩)) r.2)
      | false => none
    | none => none
/-- No value is quite unknown. -/
def known (v : Value) : Bool := match v with
  | .chan none => false
  | _ => true
def opBuild (F : AFr) (A : AH) (t : TypeId) (ps : Array (Nat × Operand)) : Option Out := match F.evals (ps.toList.map (·.2)) with
    | some vs => match vs.all known, zeroT P t with
      | true, some z => match flat z with
        | true => match peval P (Instr.build t ((ps.toList.map (·.1)).zip vs).toArray) with
          | some v => some (.val v A)
          | none => none
        | false => none
      | _, _ => none
    | none => none
def opBuildSlice (F : AFr) (A : AH) (t : TypeId) (len : Nat) (ps : Array (Nat × Operand)) : Option Out := match F.evals (ps.toList.map (·.2)), P.underlying t with
    | some vs, some (.slice e) => match sizeT P e, zeroT P e with
      | some sz, some z => match Instr.fill (fun i => some (i * sz, sz)) (repl z.cells.toList len).toArray ((ps.toList.map (·.1)).zip vs) with
        | some cells => match vs.all known && cells.toList.all oneC && z.cells.toList.all flat && Nat.beq z.cells.size sz && Nat.ble (len * sz) 100000 with
          | true =>
            let r := A.new (.row e cells.toList none)
            some (.val (.slice (some ⟨r.1, 0, some sz⟩) len len) r.2)
          | false => none
        | none => none
      | _, _ => none
    | _, _ => none
def opLoad (t : TypeId) (x : Operand) : RunO := match isAggT P t with
  | some true => match sizeT P t with
    | some n => ⟨fun F A => valO A (Option.rec none (cellsA A n) ((ptrC x).run F))⟩
    | none => noO
  | some false => ⟨fun F A => valO A (Option.rec none (cellA A) ((ptrC x).run F))⟩
  | none => noO
def skipO (r : Option AH) : Option Out := Option.rec none (fun A => some (.skip A)) r
def opStore (t : TypeId) (x : Operand) (y : Operand) : RunO := match isAggT P t with
  | some true => match sizeT P t with
    | some (_ + 1) => ⟨fun F A => match F.eval x, F.eval y with
      | some (.pointer (some a)), some v => skipO (storeA P A t a.block a.off v)
      | _, _ => none⟩
    | _ => noO
  | some false => match sizeT P t with
    | some 1 => ⟨fun F A => skipO (Option.rec none (fun a => Option.rec none (fun v => storeCell A v a) ((evC y).run F)) ((ptrC x).run F))⟩
    | _ => noO
  | none => noO
def opNilCheck (F : AFr) (A : AH) (x : Operand) : Option Out := match F.eval x with 
    | some (.pointer (some a)) => some (.val (.pointer (some a)) A)
    | some (.func (.func f) a c) => some (.val (.func (.func f) a c) A)
    | _ => none
def binSlow (F : AFr) (A : AH) (op : BinOp) (t : TypeId) (x : Operand) (y : Operand) (a b : Value) : Option Out :=
      match flat a && flat b with
      | true => flatR A (peval P (do eqGuard op t x y a b; binOp op t a b))
      | false => match op with
        | .eql => match eqA P t a b with
          | some r => some (.val (.bool r) A)
          | none => none
        | .neq => match eqA P t a b with
          | some r => some (.val (.bool (!r)) A)
          | none => none
        | .shr => valO A (shrA a b)
        | _ => none
/-- The greatest number of a kind. -/
def maxK : IntKind → Nat
  | .i8 => 127 | .u8 => 255 | .i16 => 32767 | .u16 => 65535 | .i32 => 2147483647 | .u32 => 4294967295
  | .i64 => 9223372036854775807 | .u64 => 18446744073709551615
def sumN (k : IntKind) (r : Nat) : Option Value := Bool.rec none (some (.int k (.ofNat r))) (Nat.ble r (maxK k))
def kindNo (k : IntKind) : Nat := match k with
  | .i8 => 0 | .i16 => 1 | .i32 => 2 | .i64 => 3 | .u8 => 4 | .u16 => 5 | .u32 => 6 | .u64 => 7
def sameK (j k : IntKind) : Bool := Nat.beq (kindNo j) (kindNo k)
/-- An operator on two small numbers. -/
structure RunN where
  run : IntKind → Nat → IntKind → Nat → Option Value
def fastC : BinOp → RunN
  | .add => ⟨fun k a j b => Bool.rec none (force (sumN k) (Nat.add a b)) (sameK k j)⟩
  | .sub => ⟨fun k a j b => Bool.rec none (Bool.rec none (force (sumN k) (Nat.sub a b)) (Nat.ble b a)) (sameK k j)⟩
  | .mul => ⟨fun k a j b => Bool.rec none (force (sumN k) (Nat.mul a b)) (sameK k j)⟩
  | .eql => ⟨fun k a j b => Bool.rec none (some (.bool (Nat.beq a b))) (sameK k j)⟩
  | .neq => ⟨fun k a j b => Bool.rec none (some (.bool (Bool.rec true false (Nat.beq a b)))) (sameK k j)⟩
  | .lss => ⟨fun k a j b => Bool.rec none (some (.bool (Nat.ble (Nat.succ a) b))) (sameK k j)⟩
  | .leq => ⟨fun k a j b => Bool.rec none (some (.bool (Nat.ble a b))) (sameK k j)⟩
  | .gtr => ⟨fun k a j b => Bool.rec none (some (.bool (Nat.ble (Nat.succ b) a))) (sameK k j)⟩
  | .geq => ⟨fun k a j b => Bool.rec none (some (.bool (Nat.ble b a))) (sameK k j)⟩
  | .and => ⟨fun k a j b => Bool.rec none (Bool.rec none (Bool.rec none (force (sumN k) (Nat.land a b)) (Nat.ble b (maxK k))) (Nat.ble a (maxK k))) (sameK k j)⟩
  | .or => ⟨fun k a j b => Bool.rec none (Bool.rec none (Bool.rec none (force (sumN k) (Nat.lor a b)) (Nat.ble b (maxK k))) (Nat.ble a (maxK k))) (sameK k j)⟩
  | .xor => ⟨fun k a j b => Bool.rec none (Bool.rec none (Bool.rec none (force (sumN k) (Nat.xor a b)) (Nat.ble b (maxK k))) (Nat.ble a (maxK k))) (sameK k j)⟩
  | .shr => ⟨fun k a _ b => Bool.rec none (Bool.rec none (force (sumN k) (Nat.shiftRight a b)) (Nat.ble b 7)) (Nat.ble a (maxK k))⟩
  | _ => ⟨fun _ _ _ _ => none⟩
def opFast (op : BinOp) (a b : Value) : Option Value :=
  Option.rec none (fun p => Prod.rec (fun k a => Option.rec none (fun q => Prod.rec (fun j b => (fastC op).run k a j b) q) (smallOf b)) p) (smallOf a)
structure RunB where
  run : Value → Value → FT → AH → Option Out
def binC (op : BinOp) (t : TypeId) (x y : Operand) : RunB := ⟨fun a b F A => Option.rec (binSlow P F A op t x y a b) (fun v => some (.val v A)) (opFast op a b)⟩
def opBinOp (op : BinOp) (t : TypeId) (x : Operand) (y : Operand) : RunO :=
  ⟨fun F A => Option.rec none (fun a => Option.rec none (fun b => (binC P op t x y).run a b F A) ((evC y).run F)) ((evC x).run F)⟩
def opUnOp (F : AFr) (A : AH) (op : UnOp) (x : Operand) : Option Out := match F.eval x with 
    | some a => match flat a with
      | true => flatR A (peval P (Op.unary op a))
      | false => none
    | none => none
/-- What is converted. -/
def convA (A : AH) (src dst : TypeId) (a : Value) : Option Out := match P.underlying src, P.underlying dst, a with
  | some (.slice e), some .string, .slice c n _ => match P.underlying e with
    | some (.int .u8) => match firstA A 1 n (.slice c n n) with
      | some r => match bytesOfA r with
        | some bs => some (.val (.string ⟨bs.toArray⟩) A)
        | none => match strK r with
          | some k => some (.val (.chan (some k)) A)
          | none => none
      | none => none
    | _ => none
  | some .string, some (.slice e), .string s => match P.underlying e with
    | some (.int .u8) =>
      let r := A.new (.row e (s.data.toList.map fun b => .int .u8 b.toNat) none)
      some (.val (.slice (some ⟨r.1, 0, some 1⟩) s.size s.size) r.2)
    | _ => none
  | some (.int .u32), some (.int .u8), .chan (some k) => match Nat.ble 14 k && Nat.ble k 17 with
    | true => some (.val (.chan (some (Nat.sub k 5))) A)
    | false => none
  | _, _, _ => match flat a with
    | true => flatR A (peval P (convert src dst a))
    | false => none
def opConvert (F : AFr) (A : AH) (src : TypeId) (dst : TypeId) (x : Operand) : Option Out := match F.eval x with
    | some a => convA P A src dst a
    | none => none
def opMakeFunc (F : AFr) (A : AH) (fn : Fn) (first : Array Operand) (cap : Array Operand) : Option Out := match F.evals first.toList, F.evals cap.toList with 
    | some a, some c => some (.val (.func fn a.toArray c.toArray) A)
    | _, _ => none
def opMakeMap (F : AFr) (A : AH) : Option Out := 
    let r := A.new (.map [])
    some (.val (.map (some r.1)) r.2)
def opMakeSlice (F : AFr) (A : AH) (t : TypeId) (l : Operand) (c : Operand) : Option Out := match F.eval l, F.eval c, P.underlying t with
    | some lv, some cv, some (.slice e) => match natV lv, natV cv, zeroC P e, sizeT P e with
      | some ln, some cn, some z, some sz => match Nat.ble ln cn && Nat.ble cn 100000 with
        | true =>
          let r := A.new (.row e (repl z cn) none)
          some (.val (.slice (some ⟨r.1, 0, some sz⟩) ln cn) r.2)
        | false => none
      | _, _, _, _ => none
    | _, _, _ => none
def opSlice (F : AFr) (A : AH) (t : TypeId) (x : Operand) (lo : Option Operand) (hi : Option Operand) : Option Out := match F.eval x with 
    | some a => match (match lo with | none => some none | some l => (F.eval l).map some), (match hi with | none => some none | some h => (F.eval h).map some) with
      | some l, some h => match sliceOp P A t a l h with
        | some v => some (.val v A)
        | none => none
      | _, _ => none
    | none => none
def opSlice3 (F : AFr) (A : AH) (t : TypeId) (x : Operand) (lo : Option Operand) (hi : Option Operand) (mx : Operand) : Option Out := match F.eval x, F.eval mx with 
    | some a, some m => match (match lo with | none => some none | some l => (F.eval l).map some), (match hi with | none => some none | some h => (F.eval h).map some), natV m with
      | some l, some h, some m => match slice3 P t a l h m with
        | some v => some (.val v A)
        | none => none
      | _, _, _ => none
    | _, _ => none
def shiftA (n : Nat) (a : Addr) : Value := Addr.rec (fun b o _ => force (fun o => .pointer (some ⟨b, o, none⟩)) (Nat.add o n)) a
def opFieldAddr (s : TypeId) (x : Operand) (f : Nat) : RunO := match fieldT P s f with
  | some fd => match sizeT P fd.type with
    | some (_ + 1) => ⟨fun F A => Option.rec none (fun a => some (.val (shiftA fd.offset a) A)) ((ptrC x).run F)⟩
    | _ => noO
  | none => noO
def opField (F : AFr) (A : AH) (s : TypeId) (x : Operand) (f : Nat) : Option Out := match F.eval x with 
    | some (.agg cs) => match fieldT P s f with
      | some fd => match partA P fd.type cs.toList fd.offset with
        | some v => some (.val v A)
        | none => none
      | none => none
    | _ => none
def natOf (v : Value) : Option Nat := Option.rec none (fun p => some (Prod.rec (fun _ n => n) p)) (smallOf v)
def opIndexAddr (t : TypeId) (x : Operand) (ix : Operand) : RunO := match P.underlying t with
  | some (.array n e) => match sizeT P e with
    | some sz => ⟨fun F A => Option.rec none (fun i => Bool.rec none (Option.rec none (fun a => some (.val (shiftA (Nat.mul i sz) a) A)) ((ptrC x).run F)) (Nat.ble (Nat.succ i) n)) (Option.rec none natOf ((evC ix).run F))⟩
    | none => noO
  | some (.slice e) => match sizeT P e with
    | some sz => ⟨fun F A => Option.rec none (fun i => Option.rec none (fun p => Prod.rec (fun a q => Prod.rec (fun n _ => Bool.rec none (some (.val (shiftA (Nat.mul i sz) a) A)) (Nat.ble (Nat.succ i) n)) q) p) (Option.rec none slcOf ((evC x).run F))) (Option.rec none natOf ((evC ix).run F))⟩
    | none => noO
  | _ => noO
def opIndex (F : AFr) (A : AH) (t : TypeId) (x : Operand) (ix : Operand) : Option Out := match F.eval x, F.eval ix with 
    | some xv, some iv => match xv with
      | .agg cs => match P.underlying t, natV iv with
        | some (.array n e), some i => match Nat.blt i n, sizeT P e with
          | true, some sz => match partA P e cs.toList (i * sz) with
            | some v => some (.val v A)
            | none => none
          | _, _ => none
        | _, _ => none
      | .string _ => match flat iv with
        | true => flatR A (peval P (Instr.index t xv iv))
        | false => none
      | _ => none
    | _, _ => none
def pairV (ok : Bool) (v : Value) (b : Bool) : Value := match ok with
  | true => .tuple #[v, .bool b]
  | false => v
def lookA (A : AH) (xv k : Value) : Option (Option Value) := match xv with
  | .map none => some none
  | .map (some r) => match A.obj r with
    | some (.map es) => findA k es
    | _ => none
  | _ => none
def opLookup (F : AFr) (A : AH) (t : TypeId) (x : Operand) (ix : Operand) (ok : Bool) : Option Out := match F.eval x, F.eval ix, mapK P t with
    | some xv, some k, some (kt, e) => match keyT P kt k with
      | true => match lookA A xv k, zeroT P e with
        | some (some v), _ => some (.val (pairV ok v true) A)
        | some none, some z => match flat z with
          | true => some (.val (pairV ok z false) A)
          | false => none
        | _, _ => none
      | false => none
    | _, _, _ => none
def opMapUpdate (F : AFr) (A : AH) (t : TypeId) (m : Operand) (k : Operand) (x : Operand) : Option Out := match F.eval m, F.eval k, F.eval x, mapK P t with
    | some (.map (some r)), some kv, some xv, some (kt, _) => match A.obj r, keyT P kt kv with
      | some (.map es), true => match updA kv xv es with
        | some es' => some (.skip (A.put r (.map es')))
        | none => none
      | _, _ => none
    | _, _, _, _ => none
/-- Over a map without entries: others are for those who walk by hand. -/
def opRange (F : AFr) (A : AH) (t : TypeId) (x : Operand) : Option Out := match F.eval x, mapK P t with
    | some (.map (some m)), some _ => match A.obj m with
      | some (.map []) =>
          let r := A.new (.iter m)
          some (.val (.pointer (some ⟨r.1, 0, none⟩)) r.2)
      | _ => none
    | _, _ => none
def opNext (F : AFr) (A : AH) (it : Operand) : Option Out := match F.eval it with
    | some (.pointer (some ⟨b, 0, none⟩)) => match A.obj b with
      | some (.iter m) => match A.obj m with
        | some (.map []) => some (.val (.tuple #[.bool false]) A)
        | _ => none
      | _ => none
    | _ => none
def opSliceToArrayPointer (F : AFr) (A : AH) (t : TypeId) (x : Operand) : Option Out := match F.eval x, P.underlying t with 
    | some (.slice (some a) n _), some (.array k _) => match Nat.ble k n && Nat.blt 0 n with
      | true => some (.val (.pointer (some ⟨a.block, a.off, none⟩)) A)
      | false => none
    | _, _ => none
def opExtract (F : AFr) (A : AH) (t : Operand) (ix : Nat) : Option Out := match F.eval t with 
    | some (.tuple vs) => match nth vs.toList ix with
      | some v => some (.val v A)
      | none => none
    | _ => none
def opCall (F : AFr) (A : AH) (c : Call) (ty : TypeId) : Option Out := match F.evals c.args.toList with 
    | some args => match c.callee with
      | .value f => match F.eval f with
        | some (.func (.func g) first cap) => some (.call g (first.toList ++ args ++ cap.toList) A)
        | some (.func (.methodOf t name) first _) => match first.toList ++ args with
          | .pointer (some a) :: rest => match methodA P t name with
            | some (g, off) => some (.call g (.pointer (some ⟨a.block, a.off + off, none⟩) :: rest) A)
            | none => none
          | _ => none
        | _ => none
      | .builtin b => builtinA P A b c.argTypes.toList ty [] args
      | _ => none
    | none => none
/-- An operation by its kind. -/
def operC (o : Oper) : RunO := match o.op with
  | .move x | .assign x => opMove x
  | .pick c a b => ⟨fun F A => opPick F A c a b⟩
  | .alloc e => ⟨fun F A => opAlloc P F A e⟩
  | .box e x => ⟨fun F A => opBox F A e x⟩
  | .build t ps => ⟨fun F A => opBuild P F A t ps⟩
  | .buildSlice t len ps => ⟨fun F A => opBuildSlice P F A t len ps⟩
  | .load t x => opLoad P t x
  | .store t x y => opStore P t x y
  | .nilCheck x => ⟨fun F A => opNilCheck F A x⟩
  | .binOp op t x y _ => opBinOp P op t x y
  | .unOp op _ x => ⟨fun F A => opUnOp P F A op x⟩
  | .convert src dst x => ⟨fun F A => opConvert P F A src dst x⟩
  | .makeFunc fn first cap => ⟨fun F A => opMakeFunc F A fn first cap⟩
  | .makeMap _ none => ⟨fun F A => opMakeMap F A⟩
  | .makeSlice t l c => ⟨fun F A => opMakeSlice P F A t l c⟩
  | .slice t x lo hi none => ⟨fun F A => opSlice P F A t x lo hi⟩
  | .slice t x lo hi (some mx) => ⟨fun F A => opSlice3 P F A t x lo hi mx⟩
  | .fieldAddr s x f => opFieldAddr P s x f
  | .field s x f => ⟨fun F A => opField P F A s x f⟩
  | .indexAddr t x ix => opIndexAddr P t x ix
  | .index t x ix => ⟨fun F A => opIndex P F A t x ix⟩
  | .lookup t x ix ok => ⟨fun F A => opLookup P F A t x ix ok⟩
  | .mapUpdate t m k x | .insert t m k x => ⟨fun F A => opMapUpdate P F A t m k x⟩
  | .range t x => ⟨fun F A => opRange P F A t x⟩
  | .next it false => ⟨fun F A => opNext F A it⟩
  | .sliceToArrayPointer t x => ⟨fun F A => opSliceToArrayPointer P F A t x⟩
  | .extract t ix => ⟨fun F A => opExtract F A t ix⟩
  | .call c => ⟨fun F A => opCall P F A c o.type⟩
  | _ => ⟨fun _ _ => none⟩

def oper (F : AFr) (A : AH) (o : Oper) : Option Out := (operC P o).run F A

/-! ### Code -/
inductive AEx where
  | normal
  | exit (id : Nat)
  | ret
structure ARes where
  exit : AEx
  fr : AFr
  heap : AH
abbrev Con := FuncId → List Value → AH → Option (Value × AH)
/-- What a guard yielded. -/
def yieldA (all : Array Oper) (F : AFr) (j : Nat) : Option Value := match nth all.toList j with
  | some o => match o.dst with
    | some d => (getC 12 d).run F
    | none => none
  | none => none
/-- Whether an operation is wanted. -/
def wantA (all : Array Oper) (F : AFr) (o : Oper) : Option Bool := match o.guard with
  | none => some true
  | some (j, w) => match yieldA all F j with
    | some (.bool b) => some (b == w)
    | some (.tuple _) => some false
    | _ => none
def resA (A : AH) (F : AFr) : ResultVar → Option Value
  | .tmp t => (getC 12 t).run F
  | .cell a t => match (getC 12 a).run F with
    | some (.pointer (some a)) => loadA P A t a.block a.off
    | _ => none
def resultsA (A : AH) (F : AFr) : List ResultVar → Option (List Value)
  | [] => some []
  | r :: rs => match resA P A F r with
    | some v => match resultsA A F rs with
      | some vs => some (v :: vs)
      | none => none
    | none => none
/-- A piece of code, ready. -/
structure RunC where
  run : Con → AFr → AH → Option ARes
structure RunK where
  run : (AFr → AH → Option ARes) → Con → AFr → Option Out → Option ARes
def outC (d : RunS) : RunK := ⟨fun k C F r =>
  Option.rec none (fun o => Out.rec
    (fun v A => Option.rec none (fun F => k F A) (d.run v F))
    (fun A => Option.rec none (fun F => k F A) (d.run undef F))
    (fun f args A => Option.rec none (fun p => Prod.rec (fun v A => Option.rec none (fun F => k F A) (d.run v F)) p) (C f args A)) o) r⟩
/-- An operation, if it is wanted. -/
def guardC (all : Array Oper) (o : Oper) (k : AFr → AH → Option ARes) (run : AFr → AH → Option ARes) : AFr → AH → Option ARes :=
  Option.rec run (fun _ => fun F A => Option.rec none (fun b => Bool.rec (Option.rec none (fun F => k F A) (F.put o.dst undef)) (run F A) b) (wantA all F o)) o.guard
def opsC (all : Array Oper) (l : List Oper) : RunC :=
  List.rec ⟨fun _ F A => some ⟨.normal, F, A⟩⟩ (fun o _ ih =>
    ⟨fun C => guardC all o (ih.run C) (fun F A => (outC (putC o.dst)).run (ih.run C) C F ((operC P o).run F A))⟩) l

/-! ### Regions in whatever order -/
def memN (l : List Nat) (n : Nat) : Bool := List.rec false (fun x _ ih => Bool.rec ih true (Nat.beq x n)) l
def directOn (o : Oper) : List Nat := o.after.toList.filterMap fun e => match Region.binds .any e with
  | true => some e.on
  | false => none
/-- Changes nothing. -/
def quietOp : Op → Bool
  | .move _ | .assign _ | .pick _ _ _ | .build _ _ | .load _ _ | .nilCheck _ | .binOp _ _ _ _ _ | .unOp _ _ _ | .makeInterface _ _ | .makeFunc _ _ _ | .slice _ _ _ _ _ | .fieldAddr _ _ _
  | .field _ _ _ | .indexAddr _ _ _ | .index _ _ _ | .lookup _ _ _ _ | .typeAssert _ _ _ _ | .sliceToArrayPointer _ _ | .extract _ _ => true
  | .convert _ d _ => match P.underlying d with
    | some (.slice _) => false
    | _ => true
  | .call c => match c.callee with
    | .builtin .len | .builtin .cap | .builtin .min | .builtin .max => true
    | _ => false
  | _ => false
/-- Asks the heap, or may. -/
def asksHeap : Op → Bool
  | .move _ | .assign _ | .fieldAddr _ _ _ | .field _ _ _ | .extract _ _ | .indexAddr _ _ _ | .makeFunc _ _ _ | .build _ _ | .nilCheck _ | .binOp _ _ _ _ _ => false
  | _ => true
/-- What a new block holds, and what points to it, where that hangs on no operand. -/
def floatO : Op → Option (List Value × (Nat → Value))
  | .alloc e => match zeroT P e with
    | some z => match z.cells.toList.all oneC && z.cells.toList.all flat with
      | true => some (z.cells.toList, fun r => .pointer (some ⟨r, 0, none⟩))
      | false => none
    | none => none
  | .makeSlice t (.const l) (.const c) => match natV l, natV c, P.underlying t with
    | some ln, some cn, some (.slice e) => match zeroC P e, sizeT P e with
      | some z, some sz => match Nat.ble ln cn && Nat.ble cn 100000 with
        | true => some (repl z cn, fun r => .slice (some ⟨r, 0, some sz⟩) ln cn)
        | false => none
      | _, _ => none
    | _, _, _ => none
  | _ => none
inductive PStep where
  | quiet (i : Nat) (o : Oper) (watch : Bool)
  | float (i : Nat) (o : Oper) (k : Nat) (v : Nat → Value)
  | eff (i : Nat) (o : Oper) (need : List Nat) (mats : List (Nat × List Value))
/-- Numbers, operations that are still to come up. -/
abbrev Rem := List (Nat × Oper)
def readyP (rem : Rem) (o : Oper) : Bool := (directOn o).all fun j => !(rem.any fun p => Nat.beq p.1 j)
def dropP (rem : Rem) (i : Nat) : Rem := rem.filter fun p => !(Nat.beq p.1 i)
/-- ws: what was read so far (and no effect waits for it); fs: what floats (number, which one, cells). -/
def planGo : Nat → Rem → List Nat → List (Nat × Nat × List Value) → Nat → Option (List PStep × List (Nat × List Value))
  | 0, _, _, _, _ => none
  | n + 1, rem, ws, fs, nf => match rem with
    | [] => some ([], fs.map fun f => (f.2.1, f.2.2))
    | _ => match rem.find? fun p => quietOp P p.2.op && readyP rem p.2 with
      | some (i, o) => match planGo n (dropP rem i) (match asksHeap o.op with | true => i :: ws | false => ws) fs nf with
        | some (l, m) => some (.quiet i o (asksHeap o.op) :: l, m)
        | none => none
      | none => match rem.find? fun p => (floatO P p.2.op).isSome && p.2.guard.isNone && readyP rem p.2 with
        | some (i, o) => match floatO P o.op with
          | some (cs, v) => match planGo n (dropP rem i) ws ((i, nf, cs) :: fs) (nf + 1) with
            | some (l, m) => some (.float i o nf v :: l, m)
            | none => none
          | none => none
        | none => match rem.find? fun p => readyP rem p.2 with
          | some (i, o) =>
            let ws' := ws.filter fun k => !(memN (directOn o) k)
            let mats := (fs.filter fun f => memN (directOn o) f.1).map fun f => (f.2.1, f.2.2)
            let fs' := fs.filter fun f => !(memN (directOn o) f.1)
            match planGo n (dropP rem i) ws' fs' nf with
            | some (l, m) => some (.eff i o ws' mats :: l, m)
            | none => none
          | none => none
def numbered (l : List Oper) : Nat → Rem := List.rec (fun _ => []) (fun o _ ih n => (n, o) :: ih (Nat.succ n)) l
def countF (l : List PStep) : Nat := List.rec 0 (fun p _ ih => match p with | .float _ _ _ _ => Nat.succ ih | _ => ih) l
def planOf (ops : Array Oper) : Option (List PStep × List (Nat × List Value)) := planGo P (ops.size + 1) (numbered ops.toList 0) [] [] 0
/-- Something that was read ahead of its time. -/
structure Watch where
  idx : Nat
  op : RunO
  fr : FT
  val : Value
def bytesEq : List UInt8 → List UInt8 → Bool
  | [], [] => true
  | a :: l, b :: m => Nat.beq a.toNat b.toNat && bytesEq l m
  | _, _ => false
def optEq : Option Nat → Option Nat → Bool
  | none, none => true
  | some a, some b => Nat.beq a b
  | _, _ => false
def listEq (f : Value → Value → Bool) : List Value → List Value → Bool
  | [], [] => true
  | a :: l, b :: m => f a b && listEq f l m
  | _, _ => false
/-- Surely the same. -/
def veqN : Nat → Value → Value → Bool
  | 0, _, _ => false
  | n + 1, v, w => match v, w with
    | .bool a, .bool b => a == b
    | .int j (.ofNat a), .int k (.ofNat b) => Nat.beq (kindNo j) (kindNo k) && Nat.beq a b
    | .string a, .string b => bytesEq a.data.toList b.data.toList
    | .pointer none, .pointer none | .nilFunc, .nilFunc | .nilIface, .nilIface | .map none, .map none => true
    | .pointer (some a), .pointer (some b) => Nat.beq a.block b.block && Nat.beq a.off b.off && optEq a.spot b.spot
    | .slice none 0 0, .slice none 0 0 => true
    | .slice (some a) n c, .slice (some b) m d => Nat.beq a.block b.block && Nat.beq a.off b.off && optEq a.spot b.spot && Nat.beq n m && Nat.beq c d
    | .map (some a), .map (some b) => Nat.beq a b
    | .chan (some a), .chan (some b) => Nat.beq a b
    | .func (.func f) a b, .func (.func g) c d => Nat.beq f g && listEq (veqN n) a.toList c.toList && listEq (veqN n) b.toList d.toList
    | .agg a, .agg b | .tuple a, .tuple b => listEq (veqN n) a.toList b.toList
    | _, _ => false
def veq (v w : Value) : Bool := veqN 6 v w
/-- What was read is still so. -/
def holds (A : AH) (x : Watch) : Bool := match x.op.run x.fr A with
  | some (.val v _) => veq x.val v
  | _ => false
def checkW (need : List Nat) (A : AH) (W : List Watch) : Bool := W.all fun x => !(memN need x.idx) || holds A x
/-- Blocks that were there are known from here on. -/
def matsA (r : Nat) (l : List (Nat × List Value)) (A : AH) : AH := List.rec A (fun p _ ih => force (fun b => AH.put ih b (.row 0 p.2 none)) (Nat.add r p.1)) l
structure RunR where
  run : Con → FT → AH → Nat → List Watch → Option ARes
/-- What is done with what an operation says. -/
def outK (d : RunS) (C : Con) (F : FT) (k : FT → AH → Option ARes) (o : Out) : Option ARes := match o with
  | .val v A => match d.run v F with
    | some F => k F A
    | none => none
  | .skip A => match d.run undef F with
    | some F => k F A
    | none => none
  | .call f args A => match C f args A with
    | some (v, A) => match d.run v F with
      | some F => k F A
      | none => none
    | none => none
def planR (all : Array Oper) (ends : List (Nat × List Value)) (l : List PStep) : RunR :=
  List.rec ⟨fun _ F A r _ => some ⟨.normal, F, matsA r ends A⟩⟩ (fun p _ ih => match p with
    | .quiet i o watch => ⟨fun C F A r W => match wantA all F o with
      | some true => match (operC P o).run F A with
        | some (.val v A') => match (putC o.dst).run v F with
          | some F' => ih.run C F' A' r (match watch with | true => ⟨i, operC P o, F, v⟩ :: W | false => W)
          | none => none
        | _ => none
      | some false => match (putC o.dst).run undef F with
        | some F' => ih.run C F' A r W
        | none => none
      | none => none⟩
    | .float i o k v => ⟨fun C F A r W => match (putC o.dst).run (force v (Nat.add r k)) F with
      | some F' => ih.run C F' A r W
      | none => none⟩
    | .eff i o need mats => ⟨fun C F A r W => match wantA all F o with
      | some true => match (operC P o).run F (matsA r mats A) with
        | some out => outK (putC o.dst) C F (fun F' A' => match checkW need A' W with
          | true => ih.run C F' A' r W
          | false => none) out
        | none => none
      | some false => match (putC o.dst).run undef F with
        | some F' => match checkW need (matsA r mats A) W with
          | true => ih.run C F' (matsA r mats A) r W
          | false => none
        | none => none
      | none => none⟩) l
def regC (ops : Array Oper) : RunC := match planOf P ops with
  | some (l, ends) => ⟨fun C F A => (planR P ops ends l).run C F ⟨A.heap, A.next + countF l⟩ A.next []⟩
  | none => ⟨fun _ _ _ => none⟩
/-- More than any loop goes round. -/
def manyRounds : Nat := 100000
def loopA (b : Con → AFr → AH → Option ARes) (C : Con) (n : Nat) : AFr → AH → Option ARes :=
  Nat.rec (fun _ _ => none) (fun _ ih F A => Option.rec none (fun r => ARes.rec (fun e F A => AEx.rec (ih F A) (fun i => some ⟨.exit i, F, A⟩) (some ⟨.ret, F, A⟩) e) r) (b C F A)) n
def codeC (c : Code) : RunC :=
  Code.rec (motive := fun _ => RunC) ⟨fun _ F A => some ⟨.normal, F, A⟩⟩
    (fun _ ops d => Bool.rec (opsC P ops ops.toList) (regC P ops) d)
    (fun _ _ x y => ⟨fun C F A => Option.rec none (fun r => ARes.rec (fun e F A => AEx.rec (y.run C F A) (fun i => some ⟨.exit i, F, A⟩) (some ⟨.ret, F, A⟩) e) r) (x.run C F A)⟩)
    (fun c _ _ x y => ⟨fun C F A => Option.rec none (fun t => Bool.rec (y.run C F A) (x.run C F A) t) (Option.rec none boolOf ((evC c).run F))⟩)
    (fun id _ b => ⟨fun C F A => Option.rec none (fun r => ARes.rec (fun e F A => AEx.rec (some ⟨.normal, F, A⟩) (fun i => Bool.rec (some ⟨.exit i, F, A⟩) (some ⟨.normal, F, A⟩) (Nat.beq i id)) (some ⟨.ret, F, A⟩) e) r) (b.run C F A)⟩)
    (fun _ b => ⟨fun C F A => loopA b.run C manyRounds F A⟩)
    (fun _ _ _ _ _ _ => ⟨fun _ _ _ => none⟩)
    (fun id => ⟨fun _ F A => some ⟨.exit id, F, A⟩⟩)
    (fun _ b => b)
    (fun _ => ⟨fun _ F A => some ⟨.normal, F, A⟩⟩)
    (fun _ => ⟨fun _ _ _ => none⟩)
    ⟨fun _ F A => some ⟨.ret, F, A⟩⟩
    (fun _ => ⟨fun _ _ _ => none⟩) c
def wrapR (vs : List Value) : Value := match vs with
  | [v] => v
  | vs => .tuple vs.toArray
def endA (fn : Func) : Option ARes → Option (Value × AH)
  | some ⟨.exit _, _, _⟩ => none
  | some ⟨_, F, A⟩ => match resultsA P A F fn.results.toList with
    | some vs => some (wrapR vs, A)
    | none => none
  | _ => none
structure RunF where
  run : Con → List Value → AH → Option (Value × AH)
def funC : Option Func → RunF
  | none => ⟨fun _ _ _ => none⟩
  | some fn => match fn.body with
    | none => ⟨fun _ _ _ => none⟩
    | some c => ⟨fun C args A => Option.rec none (fun F => endA P fn ((codeC P c).run C F A)) (AFr.enter fn.ntmps args)⟩
/-- bar: a function that is not looked into. -/
def ev (bar : Nat) (C : Con) (n : Nat) : Con := Nat.rec (fun _ _ _ => none)
  (fun _ ih f args A => Option.rec (Bool.rec ((funC P P.funcs[f]?).run ih args A) none (Nat.beq f bar)) (fun r => some r) (C f args A)) n
end
end Go.Proofs.YtohnakjamlhhkaaGreatDoor
