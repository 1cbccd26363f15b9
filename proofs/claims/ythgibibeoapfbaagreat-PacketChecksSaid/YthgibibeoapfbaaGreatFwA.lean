/-
  A frame for proofs about programs of the model, part 1.
-/
import Derived.Laws.AppendOwn
import Derived.Laws.MakeOwn
import Derived.Orders
import Derived.Tactics
import Derived.KernelRfl
import Derived.Lib.FrozenHead
import Derived.WideLaws
import Derived.Laws.Strings
import Derived.Laws.BytesArg
import Derived.Lib.ConvBytes
import Derived.ChangeKeysEq
set_option linter.unusedSimpArgs false
set_option linter.unnecessarySimpa false
set_option linter.unusedVariables false
set_option linter.unusedSectionVars false
namespace Go.Fw
abbrev Mem := Nat → Option Obj
abbrev Emb := Nat → Option (Nat × Nat × Nat)
structure Md where
  nl : Bool
  full : Bool
  bw : Bool
inductive CV where
  | int (k : IntKind) (n : Int)
  | ints (l : List (IntKind × Int))
  | func (f : FuncId)
  deriving Inhabited
def CV.val : CV → Value
  | .int k n => .int k n
  | .ints l => .agg (l.map fun (k, n) => Value.int k n).toArray
  | .func f => .func (.func f) #[] #[]
inductive AV where
  | bool (b : Bool)
  | int (k : IntKind) (n : Int)
  | str (l : List UInt8)
  | nil
  | ptr (id off : Nat)
  | rptr (bw : Bool) (xs : List AV)
  | slice (e id off len : Nat) (cap : Option Nat)
  | list (e : Nat) (m : Md) (xs : List AV)
  | func (f : Fn) (first caps : List AV)
  | nilFunc
  | iface (t : TypeId) (v : AV)
  | nilIface
  | map (k : IntKind) (kvs : List (Int × CV))
  | agg (xs : List AV)
  | tuple (xs : List AV)
  deriving Inhabited
def sel (ro bo : Mem) (bw : Bool) (r : Nat) (o : Obj) : Prop := ro r = some o ∨ (bw = true ∧ bo r = some o)
inductive VR (ro bo : Mem) (Φ : Emb) : AV → Value → Prop
  | bool (b : Bool) : VR ro bo Φ (.bool b) (.bool b)
  | int (k : IntKind) (n : Int) : VR ro bo Φ (.int k n) (.int k n)
  | str (l : List UInt8) (s : ByteArray) (h : s.data.toList = l) : VR ro bo Φ (.str l) (.string s)
  | nil : VR ro bo Φ .nil (.pointer none)
  | ptr (id off r o s : Nat) (h : Φ id = some (r, o, s)) : VR ro bo Φ (.ptr id off) (.pointer (some ⟨r, o + off, none⟩))
  | rptr (bw : Bool) (xs : List AV) (r off : Nat) (c : Array Value) (T : TypeId) (fz : Nat × Nat)
      (hr : sel ro bo bw r (.cells c T fz)) (hl : off + xs.length ≤ c.size)
      (hx : ∀ (j : Nat) (v : AV) (u : Value), xs[j]? = some v → c[off + j]? = some u → VR ro bo Φ v u)
      (ho : ∀ (j : Nat) (u : Value), j < xs.length → c[off + j]? = some u → u.oneCell' = true) :
      VR ro bo Φ (.rptr bw xs) (.pointer (some ⟨r, off, none⟩))
  | slice (e id off len cap o' : Nat) (kc : Option Nat) (r o s : Nat) (h : Φ id = some (r, o, s)) (he : 0 < e) (h1 : len ≤ cap) (h2 : off + cap * e ≤ s)
      (h3 : ∀ c, kc = some c → cap = c) (h4 : cap ≠ 0 → o' = o + off) : VR ro bo Φ (.slice e id off len kc) (.slice (some ⟨r, o', none⟩) len cap)
  | sliceE (e id off : Nat) (a : Option Addr) (he : 0 < e) : VR ro bo Φ (.slice e id off 0 none) (.slice a 0 0)
  | listNil (e : Nat) (m : Md) (he : 0 < e) : VR ro bo Φ (.list e m []) (.slice none 0 0)
  | list (e : Nat) (m : Md) (xs : List AV) (r off len cap : Nat) (c : Array Value) (T : TypeId) (fz : Nat × Nat) (he : 0 < e) (hm : m.nl = false)
      (hlen : xs.length = len * e) (h1 : len ≤ cap) (hf : m.full = true → cap = len)
      (hr : xs ≠ [] → sel ro bo m.bw r (.cells c T fz)) (hl : xs ≠ [] → off + xs.length ≤ c.size)
      (hx : ∀ (j : Nat) (v : AV) (u : Value), xs[j]? = some v → c[off + j]? = some u → VR ro bo Φ v u)
      (ho : ∀ (j : Nat) (u : Value), j < xs.length → c[off + j]? = some u → u.oneCell' = true) (sp : Option Nat) (hsp : xs ≠ [] → sp = none) :
      VR ro bo Φ (.list e m xs) (.slice (some ⟨r, off, sp⟩) len cap)
  | func (f : Fn) (xs ys : List AV) (us vs : Array Value) (h1 : us.size = xs.length) (h2 : vs.size = ys.length)
      (hx : ∀ (j : Nat) (v : AV) (u : Value), xs[j]? = some v → us[j]? = some u → VR ro bo Φ v u)
      (hy : ∀ (j : Nat) (v : AV) (u : Value), ys[j]? = some v → vs[j]? = some u → VR ro bo Φ v u) : VR ro bo Φ (.func f xs ys) (.func f us vs)
  | nilFunc : VR ro bo Φ .nilFunc .nilFunc
  | iface (t : TypeId) (v : AV) (u : Value) (h : VR ro bo Φ v u) : VR ro bo Φ (.iface t v) (.iface t u)
  | nilIface : VR ro bo Φ .nilIface .nilIface
  | map (k : IntKind) (kvs : List (Int × CV)) (r : Nat) (es : Array MapEntry) (clock : Nat) (hr : ro r = some (.map es clock)) (he : es.toList.map (fun e => (e.key, e.val)) = kvs.map fun (n, c) => (Value.int k n, c.val)) :
      VR ro bo Φ (.map k kvs) (.map (some r))
  | agg (xs : List AV) (c : Array Value) (h1 : c.size = xs.length)
      (hx : ∀ (j : Nat) (v : AV) (u : Value), xs[j]? = some v → c[j]? = some u → VR ro bo Φ v u)
      (ho : ∀ (j : Nat) (u : Value), c[j]? = some u → u.oneCell' = true) : VR ro bo Φ (.agg xs) (.agg c)
  | tuple (xs : List AV) (c : Array Value) (h1 : c.size = xs.length)
      (hx : ∀ (j : Nat) (v : AV) (u : Value), xs[j]? = some v → c[j]? = some u → VR ro bo Φ v u) : VR ro bo Φ (.tuple xs) (.tuple c)
def Mem.le (a b : Mem) : Prop := ∀ r o, a r = some o → b r = some o
def Emb.le (a b : Emb) : Prop := ∀ i p, a i = some p → b i = some p
theorem Mem.le_refl (a : Mem) : Mem.le a a := fun _ _ h => h
theorem Mem.le_trans {a b c : Mem} (h : Mem.le a b) (k : Mem.le b c) : Mem.le a c := fun r o x => k r o (h r o x)
theorem Emb.le_refl (a : Emb) : Emb.le a a := fun _ _ h => h
theorem Emb.le_trans {a b c : Emb} (h : Emb.le a b) (k : Emb.le b c) : Emb.le a c := fun r o x => k r o (h r o x)
theorem sel_mono {ro bo ro' bo' : Mem} (h : Mem.le ro ro') (hb : Mem.le bo bo') {bw : Bool} {r : Nat} {o : Obj} (hs : sel ro bo bw r o) : sel ro' bo' bw r o :=
  hs.elim (fun x => .inl (h _ _ x)) (fun x => .inr ⟨x.1, hb _ _ x.2⟩)
theorem VR.mono {ro bo ro' bo' : Mem} {Φ Φ' : Emb} (h : Mem.le ro ro') (hb : Mem.le bo bo') (hΦ : Emb.le Φ Φ')
    {v : AV} {u : Value} (hv : VR ro bo Φ v u) : VR ro' bo' Φ' v u := by
  induction hv with
  | bool b => exact .bool b
  | int k n => exact .int k n
  | str l s h => exact .str l s h
  | nil => exact .nil
  | ptr id off r o s h => exact .ptr id off r o s (hΦ _ _ h)
  | rptr bw xs r off c T fz hr hl hx ho ih => exact .rptr bw xs r off c T fz (sel_mono h hb hr) hl ih ho
  | slice e id off len cap o' kc r o s h he h1 h2 h3 h4 => exact .slice e id off len cap o' kc r o s (hΦ _ _ h) he h1 h2 h3 h4
  | sliceE e id off a he => exact .sliceE e id off a he
  | listNil e m he => exact .listNil e m he
  | list e m xs r off len cap c T fz he hm hlen h1 hf hr hl hx ho sp hsp ih => exact .list e m xs r off len cap c T fz he hm hlen h1 hf (fun hn => sel_mono h hb (hr hn)) hl ih ho sp hsp
  | func f xs ys us vs h1 h2 hx hy ih1 ih2 => exact .func f xs ys us vs h1 h2 ih1 ih2
  | nilFunc => exact .nilFunc
  | iface t v u h ih => exact .iface t v u ih
  | nilIface => exact .nilIface
  | map k kvs r es clock hr he => exact .map k kvs r es clock (h _ _ hr) he
  | agg xs c h1 hx ho ih => exact .agg xs c h1 ih ho
  | tuple xs c h1 hx ih => exact .tuple xs c h1 ih
structure Blk where
  cells : List AV
  elem : TypeId
  exact : Bool
  deriving Inhabited
abbrev Heap := List (Option Blk)
def noMem : Mem := fun _ => none
structure BlkAt (ro : Mem) (Φ : Emb) (b : Blk) (w : World) (r o s : Nat) : Prop where
  at_ : ∃ (c : Array Value), w.heap[r]? = some (.cells c b.elem) ∧ o + s = c.size ∧
    (∀ (j : Nat) (v : AV) (u : Value), b.cells[j]? = some v → c[o + j]? = some u → VR ro noMem Φ v u) ∧
    (∀ (j : Nat) (u : Value), c[j]? = some u → u.oneCell' = true)
  len : b.cells.length ≤ s
  exact : b.exact = true → b.cells.length = s
  real : b.elem < 1000000
structure Holds (ro fr : Mem) (Φ : Emb) (H : Heap) (w : World) : Prop where
  hro : ∀ (r : Nat) (o : Obj), ro r = some o → w.heap[r]? = some o
  hfr : ∀ (r : Nat) (o : Obj), fr r = some o → w.heap[r]? = some o
  own : ∀ (i : Nat) (b : Blk), H[i]? = some (some b) → (b.cells = [] ∧ b.exact = false ∧ Φ i = none) ∨ ∃ r o s, Φ i = some (r, o, s) ∧ BlkAt ro Φ b w r o s
  inj : ∀ (i j : Nat) (b c : Blk) (r : Nat) (p q : Nat × Nat), H[i]? = some (some b) → H[j]? = some (some c) → Φ i = some (r, p) → Φ j = some (r, q) → i = j
  sep : ∀ (i : Nat) (b : Blk) (r : Nat) (p : Nat × Nat), H[i]? = some (some b) → Φ i = some (r, p) → ro r = none ∧ fr r = none
  dom : ∀ (i : Nat) (p : Nat × Nat × Nat), Φ i = some p → i < H.length
  disj : ∀ (r : Nat) (o : Obj), ro r = some o → fr r = none
structure WExt (w w' : World) : Prop where
  os : w'.os = w.os
  tape : w'.tape = w.tape
  output : w'.output = w.output
  size : w.heap.size ≤ w'.heap.size
theorem WExt.refl (w : World) : WExt w w := ⟨rfl, rfl, rfl, Nat.le_refl _⟩
theorem WExt.trans {a b c : World} (h : WExt a b) (k : WExt b c) : WExt a c := ⟨k.os.trans h.os, k.tape.trans h.tape, k.output.trans h.output, Nat.le_trans h.size k.size⟩
def Heap.le (a b : Heap) : Prop := ∀ (i : Nat) (x : Blk), a[i]? = some (some x) → b[i]? = some (some x)
end Go.Fw
namespace Go.Fw
inductive Opd where
  | t (n : Nat)
  | k (v : AV)
  deriving Inhabited
abbrev Env := List (Nat × AV)
def Env.get : Env → Nat → Option AV
  | [], _ => none
  | (s, v) :: l, t => if t = s then some v else Env.get l t
def Env.set : Env → Nat → AV → Env
  | [], t, v => [(t, v)]
  | (s, w) :: l, t, v => if t = s then (t, v) :: l else if t < s then (t, v) :: (s, w) :: l else (s, w) :: Env.set l t v
def Env.del : Env → Nat → Env
  | [], _ => []
  | (s, w) :: l, t => if t = s then Env.del l t else (s, w) :: Env.del l t
def Env.keep : Env → List Nat → Env
  | [], _ => []
  | (s, w) :: l, ts => if ts.contains s then (s, w) :: Env.keep l ts else Env.keep l ts
def Env.opd (e : Env) : Opd → Option AV
  | .t n => e.get n
  | .k v => some v
def Env.opds (e : Env) : List Opd → Option (List AV)
  | [] => some []
  | x :: l => match e.opd x with
    | some v => match e.opds l with
      | some vs => some (v :: vs)
      | none => none
    | none => none
def Env.opdO (e : Env) : Option Opd → Option (Option AV)
  | none => some none
  | some x => match e.opd x with
    | some v => some (some v)
    | none => none
def Env.parts (e : Env) : List (Nat × Nat × Opd) → Option (List (Nat × Nat × AV))
  | [] => some []
  | (o, n, x) :: l => match e.opd x with
    | some v => match e.parts l with
      | some vs => some ((o, n, v) :: vs)
      | none => none
    | none => none
def Env.setO (e : Env) (d : Option Nat) (v : AV) : Env := match d with
  | some t => e.set t v
  | none => e
def CV.av : CV → AV
  | .int k n => .int k n
  | .ints l => .agg (l.map fun (k, n) => AV.int k n)
  | .func f => .func (.func f) [] []
def lookC : List (Int × CV) → Int → Option CV
  | [], _ => none
  | (m, c) :: l, n => if n = m then some c else lookC l n
def lookV (ok : Bool) (z : AV) (kvs : List (Int × CV)) (n : Int) : AV := match lookC kvs n with
  | some c => if ok then .tuple [c.av, .bool true] else c.av
  | none => if ok then .tuple [z, .bool false] else z
def bv (b : UInt8) : AV := .int .u8 b.toNat
def AV.cells : AV → List AV
  | .agg xs => xs
  | v => [v]
def AV.okc : AV → Bool
  | .tuple _ => false
  | _ => true
mutual
def AV.clean : AV → Bool
  | .list _ m xs => !m.bw && cleanL xs
  | .rptr b xs => !b && cleanL xs
  | .agg xs => cleanL xs
  | .tuple xs => cleanL xs
  | .func _ a b => cleanL a && cleanL b
  | .iface _ v => AV.clean v
  | .bool _ => true
  | .int _ _ => true
  | .str _ => true
  | .nil => true
  | .ptr _ _ => true
  | .slice .. => true
  | .nilFunc => true
  | .nilIface => true
  | .map _ _ => true
def cleanL : List AV → Bool
  | [] => true
  | x :: l => AV.clean x && cleanL l
end
def splice : List AV → Nat → List AV → List AV
  | xs, _, [] => xs
  | xs, o, v :: vs => splice (xs.set o v) (o + 1) vs
def fillA : List AV → List (Nat × Nat × AV) → Option (List AV)
  | z, [] => some z
  | z, (o, n, v) :: l => if v.okc = true ∧ v.cells.length = n ∧ o + n ≤ z.length then fillA (splice z o v.cells) l else none
def Heap.blk (H : Heap) (id : Nat) : Option Blk := match H[id]? with
  | some (some b) => some b
  | _ => none
inductive IOp where
  | mv (x : Opd)
  | pick (c a b : Opd)
  | bin (b : Bool) (op : BinOp) (x y : Opd)
  | isNil (neg : Bool) (q : Nat) (x : Opd)
  | eqA (neg : Bool) (ks : List IntKind) (x y : Opd)
  | un (op : UnOp) (x : Opd)
  | convI (k : IntKind) (x : Opd)
  | toStr (x : Opd)
  | ofStr (T : TypeId) (x : Opd)
  | alloc (T : TypeId) (z : List AV)
  | box (T : TypeId) (x : Opd)
  | build (z : List AV) (ps : List (Nat × Nat × Opd))
  | buildF (T e : Nat) (z : List AV) (ps : List (Nat × Nat × Opd))
  | buildO (T e : Nat) (z : List AV) (ps : List (Nat × Nat × Opd))
  | load (n : Option Nat) (x : Opd)
  | store (n : Nat) (x v : Opd)
  | nilCheck (x : Opd)
  | fieldAddr (o : Nat) (x : Opd)
  | field (o : Nat) (n : Option Nat) (x : Opd)
  | idxA (len e : Nat) (x i : Opd)
  | idxS (e : Nat) (x i : Opd)
  | ixA (len e : Nat) (n : Option Nat) (x i : Opd)
  | slS (e : Nat) (x : Opd) (lo hi mx : Option Opd)
  | slA (e n : Nat) (x : Opd) (lo hi mx : Option Opd)
  | len (b : Bool) (x : Opd)
  | lenK (n : Nat)
  | appF (T e by_ : Nat) (x y : Opd)
  | appO (T e by_ : Nat) (x y : Opd)
  | copy (e : Nat) (x y : Opd)
  | makeS (T e by_ : Nat) (z : List AV) (len cap : Opd)
  | extract (i : Nat) (x : Opd)
  | s2a (n e : Nat) (x : Opd)
  | call (f : FuncId) (args : List Opd)
  | callv (f : Opd) (args : List Opd)
  | callP (f : FuncId) (args : List Opd)
  | func (f : Fn) (first caps : List Opd)
  | iface (t : TypeId) (x : Opd)
  | min (x y : Opd)
  | max (x y : Opd)
  | allocA (L k : Nat) (T : TypeId) (z : List AV)
  | cvt (x : Opd)
  | look (ok : Bool) (z : AV) (x i : Opd)
  | makeA (L k T e by_ : Nat) (z : List AV) (len cap : Opd)
  deriving Inhabited
def bitI (op : BinOp) (k : IntKind) (a b : Int) : Int :=
  let x := BitVec.ofInt k.bits a
  let y := BitVec.ofInt k.bits b
  k.wrap (match op with
    | .and => (x &&& y).toNat
    | .or => (x ||| y).toNat
    | .xor => (x ^^^ y).toNat
    | _ => (x &&& ~~~y).toNat : Nat)
def intWP (op : BinOp) (k : IntKind) (a : Int) (k' : IntKind) (b : Int) (K : AV → Prop) : Prop :=
  match op with
  | .add => k = k' ∧ K (.int k (k.wrap (a + b)))
  | .sub => k = k' ∧ K (.int k (k.wrap (a - b)))
  | .mul => k = k' ∧ K (.int k (k.wrap (a * b)))
  | .quo => k = k' ∧ b ≠ 0 ∧ K (.int k (k.wrap (a.tdiv b)))
  | .rem => k = k' ∧ b ≠ 0 ∧ K (.int k (a.tmod b))
  | .and => k = k' ∧ K (.int k (bitI .and k a b))
  | .or => k = k' ∧ K (.int k (bitI .or k a b))
  | .xor => k = k' ∧ K (.int k (bitI .xor k a b))
  | .andNot => k = k' ∧ K (.int k (bitI .andNot k a b))
  | .shl => 0 ≤ b ∧ K (.int k (k.wrap (a * 2 ^ (Min.min b.toNat k.bits))))
  | .shr => 0 ≤ b ∧ K (.int k (a.fdiv (2 ^ (Min.min b.toNat k.bits))))
  | .eql => k = k' ∧ K (.bool (decide (a = b)))
  | .neq => k = k' ∧ K (.bool (decide (¬ a = b)))
  | .lss => k = k' ∧ K (.bool (decide (a < b)))
  | .leq => k = k' ∧ K (.bool (decide (a ≤ b)))
  | .gtr => k = k' ∧ K (.bool (decide (b < a)))
  | .geq => k = k' ∧ K (.bool (decide (b ≤ a)))
def strWP (op : BinOp) (a b : List UInt8) (K : AV → Prop) : Prop :=
  match op with
  | .add => a.length + b.length < 9223372036854775808 ∧ K (.str (a ++ b))
  | .eql => K (.bool (decide (a = b)))
  | .neq => K (.bool (decide (¬ a = b)))
  | _ => False
def boolWP (op : BinOp) (a b : Bool) (K : AV → Prop) : Prop :=
  match op with
  | .eql => K (.bool (decide (a = b)))
  | .neq => K (.bool (decide (¬ a = b)))
  | _ => False
def binWP (op : BinOp) (v w : AV) (K : AV → Prop) : Prop :=
  match v, w with
  | .int k a, .int k' b => intWP op k a k' b K
  | .str a, .str b => strWP op a b K
  | .bool a, .bool b => boolWP op a b K
  | _, _ => False
def hasK : List IntKind → List AV → Bool
  | [], [] => true
  | k :: ks, .int k' _ :: l => decide (k = k') && hasK ks l
  | _, _ => false
def ints : List AV → List Int
  | .int _ n :: l => n :: ints l
  | _ => []
def bnds (len cap : Nat) (lo hi mx : Option AV) (K : Nat → Nat → Nat → Prop) : Prop :=
  match lo, hi, mx with
  | none, none, none => len ≤ cap ∧ K 0 len cap
  | some (.int _ l), none, none => (0 ≤ l ∧ l ≤ len ∧ len ≤ cap) ∧ K l.toNat len cap
  | none, some (.int _ h), none => (0 ≤ h ∧ h ≤ cap) ∧ K 0 h.toNat cap
  | some (.int _ l), some (.int _ h), none => (0 ≤ l ∧ l ≤ h ∧ h ≤ cap) ∧ K l.toNat h.toNat cap
  | none, some (.int _ h), some (.int _ m) => (0 ≤ h ∧ h ≤ m ∧ m ≤ cap) ∧ K 0 h.toNat m.toNat
  | some (.int _ l), some (.int _ h), some (.int _ m) => (0 ≤ l ∧ l ≤ h ∧ h ≤ m ∧ m ≤ cap) ∧ K l.toNat h.toNat m.toNat
  | _, _, _ => False
def slSWP (e : Nat) (v : AV) (lo hi mx : Option AV) (K : AV → Prop) : Prop :=
  match v with
  | .slice e' id off len kc => e' = e ∧ (match kc with
    | some c => bnds len c lo hi mx fun l h m => K (.slice e id (off + l * e) (h - l) (some (m - l)))
    | none => mx = none ∧ bnds len len lo hi none fun l h _ => K (.slice e id (off + l * e) (h - l) none))
  | .list e' m xs => (m.nl = true ∨ e' = e) ∧ bnds (xs.length / e) (xs.length / e) lo hi mx fun l h c =>
      K (.list e ⟨m.nl, (match mx with | some _ => decide (c = h) | none => m.full && decide (h = xs.length / e)), m.bw⟩ ((xs.drop (l * e)).take ((h - l) * e)))
  | .str l => mx = none ∧ bnds l.length l.length lo hi none fun a b _ => K (.str ((l.drop a).take (b - a)))
  | _ => False
def sliceCells (H : Heap) (v : AV) : Option (List AV) :=
  match v with
  | .slice e id off len _ => match H.blk id with
    | some b => if off + len * e ≤ b.cells.length then some ((b.cells.drop off).take (len * e)) else none
    | none => none
  | .list _ _ xs => some xs
  | .str l => some (l.map bv)
  | _ => none
def szAV : AV → Nat → Bool
  | .slice e _ _ _ _, s => decide (e = s)
  | .list e m _, s => m.nl || decide (e = s)
  | .str _, s => decide (s = 1)
  | _, _ => false
def isB : AV → Bool
  | .bool _ => true
  | _ => false
def notStr : AV → Bool
  | .str _ => false
  | _ => true
def oneSl : AV → Bool
  | .slice e _ _ _ _ => decide (e = 1)
  | .list e _ _ => decide (e = 1)
  | _ => false
def nilWP (neg : Bool) (q : Nat) (v : AV) (K : AV → Prop) : Prop :=
  match q, v with
  | 0, .nil => K (.bool (!neg))
  | 0, .ptr _ _ => K (.bool neg)
  | 0, .rptr _ _ => K (.bool neg)
  | 1, .list _ m xs => ((m.nl = true ∨ xs ≠ []) ∧ K (.bool (m.nl != neg))) ∨ ∀ b, K (.bool b)
  | 2, .nilFunc => K (.bool (!neg))
  | 2, .func _ _ _ => K (.bool neg)
  | 3, .nilIface => K (.bool (!neg))
  | 3, .iface _ _ => K (.bool neg)
  | _, _ => False
def loadWP (H : Heap) (v : AV) (n : Option Nat) (K : AV → Prop) : Prop :=
  match v, n with
  | .ptr id off, none => ∃ b c, H.blk id = some b ∧ b.cells[off]? = some c ∧ K c
  | .ptr id off, some n => ∃ b, H.blk id = some b ∧ off + n ≤ b.cells.length ∧ K (.agg ((b.cells.drop off).take n))
  | .rptr _ xs, none => ∃ c, xs[0]? = some c ∧ K c
  | .rptr _ xs, some n => n ≤ xs.length ∧ K (.agg (xs.take n))
  | _, _ => False
def nchkWP (v : AV) (K : AV → Prop) : Prop :=
  match v with
  | .ptr _ _ => K v
  | .rptr _ _ => K v
  | .func (.func _) _ _ => K v
  | _ => False
def faWP (o : Nat) (v : AV) (K : AV → Prop) : Prop :=
  match v with
  | .ptr id off => K (.ptr id (off + o))
  | .rptr b xs => o ≤ xs.length ∧ K (.rptr b (xs.drop o))
  | _ => False
def fldWP (o : Nat) (v : AV) (n : Option Nat) (K : AV → Prop) : Prop :=
  match v, n with
  | .agg xs, none => ∃ c, xs[o]? = some c ∧ K c
  | .agg xs, some n => o + n ≤ xs.length ∧ K (.agg ((xs.drop o).take n))
  | _, _ => False
def idxAWP (s : Nat) (v : AV) (n : Int) (K : AV → Prop) : Prop :=
  match v with
  | .ptr id off => K (.ptr id (off + n.toNat * s))
  | .rptr b xs => n.toNat * s ≤ xs.length ∧ K (.rptr b (xs.drop (n.toNat * s)))
  | _ => False
def idxSWP (s : Nat) (v : AV) (n : Int) (K : AV → Prop) : Prop :=
  match v with
  | .slice s' id off len _ => s' = s ∧ (0 ≤ n ∧ n < len) ∧ K (.ptr id (off + n.toNat * s))
  | .list s' m xs => s' = s ∧ (0 ≤ n ∧ n.toNat * s < xs.length) ∧ K (.rptr m.bw (xs.drop (n.toNat * s)))
  | _ => False
def ixAWP (s : Nat) (v : AV) (a : Option Nat) (n : Int) (K : AV → Prop) : Prop :=
  match v, a with
  | .agg xs, none => ∃ c, xs[n.toNat * s]? = some c ∧ K c
  | .agg xs, some m => n.toNat * s + m ≤ xs.length ∧ K (.agg ((xs.drop (n.toNat * s)).take m))
  | _, _ => False
def slAWP (H : Heap) (s n : Nat) (v : AV) (l h m : Option AV) (K : AV → Prop) : Prop :=
  match v with
  | .ptr id off => ∃ b, H.blk id = some b ∧ off + n * s ≤ b.cells.length ∧ bnds n n l h m fun a b c => K (.slice s id (off + a * s) (b - a) (some (c - a)))
  | .rptr bw xs => n * s ≤ xs.length ∧ bnds n n l h m fun a b c => K (.list s ⟨false, decide (c = b), bw⟩ ((xs.drop (a * s)).take ((b - a) * s)))
  | _ => False
def lenWP (v : AV) (K : AV → Prop) : Prop :=
  match v with
  | .slice _ _ _ n _ => K (.int .i64 n)
  | .list s _ xs => K (.int .i64 (xs.length / s : Nat))
  | .str l => K (.int .i64 l.length)
  | _ => False
def appFWP (s by_ : Nat) (v : AV) (ys : List AV) (K : AV → Prop) : Prop :=
  match v with
  | .list s' m xs => (m.nl = true ∨ s' = s) ∧ (m.nl = true ∨ m.full = true) ∧ ((xs.length + ys.length) / s * by_ ≤ 140737488355328 ∧ (xs.length + ys.length) / s ≤ 9223372036854775807) ∧
        K (.list s ⟨m.nl && ys.isEmpty, false, m.bw⟩ (xs ++ ys))
  | _ => False
def unWP (op : UnOp) (v : AV) (K : AV → Prop) : Prop :=
  match op, v with
  | .neg, .int k n => K (.int k (k.wrap (0 - n)))
  | .xor, .int k n => K (.int k (bitI .xor k (if k.signed then -1 else k.max) n))
  | .not, .bool b => K (.bool (!b))
  | _, _ => False
def convWP (k : IntKind) (v : AV) (K : AV → Prop) : Prop :=
  match v with | .int _ n => K (.int k (k.wrap n)) | _ => False
def ofStrWP (v : AV) (K : AV → Prop) : Prop :=
  match v with | .str l => K (.list 1 ⟨false, false, false⟩ (l.map bv)) | _ => False
def extWP (i : Nat) (v : AV) (K : AV → Prop) : Prop :=
  match v with | .tuple vs => ∃ c, vs[i]? = some c ∧ K c | _ => False
def s2aWP (n s : Nat) (v : AV) (K : AV → Prop) : Prop :=
  match v with
  | .slice s' id off len _ => s' = s ∧ 0 < n ∧ n ≤ len ∧ K (.ptr id off)
  | .list s' m xs => s' = s ∧ 0 < n ∧ n * s ≤ xs.length ∧ K (.rptr m.bw xs)
  | _ => False
def eqAWP (neg : Bool) (ks : List IntKind) (v w : AV) (K : AV → Prop) : Prop :=
  match v, w with
  | .agg xs, .agg ys => hasK ks xs = true ∧ hasK ks ys = true ∧ K (.bool (if neg then decide (¬ ints xs = ints ys) else decide (ints xs = ints ys)))
  | _, _ => False
def storeWP (n : Nat) (p c : AV) (H : Heap) (K : AV → Heap → Prop) : Prop :=
  match p with
  | .ptr id off => ∃ b, H.blk id = some b ∧ c.okc = true ∧ c.cells.length = n ∧ off + n ≤ b.cells.length ∧ cleanL c.cells = true ∧ K (.tuple []) (H.set id (some { b with cells := splice b.cells off c.cells }))
  | _ => False
def appOWP (T s by_ : Nat) (v : AV) (ys : List AV) (H : Heap) (K : AV → Heap → Prop) : Prop :=
  match v with
  | .list s' m xs => (m.nl = true ∨ s' = s) ∧ (m.nl = true ∨ m.full = true) ∧ (xs = [] ∨ ys ≠ []) ∧ cleanL xs = true ∧
        ((xs.length + ys.length) / s * by_ ≤ 140737488355328 ∧ (xs.length + ys.length) / s ≤ 9223372036854775807) ∧
        K (.slice s H.length 0 ((xs.length + ys.length) / s) none) (H ++ [some ⟨xs ++ ys, T, false⟩])
  | .slice s' id off len none => ∃ b, H.blk id = some b ∧ s' = s ∧ b.elem = T ∧ off + len * s ≤ b.cells.length ∧
        ((len + ys.length / s) * by_ ≤ 140737488355328 ∧ len + ys.length / s ≤ 9223372036854775807) ∧
        K (.slice s H.length 0 (len + ys.length / s) none) (H.set id none ++ [some ⟨(b.cells.drop off).take (len * s) ++ ys, T, false⟩])
  | .slice s' id off len (some c) => ∃ b, H.blk id = some b ∧ s' = s ∧ off + c * s ≤ b.cells.length ∧ len ≤ c ∧
        ((len + ys.length / s) * by_ ≤ 140737488355328 ∧ len + ys.length / s ≤ 9223372036854775807) ∧
        (len + ys.length / s ≤ c → K (.slice s id off (len + ys.length / s) (some c)) (H.set id (some { b with cells := splice b.cells (off + len * s) ys }))) ∧
        (c < len + ys.length / s → K (.slice s H.length 0 (len + ys.length / s) none) (H ++ [some ⟨(b.cells.drop off).take (len * s) ++ ys, T, false⟩]))
  | _ => False
def copyWP (s : Nat) (v : AV) (ys : List AV) (H : Heap) (K : AV → Heap → Prop) : Prop :=
  match v with
  | .slice s' id off len _ => ∃ b, H.blk id = some b ∧ s' = s ∧ off + len * s ≤ b.cells.length ∧
        K (.int .i64 (Min.min (ys.length / s) len : Nat)) (H.set id (some { b with cells := splice b.cells off (ys.take (Min.min (ys.length / s) len * s)) }))
  | _ => False
def ev (o : IOp) (e : Env) (H : Heap) (K : AV → Prop) : Prop :=
  match o with
  | .mv x => ∃ v, e.opd x = some v ∧ K v
  | .pick c a b => ∃ t, e.opd c = some (.bool t) ∧ (t = true → ∃ v, e.opd a = some v ∧ K v) ∧ (t = false → ∃ v, e.opd b = some v ∧ K v)
  | .bin b op x y => ∃ v w, e.opd x = some v ∧ e.opd y = some w ∧ isB v = b ∧ binWP op v w K
  | .isNil neg q x => ∃ v, e.opd x = some v ∧ nilWP neg q v K
  | .eqA neg ks x y => ∃ v w, e.opd x = some v ∧ e.opd y = some w ∧ eqAWP neg ks v w K
  | .un op x => ∃ v, e.opd x = some v ∧ unWP op v K
  | .convI k x => ∃ v, e.opd x = some v ∧ convWP k v K
  | .toStr x => ∃ v xs l, e.opd x = some v ∧ oneSl v = true ∧ sliceCells H v = some xs ∧ xs = l.map bv ∧ K (.str l)
  | .ofStr _ x => ∃ v, e.opd x = some v ∧ ofStrWP v K
  | .build z ps => ∃ vs cs, e.parts ps = some vs ∧ fillA z vs = some cs ∧ K (.agg cs)
  | .buildF _ n z ps => ∃ vs cs, e.parts ps = some vs ∧ fillA z vs = some cs ∧ K (.list n ⟨false, true, false⟩ cs)
  | .load n x => ∃ v, e.opd x = some v ∧ loadWP H v n K
  | .nilCheck x => ∃ v, e.opd x = some v ∧ nchkWP v K
  | .fieldAddr o x => ∃ v, e.opd x = some v ∧ faWP o v K
  | .field o n x => ∃ v, e.opd x = some v ∧ fldWP o v n K
  | .idxA len s x i => ∃ v k n, e.opd x = some v ∧ e.opd i = some (.int k n) ∧ (0 ≤ n ∧ n < len) ∧ idxAWP s v n K
  | .idxS s x i => ∃ v k n, e.opd x = some v ∧ e.opd i = some (.int k n) ∧ idxSWP s v n K
  | .ixA len s a x i => ∃ v k n, e.opd x = some v ∧ e.opd i = some (.int k n) ∧ (0 ≤ n ∧ n < len) ∧ ixAWP s v a n K
  | .slS s x lo hi mx => ∃ v l h m, e.opd x = some v ∧ e.opdO lo = some l ∧ e.opdO hi = some h ∧ e.opdO mx = some m ∧ notStr v = true ∧ slSWP s v l h m K
  | .slA s n x lo hi mx => ∃ v l h m, e.opd x = some v ∧ e.opdO lo = some l ∧ e.opdO hi = some h ∧ e.opdO mx = some m ∧ slAWP H s n v l h m K
  | .len b x => ∃ v, e.opd x = some v ∧ notStr v = b ∧ lenWP v K
  | .lenK n => K (.int .i64 n)
  | .appF _ s by_ x y => ∃ v w ys, e.opd x = some v ∧ e.opd y = some w ∧ sliceCells H w = some ys ∧ szAV w s = true ∧ appFWP s by_ v ys K
  | .extract i x => ∃ v, e.opd x = some v ∧ extWP i v K
  | .s2a n s x => ∃ v, e.opd x = some v ∧ s2aWP n s v K
  | .func f first caps => ∃ xs ys, e.opds first = some xs ∧ e.opds caps = some ys ∧ K (.func f xs ys)
  | .iface t x => ∃ v, e.opd x = some v ∧ K (.iface t v)
  | .look ok z x i => ∃ k kvs n, e.opd x = some (.map k kvs) ∧ e.opd i = some (.int k n) ∧ K (lookV ok z kvs n)
  | .min x y => ∃ k a b, e.opd x = some (.int k a) ∧ e.opd y = some (.int k b) ∧ K (.int k (Min.min a b))
  | .max x y => ∃ k a b, e.opd x = some (.int k a) ∧ e.opd y = some (.int k b) ∧ K (.int k (Max.max a b))
  | _ => False
def okFn (P : Program) (f : FuncId) : Bool := match P.funcs[f]? with
  | some fn => fn.body.isSome && !(fn.name == "runtime.NumGoroutine")
  | none => false
def CallsX (P : Program) (f : FuncId) (vs : Array Value) (w : World) (R : Ending → World → Prop) : Prop :=
  (okFn P f = true ∧ Calls P f vs w R) ∨ ∃ u w', (callFunc f vs).run P w = .ok (.value u) w' ∧ R (.returned u) w'
theorem CallsX.mono {P : Program} {f : FuncId} {vs : Array Value} {w : World} {R R' : Ending → World → Prop} (h : CallsX P f vs w R) (k : ∀ e w', R e w' → R' e w') : CallsX P f vs w R' :=
  h.imp (fun ⟨h1, h2⟩ => ⟨h1, h2.mono k⟩) fun ⟨u, w', h1, h2⟩ => ⟨u, w', h1, k _ _ h2⟩
def FSpec (P : Program) (f : FuncId) (args : List AV) (H : Heap) (r : AV) (H' : Heap) : Prop :=
  ∀ (ro bo fr : Mem) (Φ : Emb) (w : World) (vs : Array Value), vs.size = args.length →
    (∀ (j : Nat) (v : AV) (u : Value), args[j]? = some v → vs[j]? = some u → VR ro bo Φ v u) →
    Holds ro fr Φ H w → Mem.le bo fr →
    CallsX P f vs w fun e w' => ∃ u ro' Φ', e = .returned u ∧ VR ro' bo Φ' r u ∧ Holds ro' fr Φ' H' w' ∧ Mem.le ro ro' ∧ Emb.le Φ Φ' ∧ WExt w w'
def hv (P : Program) (o : IOp) (e : Env) (H : Heap) (K : AV → Heap → Prop) : Prop :=
  match o with
  | .alloc T z => T < 1000000 ∧ K (.ptr H.length 0) (H ++ [some ⟨z, T, true⟩])
  | .box T x => ∃ v, e.opd x = some v ∧ v.okc = true ∧ cleanL v.cells = true ∧ T < 1000000 ∧ K (.ptr H.length 0) (H ++ [some ⟨v.cells, T, true⟩])
  | .buildO T s z ps => ∃ vs cs, e.parts ps = some vs ∧ fillA z vs = some cs ∧ cleanL cs = true ∧ T < 1000000 ∧ K (.slice s H.length 0 (cs.length / s) (some (cs.length / s))) (H ++ [some ⟨cs, T, true⟩])
  | .store n x v => ∃ p c, e.opd x = some p ∧ e.opd v = some c ∧ storeWP n p c H K
  | .appO T s by_ x y => ∃ v w ys, e.opd x = some v ∧ e.opd y = some w ∧ sliceCells H w = some ys ∧ szAV w s = true ∧ cleanL ys = true ∧ T < 1000000 ∧ appOWP T s by_ v ys H K
  | .copy s x y => ∃ v w ys, e.opd x = some v ∧ e.opd y = some w ∧ sliceCells H w = some ys ∧ szAV w s = true ∧ cleanL ys = true ∧ notStr w = true ∧ copyWP s v ys H K
  | .makeS T s by_ z len cap => ∃ k l c, e.opd len = some (.int k l) ∧ e.opd cap = some (.int k c) ∧ (0 ≤ l ∧ l ≤ c ∧ c * by_ ≤ 140737488355328 ∧ c ≤ 9223372036854775807) ∧ T < 1000000 ∧
      K (.slice s H.length 0 l.toNat (some c.toNat)) (H ++ [some ⟨(List.replicate c.toNat z).flatten, T, true⟩])
  | .call f args => ∃ as, e.opds args = some as ∧ ∃ r H', FSpec P f as H r H' ∧ K r H'
  | .callv f args => ∃ g caps as, e.opd f = some (.func (.func g) [] caps) ∧ e.opds args = some as ∧ okFn P g = true ∧ ∃ r H', FSpec P g (as ++ caps) H r H' ∧ K r H'
  | .cvt x => ∃ id off len cap b, e.opd x = some (.slice 1 id off len (some cap)) ∧ H.blk id = some b ∧ 0 < len ∧ off + len ≤ b.cells.length ∧ K (.list 1 ⟨false, decide (cap = len), false⟩ ((b.cells.drop off).take len)) (H.set id none)
  | .allocA L k T z => H.blk (L + k) = some ⟨[], 1000000, false⟩ ∧ T < 1000000 ∧ K (.ptr (L + k) 0) (H.set (L + k) (some ⟨z, T, true⟩))
  | .makeA L q T s by_ z len cap => ∃ k l c, e.opd len = some (.int k l) ∧ e.opd cap = some (.int k c) ∧ H.blk (L + q) = some ⟨[], 1000000, false⟩ ∧ (0 ≤ l ∧ l ≤ c ∧ c * by_ ≤ 140737488355328 ∧ c ≤ 9223372036854775807) ∧ T < 1000000 ∧
      K (.slice s (L + q) 0 l.toNat (some c.toNat)) (H.set (L + q) (some ⟨(List.replicate c.toNat z).flatten, T, true⟩))
  | _ => False
def isHv : IOp → Bool
  | .alloc .. | .box .. | .buildO .. | .store .. | .appO .. | .copy .. | .makeS .. | .call .. | .callv .. | .allocA .. | .makeA .. | .cvt .. => true
  | _ => false
def opWP (P : Program) (o : IOp) (e : Env) (H : Heap) (K : AV → Heap → Prop) : Prop :=
  match o with
  | .callP f args => ∃ as, e.opds args = some as ∧ ∃ r, (∀ H, FSpec P f as H r H) ∧ K r H
  | o => if isHv o then hv P o e H K else ev o e H fun v => K v H
def absS : Value → Option AV
  | .bool b => some (.bool b)
  | .int k n => some (.int k n)
  | .string s => some (.str s.data.toList)
  | .pointer none => some .nil
  | .slice none 0 0 => some (.list 1 ⟨true, true, false⟩ [])
  | .nilFunc => some .nilFunc
  | .nilIface => some .nilIface
  | _ => none
def absL : List Value → Option (List AV)
  | [] => some []
  | v :: l => match absS v, absL l with
    | some x, some xs => some (x :: xs)
    | _, _ => none
def absV : Value → Option AV
  | .agg c => (absL c.toList).map .agg
  | .tuple c => (absL c.toList).map .tuple
  | v => absS v
def lowO : Operand → Option Opd
  | .tmp t => some (.t t)
  | .const v => (absV v).map .k
  | .func f => some (.k (.func (.func f) [] []))
  | .global _ => none
def lowOs : List Operand → Option (List Opd)
  | [] => some []
  | x :: l => match lowO x, lowOs l with
    | some y, some ys => some (y :: ys)
    | _, _ => none
def lowOO : Option Operand → Option (Option Opd)
  | none => some none
  | some x => (lowO x).map some
def szOf (P : Program) (t : TypeId) : Option Nat := (P.info? t).map (·.size)
def zeroOf (P : Program) (t : TypeId) : Option AV := ((P.info? t).bind (·.zero)).bind absV
def aggN (P : Program) (t : TypeId) : Option (Option Nat) :=
  match P.underlying t with
  | some (.struct _) | some (.array _ _) => (szOf P t).map some
  | some _ => some none
  | none => none
def lowParts (off : Nat → Option (Nat × Nat)) : List (Nat × Operand) → Option (List (Nat × Nat × Opd))
  | [] => some []
  | (i, x) :: l => match off i, lowO x, lowParts off l with
    | some (o, n), some y, some ys => some ((o, n, y) :: ys)
    | _, _, _ => none
def fieldOff (P : Program) (fs : Array Field) (i : Nat) : Option (Nat × Nat) := match fs[i]? with
  | some f => (szOf P f.type).map fun n => (f.offset, n)
  | none => none
def repZ (z : List AV) : Nat → List AV
  | 0 => []
  | n + 1 => z ++ repZ z n
def flatF (P : Program) (g : TypeId → Option (List IntKind)) : List Field → Nat → Option (List IntKind)
  | [], _ => some []
  | f :: fs, o => if f.name ≠ "_" ∧ f.offset = o then (match g f.type with
    | some ks => (match flatF P g fs (o + ks.length) with
      | some ls => some (ks ++ ls)
      | none => none)
    | none => none) else none
def repK (ks : List IntKind) : Nat → List IntKind
  | 0 => []
  | n + 1 => ks ++ repK ks n
def flatK (P : Program) : Nat → TypeId → Option (List IntKind)
  | 0, _ => none
  | d + 1, t => match P.underlying t with
    | some (.int k) => some [k]
    | some (.array n e) => match flatK P d e with
      | some ks => if szOf P t = some (repK ks n).length ∧ P.cellsOf e = ks.length then some (repK ks n) else none
      | none => none
    | some (.struct fs) => match flatF P (flatK P d) fs.toList 0 with
      | some ks => if szOf P t = some ks.length ∧ P.stoodInHeld t = false then some ks else none
      | none => none
    | _ => none
def lowOp (P : Program) (own : Bool) (op : Op) : Option IOp :=
  match op with
  | .move x | .assign x => (lowO x).map .mv
  | .pick c a b => match lowO c, lowO a, lowO b with
    | some c, some a, some b => some (.pick c a b)
    | _, _, _ => none
  | .alloc t => match zeroOf P t with
    | some z => if z.okc = true ∧ cleanL z.cells = true then some (.alloc t z.cells) else none
    | none => none
  | .box t x => (lowO x).map (.box t)
  | .build t ps => match P.underlying t, zeroOf P t with
    | some (.struct fs), some z => if z.okc = true ∧ (fs.toList.all fun f => (szOf P f.type).isSome) = true then (lowParts (fieldOff P fs) ps.toList).map (.build z.cells) else none
    | some (.array _ e), some z => match szOf P e with
      | some s => if z.okc = true then (lowParts (fun i => some (i * s, s)) ps.toList).map (.build z.cells) else none
      | none => none
    | _, _ => none
  | .buildSlice t n ps => match P.underlying t with
    | some (.slice e) => match szOf P e, zeroOf P e with
      | some s, some z => if 0 < s ∧ n * s ≤ 65536 ∧ z.okc = true ∧ z.cells.length = s then
          match lowParts (fun i => some (i * s, s)) ps.toList with
          | some l => if own then some (.buildO e s (repZ z.cells n) l) else some (.buildF e s (repZ z.cells n) l)
          | none => none
        else none
      | _, _ => none
    | _ => none
  | .load t x => match aggN P t, lowO x with
    | some n, some y => some (.load n y)
    | _, _ => none
  | .store t x v => match szOf P t, lowO x, lowO v with
    | some n, some a, some b => some (.store n a b)
    | _, _, _ => none
  | .nilCheck x => (lowO x).map .nilCheck
  | .binOp op t x y _ => match lowO x, lowO y with
    | some a, some b => match op, P.underlying t with
      | .eql, some (.pointer _) => match y with
        | .const (.pointer none) => some (.isNil false 0 a)
        | _ => none
      | .eql, some (.slice _) => match y with
        | .const (.slice none 0 0) => some (.isNil false 1 a)
        | _ => none
      | .eql, some (.func _ _ _) => match y with
        | .const .nilFunc => some (.isNil false 2 a)
        | _ => none
      | .eql, some (.interface _) => match y with
        | .const .nilIface => some (.isNil false 3 a)
        | _ => none
      | .neq, some (.pointer _) => match y with
        | .const (.pointer none) => some (.isNil true 0 a)
        | _ => none
      | .neq, some (.slice _) => match y with
        | .const (.slice none 0 0) => some (.isNil true 1 a)
        | _ => none
      | .neq, some (.func _ _ _) => match y with
        | .const .nilFunc => some (.isNil true 2 a)
        | _ => none
      | .neq, some (.interface _) => match y with
        | .const .nilIface => some (.isNil true 3 a)
        | _ => none
      | .eql, some (.struct _) | .eql, some (.array _ _) => match flatK P 20 t with
        | some ks => if P.eqGuardType P.depth t = false then some (.eqA false ks a b) else none
        | none => none
      | .neq, some (.struct _) | .neq, some (.array _ _) => match flatK P 20 t with
        | some ks => if P.eqGuardType P.depth t = false then some (.eqA true ks a b) else none
        | none => none
      | _, some .bool => some (.bin true op a b)
      | _, some (.int _) => some (.bin false op a b)
      | _, some .string => some (.bin false op a b)
      | _, _ => none
    | _, _ => none
  | .unOp op _ x => (lowO x).map (.un op)
  | .convert s d x => match P.underlying s, P.underlying d, lowO x with
    | some (.int _), some (.int k), some a => some (.convI k a)
    | some (.slice e), some .string, some a => match P.underlying e with
      | some (.int .u8) => some (.toStr a)
      | _ => none
    | some .string, some (.slice e), some a => match P.underlying e with
      | some (.int .u8) => some (.ofStr e a)
      | _ => none
    | some (.slice _), some (.slice e), some a => match P.underlying e with
      | some (.int .u8) => if s = d then some (.cvt a) else none
      | _ => none
    | _, _, _ => none
  | .sliceToArrayPointer t x => match P.underlying t, lowO x with
    | some (.array n e), some a => (szOf P e).map fun s => .s2a n s a
    | _, _ => none
  | .makeInterface t x => match P.underlying t, lowO x with
    | some (.interface _), _ => none
    | some _, some a => some (.iface t a)
    | _, _ => none
  | .makeFunc f a c => match lowOs a.toList, lowOs c.toList with
    | some a, some c => some (.func f a c)
    | _, _ => none
  | .makeSlice t l c => match P.underlying t with
    | some (.slice e) => match P.info? e, zeroOf P e, lowO l, lowO c with
      | some i, some z, some l, some c => if 0 < i.size ∧ z.okc = true ∧ z.cells.length = i.size ∧ cleanL z.cells = true then some (.makeS e i.size i.bytes z.cells l c) else none
      | _, _, _, _ => none
    | _ => none
  | .slice t x lo hi mx => match P.underlying t, lowO x, lowOO lo, lowOO hi, lowOO mx with
    | some (.array n e), some a, some l, some h, some m => match szOf P e with
      | some s => if 0 < s then some (.slA s n a l h m) else none
      | none => none
    | some (.slice e), some a, some l, some h, some m => match szOf P e with
      | some s => if 0 < s then some (.slS s a l h m) else none
      | none => none
    | _, _, _, _, _ => none
  | .fieldAddr t x f => match P.underlying t, lowO x with
    | some (.struct fs), some a => match fieldOff P fs f with
      | some (o, n) => if 0 < n then some (.fieldAddr o a) else none
      | none => none
    | _, _ => none
  | .field t x f => match P.underlying t, lowO x with
    | some (.struct fs), some a => match fs[f]? with
      | some fl => (aggN P fl.type).map fun n => .field fl.offset n a
      | none => none
    | _, _ => none
  | .indexAddr t x i => match P.underlying t, lowO x, lowO i with
    | some (.array n e), some a, some j => (szOf P e).map fun s => .idxA n s a j
    | some (.slice e), some a, some j => match szOf P e with
      | some s => if 0 < s then some (.idxS s a j) else none
      | none => none
    | _, _, _ => none
  | .index t x i => match P.underlying t, lowO x, lowO i with
    | some (.array n e), some a, some j => match szOf P e, aggN P e with
      | some s, some m => some (.ixA n s m a j)
      | _, _ => none
    | _, _, _ => none
  | .extract x i => (lowO x).map (.extract i)
  | .lookup t x i ok => match P.underlying t, lowO x, lowO i with
    | some (.map k e), some a, some b => match P.underlying k, zeroOf P e with
      | some (.int _), some z => if z.okc = true then some (.look ok z a b) else none
      | _, _ => none
    | _, _, _ => none
  | .call c => match c.callee with
    | .builtin .len => match c.args.toList, c.argTypes.toList with
      | [x], [t] => match P.underlying t, lowO x with
        | some (.array n _), _ => some (.lenK n)
        | some .string, some a => some (.len false a)
        | some (.slice _), some a => some (.len true a)
        | _, _ => none
      | _, _ => none
    | .builtin .append => match c.args.toList, c.argTypes.toList with
      | [x, y], [t, u] => match P.underlying t, P.underlying u, lowO x, lowO y with
        | some (.slice e), some (.slice _), some a, some b | some (.slice e), some .string, some a, some b => match P.info? e with
          | some i => if 0 < i.size ∧ (zeroOf P e).map (·.cells.length) = some i.size ∧ (zeroOf P e).map (·.okc) = some true then (if own then some (.appO e i.size i.bytes a b) else some (.appF e i.size i.bytes a b)) else none
          | none => none
        | some (.slice e), some (.int _), some a, some (.k (.int _ n)) => match P.info? e, zeroOf P e with
          | some i, some z => if own = true ∧ 0 < n ∧ n ≤ 65536 ∧ n * i.bytes ≤ 140737488355328 ∧ 0 < i.size ∧ z.okc = true ∧ z.cells.length = i.size ∧ cleanL z.cells = true then
              some (.appO e i.size i.bytes a (.k (.list i.size ⟨false, true, false⟩ (repZ z.cells n.toNat)))) else none
          | _, _ => none
        | _, _, _, _ => none
      | _, _ => none
    | .builtin .copy => match c.args.toList, c.argTypes.toList with
      | [x, y], [t, _] => match P.underlying t, lowO x, lowO y with
        | some (.slice e), some a, some b => match szOf P e with
          | some s => if 0 < s then some (.copy s a b) else none
          | none => none
        | _, _, _ => none
      | _, _ => none
    | .builtin .min => match c.args.toList with
      | [x, y] => match lowO x, lowO y with
        | some a, some b => some (.min a b)
        | _, _ => none
      | _ => none
    | .builtin .max => match c.args.toList with
      | [x, y] => match lowO x, lowO y with
        | some a, some b => some (.max a b)
        | _, _ => none
      | _ => none
    | .value (.func f) => match lowOs c.args.toList with
      | some as => if own then some (.call f as) else some (.callP f as)
      | none => none
    | .value x => match lowO x, lowOs c.args.toList with
      | some y, some as => some (.callv y as)
      | _, _ => none
    | _ => none
  | _ => none
end Go.Fw
namespace Go.Fw
def EnvOK (ro bo : Mem) (Φ : Emb) (e : Env) (a : Act) : Prop := ∀ (t : Nat) (v : AV), e.get t = some v → ∃ u, a.tmps[t]? = some u ∧ VR ro bo Φ v u
section
variable {P : Program} {ro bo fr : Mem} {Φ : Emb} {e : Env} {H : Heap} {a : Act} {w : World}
theorem szOf_run {t n : Nat} (h : szOf P t = some n) : (sizeOf t).run P w = .ok n w := by
  unfold szOf at h
  cases hi : P.info? t with
  | none => rw [hi] at h; cases h
  | some i => rw [hi] at h; simp at h; simp [sizeOf, typeInfo, hi, h]
theorem absS_one {v : Value} {x : AV} (h : absS v = some x) : v.oneCell' = true := by
  unfold absS at h
  split at h <;> first | rfl | (cases h)
theorem absS_sound {v : Value} {x : AV} (h : absS v = some x) : VR ro bo Φ x v := by
  unfold absS at h
  split at h <;> cases h
  · exact .bool _
  · exact .int _ _
  · exact .str _ _ rfl
  · exact .nil
  · exact .listNil _ _ (by omega)
  · exact .nilFunc
  · exact .nilIface
theorem absL_sound : ∀ {l : List Value} {xs : List AV}, absL l = some xs → l.length = xs.length ∧ (∀ (j : Nat) (v : AV) (u : Value), xs[j]? = some v → l[j]? = some u → VR ro bo Φ v u) ∧ ∀ u ∈ l, u.oneCell' = true := by
  intro l
  induction l with
  | nil => intro xs h; simp [absL] at h; subst h; simp
  | cons v l ih =>
    intro xs h
    simp only [absL] at h
    split at h <;> cases h
    rename_i x xs' h1 h2
    obtain ⟨i1, i2, i3⟩ := ih h2
    refine ⟨by simp [i1], ?_, ?_⟩
    · intro j v' u hv hu
      cases j with
      | zero => simp at hv hu; subst hv; subst hu; exact absS_sound h1
      | succ j => simp at hv hu; exact i2 j v' u hv hu
    · intro u hu
      rcases List.mem_cons.1 hu with rfl | hu
      · exact absS_one h1
      · exact i3 u hu
theorem absV_sound {v : Value} {x : AV} (h : absV v = some x) : VR ro bo Φ x v := by
  unfold absV at h
  split at h
  · rename_i c
    cases hl : absL c.toList with
    | none => rw [hl] at h; cases h
    | some xs =>
      rw [hl] at h; simp at h; subst h
      obtain ⟨h1, h2, h3⟩ := absL_sound (ro := ro) (bo := bo) (Φ := Φ) hl
      refine .agg xs c (by simpa using h1) (fun j v u hv hu => h2 j v u hv (by simpa using hu)) (fun j u hu => h3 u ?_)
      exact Array.mem_toList_iff.2 (Array.mem_of_getElem? hu)
  · rename_i c
    cases hl : absL c.toList with
    | none => rw [hl] at h; cases h
    | some xs =>
      rw [hl] at h; simp at h; subst h
      obtain ⟨h1, h2, h3⟩ := absL_sound (ro := ro) (bo := bo) (Φ := Φ) hl
      exact .tuple xs c (by simpa using h1) (fun j v u hv hu => h2 j v u hv (by simpa using hu))
  · exact absS_sound h
theorem opd_sound (hE : EnvOK ro bo Φ e a) {x : Operand} {y : Opd} {v : AV} (hl : lowO x = some y) (h : e.opd y = some v) : VR ro bo Φ v (a.eval x) := by
  cases x with
  | tmp t =>
    simp [lowO] at hl; subst hl
    obtain ⟨u, hu, hv⟩ := hE t v h
    simpa [Act.eval, hu] using hv
  | const c =>
    simp only [lowO] at hl
    cases hc : absV c with
    | none => rw [hc] at hl; cases hl
    | some x =>
      rw [hc] at hl; simp at hl; subst hl
      simp [Env.opd] at h; subst h
      exact absV_sound hc
  | global g => simp [lowO] at hl
  | func f =>
    simp [lowO] at hl; subst hl
    simp [Env.opd] at h; subst h
    exact .func _ _ _ _ _ rfl rfl (by simp) (by simp)
theorem opdO_sound (hE : EnvOK ro bo Φ e a) {x : Option Operand} {y : Option Opd} {v : Option AV} (hl : lowOO x = some y) (h : e.opdO y = some v) :
    (v = none ∧ x = none) ∨ ∃ v' x', v = some v' ∧ x = some x' ∧ VR ro bo Φ v' (a.eval x') := by
  cases x with
  | none => simp [lowOO] at hl; subst hl; simp [Env.opdO] at h; exact .inl ⟨h.symm, rfl⟩
  | some x =>
    simp only [lowOO] at hl
    cases hx : lowO x with
    | none => rw [hx] at hl; cases hl
    | some z =>
      rw [hx] at hl; simp at hl; subst hl
      simp only [Env.opdO] at h
      cases hz : e.opd z with
      | none => rw [hz] at h; cases h
      | some q => rw [hz] at h; simp at h; exact .inr ⟨q, x, h.symm, rfl, opd_sound hE hx hz⟩
theorem opds_sound (hE : EnvOK ro bo Φ e a) : ∀ {l : List Operand} {ys : List Opd} {vs : List AV}, lowOs l = some ys → e.opds ys = some vs →
    l.length = vs.length ∧ ∀ (j : Nat) (v : AV) (u : Value), vs[j]? = some v → (l.map a.eval)[j]? = some u → VR ro bo Φ v u := by
  intro l
  induction l with
  | nil => intro ys vs h1 h2; simp [lowOs] at h1; subst h1; simp [Env.opds] at h2; subst h2; simp
  | cons x l ih =>
    intro ys vs h1 h2
    simp only [lowOs] at h1
    split at h1 <;> cases h1
    rename_i y ys' hy hys
    simp only [Env.opds] at h2
    cases hv : e.opd y with
    | none => rw [hv] at h2; cases h2
    | some v =>
      rw [hv] at h2
      cases hvs : e.opds ys' with
      | none => rw [hvs] at h2; cases h2
      | some vs' =>
        rw [hvs] at h2; simp at h2; subst h2
        obtain ⟨i1, i2⟩ := ih hys hvs
        refine ⟨by simp [i1], fun j v' u hv' hu => ?_⟩
        cases j with
        | zero => simp at hv' hu; subst hv'; subst hu; exact opd_sound hE hy hv
        | succ j => simp only [List.getElem?_cons_succ, List.map_cons] at hv' hu; exact i2 j v' u hv' hu
theorem VR.int_inv {k : IntKind} {n : Int} {u : Value} (h : VR ro bo Φ (.int k n) u) : u = .int k n := by cases h; rfl
theorem VR.bool_inv {b : Bool} {u : Value} (h : VR ro bo Φ (.bool b) u) : u = .bool b := by cases h; rfl
theorem VR.str_inv {l : List UInt8} {u : Value} (h : VR ro bo Φ (.str l) u) : ∃ s : ByteArray, u = .string s ∧ s.data.toList = l := by
  cases h with
  | str l s h => exact ⟨s, rfl, h⟩
def Yv (P : Program) (ro bo fr : Mem) (Φ : Emb) (H : Heap) (w : World) (K : AV → Prop) (s : Sem Value) : Prop :=
  ∃ v u ro' w', K v ∧ s.run P w = .ok u w' ∧ VR ro' bo Φ v u ∧ Holds ro' fr Φ H w' ∧ Mem.le ro ro' ∧ WExt w w'
theorem Yv.of (hH : Holds ro fr Φ H w) {K : AV → Prop} {s : Sem Value} {v : AV} {u : Value} (hK : K v) (hr : s.run P w = .ok u w) (hv : VR ro bo Φ v u) : Yv P ro bo fr Φ H w K s :=
  ⟨v, u, ro, w, hK, hr, hv, hH, Mem.le_refl _, WExt.refl _⟩
theorem beq_dec {α : Type} [BEq α] [LawfulBEq α] [DecidableEq α] (a b : α) : (a == b) = decide (a = b) := by rw [Bool.eq_iff_iff]; simp
theorem bne_dec {α : Type} [BEq α] [LawfulBEq α] [DecidableEq α] (a b : α) : (!(a == b)) = decide (¬ a = b) := by rw [beq_dec]; simp
theorem int_sound (hH : Holds ro fr Φ H w) {op : BinOp} {k k' : IntKind} {x y : Int} {t : TypeId} {K : AV → Prop} (h : intWP op k x k' y K) :
    Yv P ro bo fr Φ H w K (Go.binOp op t (.int k x) (.int k' y)) := by
  cases op <;> simp only [intWP] at h
  case add => obtain ⟨rfl, h⟩ := h; exact .of hH h (by simp [Go.binOp, Op.intArith]) (.int _ _)
  case sub => obtain ⟨rfl, h⟩ := h; exact .of hH h (by simp [Go.binOp, Op.intArith]) (.int _ _)
  case mul => obtain ⟨rfl, h⟩ := h; exact .of hH h (by simp [Go.binOp, Op.intArith]) (.int _ _)
  case quo => obtain ⟨rfl, h0, h⟩ := h; exact .of hH h (by simp [Go.binOp, Op.intDiv, h0]) (.int _ _)
  case rem => obtain ⟨rfl, h0, h⟩ := h; exact .of hH h (by simp [Go.binOp, Op.intDiv, h0]) (.int _ _)
  case and => obtain ⟨rfl, h⟩ := h; exact .of hH h (by simp [Go.binOp, Op.intBits, bitI]) (.int _ _)
  case or => obtain ⟨rfl, h⟩ := h; exact .of hH h (by simp [Go.binOp, Op.intBits, bitI]) (.int _ _)
  case xor => obtain ⟨rfl, h⟩ := h; exact .of hH h (by simp [Go.binOp, Op.intBits, bitI]) (.int _ _)
  case andNot => obtain ⟨rfl, h⟩ := h; exact .of hH h (by simp [Go.binOp, Op.intBits, bitI]) (.int _ _)
  case shl => obtain ⟨h0, h⟩ := h; exact .of hH h (by simp only [Go.binOp, Op.shift, if_neg (Int.not_lt.2 h0), Sem.run_pure]) (.int _ _)
  case shr => obtain ⟨h0, h⟩ := h; exact .of hH h (by simp only [Go.binOp, Op.shift, if_neg (Int.not_lt.2 h0), Sem.run_pure]) (.int _ _)
  case eql => obtain ⟨rfl, h⟩ := h; exact .of hH h (by simp only [Go.binOp, Op.intCmp, ne_eq, not_true, if_false, Sem.run_pure, beq_dec]) (.bool _)
  case neq => obtain ⟨rfl, h⟩ := h; exact .of hH h (by simp only [Go.binOp, Op.intCmp, ne_eq, not_true, if_false, Sem.run_pure, bne, bne_dec]) (.bool _)
  case lss => obtain ⟨rfl, h⟩ := h; exact .of hH h (by simp only [Go.binOp, Op.intCmp, ne_eq, not_true, if_false, Sem.run_pure, gt_iff_lt, ge_iff_le]) (.bool _)
  case leq => obtain ⟨rfl, h⟩ := h; exact .of hH h (by simp only [Go.binOp, Op.intCmp, ne_eq, not_true, if_false, Sem.run_pure, gt_iff_lt, ge_iff_le]) (.bool _)
  case gtr => obtain ⟨rfl, h⟩ := h; exact .of hH h (by simp only [Go.binOp, Op.intCmp, ne_eq, not_true, if_false, Sem.run_pure, gt_iff_lt, ge_iff_le]) (.bool _)
  case geq => obtain ⟨rfl, h⟩ := h; exact .of hH h (by simp only [Go.binOp, Op.intCmp, ne_eq, not_true, if_false, Sem.run_pure, gt_iff_lt, ge_iff_le]) (.bool _)
theorem str_sound (hH : Holds ro fr Φ H w) {op : BinOp} {s t : ByteArray} {T : TypeId} {K : AV → Prop} (h : strWP op s.data.toList t.data.toList K) :
    Yv P ro bo fr Φ H w K (Go.binOp op T (.string s) (.string t)) := by
  cases op <;> simp only [strWP] at h
  case add =>
    obtain ⟨h0, h⟩ := h
    have h1 : ¬ ((s.size + t.size : Nat) : Int) > IntKind.i64.max := by
      have e1 : s.size = s.data.toList.length := by rw [Array.length_toList]; rfl
      have e2 : t.size = t.data.toList.length := by rw [Array.length_toList]; rfl
      have : IntKind.i64.max = 9223372036854775807 := by decide
      rw [this, e1, e2]; omega
    refine .of hH h (u := .string (s ++ t)) ?_ (.str _ _ ?_)
    · simp only [Go.binOp, Op.stringOp, if_neg h1]; rfl
    · simp
  case eql => exact .of hH h (by simp only [Go.binOp, Op.stringOp, ByteArray.toList_eq, beq_dec, Sem.run_pure]) (.bool _)
  case neq => exact .of hH h (by simp only [Go.binOp, Op.stringOp, ByteArray.toList_eq, bne_dec, Sem.run_pure]) (.bool _)
theorem run_equal_bool {T : TypeId} (hT : P.underlying T = some .bool) (x y : Bool) : (Op.equal T (.bool x) (.bool y)).run P w = .ok (decide (x = y)) w := by
  have h : ∀ d, (Op.equalIn (d + 1) T (.bool x) (.bool y)).run P w = .ok (decide (x = y)) w := by
    intro d
    simp only [Op.equalIn, Sem.run_bind, run_underlying hT, Result.andThen_ok, Sem.run_pure]
    cases x <;> cases y <;> rfl
  exact h 9999
theorem bool_sound (hH : Holds ro fr Φ H w) {op : BinOp} {s t : Bool} {T : TypeId} {K : AV → Prop} (hT : P.underlying T = some .bool) (h : boolWP op s t K) :
    Yv P ro bo fr Φ H w K (Go.binOp op T (.bool s) (.bool t)) := by
  cases op <;> simp only [boolWP] at h
  case eql => exact .of hH h (by simp only [Go.binOp, Sem.run_bind, run_equal_bool hT, Result.andThen_ok, Sem.run_pure]) (.bool _)
  case neq => exact .of hH h (by simp only [Go.binOp, Sem.run_bind, run_equal_bool hT, Result.andThen_ok, Sem.run_pure, decide_not]) (.bool _)
theorem blk_get {id : Nat} {b : Blk} (h : Heap.blk H id = some b) : H[id]? = some (some b) := by
  unfold Heap.blk at h
  split at h
  · rename_i b' hb; cases h; exact hb
  · cases h
theorem Holds.blkAt (hH : Holds ro fr Φ H w) {id : Nat} {b : Blk} {r o s : Nat} (hb : Heap.blk H id = some b) (hΦ : Φ id = some (r, o, s)) : BlkAt ro Φ b w r o s := by
  rcases hH.own id b (blk_get hb) with ⟨_, _, h⟩ | ⟨r', o', s', h, hB⟩
  · rw [h] at hΦ; cases hΦ
  · rw [h] at hΦ; cases hΦ; exact hB
theorem cell_row {r o : Nat} {c : Array Value} {T : TypeId} {fz : Nat × Nat} (h : w.heap[r]? = some (.cells c T fz)) : w.cell? ⟨r, o, none⟩ = c[o]? := by
  simp [World.cell?, h]
def rowFrom (c : Array Value) (o n : Nat) : List Value := (c.toList.drop o).take n
theorem rowFrom_length {c : Array Value} {o n : Nat} (h : o + n ≤ c.size) : (rowFrom c o n).length = n := by
  simp [rowFrom]; omega
theorem rowFrom_get {c : Array Value} {o n j : Nat} (hj : j < n) : (rowFrom c o n)[j]? = c[o + j]? := by
  simp [rowFrom, List.getElem?_take, hj]
theorem run_loadCells_row {r o n : Nat} {c : Array Value} {T : TypeId} {fz : Nat × Nat} (h : w.heap[r]? = some (.cells c T fz)) (hn : o + n ≤ c.size) :
    (loadCells ⟨r, o, none⟩ n).run P w = .ok (rowFrom c o n).toArray w := by
  have := run_loadCells_list (P := P) w ⟨r, o, none⟩ (rowFrom c o n) (fun j v hv => by
    have hj : j < n := by
      rcases Nat.lt_or_ge j n with h' | h'
      · exact h'
      · rw [List.getElem?_eq_none (by rw [rowFrom_length hn]; exact h')] at hv; cases hv
    rw [rowFrom_get hj] at hv
    rw [Addr.add_lit, cell_row h]; exact hv)
  rwa [rowFrom_length hn] at this
theorem aggN_none {t : TypeId} (h : aggN P t = some none) : (isAgg t).run P w = .ok false w := by
  unfold aggN at h
  split at h
  · cases hz : szOf P t <;> rw [hz] at h <;> cases h
  · cases hz : szOf P t <;> rw [hz] at h <;> cases h
  · rename_i d h1 h2 hd
    have hr := run_underlying hd w
    simp only [isAgg, Sem.run_bind, hr, Result.andThen_ok]
    cases d <;> first | rfl | exact absurd hd (h1 _) | exact absurd hd (h2 _ _)
  · cases h
theorem aggN_some {t : TypeId} {n : Nat} (h : aggN P t = some (some n)) : (isAgg t).run P w = .ok true w ∧ szOf P t = some n := by
  unfold aggN at h
  split at h
  · rename_i d hd
    have hr := run_underlying hd w
    refine ⟨by simp only [isAgg, Sem.run_bind, hr, Result.andThen_ok]; rfl, ?_⟩
    cases hz : szOf P t <;> rw [hz] at h <;> simp at h; rw [h]
  · rename_i d1 d2 hd
    have hr := run_underlying hd w
    refine ⟨by simp only [isAgg, Sem.run_bind, hr, Result.andThen_ok]; rfl, ?_⟩
    cases hz : szOf P t <;> rw [hz] at h <;> simp at h; rw [h]
  · cases h
  · cases h
theorem aggN_sz {t : TypeId} {n : Nat} (h : aggN P t = some (some n)) : szOf P t = some n := by
  unfold aggN at h
  split at h
  · cases hz : szOf P t <;> rw [hz] at h <;> simp at h; rw [h]
  · cases hz : szOf P t <;> rw [hz] at h <;> simp at h; rw [h]
  · cases h
  · cases h
theorem aggN_isAgg {t : TypeId} {n : Nat} (h : aggN P t = some (some n)) : (isAgg t).run P w = .ok true w := (aggN_some h).1
theorem sel_heap (hH : Holds ro fr Φ H w) (hb : Mem.le bo fr) {bw : Bool} {r : Nat} {o : Obj} (h : sel ro bo bw r o) : w.heap[r]? = some o :=
  h.elim (hH.hro _ _) fun x => hH.hfr _ _ (hb _ _ x.2)
theorem VR.agg_row {c : Array Value} {o n : Nat} {xs : List AV} (hn : o + n ≤ c.size) (hl : xs.length = n)
    (hx : ∀ (j : Nat) (v : AV) (u : Value), xs[j]? = some v → c[o + j]? = some u → VR ro bo Φ v u)
    (ho : ∀ (j : Nat) (u : Value), j < n → c[o + j]? = some u → u.oneCell' = true) : VR ro bo Φ (.agg xs) (.agg (rowFrom c o n).toArray) := by
  have hlen : (rowFrom c o n).toArray.size = n := by simp [rowFrom_length hn]
  refine .agg xs _ (by rw [hlen, hl]) (fun j v u hv hu => ?_) (fun j u hu => ?_)
  · have hj : j < n := by rw [← hl]; exact (List.getElem?_eq_some_iff.1 hv).1
    simp only [List.getElem?_toArray] at hu
    rw [rowFrom_get hj] at hu
    exact hx j v u hv hu
  · have hj : j < n := by have := (Array.getElem?_eq_some_iff.1 hu).1; omega
    simp only [List.getElem?_toArray] at hu
    rw [rowFrom_get hj] at hu
    exact ho j u hj hu
theorem VR.ptr_row (hH : Holds ro fr Φ H w) {id off : Nat} {b : Blk} {u : Value} (hv : VR ro bo Φ (.ptr id off) u) (hb : Heap.blk H id = some b) :
    ∃ (r o : Nat) (c : Array Value), u = .pointer (some ⟨r, o + off, none⟩) ∧ w.heap[r]? = some (.cells c b.elem) ∧ (∃ s, Φ id = some (r, o, s)) ∧ o + b.cells.length ≤ c.size ∧
      (∀ (j : Nat) (v : AV) (u : Value), b.cells[j]? = some v → c[o + j]? = some u → VR ro bo Φ v u) ∧ (∀ (j : Nat) (u : Value), c[j]? = some u → u.oneCell' = true) := by
  cases hv with
  | ptr _ _ r o s h =>
    obtain ⟨⟨c, h1, h2, h3, h4⟩, h5, h6⟩ := hH.blkAt hb h
    exact ⟨r, o, c, rfl, h1, ⟨s, h⟩, by omega, fun j v u x y => (h3 j v u x y).mono (Mem.le_refl _) (fun _ _ x => by cases x) (Emb.le_refl _), h4⟩
def Yw (P : Program) (ro bo : Mem) (Φ : Emb) (w : World) (K : AV → Prop) (s : Sem Value) : Prop := ∃ v u, K v ∧ s.run P w = .ok u w ∧ VR ro bo Φ v u
theorem Yw.of {K : AV → Prop} {s : Sem Value} {v : AV} {u : Value} (hK : K v) (hr : s.run P w = .ok u w) (hv : VR ro bo Φ v u) : Yw P ro bo Φ w K s := ⟨v, u, hK, hr, hv⟩
theorem Yw.toYv (hH : Holds ro fr Φ H w) {K : AV → Prop} {s : Sem Value} (h : Yw P ro bo Φ w K s) : Yv P ro bo fr Φ H w K s :=
  let ⟨_, _, hK, hr, hv⟩ := h
  Yv.of hH hK hr hv
theorem load_sound (hH : Holds ro fr Φ H w) (hb : Mem.le bo fr) {t : TypeId} {n : Option Nat} {v : AV} {u : Value} (hn : aggN P t = some n) (hv : VR ro bo Φ v u) {K : AV → Prop}
    (h : loadWP H v n K) : Yw P ro bo Φ w K (Instr.loadAt t u) := by
  cases v
  case ptr id off =>
    cases n with
    | none =>
      obtain ⟨b, c, h1, h2, h3⟩ := h
      obtain ⟨r, o, cs, rfl, g1, _, g2, g3, g4⟩ := hv.ptr_row hH h1
      have hlt : off < b.cells.length := (List.getElem?_eq_some_iff.1 h2).1
      obtain ⟨x, hx⟩ : ∃ x, cs[o + off]? = some x := ⟨cs[o + off]'(by omega), by simp⟩
      refine .of h3 (u := x) ?_ (g3 off c x h2 hx)
      simp [Instr.loadAt, Instr.sureAddr, loadVar, aggN_none hn, cell_row g1, hx]
    | some n =>
      obtain ⟨b, h1, h2, h3⟩ := h
      obtain ⟨r, o, cs, rfl, g1, _, g2, g3, g4⟩ := hv.ptr_row hH h1
      have hl : ((b.cells.drop off).take n).length = n := by simp; omega
      refine .of h3 (u := .agg (rowFrom cs (o + off) n).toArray) ?_ (VR.agg_row (by omega) hl (fun j v u hv hu => ?_) (fun j u _ hu => g4 _ u hu))
      · simp [Instr.loadAt, Instr.sureAddr, loadVar, aggN_isAgg hn, szOf_run (aggN_sz hn), run_loadCells_row g1 (show o + off + n ≤ cs.size by omega)]
      · have hj : j < n := by rw [← hl]; exact (List.getElem?_eq_some_iff.1 hv).1
        rw [List.getElem?_take, if_pos hj, List.getElem?_drop] at hv
        exact g3 (off + j) v u hv (by rwa [← Nat.add_assoc])
  case rptr bw xs =>
    cases hv with
    | rptr _ _ r off cs T fz hr hl hx ho =>
      have g1 := sel_heap hH hb hr
      cases n with
      | none =>
        obtain ⟨c, h1, h2⟩ := h
        have hlt : 0 < xs.length := (List.getElem?_eq_some_iff.1 h1).1
        obtain ⟨x, hxx⟩ : ∃ x, cs[off + 0]? = some x := ⟨cs[off + 0]'(by omega), by simp⟩
        refine .of h2 (u := x) ?_ (hx 0 c x h1 hxx)
        rw [Nat.add_zero] at hxx
        simp [Instr.loadAt, Instr.sureAddr, loadVar, aggN_none hn, cell_row g1, hxx]
      | some n =>
        obtain ⟨h1, h2⟩ := h
        have hl' : (xs.take n).length = n := by simp; omega
        refine .of h2 (u := .agg (rowFrom cs off n).toArray) ?_ (VR.agg_row (by omega) hl' (fun j v u hv hu => ?_) (fun j u hj hu => ho j u (by omega) hu))
        · simp [Instr.loadAt, Instr.sureAddr, loadVar, aggN_isAgg hn, szOf_run (aggN_sz hn), run_loadCells_row g1 (show off + n ≤ cs.size by omega)]
        · have hj : j < n := by rw [← hl']; exact (List.getElem?_eq_some_iff.1 hv).1
          rw [List.getElem?_take, if_pos hj] at hv
          exact hx j v u hv hu
  all_goals exact h.elim
theorem VR.rptr_drop {bw : Bool} {xs : List AV} {u : Value} {k : Nat} (hv : VR ro bo Φ (.rptr bw xs) u) (hk : k ≤ xs.length) :
    ∃ r off, u = .pointer (some ⟨r, off, none⟩) ∧ VR ro bo Φ (.rptr bw (xs.drop k)) (.pointer (some ⟨r, off + k, none⟩)) := by
  cases hv with
  | rptr _ _ r off c T fz hr hl hx ho =>
    refine ⟨r, off, rfl, .rptr bw _ r (off + k) c T fz hr (by simp; omega) (fun j v u hv hu => ?_) (fun j u hj hu => ?_)⟩
    · rw [List.getElem?_drop] at hv
      exact hx (k + j) v u hv (by rwa [← Nat.add_assoc])
    · exact ho (k + j) u (by simp at hj; omega) (by rwa [← Nat.add_assoc])
theorem fieldOff_sound {fs : Array Field} {i o n : Nat} (h : fieldOff P fs i = some (o, n)) : ∃ f, fs[i]? = some f ∧ f.offset = o ∧ szOf P f.type = some n := by
  unfold fieldOff at h
  split at h
  · rename_i f hf
    cases hz : szOf P f.type with
    | none => rw [hz] at h; cases h
    | some m => rw [hz] at h; simp at h; exact ⟨f, hf, h.1, by rw [hz, h.2]⟩
  · cases h
theorem run_fieldPlace {f : Field} {n : Nat} {r o : Nat} (h : szOf P f.type = some n) (hn : 0 < n) : (fieldPlace ⟨r, o, none⟩ f).run P w = .ok ⟨r, o + f.offset, none⟩ w := by
  have h0 : n ≠ 0 := by omega
  simp only [fieldPlace, Sem.run_bind, szOf_run h, Result.andThen_ok, if_neg h0, Sem.run_pure, Addr.add_lit]
theorem fieldAddr_sound (hH : Holds ro fr Φ H w) {t i o n : Nat} {fs : Array Field} (hT : P.underlying t = some (.struct fs)) (hf : fieldOff P fs i = some (o, n)) (hn : 0 < n) {v : AV} {u : Value}
    (hv : VR ro bo Φ v u) {K : AV → Prop} (h : faWP o v K) : Yv P ro bo fr Φ H w K (Instr.fieldAt t u i) := by
  obtain ⟨f, hf1, rfl, hf2⟩ := fieldOff_sound hf
  cases v
  case ptr id off =>
    cases hv with
    | ptr _ _ r o s hΦ =>
      refine .of hH h (u := .pointer (some ⟨r, o + off + f.offset, none⟩)) ?_ ?_
      · simp only [Instr.fieldAt, Sem.run_bind, run_underlying hT, Result.andThen_ok, hf1, Instr.sureAddr, Sem.run_pure, run_fieldPlace hf2 hn]
      · rw [Nat.add_assoc]; exact .ptr _ _ r o s hΦ
  case rptr b xs =>
    obtain ⟨h1, h2⟩ := h
    obtain ⟨r, off, rfl, hd⟩ := hv.rptr_drop h1
    refine .of hH h2 ?_ hd
    simp only [Instr.fieldAt, Sem.run_bind, run_underlying hT, Result.andThen_ok, hf1, Instr.sureAddr, Sem.run_pure, run_fieldPlace hf2 hn]
  all_goals exact h.elim
theorem part_sound {t : TypeId} {o : Nat} {n : Option Nat} {xs : List AV} {c : Array Value} (hn : aggN P t = some n) (hv : VR ro bo Φ (.agg xs) (.agg c)) {K : AV → Prop}
    (h : match n with
    | none => ∃ c, xs[o]? = some c ∧ K c
    | some n => o + n ≤ xs.length ∧ K (.agg ((xs.drop o).take n))) : ∃ v u, K v ∧ (part t c o).run P w = .ok u w ∧ VR ro bo Φ v u := by
  cases hv with
  | agg _ _ h1 hx ho =>
    cases n with
    | none =>
      obtain ⟨v, hv, hK⟩ := h
      have hlt : o < xs.length := (List.getElem?_eq_some_iff.1 hv).1
      obtain ⟨u, hu⟩ : ∃ u, c[o]? = some u := ⟨c[o]'(by omega), by simp⟩
      exact ⟨v, u, hK, by simp [part, aggN_none hn, hu], hx o v u hv hu⟩
    | some n =>
      obtain ⟨h2, hK⟩ := h
      have hl : ((xs.drop o).take n).length = n := by simp; omega
      have he : c.extract o (o + n) = (rowFrom c o n).toArray := by
        apply Array.ext'
        simp [rowFrom, List.take_drop]
      refine ⟨_, .agg (rowFrom c o n).toArray, hK, ?_, VR.agg_row (by omega) hl (fun j v u hv hu => ?_) (fun j u _ hu => ho _ u hu)⟩
      · simp [part, aggN_isAgg hn, szOf_run (aggN_sz hn), he]
      · have hj : j < n := by rw [← hl]; exact (List.getElem?_eq_some_iff.1 hv).1
        rw [List.getElem?_take, if_pos hj, List.getElem?_drop] at hv
        exact hx (o + j) v u hv hu
theorem field_sound (hH : Holds ro fr Φ H w) {t i : Nat} {fs : Array Field} {f : Field} {n : Option Nat} (hT : P.underlying t = some (.struct fs)) (hf : fs[i]? = some f) (hn : aggN P f.type = some n) {v : AV} {u : Value}
    (hv : VR ro bo Φ v u) {K : AV → Prop} (h : fldWP f.offset v n K) : Yv P ro bo fr Φ H w K (Instr.field t u i) := by
  cases v
  case agg xs =>
    have hv' := hv
    cases hv with
    | agg _ c h1 hx ho =>
      obtain ⟨v, u, h1, h2, h3⟩ := part_sound (w := w) (o := f.offset) hn hv' (K := K) (by cases n <;> exact h)
      refine .of hH h1 ?_ h3
      simp only [Instr.field, Sem.run_bind, run_underlying hT, Result.andThen_ok, hf, asAgg, Sem.run_pure, h2]
  all_goals (cases n <;> exact h.elim)
theorem idxA_sound (hH : Holds ro fr Φ H w) {t len el s : Nat} (hT : P.underlying t = some (.array len el)) (hs : szOf P el = some s) {v : AV} {u : Value} {k : IntKind} {n : Int}
    (hv : VR ro bo Φ v u) {K : AV → Prop} (hn : 0 ≤ n ∧ n < len) (h : idxAWP s v n K) : Yv P ro bo fr Φ H w K (Instr.indexAt t u (.int k n)) := by
  have hn' : 0 ≤ n ∧ n < (len : Int) := hn
  cases v
  case ptr id off =>
    cases hv with
    | ptr _ _ r o s' hΦ =>
      refine .of hH h (u := .pointer (some ⟨r, o + off + n.toNat * s, none⟩)) ?_ ?_
      · simp [Instr.indexAt, asIntOf, run_underlying hT, Instr.sureAddr, hn', szOf_run hs, Addr.add_lit]
      · rw [Nat.add_assoc]; exact .ptr _ _ r o s' hΦ
  case rptr b xs =>
    obtain ⟨h1, h2⟩ := h
    obtain ⟨r, off, rfl, hd⟩ := hv.rptr_drop h1
    refine .of hH h2 ?_ hd
    simp [Instr.indexAt, asIntOf, run_underlying hT, Instr.sureAddr, hn', szOf_run hs, Addr.add_lit]
  all_goals exact h.elim
theorem idxS_sound (hH : Holds ro fr Φ H w) {t el s : Nat} (hT : P.underlying t = some (.slice el)) (hs : szOf P el = some s) {v : AV} {u : Value} {k : IntKind} {n : Int}
    (hv : VR ro bo Φ v u) {K : AV → Prop} (h : idxSWP s v n K) : Yv P ro bo fr Φ H w K (Instr.indexAt t u (.int k n)) := by
  cases v
  case slice s' id off len kc =>
    obtain ⟨rfl, h2, hK⟩ := h
    cases hv with
    | slice _ _ _ _ cap o' _ r o sz hΦ he h1 h3 h4 h5 =>
      have hc : cap ≠ 0 := by omega
      have h2' : 0 ≤ n ∧ n < (len : Int) := h2
      refine .of hH hK (u := .pointer (some ⟨r, o' + n.toNat * s', none⟩)) ?_ ?_
      · simp [Instr.indexAt, asIntOf, run_underlying hT, h2', szOf_run hs, Addr.add_lit]
      · rw [h5 hc, Nat.add_assoc]; exact .ptr _ _ r o sz hΦ
    | sliceE => omega
  case list s' m xs =>
    obtain ⟨rfl, h2, hK⟩ := h
    cases hv with
    | listNil => simp at h2
    | list _ _ _ r off len cap c T fz he hm hlen h1 hf hr hl hx ho sp hsp =>
      have hne : xs ≠ [] := fun e => by rw [e] at h2; simp at h2
      have := hsp hne; subst this
      have hlt : n < (len : Int) := by
        have : n.toNat < len := by
          rcases Nat.lt_or_ge n.toNat len with h' | h'
          · exact h'
          · have := Nat.mul_le_mul_right s' h'; omega
        omega
      refine .of hH hK (u := .pointer (some ⟨r, off + n.toNat * s', none⟩)) ?_ ?_
      · simp [Instr.indexAt, asIntOf, run_underlying hT, h2.1, hlt, szOf_run hs, Addr.add_lit]
      · obtain ⟨r', o', e, hd⟩ := (VR.rptr m.bw xs r off c T fz (hr hne) (hl hne) hx ho : VR ro bo Φ _ _).rptr_drop (k := n.toNat * s') (by omega)
        simp at e; obtain ⟨rfl, rfl⟩ := e; exact hd
  all_goals exact h.elim
theorem ixA_sound (hH : Holds ro fr Φ H w) {t len el s : Nat} {m : Option Nat} (hT : P.underlying t = some (.array len el)) (hs : szOf P el = some s) (hm : aggN P el = some m) {v : AV} {u : Value} {k : IntKind} {n : Int}
    (hv : VR ro bo Φ v u) {K : AV → Prop} (hn : 0 ≤ n ∧ n < len) (h : ixAWP s v m n K) : Yv P ro bo fr Φ H w K (Instr.index t u (.int k n)) := by
  have hn' : 0 ≤ n ∧ n < (len : Int) := hn
  cases v
  case agg xs =>
    have hv' := hv
    cases hv with
    | agg _ c h1 hx ho =>
      obtain ⟨v, u, h1, h2, h3⟩ := part_sound (w := w) (o := n.toNat * s) hm hv' (K := K) (by cases m <;> exact h)
      refine .of hH h1 ?_ h3
      simp [Instr.index, asIntOf, run_underlying hT, hn', szOf_run hs, h2]
  all_goals (cases m <;> exact h.elim)
end
end Go.Fw
namespace Go.Fw
section
variable {P : Program} {ro bo fr : Mem} {Φ : Emb} {e : Env} {H : Heap} {a : Act} {w : World}
def OVal (ro bo : Mem) (Φ : Emb) (v : Option AV) (u : Option Value) : Prop := (v = none ∧ u = none) ∨ ∃ v' u', v = some v' ∧ u = some u' ∧ VR ro bo Φ v' u'
theorem OVal.none_inv {u : Option Value} (h : OVal ro bo Φ none u) : u = none := by rcases h with ⟨_, h⟩ | ⟨_, _, h, _⟩; exact h; cases h
theorem OVal.some_inv {v : AV} {u : Option Value} (h : OVal ro bo Φ (some v) u) : ∃ u', u = some u' ∧ VR ro bo Φ v u' := by
  rcases h with ⟨h, _⟩ | ⟨v', u', h, h2, h3⟩
  · cases h
  · cases h; exact ⟨u', h2, h3⟩
theorem run_sliceBound {k : IntKind} {n : Int} {y : Nat} {code : BoundsCode} (h : 0 ≤ n ∧ n ≤ (y : Int)) : (Instr.sliceBound (.int k n) y code).run P w = .ok n.toNat w := by
  simp [Instr.sliceBound, asIntOf, h]
theorem bnds_sound {isS : Bool} {len cap cap' : Nat} {lo hi mx : Option AV} {lo' hi' mx' : Option Value} (hl : OVal ro bo Φ lo lo') (hh : OVal ro bo Φ hi hi') (hm : OVal ro bo Φ mx mx')
    (hc : cap ≤ cap') (hmx : mx = none ∨ cap = cap') {K : Nat → Nat → Nat → Prop} (h : bnds len cap lo hi mx K) :
    ∃ l h m, K l h (match mx with | none => cap | some _ => m) ∧ l ≤ h ∧ h ≤ m ∧ m ≤ cap' ∧ h ≤ cap ∧ (mx = none → m = cap') ∧ (hi = none → h = len) ∧ (Instr.sliceBounds isS len cap' lo' hi' mx').run P w = .ok (l, h, m) w := by
  cases mx with
  | none =>
    have em := hm.none_inv; subst em
    cases hi with
    | none =>
      have eh := hh.none_inv; subst eh
      cases lo with
      | none =>
        have el := hl.none_inv; subst el
        obtain ⟨h1, h2⟩ := h
        exact ⟨0, len, cap', h2, by omega, by omega, Nat.le_refl _, h1, fun _ => rfl, fun _ => rfl, by simp [Instr.sliceBounds]⟩
      | some l =>
        obtain ⟨l', rfl, hl'⟩ := hl.some_inv
        cases l <;> try exact h.elim
        rename_i k l
        have := hl'.int_inv; subst this
        obtain ⟨⟨h1, h2, h3⟩, h4⟩ := h
        exact ⟨l.toNat, len, cap', h4, by omega, by omega, Nat.le_refl _, h3, fun _ => rfl, fun _ => rfl, by simp [Instr.sliceBounds, run_sliceBound (P := P) (w := w) (k := k) (show 0 ≤ l ∧ l ≤ (len : Int) by omega)]⟩
    | some h0 =>
      obtain ⟨h', rfl, hh'⟩ := hh.some_inv
      cases lo with
      | none =>
        have el := hl.none_inv; subst el
        cases h0 <;> try exact h.elim
        rename_i k h0
        have := hh'.int_inv; subst this
        obtain ⟨⟨h1, h2⟩, h4⟩ := h
        refine ⟨0, h0.toNat, cap', h4, by omega, by omega, Nat.le_refl _, by omega, fun _ => rfl, (fun e => by cases e), ?_⟩
        simp [Instr.sliceBounds, run_sliceBound (P := P) (w := w) (k := k) (show 0 ≤ h0 ∧ h0 ≤ (cap' : Int) by omega)]
      | some l =>
        obtain ⟨l', rfl, hl'⟩ := hl.some_inv
        cases l <;> try exact h.elim
        rename_i kl l
        cases h0 <;> try exact h.elim
        rename_i k h0
        have := hh'.int_inv; subst this
        have := hl'.int_inv; subst this
        obtain ⟨⟨h1, h2, h3⟩, h4⟩ := h
        refine ⟨l.toNat, h0.toNat, cap', h4, by omega, by omega, Nat.le_refl _, by omega, fun _ => rfl, (fun e => by cases e), ?_⟩
        simp [Instr.sliceBounds, run_sliceBound (P := P) (w := w) (k := k) (show 0 ≤ h0 ∧ h0 ≤ (cap' : Int) by omega), run_sliceBound (P := P) (w := w) (k := kl) (y := h0.toNat) (show 0 ≤ l ∧ l ≤ (h0.toNat : Int) by omega)]
  | some m =>
    obtain ⟨m', rfl, hm'⟩ := hm.some_inv
    have hcc : cap = cap' := hmx.resolve_left (by simp)
    subst hcc
    cases hi with
    | none => cases lo with
      | none => exact h.elim
      | some l => cases l <;> exact h.elim
    | some h0 =>
      obtain ⟨h', rfl, hh'⟩ := hh.some_inv
      cases lo with
      | none =>
        have el := hl.none_inv; subst el
        cases h0 <;> try exact h.elim
        rename_i k h0
        cases m <;> try exact h.elim
        rename_i km m
        have := hh'.int_inv; subst this
        have := hm'.int_inv; subst this
        obtain ⟨⟨h1, h2, h3⟩, h4⟩ := h
        refine ⟨0, h0.toNat, m.toNat, h4, by omega, by omega, by omega, by omega, (fun e => by cases e), (fun e => by cases e), ?_⟩
        simp [Instr.sliceBounds, run_sliceBound (P := P) (w := w) (k := km) (show 0 ≤ m ∧ m ≤ (cap : Int) by omega), run_sliceBound (P := P) (w := w) (k := k) (y := m.toNat) (show 0 ≤ h0 ∧ h0 ≤ (m.toNat : Int) by omega)]
      | some l =>
        obtain ⟨l', rfl, hl'⟩ := hl.some_inv
        cases l <;> try exact h.elim
        rename_i kl l
        cases h0 <;> try exact h.elim
        rename_i k h0
        cases m <;> try exact h.elim
        rename_i km m
        have := hh'.int_inv; subst this
        have := hm'.int_inv; subst this
        have := hl'.int_inv; subst this
        obtain ⟨⟨h1, h2, h3, h3'⟩, h4⟩ := h
        refine ⟨l.toNat, h0.toNat, m.toNat, h4, by omega, by omega, by omega, by omega, (fun e => by cases e), (fun e => by cases e), ?_⟩
        simp [Instr.sliceBounds, run_sliceBound (P := P) (w := w) (k := km) (show 0 ≤ m ∧ m ≤ (cap : Int) by omega), run_sliceBound (P := P) (w := w) (k := k) (y := m.toNat) (show 0 ≤ h0 ∧ h0 ≤ (m.toNat : Int) by omega), run_sliceBound (P := P) (w := w) (k := kl) (y := h0.toNat) (show 0 ≤ l ∧ l ≤ (h0.toNat : Int) by omega)]
theorem Addr.add_sp (r o n : Nat) (sp : Option Nat) : (⟨r, o, sp⟩ : Addr).add n = ⟨r, o + n, if n = 0 then sp else none⟩ := by
  unfold Addr.add
  split <;> simp_all
theorem VR.list_sub {m : Md} {s : Nat} {xs : List AV} {r off cap : Nat} {c : Array Value} {T : TypeId} {fz : Nat × Nat} {len l h mm o' : Nat} {md : Md} (hs : 0 < s) (hlen : xs.length = len * s)
    (hr : xs ≠ [] → sel ro bo m.bw r (.cells c T fz)) (hl : xs ≠ [] → off + xs.length ≤ c.size)
    (hx : ∀ (j : Nat) (v : AV) (u : Value), xs[j]? = some v → c[off + j]? = some u → VR ro bo Φ v u)
    (ho : ∀ (j : Nat) (u : Value), j < xs.length → c[off + j]? = some u → u.oneCell' = true)
    (h1 : l ≤ h) (h2 : h ≤ len) (h3 : h ≤ mm) (_h4 : mm ≤ cap) (hnl : md.nl = false) (hbw : md.bw = m.bw) (hf : md.full = true → mm = h) (ho' : mm ≠ l → o' = off + l * s) {sp' : Option Nat} (hsp : xs ≠ [] → sp' = none) :
    VR ro bo Φ (.list s md ((xs.drop (l * s)).take ((h - l) * s))) (.slice (some ⟨r, o', sp'⟩) (h - l) (mm - l)) := by
  have hls : l * s ≤ h * s := Nat.mul_le_mul_right _ h1
  have hhs : h * s ≤ len * s := Nat.mul_le_mul_right _ h2
  have hsub : (h - l) * s = h * s - l * s := Nat.sub_mul _ _ _
  have hle : ((xs.drop (l * s)).take ((h - l) * s)).length = (h - l) * s := by simp; omega
  have hne : ((xs.drop (l * s)).take ((h - l) * s)) ≠ [] → xs ≠ [] ∧ l < h := by
    intro hn
    refine ⟨fun e => hn (by simp [e]), ?_⟩
    rcases Nat.lt_or_ge l h with h' | h'
    · exact h'
    · exact absurd (List.eq_nil_of_length_eq_zero (by rw [hle, show h - l = 0 by omega]; simp)) hn
  refine .list s md _ r o' (h - l) (mm - l) c T fz hs hnl hle (by omega) (fun hff => by rw [hf hff]) (fun hn => ?_) (fun hn => ?_) (fun j v u hv hu => ?_) (fun j u hj hu => ?_) sp' (fun hn => hsp (hne hn).1)
  · rw [hbw]; exact hr (hne hn).1
  · have := hl (hne hn).1
    rw [hle, ho' (by have := (hne hn).2; omega)]
    omega
  · have hj : j < (h - l) * s := by rw [← hle]; exact (List.getElem?_eq_some_iff.1 hv).1
    have hlh : l < h := by
      rcases Nat.lt_or_ge l h with h' | h'
      · exact h'
      · rw [show h - l = 0 by omega] at hj; simp at hj
    rw [List.getElem?_take, if_pos hj, List.getElem?_drop] at hv
    rw [ho' (by omega), Nat.add_assoc] at hu
    exact hx _ v u hv hu
  · rw [hle] at hj
    have hlh : l < h := by
      rcases Nat.lt_or_ge l h with h' | h'
      · exact h'
      · rw [show h - l = 0 by omega] at hj; simp at hj
    rw [ho' (by omega), Nat.add_assoc] at hu
    exact ho _ u (by omega) hu
theorem slS_sound (hH : Holds ro fr Φ H w) {t el s : Nat} (hT : P.underlying t = some (.slice el)) (hs : szOf P el = some s) (hs0 : 0 < s) {v : AV} {u : Value} {lo hi mx : Option AV} {lo' hi' mx' : Option Value}
    (hv : VR ro bo Φ v u) (hl : OVal ro bo Φ lo lo') (hh : OVal ro bo Φ hi hi') (hm : OVal ro bo Φ mx mx') {K : AV → Prop} (hns : ∀ l, v ≠ .str l) (h : slSWP s v lo hi mx K) : Yv P ro bo fr Φ H w K (Instr.sliceAt t u lo' hi' mx') := by
  cases v
  case slice s' id off len kc =>
    cases kc with
    | some kc =>
      obtain ⟨rfl, h⟩ := h
      cases hv with
      | slice _ _ _ _ cap o' _ r o sz hΦ he h1 h2 h3 h4 =>
        have hcap : cap = kc := h3 kc rfl
        subst hcap
        obtain ⟨l, h', m, hK, g1, g2, g3, g4, g5, g6, g7⟩ := bnds_sound (P := P) (w := w) (isS := true) hl hh hm (Nat.le_refl cap) (.inr rfl) h
        replace hK : K (.slice s' id (off + l * s') (h' - l) (some (m - l))) := by
          cases mx with
          | none => rw [g5 rfl]; exact hK
          | some _ => exact hK
        refine .of hH hK (u := .slice (if m = l then some ⟨r, o', none⟩ else (some ⟨r, o', none⟩ : Option Addr).map (·.add (l * s'))) (h' - l) (m - l)) ?_ ?_
        · simp [Instr.sliceAt, run_underlying hT, Instr.slice, g7, szOf_run hs]
        · have hms : (m - l) * s' = m * s' - l * s' := Nat.sub_mul _ _ _
          have : m * s' ≤ cap * s' := Nat.mul_le_mul_right _ g3
          have : l * s' ≤ m * s' := Nat.mul_le_mul_right _ (by omega)
          by_cases e : m = l
          · rw [if_pos e]
            exact .slice _ _ _ _ _ _ _ r o sz hΦ he (by omega) (by rw [hms]; omega) (fun c hc => by cases hc; rfl) (fun hne => absurd (by omega) hne)
          · rw [if_neg e]
            simp only [Option.map_some, Addr.add_lit]
            refine .slice _ _ _ _ _ _ _ r o sz hΦ he (by omega) (by rw [hms]; omega) (fun c hc => by cases hc; rfl) (fun _ => ?_)
            rw [h4 (by omega)]; omega
    | none =>
      obtain ⟨rfl, rfl, h⟩ := h
      have em := hm.none_inv; subst em
      cases hv with
      | slice _ _ _ _ cap o' _ r o sz hΦ he h1 h2 h3 h4 =>
        obtain ⟨l, h', m, hK, g1, g2, g3, g4, g5, g6, g7⟩ := bnds_sound (P := P) (w := w) (isS := true) hl hh hm h1 (.inl rfl) h
        have gm := g5 rfl; subst gm
        refine .of hH hK (u := .slice (if m = l then some ⟨r, o', none⟩ else (some ⟨r, o', none⟩ : Option Addr).map (·.add (l * s'))) (h' - l) (m - l)) ?_ ?_
        · simp [Instr.sliceAt, run_underlying hT, Instr.slice, g7, szOf_run hs]
        · have hms : (m - l) * s' = m * s' - l * s' := Nat.sub_mul _ _ _
          have : l * s' ≤ m * s' := Nat.mul_le_mul_right _ (by omega)
          by_cases e : m = l
          · rw [if_pos e]
            exact .slice _ _ _ _ _ _ _ r o sz hΦ he (by omega) (by rw [hms]; omega) (fun c hc => by cases hc) (fun hne => absurd (by omega) hne)
          · rw [if_neg e]
            simp only [Option.map_some, Addr.add_lit]
            refine .slice _ _ _ _ _ _ _ r o sz hΦ he (by omega) (by rw [hms]; omega) (fun c hc => by cases hc) (fun _ => ?_)
            rw [h4 (by omega)]; omega
      | sliceE _ _ _ a he =>
        obtain ⟨l, h', m, hK, g1, g2, g3, g4, g5, g6, g7⟩ := bnds_sound (P := P) (w := w) (isS := true) hl hh hm (Nat.le_refl 0) (.inl rfl) h
        have gm := g5 rfl; subst gm
        have e1 : h' = 0 := by omega
        have e2 : l = 0 := by omega
        subst e1; subst e2
        refine .of hH hK (u := .slice a 0 0) ?_ (.sliceE _ _ _ a he)
        simp [Instr.sliceAt, run_underlying hT, Instr.slice, g7, szOf_run hs]
  case list s' md xs =>
    obtain ⟨hse, h⟩ := h
    cases hv with
    | listNil _ _ he =>
      simp only [List.length_nil, Nat.zero_div] at h
      obtain ⟨l, h', m, hK, g1, g2, g3, g4, g5, g6, g7⟩ := bnds_sound (P := P) (w := w) (isS := true) hl hh hm (Nat.le_refl 0) (.inr rfl) h
      have e1 : h' = 0 := by omega
      have e2 : l = 0 := by omega
      have e3 : m = 0 := by omega
      subst e1; subst e2; subst e3
      refine .of hH hK (u := .slice none 0 0) ?_ ?_
      · simp [Instr.sliceAt, run_underlying hT, Instr.slice, g7, szOf_run hs]
      · simp only [Nat.zero_mul, List.drop_nil, List.take_nil]; exact .listNil _ _ hs0
    | list _ _ _ r off len cap c T fz he hnl hlen h1 hf hr hlc hx ho sp hsp =>
      have hse' : s' = s := hse.resolve_left (by simp [hnl])
      subst hse'
      have hdiv : xs.length / s' = len := by rw [hlen, Nat.mul_div_cancel _ he]
      rw [hdiv] at h
      cases mx with
      | none =>
        obtain ⟨l, h', m, hK, g1, g2, g3, g4, g5, g6, g7⟩ := bnds_sound (P := P) (w := w) (isS := true) hl hh hm h1 (.inl rfl) h
        have gm := g5 rfl; subst gm
        refine .of hH hK (u := .slice (if m = l then some ⟨r, off, sp⟩ else (some ⟨r, off, sp⟩ : Option Addr).map (·.add (l * s'))) (h' - l) (m - l)) ?_ ?_
        · simp [Instr.sliceAt, run_underlying hT, Instr.slice, g7, szOf_run hs]
        · have hfull : (md.full && decide (h' = len)) = true → m = h' := by
            intro hh; simp at hh; rw [hf hh.1, hh.2]
          by_cases e : m = l
          · rw [if_pos e]
            exact VR.list_sub (m := md) (md := ⟨md.nl, md.full && decide (h' = len), md.bw⟩) (sp' := sp) he hlen hr hlc hx ho g1 (by omega) g2 (Nat.le_refl _) hnl rfl hfull (fun hne => absurd e hne) hsp
          · rw [if_neg e]
            simp only [Option.map_some, Addr.add_sp]
            exact VR.list_sub (m := md) (md := ⟨md.nl, md.full && decide (h' = len), md.bw⟩) (sp' := if l * s' = 0 then sp else none) he hlen hr hlc hx ho g1 (by omega) g2 (Nat.le_refl _) hnl rfl hfull (fun _ => rfl) (fun q => by rw [hsp q]; split <;> rfl)
      | some mv =>
        have hcap : len ≤ cap := h1
        have h2 : bnds len cap lo hi (some mv) fun l h c => c ≤ len ∧ K (.list s' ⟨md.nl, decide (c = h), md.bw⟩ ((xs.drop (l * s')).take ((h - l) * s'))) := by
          cases hi with
          | none => cases lo with
            | none => exact h.elim
            | some l => cases l <;> exact h.elim
          | some h0 => cases lo with
            | none =>
              cases h0 <;> try exact h.elim
              cases mv <;> try exact h.elim
              obtain ⟨⟨q1, q2, q3⟩, q4⟩ := h
              exact ⟨⟨q1, q2, by omega⟩, by omega, q4⟩
            | some l =>
              cases l <;> try exact h.elim
              cases h0 <;> try exact h.elim
              cases mv <;> try exact h.elim
              obtain ⟨⟨q1, q2, q3, q5⟩, q4⟩ := h
              exact ⟨⟨q1, q2, q3, by omega⟩, by omega, q4⟩
        obtain ⟨l, h', m, ⟨hml, hK⟩, g1, g2, g3, g4, g5, g6, g7⟩ := bnds_sound (P := P) (w := w) (isS := true) hl hh hm (Nat.le_refl cap) (.inr rfl) h2
        refine .of hH hK (u := .slice (if m = l then some ⟨r, off, sp⟩ else (some ⟨r, off, sp⟩ : Option Addr).map (·.add (l * s'))) (h' - l) (m - l)) ?_ ?_
        · simp [Instr.sliceAt, run_underlying hT, Instr.slice, g7, szOf_run hs]
        · have hfull : decide (m = h') = true → m = h' := by simp
          by_cases e : m = l
          · rw [if_pos e]
            exact VR.list_sub (m := md) (md := ⟨md.nl, decide (m = h'), md.bw⟩) (sp' := sp) he hlen hr hlc hx ho g1 (by simp at hml; omega) g2 g3 hnl rfl hfull (fun hne => absurd e hne) hsp
          · rw [if_neg e]
            simp only [Option.map_some, Addr.add_sp]
            exact VR.list_sub (m := md) (md := ⟨md.nl, decide (m = h'), md.bw⟩) (sp' := if l * s' = 0 then sp else none) he hlen hr hlc hx ho g1 (by simp at hml; omega) g2 g3 hnl rfl hfull (fun _ => rfl) (fun q => by rw [hsp q]; split <;> rfl)
  case str l => exact absurd rfl (hns l)
  all_goals exact h.elim
end
end Go.Fw
namespace Go.Fw
section
variable {P : Program} {ro bo fr : Mem} {Φ : Emb} {e : Env} {H : Heap} {a : Act} {w w' : World}
theorem Holds.ext (hH : Holds ro fr Φ H w) (hw : ∀ (r : Nat) (o : Obj), w.heap[r]? = some o → w'.heap[r]? = some o) : Holds ro fr Φ H w' where
  hro r o h := hw r o (hH.hro r o h)
  hfr r o h := hw r o (hH.hfr r o h)
  own i b h := (hH.own i b h).imp id fun ⟨r, o, s, h1, ⟨c, h2, h3⟩, h4, h5, h6⟩ => ⟨r, o, s, h1, ⟨c, hw _ _ h2, h3⟩, h4, h5, h6⟩
  inj := hH.inj
  sep := hH.sep
  dom := hH.dom
  disj := hH.disj
def Mem.put (m : Mem) (r : Nat) (o : Obj) : Mem := fun i => if i = r then some o else m i
theorem Holds.ro_lt (hH : Holds ro fr Φ H w) {r : Nat} {o : Obj} (h : ro r = some o) : r < w.heap.size := (Array.getElem?_eq_some_iff.1 (hH.hro r o h)).1
theorem Holds.fr_lt (hH : Holds ro fr Φ H w) {r : Nat} {o : Obj} (h : fr r = some o) : r < w.heap.size := (Array.getElem?_eq_some_iff.1 (hH.hfr r o h)).1
theorem Holds.le_put (hH : Holds ro fr Φ H w) (o : Obj) : Mem.le ro (ro.put w.heap.size o) := by
  intro r p h
  have := hH.ro_lt h
  simp only [Mem.put]
  rw [if_neg (by omega)]; exact h
theorem BlkAt.mono {ro' : Mem} {b : Blk} {r o s : Nat} (h : BlkAt ro Φ b w r o s) {Φ' : Emb} (hr : Mem.le ro ro') (hΦ : Emb.le Φ Φ') (hw : w'.heap[r]? = w.heap[r]?) : BlkAt ro' Φ' b w' r o s := by
  obtain ⟨⟨c, h1, h2, h3, h4⟩, h5, h6, h7⟩ := h
  exact ⟨⟨c, by rw [hw]; exact h1, h2, fun j v u x y => (h3 j v u x y).mono hr (Mem.le_refl _) hΦ, h4⟩, h5, h6, h7⟩
theorem Holds.roNew (hH : Holds ro fr Φ H w) {o : Obj} (hw : ∀ (r : Nat) (p : Obj), w.heap[r]? = some p → w'.heap[r]? = some p) (hn : w'.heap[w.heap.size]? = some o) : Holds (ro.put w.heap.size o) fr Φ H w' where
  hro r p h := by
    simp only [Mem.put] at h
    split at h
    · cases h; rename_i e; rw [e]; exact hn
    · exact hw r p (hH.hro r p h)
  hfr r o h := hw r o (hH.hfr r o h)
  own i b h := (hH.own i b h).imp id fun ⟨r, o', s, h1, h2⟩ => ⟨r, o', s, h1, h2.mono (hH.le_put o) (Emb.le_refl _) (by
    obtain ⟨⟨c, h3, _⟩, _⟩ := h2
    rw [hw _ _ h3, h3])⟩
  inj := hH.inj
  sep i b r p h1 h2 := by
    obtain ⟨h3, h4⟩ := hH.sep i b r p h1 h2
    refine ⟨?_, h4⟩
    simp only [Mem.put]
    rcases hH.own i b h1 with ⟨_, _, h⟩ | ⟨r', o', s', h, hB⟩
    · rw [h] at h2; cases h2
    · rw [h] at h2; cases h2
      obtain ⟨⟨c, h5, _⟩, _⟩ := hB
      have := (Array.getElem?_eq_some_iff.1 h5).1
      rw [if_neg (by omega)]; exact h3
  dom := hH.dom
  disj r p h := by
    simp only [Mem.put] at h
    split at h
    · rename_i e
      subst e
      cases hf : fr w.heap.size with
      | none => rfl
      | some q => exact absurd (hH.fr_lt hf) (by omega)
    · exact hH.disj r p h
structure Rw (ro bo : Mem) (Φ : Emb) (xs : List AV) (c : List Value) : Prop where
  len : c.length = xs.length
  vr : ∀ (j : Nat) (v : AV) (u : Value), xs[j]? = some v → c[j]? = some u → VR ro bo Φ v u
  one : ∀ u ∈ c, u.oneCell' = true
theorem Rw.nil : Rw ro bo Φ [] [] := ⟨rfl, fun j v u h => by simp at h, fun u h => by cases h⟩
theorem Rw.cons {v : AV} {u : Value} {xs : List AV} {c : List Value} (hv : VR ro bo Φ v u) (ho : u.oneCell' = true) (h : Rw ro bo Φ xs c) : Rw ro bo Φ (v :: xs) (u :: c) := by
  refine ⟨by simp [h.len], fun j x y hx hy => ?_, fun y hy => ?_⟩
  · cases j with
    | zero => simp at hx hy; subst hx; subst hy; exact hv
    | succ j => simp at hx hy; exact h.vr j x y hx hy
  · rcases List.mem_cons.1 hy with rfl | hy
    · exact ho
    · exact h.one y hy
theorem Rw.append {xs ys : List AV} {c d : List Value} (h : Rw ro bo Φ xs c) (k : Rw ro bo Φ ys d) : Rw ro bo Φ (xs ++ ys) (c ++ d) := by
  refine ⟨by simp [h.len, k.len], fun j x y hx hy => ?_, fun y hy => ?_⟩
  · rcases Nat.lt_or_ge j xs.length with hj | hj
    · rw [List.getElem?_append_left hj] at hx
      rw [List.getElem?_append_left (by rw [h.len]; exact hj)] at hy
      exact h.vr j x y hx hy
    · rw [List.getElem?_append_right hj] at hx
      rw [List.getElem?_append_right (by rw [h.len]; exact hj), h.len] at hy
      exact k.vr _ x y hx hy
  · rcases List.mem_append.1 hy with hy | hy
    · exact h.one y hy
    · exact k.one y hy
theorem Rw.set {xs : List AV} {c : List Value} (h : Rw ro bo Φ xs c) {v : AV} {u : Value} (hv : VR ro bo Φ v u) (ho : u.oneCell' = true) (i : Nat) : Rw ro bo Φ (xs.set i v) (c.set i u) := by
  refine ⟨by simp [h.len], fun j x y hx hy => ?_, fun y hy => ?_⟩
  · rw [List.getElem?_set] at hx hy
    by_cases e : i = j
    · rw [if_pos e] at hx hy
      split at hx
      · split at hy
        · cases hx; cases hy; exact hv
        · cases hy
      · cases hx
    · rw [if_neg e] at hx hy; exact h.vr j x y hx hy
  · rcases List.mem_or_eq_of_mem_set hy with hy | rfl
    · exact h.one y hy
    · exact ho
theorem Rw.drop {xs : List AV} {c : List Value} (h : Rw ro bo Φ xs c) (k : Nat) : Rw ro bo Φ (xs.drop k) (c.drop k) :=
  ⟨by simp [h.len], fun j x y hx hy => by rw [List.getElem?_drop] at hx hy; exact h.vr _ x y hx hy, fun y hy => h.one y (List.mem_of_mem_drop hy)⟩
theorem Rw.take {xs : List AV} {c : List Value} (h : Rw ro bo Φ xs c) (k : Nat) : Rw ro bo Φ (xs.take k) (c.take k) := by
  refine ⟨by simp [h.len], fun j x y hx hy => ?_, fun y hy => h.one y (List.mem_of_mem_take hy)⟩
  rw [List.getElem?_take] at hx hy
  split at hx
  · rename_i hj; rw [if_pos hj] at hy; exact h.vr _ x y hx hy
  · cases hx
theorem Rw.mono {ro' bo' : Mem} {Φ' : Emb} {xs : List AV} {c : List Value} (h : Rw ro bo Φ xs c) (hr : Mem.le ro ro') (hb : Mem.le bo bo') (hΦ : Emb.le Φ Φ') : Rw ro' bo' Φ' xs c :=
  ⟨h.len, fun j x y hx hy => (h.vr j x y hx hy).mono hr hb hΦ, h.one⟩
theorem VR.agg_of {xs : List AV} {c : Array Value} (h : Rw ro bo Φ xs c.toList) : VR ro bo Φ (.agg xs) (.agg c) :=
  .agg xs c (by simpa using h.len) (fun j v u hv hu => h.vr j v u hv (by simpa using hu)) (fun j u hu => h.one u (Array.mem_toList_iff.2 (Array.mem_of_getElem? hu)))
theorem VR.cells {v : AV} {u : Value} (h : VR ro bo Φ v u) (hnt : v.okc = true) : Rw ro bo Φ v.cells u.cells.toList := by
  have hh := h
  cases h
  case agg xs c h1 hx ho =>
    exact ⟨by simpa [AV.cells, Value.cells] using h1, fun j v u hv hu => hx j v u hv (by simpa [Value.cells] using hu), fun u hu => by
      obtain ⟨j, hj⟩ := List.getElem?_of_mem hu
      exact ho j u (by simpa [Value.cells] using hj)⟩
  case tuple xs c _ _ => cases hnt
  all_goals exact Rw.cons hh rfl Rw.nil
theorem Rw.splice {vs : List AV} : ∀ {ds : List Value} {xs : List AV} {c : List Value} {o : Nat}, Rw ro bo Φ vs ds → Rw ro bo Φ xs c →
    Rw ro bo Φ (Fw.splice xs o vs) ((ds.zipIdx o).foldl (fun cs p => cs.set p.2 p.1) c) := by
  induction vs with
  | nil =>
    intro ds xs c o h1 h2
    have : ds = [] := List.eq_nil_of_length_eq_zero (by simpa using h1.len)
    subst this; exact h2
  | cons v vs ih =>
    intro ds xs c o h1 h2
    cases ds with
    | nil => have := h1.len; simp at this
    | cons d ds =>
      simp only [Fw.splice, List.zipIdx_cons, List.foldl_cons]
      have ht : Rw ro bo Φ vs ds := ⟨by have := h1.len; simpa using this, fun j x y hx hy => h1.vr (j + 1) x y hx hy, fun y hy => h1.one y (List.mem_cons_of_mem _ hy)⟩
      exact ih ht (h2.set (h1.vr 0 v d rfl rfl) (h1.one d List.mem_cons_self) o)
theorem foldl_fill (ds : List Value) : ∀ (off k : Nat) (c : Array Value), ((ds.zipIdx k).foldl (fun cs p => cs.setIfInBounds (off + p.2) p.1) c).toList = (ds.zipIdx (off + k)).foldl (fun cs p => cs.set p.2 p.1) c.toList := by
  induction ds with
  | nil => intro off k c; rfl
  | cons d ds ih =>
    intro off k c
    simp only [List.zipIdx_cons, List.foldl_cons]
    rw [ih, Array.toList_setIfInBounds, Nat.add_assoc]
theorem fill_eq (place : Nat → Option (Nat × Nat)) (cells : Array Value) (i : Nat) (v : Value) (rest : List (Nat × Value)) {off size : Nat} (hp : place i = some (off, size)) (h1 : v.cells.size = size) (h2 : off + size ≤ cells.size) :
    Instr.fill place cells ((i, v) :: rest) = Instr.fill place ((v.cells.toList.zipIdx 0).foldl (fun cs p => cs.setIfInBounds (off + p.2) p.1) cells) rest := by
  simp only [Instr.fill, hp, h1]
  rw [if_neg (by simp; omega)]
  congr 1
  rw [← Array.foldl_toList]
  simp
theorem parts_fill (hE : EnvOK ro bo Φ e a) {place : Nat → Option (Nat × Nat)} : ∀ {ps : List (Nat × Operand)} {qs : List (Nat × Nat × Opd)} {vs : List (Nat × Nat × AV)} {z cs : List AV} {c : Array Value},
    lowParts place ps = some qs → e.parts qs = some vs → fillA z vs = some cs → Rw ro bo Φ z c.toList →
    ∃ d : Array Value, Instr.fill place c (ps.map fun p => (p.1, a.eval p.2)) = some d ∧ Rw ro bo Φ cs d.toList := by
  intro ps
  induction ps with
  | nil =>
    intro qs vs z cs c h1 h2 h3 h4
    simp [lowParts] at h1; subst h1
    simp [Env.parts] at h2; subst h2
    simp [fillA] at h3; subst h3
    exact ⟨c, rfl, h4⟩
  | cons p ps ih =>
    intro qs vs z cs c h1 h2 h3 h4
    obtain ⟨i, x⟩ := p
    simp only [lowParts] at h1
    split at h1 <;> cases h1
    rename_i o n y ys hp hy hys
    simp only [Env.parts] at h2
    cases hv : e.opd y with
    | none => rw [hv] at h2; cases h2
    | some v =>
      rw [hv] at h2
      cases hvs : e.parts ys with
      | none => rw [hvs] at h2; cases h2
      | some vs' =>
        rw [hvs] at h2; simp at h2; subst h2
        simp only [fillA] at h3
        split at h3
        · rename_i hc
          have hV := opd_sound hE hy hv
          have hR := hV.cells hc.1
          have hsz : (a.eval x).cells.size = n := by rw [← Array.length_toList, hR.len, hc.2.1]
          have hzc : z.length = c.size := by rw [← Array.length_toList, h4.len]
          obtain ⟨d, hd, hRd⟩ := ih (c := ((a.eval x).cells.toList.zipIdx 0).foldl (fun cs p => cs.setIfInBounds (o + p.2) p.1) c) hys hvs h3 (by rw [foldl_fill, Nat.add_zero]; exact Rw.splice hR h4)
          refine ⟨d, ?_, hRd⟩
          simp only [List.map_cons]
          rw [fill_eq place c i (a.eval x) _ hp hsz (by omega)]
          exact hd
        · cases h3
end
end Go.Fw
namespace Go.Fw
section
variable {P : Program} {ro bo fr : Mem} {Φ : Emb} {e : Env} {H : Heap} {a : Act} {w : World}
theorem slA_sound (hH : Holds ro fr Φ H w) {t n el s : Nat} (hT : P.underlying t = some (.array n el)) (hs : szOf P el = some s) (hs0 : 0 < s) {v : AV} {u : Value} {lo hi mx : Option AV} {lo' hi' mx' : Option Value}
    (hv : VR ro bo Φ v u) (hl : OVal ro bo Φ lo lo') (hh : OVal ro bo Φ hi hi') (hm : OVal ro bo Φ mx mx') {K : AV → Prop} (h : slAWP H s n v lo hi mx K) : Yv P ro bo fr Φ H w K (Instr.sliceAt t u lo' hi' mx') := by
  cases v
  case ptr id off =>
    obtain ⟨b, hb, h1, h⟩ := h
    cases hv with
    | ptr _ _ r o sz hΦ =>
      obtain ⟨_, hlen, _⟩ := hH.blkAt hb hΦ
      obtain ⟨l, h', m, hK, g1, g2, g3, g4, g5, g6, g7⟩ := bnds_sound (P := P) (w := w) (isS := false) hl hh hm (Nat.le_refl n) (.inr rfl) h
      replace hK : K (.slice s id (off + l * s) (h' - l) (some (m - l))) := by
        cases mx with
        | none => rw [g5 rfl]; exact hK
        | some _ => exact hK
      refine .of hH hK (u := .slice (some (if m = l then ⟨r, o + off, none⟩ else (⟨r, o + off, none⟩ : Addr).add (l * s))) (h' - l) (m - l)) ?_ ?_
      · simp [Instr.sliceAt, run_underlying hT, Instr.sureAddr, g7, szOf_run hs]
      · have hms : (m - l) * s = m * s - l * s := Nat.sub_mul _ _ _
        have : m * s ≤ n * s := Nat.mul_le_mul_right _ g3
        have : l * s ≤ m * s := Nat.mul_le_mul_right _ (by omega)
        by_cases e : m = l
        · rw [if_pos e]
          exact .slice _ _ _ _ _ _ _ r o sz hΦ hs0 (by omega) (by rw [hms]; omega) (fun c hc => by cases hc; rfl) (fun hne => absurd (by omega) hne)
        · rw [if_neg e, Addr.add_lit]
          exact .slice _ _ _ _ _ _ _ r o sz hΦ hs0 (by omega) (by rw [hms]; omega) (fun c hc => by cases hc; rfl) (fun _ => by omega)
  case rptr bw xs =>
    obtain ⟨h1, h⟩ := h
    cases hv with
    | rptr _ _ r off c T fz hr hlc hx ho =>
      obtain ⟨l, h', m, hK, g1, g2, g3, g4, g5, g6, g7⟩ := bnds_sound (P := P) (w := w) (isS := false) hl hh hm (Nat.le_refl n) (.inr rfl) h
      replace hK : K (.list s ⟨false, decide (m = h'), bw⟩ ((xs.drop (l * s)).take ((h' - l) * s))) := by
        cases mx with
        | none => rw [g5 rfl]; exact hK
        | some _ => exact hK
      refine .of hH hK (u := .slice (some (if m = l then ⟨r, off, none⟩ else (⟨r, off, none⟩ : Addr).add (l * s))) (h' - l) (m - l)) ?_ ?_
      · simp [Instr.sliceAt, run_underlying hT, Instr.sureAddr, g7, szOf_run hs]
      · have e1 : ((xs.drop (l * s)).take ((h' - l) * s)) = (((xs.take (n * s)).drop (l * s)).take ((h' - l) * s)) := by
          rw [List.drop_take, List.take_take, Nat.min_eq_left]
          have : (h' - l) * s = h' * s - l * s := Nat.sub_mul _ _ _
          have : h' * s ≤ n * s := Nat.mul_le_mul_right _ (by omega)
          omega
        have hlen : (xs.take (n * s)).length = n * s := by simp; omega
        have hfull : decide (m = h') = true → m = h' := by simp
        rw [e1]
        have key : ∀ o', (m ≠ l → o' = off + l * s) → VR ro bo Φ (.list s ⟨false, decide (m = h'), bw⟩ (((xs.take (n * s)).drop (l * s)).take ((h' - l) * s))) (.slice (some ⟨r, o', none⟩) (h' - l) (m - l)) := fun o' ho' =>
          VR.list_sub (m := ⟨false, false, bw⟩) (md := ⟨false, decide (m = h'), bw⟩) (sp' := none) (cap := n) hs0 hlen (fun _ => hr) (fun _ => by rw [hlen]; omega)
            (fun j v u hv hu => hx j v u (by rw [List.getElem?_take] at hv; split at hv; exact hv; cases hv) hu) (fun j u hj hu => ho j u (by rw [hlen] at hj; omega) hu) g1 (by omega) g2 g3 rfl rfl hfull ho' (fun _ => rfl)
        by_cases e : m = l
        · rw [if_pos e]; exact key off (fun hne => absurd e hne)
        · rw [if_neg e, Addr.add_lit]; exact key _ (fun _ => rfl)
  all_goals exact h.elim
theorem len_sound (hH : Holds ro fr Φ H w) {t : TypeId} {v : AV} {u : Value} (hv : VR ro bo Φ v u) {K : AV → Prop}
    (hs : (∃ l, v = .str l) → P.underlying t = some .string) (hs' : (∀ l, v ≠ .str l) → ∃ el, P.underlying t = some (.slice el)) (h : lenWP v K) : Yv P ro bo fr Φ H w K (Builtin.len_ #[t] 0 #[u]) := by
  cases v
  case slice s id off n kc =>
    obtain ⟨el, hT⟩ := hs' (by simp)
    cases hv with
    | slice => exact .of hH h (by simp [Builtin.len_, run_underlying hT, goInt]) (.int _ _)
    | sliceE => exact .of hH h (by simp [Builtin.len_, run_underlying hT, goInt]) (.int _ _)
  case list s md xs =>
    obtain ⟨el, hT⟩ := hs' (by simp)
    cases hv with
    | listNil => exact .of hH h (u := .int .i64 0) (by simp [Builtin.len_, run_underlying hT, goInt]) (by rw [List.length_nil, Nat.zero_div]; exact .int _ _)
    | list _ _ _ r off len cap c T fz he hm hlen =>
      refine .of hH h (u := .int .i64 len) (by simp [Builtin.len_, run_underlying hT, goInt]) ?_
      rw [hlen, Nat.mul_div_cancel _ he]; exact .int _ _
  case str l =>
    have hT := hs ⟨l, rfl⟩
    obtain ⟨s, rfl, hl⟩ := hv.str_inv
    refine .of hH h (u := .int .i64 s.size) (by simp [Builtin.len_, run_underlying hT, goInt]) ?_
    rw [← hl, Array.length_toList]; exact .int _ _
  all_goals exact h.elim
theorem cells_sound (hH : Holds ro fr Φ H w) (hb : Mem.le bo fr) {v : AV} {u : Value} {ys : List AV} (hv : VR ro bo Φ v u) (h : sliceCells H v = some ys) {s : Nat} (hs : ∀ e id off len kc, v = .slice e id off len kc → e = s)
    (hs2 : ∀ e m xs, v = .list e m xs → m.nl = true ∨ e = s) (hs3 : ∀ l, v = .str l → s = 1) (hs0 : 0 < s) :
    ∃ (n : Nat) (c : List Value), ys.length = n * s ∧ Rw ro bo Φ ys c ∧ (Builtin.lenOf u).run P w = .ok n w ∧ (Builtin.firstCells s n u).run P w = .ok c.toArray w ∧
      ((u = .slice none 0 0 ∧ n = 0) ∨ (∃ s', u = .string s') ∨ (∃ o' cap, u = .slice (some o') n cap ∧ ∀ (j : Nat) (x : Value), c[j]? = some x → w.cell? (o'.add j) = some x)
        ∨ (n = 0 ∧ ∃ a, u = .slice a 0 0)) := by
  cases v
  case slice e' id off len kc =>
    have hes := hs _ _ _ _ _ rfl
    subst hes
    simp only [sliceCells] at h
    cases hv with
    | slice _ _ _ _ cap o' _ r o sz hΦ he h1 h2 h3 h4 =>
      cases hbk : Heap.blk H id with
      | none => rw [hbk] at h; cases h
      | some b =>
        rw [hbk] at h
        simp only at h
        split at h
        · rename_i hle
          cases h
          obtain ⟨⟨c, g1, g2, g3, g4⟩, g5, g6⟩ := hH.blkAt hbk hΦ
          have hl : ((b.cells.drop off).take (len * e')).length = len * e' := by simp; omega
          by_cases hc0 : cap = 0
          · have : len = 0 := by omega
            subst this; subst hc0
            refine ⟨0, [], by simp, by simpa using Rw.nil, by simp [Builtin.lenOf], ?_, .inr (.inr (.inr ⟨rfl, _, rfl⟩))⟩
            simp [Builtin.firstCells, loadCells, loadCellsFrom]
          · have ho' := h4 hc0
            subst ho'
            have hce : o + off + len * e' ≤ c.size := by omega
            refine ⟨len, rowFrom c (o + off) (len * e'), hl, ⟨by rw [rowFrom_length hce, hl], fun j v u hv hu => ?_, fun u hu => ?_⟩, by simp [Builtin.lenOf], ?_, .inr (.inr (.inl ⟨_, cap, rfl, fun j x hx => ?_⟩))⟩
            · have hj : j < len * e' := by rw [← hl]; exact (List.getElem?_eq_some_iff.1 hv).1
              rw [rowFrom_get hj] at hu
              rw [List.getElem?_take, if_pos hj, List.getElem?_drop] at hv
              exact (g3 (off + j) v u hv (by rwa [← Nat.add_assoc])).mono (Mem.le_refl _) (fun _ _ x => by cases x) (Emb.le_refl _)
            · obtain ⟨j, hj⟩ := List.getElem?_of_mem hu
              have hj' : j < len * e' := by have := (List.getElem?_eq_some_iff.1 hj).1; rw [rowFrom_length hce] at this; exact this
              rw [rowFrom_get hj'] at hj
              exact g4 _ u hj
            · simp only [Builtin.firstCells]; exact run_loadCells_row g1 hce
            · have hj' : j < len * e' := by have := (List.getElem?_eq_some_iff.1 hx).1; rw [rowFrom_length hce] at this; exact this
              rw [rowFrom_get hj'] at hx
              rw [Addr.add_lit, cell_row g1]; exact hx
        · cases h
    | sliceE _ _ _ a he =>
      have : ys = [] := by
        cases hbk : Heap.blk H id with
        | none => rw [hbk] at h; cases h
        | some b =>
          rw [hbk] at h; simp only at h
          split at h
          · cases h; simp
          · cases h
      subst this
      refine ⟨0, [], by simp, Rw.nil, by simp [Builtin.lenOf], ?_, .inr (.inr (.inr ⟨rfl, _, rfl⟩))⟩
      cases a <;> simp [Builtin.firstCells, loadCells, loadCellsFrom]
  case list e' md xs =>
    simp only [sliceCells, Option.some.injEq] at h
    subst h
    cases hv with
    | listNil _ _ he => exact ⟨0, [], by simp, Rw.nil, by simp [Builtin.lenOf], by simp [Builtin.firstCells], .inl ⟨rfl, rfl⟩⟩
    | list _ _ _ r off len cap c T fz he hm hlen h1 hf hr hl hx ho sp hsp =>
      have hes : e' = s := (hs2 _ _ _ rfl).resolve_left (by simp [hm])
      subst hes
      by_cases hne : xs = []
      · subst hne
        have h0 : len = 0 := by
          rcases Nat.eq_zero_or_pos len with h' | h'
          · exact h'
          · have := Nat.mul_pos h' he; simp at hlen; omega
        subst h0
        refine ⟨0, [], by simp, Rw.nil, by simp [Builtin.lenOf], ?_, .inr (.inr (.inl ⟨_, cap, rfl, fun j x hx => by simp at hx⟩))⟩
        simp [Builtin.firstCells, loadCells, loadCellsFrom]
      · have := hsp hne; subst this
        have g1 := sel_heap hH hb (hr hne)
        have hce : off + len * e' ≤ c.size := by rw [← hlen]; exact hl hne
        refine ⟨len, rowFrom c off (len * e'), hlen, ⟨by rw [rowFrom_length hce, hlen], fun j v u hv hu => ?_, fun u hu => ?_⟩, by simp [Builtin.lenOf], ?_, .inr (.inr (.inl ⟨_, cap, rfl, fun j x hx => ?_⟩))⟩
        · have hj : j < len * e' := by rw [← hlen]; exact (List.getElem?_eq_some_iff.1 hv).1
          rw [rowFrom_get hj] at hu
          exact hx j v u hv hu
        · obtain ⟨j, hj⟩ := List.getElem?_of_mem hu
          have hj' : j < len * e' := by have := (List.getElem?_eq_some_iff.1 hj).1; rw [rowFrom_length hce] at this; exact this
          rw [rowFrom_get hj'] at hj
          exact ho j u (by omega) hj
        · simp only [Builtin.firstCells]; exact run_loadCells_row g1 hce
        · have hj' : j < len * e' := by have := (List.getElem?_eq_some_iff.1 hx).1; rw [rowFrom_length hce] at this; exact this
          rw [rowFrom_get hj'] at hx
          rw [Addr.add_lit, cell_row g1]; exact hx
  case str l =>
    have := hs3 l rfl
    subst this
    simp only [sliceCells, Option.some.injEq] at h
    subst h
    obtain ⟨s, rfl, rfl⟩ := hv.str_inv
    have hmap : ((s.data.map fun b => Value.int .u8 b.toNat)).toList = s.data.toList.map fun b => Value.int .u8 b.toNat := by simp
    refine ⟨s.size, s.data.toList.map fun b => Value.int .u8 b.toNat, by simp, ⟨by simp, fun j v u hv hu => ?_, fun u hu => ?_⟩, by simp [Builtin.lenOf], ?_, .inr (.inl ⟨_, rfl⟩)⟩
    · simp only [List.getElem?_map] at hv hu
      cases hx : s.data.toList[j]? with
      | none => rw [hx] at hv; cases hv
      | some b => rw [hx] at hv hu; cases hv; cases hu; exact .int _ _
    · simp only [List.mem_map] at hu
      obtain ⟨b, _, rfl⟩ := hu
      rfl
    · have : (s.extract 0 s.size) = s := by
        apply ByteArray.ext
        rw [ByteArray.data_extract]
        exact Array.extract_size
      simp only [Builtin.firstCells, this, Sem.run_pure]
      congr 1
      apply Array.ext'
      simp
  all_goals (cases h)
end
end Go.Fw
namespace Go.Fw
section
variable {P : Program} {ro bo fr : Mem} {Φ : Emb} {e : Env} {H : Heap} {a : Act} {w : World}
theorem bv_cells {l : List UInt8} {c : List Value} (h : Rw ro bo Φ (l.map bv) c) : c = (l.map fun b => ((b.toNat : Nat) : Int)).map (Value.int .u8) := by
  apply List.ext_getElem?
  intro j
  rw [List.map_map, List.getElem?_map]
  cases hx : l[j]? with
  | none =>
    have : c.length ≤ j := by rw [h.len, List.length_map]; exact List.getElem?_eq_none_iff.1 hx
    rw [List.getElem?_eq_none this]; rfl
  | some b =>
    have hj : j < c.length := by rw [h.len, List.length_map]; exact (List.getElem?_eq_some_iff.1 hx).1
    have hv := h.vr j (bv b) c[j] (by rw [List.getElem?_map, hx]; rfl) (by simp [hj])
    rw [List.getElem?_eq_getElem hj]
    have := hv.int_inv
    rw [this]; rfl
theorem toStr_sound (hH : Holds ro fr Φ H w) (hb : Mem.le bo fr) {src dst el : TypeId} (hs : P.underlying src = some (.slice el)) (he : P.underlying el = some (.int .u8)) (hd : P.underlying dst = some .string) {v : AV} {u : Value} {xs : List AV} {l : List UInt8}
    (hv : VR ro bo Φ v u) {K : AV → Prop} (h0 : oneSl v = true) (h1 : sliceCells H v = some xs) (h2 : xs = l.map bv) (hK : K (.str l)) :
    Yv P ro bo fr Φ H w K (convert src dst u) := by
  subst h2
  have hs1 : (∀ e id off len kc, v = .slice e id off len kc → e = 1) ∧ (∀ e m xs, v = .list e m xs → m.nl = true ∨ e = 1) ∧ (∀ l, v = .str l → (1 : Nat) = 1) := by
    refine ⟨fun e id off len kc hh => ?_, fun e m xs hh => ?_, fun _ _ => rfl⟩
    · subst hh; simpa [oneSl] using h0
    · subst hh; exact .inr (by simpa [oneSl] using h0)
  obtain ⟨n, c, g1, g2, g3, g4, g5⟩ := cells_sound (P := P) hH hb hv h1 hs1.1 hs1.2.1 hs1.2.2 (by omega)
  have hc := bv_cells g2
  refine .of hH hK (u := .string (strOfNums (l.map fun b => ((b.toNat : Nat) : Int)))) ?_ (.str _ _ ?_)
  · cases v
    case slice e id off len kc =>
      cases hv with
      | slice _ _ _ _ cap o' _ r o sz =>
        have hl : len = n := by simpa [Builtin.lenOf] using g3
        subst hl
        rw [run_convert_bytes_string w src dst el _ len cap hs he hd, run_bytesToString w _ len cap (l.map fun b => ((b.toNat : Nat) : Int)) (by rw [← hc]; simpa [Builtin.firstCells] using g4), foldl_push_bytes]
        (simp [strOfNums, ByteArray.empty, ByteArray.emptyWithCapacity]; rfl)
      | sliceE _ _ _ a =>
        have hn : n = 0 := by simpa [Builtin.lenOf] using g3.symm
        subst hn
        have hl : l = [] := List.eq_nil_of_length_eq_zero (by simpa using g1)
        subst hl
        cases a with
        | none => rw [run_convert_bytes_string w src dst el _ 0 0 hs he hd]; (simp [Conv.bytesToString, strOfNums, ByteArray.empty, ByteArray.emptyWithCapacity]; rfl)
        | some a =>
          rw [run_convert_bytes_string w src dst el _ 0 0 hs he hd, run_bytesToString w _ 0 0 [] (by simp [loadCells, loadCellsFrom])]
          (simp [strOfNums, ByteArray.empty, ByteArray.emptyWithCapacity]; rfl)
    case list e m xs =>
      cases hv with
      | listNil =>
        have hn : n = 0 := by simpa [Builtin.lenOf] using g3.symm
        subst hn
        have hl : l = [] := List.eq_nil_of_length_eq_zero (by simpa using g1)
        subst hl
        rw [run_convert_bytes_string w src dst el _ 0 0 hs he hd]; (simp [Conv.bytesToString, strOfNums, ByteArray.empty, ByteArray.emptyWithCapacity]; rfl)
      | list _ _ _ r off len cap =>
        have hl : len = n := by simpa [Builtin.lenOf] using g3
        subst hl
        rw [run_convert_bytes_string w src dst el _ len cap hs he hd, run_bytesToString w _ len cap (l.map fun b => ((b.toNat : Nat) : Int)) (by rw [← hc]; simpa [Builtin.firstCells] using g4), foldl_push_bytes]
        (simp [strOfNums, ByteArray.empty, ByteArray.emptyWithCapacity]; rfl)
    all_goals (cases h0)
  · rw [strOfNums_data, List.map_map]
    conv => rhs; rw [← List.map_id l]
    apply List.map_congr_left
    intro b _
    simp
theorem Yv.fresh (hH : Holds ro fr Φ H w) {K : AV → Prop} {s : Sem Value} {el n cap : Nat} {xs : List AV} {c : Array Value} {T : TypeId} {fz : Nat × Nat} {w' : World} {m : Md} (hel : 0 < el) (hK : K (.list el m xs))
    (hnl : m.nl = false) (hfull : m.full = true → cap = n) (hr : s.run P w = .ok (.slice (some ⟨w.heap.size, 0, none⟩) n cap) w') (hext : WExt w w') (hw : ∀ (r : Nat) (p : Obj), w.heap[r]? = some p → w'.heap[r]? = some p)
    (hn : w'.heap[w.heap.size]? = some (.cells c T fz)) (hlen : xs.length = n * el) (hcap : n ≤ cap) {d : List Value} (hR : Rw ro bo Φ xs d) (hd : d = c.toList.take xs.length) : Yv P ro bo fr Φ H w K s := by
  have hle := hH.le_put (.cells c T fz)
  have hdl : xs.length ≤ c.size := by
    have := hR.len
    rw [hd, List.length_take] at this
    rw [← Array.length_toList]
    omega
  have hcell : ∀ j, j < xs.length → c[0 + j]? = d[j]? := by
    intro j hj; rw [hd, List.getElem?_take, if_pos hj]; simp
  refine ⟨_, _, _, w', hK, hr, .list el m xs w.heap.size 0 n cap c T fz hel hnl hlen hcap hfull (fun _ => .inl (by simp [Mem.put])) (fun _ => by rw [Nat.zero_add]; exact hdl) (fun j v u hv hu => ?_) (fun j u hj hu => ?_) none (fun _ => rfl), hH.roNew hw hn, hle, hext⟩
  · have hj : j < xs.length := (List.getElem?_eq_some_iff.1 hv).1
    rw [hcell j hj] at hu
    exact (hR.vr j v u hv hu).mono hle (Mem.le_refl _) (Emb.le_refl _)
  · rw [hcell j hj] at hu
    exact hR.one u (List.mem_of_getElem? hu)
theorem ofStr_sound (hH : Holds ro fr Φ H w) {src dst el : TypeId} (hs : P.underlying src = some .string) (hd : P.underlying dst = some (.slice el)) (he : P.underlying el = some (.int .u8)) {v : AV} {u : Value}
    (hv : VR ro bo Φ v u) {K : AV → Prop} (h : ofStrWP v K) : Yv P ro bo fr Φ H w K (convert src dst u) := by
  cases v
  case str l =>
    obtain ⟨s, rfl, rfl⟩ := hv.str_inv
    have hcap : s.size ≤ grownCap w s.size 0 el := grownCap_ge w _ _ _
    refine Yv.fresh hH (by omega) h rfl (fun h => by cases h) (Lib.run_convert_string_bytes w src dst el s hs hd he) ?_ (fun r p hp => ?_) (Lib.bytesWorld_at_new w el s) (n := s.size) (cap := grownCap w s.size 0 el) (by simp) hcap (d := s.data.toList.map fun b => Value.int .u8 b.toNat) ?_ ?_
    · exact ⟨rfl, rfl, rfl, by rw [Lib.bytesWorld_size]; omega⟩
    · rw [Lib.bytesWorld_at_old w el s r (Array.getElem?_eq_some_iff.1 hp).1]; exact hp
    · refine ⟨by simp, fun j v u hv hu => ?_, fun u hu => ?_⟩
      · simp only [List.getElem?_map] at hv hu
        cases hx : s.data.toList[j]? with
        | none => rw [hx] at hv; cases hv
        | some b => rw [hx] at hv hu; cases hv; cases hu; exact .int _ _
      · simp only [List.mem_map] at hu
        obtain ⟨b, _, rfl⟩ := hu
        rfl
    · simp [Lib.bytesCells, List.take_append]
  all_goals exact h.elim
end
end Go.Fw
namespace Go.Fw
section
variable {P : Program} {ro bo fr : Mem} {Φ : Emb} {e : Env} {H : Heap} {a : Act} {w : World}
def apTy (P : Program) (t u : TypeId) : Prop := P.underlying u = some .string ∨ ∃ el, P.underlying u = some (.slice el) ∧ t = t
theorem run_append_new {t u ty el : TypeId} {i : TypeInfo} {z : Value} (ht : P.underlying t = some (.slice el)) (hu : apTy P t u) (hi : P.info? el = some i) (hz : i.zero = some z)
    {s : Option Addr} {sLen sCap n : Nat} {x : Value} {olds news : List Value} (hx : (Builtin.lenOf x).run P w = .ok n w)
    (hfo : (Builtin.firstCells i.size sLen (.slice s sLen sCap)).run P w.drew = .ok olds.toArray w.drew) (hf : (Builtin.firstCells i.size n x).run P w.drew = .ok news.toArray w.drew)
    (hg : sCap < sLen + n) (h63 : sLen + n ≤ 9223372036854775807) (h47 : (sLen + n) * i.bytes ≤ 140737488355328) :
    (Builtin.append_ #[t, u] ty #[.slice s sLen sCap, x]).run P w =
      .ok (.slice (some ⟨w.heap.size, 0, none⟩) (sLen + n) (grownCap w (sLen + n) sCap el))
        (w.drew.alloc (.cells (olds.toArray ++ news.toArray ++ Builtin.zeroCells z.cells (grownCap w (sLen + n) sCap el - (sLen + n))) el)) := by
  have hn : ¬ (sLen + n ≤ sCap) := by omega
  have h63' : ¬ (9223372036854775807 < ((sLen : Int) + (n : Int))) := by omega
  have hfit := growslice_fits (bytes := i.bytes) hg h47
  have h48' : ¬ (281474976710656 < Builtin.nextslicecap (sLen + n) sCap * i.bytes) := by omega
  rcases hu with hu | ⟨el', hu, _⟩
  · simp [Builtin.append_, run_underlying ht, run_underlying hu, sizeOf, typeInfo, zeroValue, hi, hz, hx, hn, h63', h48', Question.forced, hf, hfo, newRow, grownCap]
    congr 2
    apply Array.ext'
    simp [List.append_assoc]
  · simp [Builtin.append_, run_underlying ht, run_underlying hu, sizeOf, typeInfo, zeroValue, hi, hz, hx, hn, h63', h48', Question.forced, hf, hfo, newRow, grownCap]
    congr 2
    apply Array.ext'
    simp [List.append_assoc]
theorem run_append_same {t u ty el : TypeId} {i : TypeInfo} (ht : P.underlying t = some (.slice el)) (hu : apTy P t u) (hi : P.info? el = some i)
    {s : Option Addr} {sLen sCap : Nat} {x : Value} (hx : (Builtin.lenOf x).run P w = .ok 0 w) (hf : (Builtin.firstCells i.size 0 x).run P w = .ok #[] w) (hc : sLen ≤ sCap) :
    (Builtin.append_ #[t, u] ty #[.slice s sLen sCap, x]).run P w = .ok (.slice s sLen sCap) w := by
  rcases hu with hu | ⟨el', hu, _⟩
  · cases s <;> simp [Builtin.append_, run_underlying ht, run_underlying hu, sizeOf, typeInfo, hi, hx, hc, hf, storeCells]
  · cases s <;> simp [Builtin.append_, run_underlying ht, run_underlying hu, sizeOf, typeInfo, hi, hx, hc, hf, storeCells]
theorem Holds.drew (hH : Holds ro fr Φ H w) : Holds ro fr Φ H w.drew := hH.ext fun _ _ h => h
theorem heap_alloc_new' (w : World) (o : Obj) : (w.drew.alloc o).heap[w.heap.size]? = some o := heap_alloc_new w.drew o
theorem heap_alloc_old' (w : World) (o : Obj) {r : Nat} {p : Obj} (h : w.heap[r]? = some p) : (w.drew.alloc o).heap[r]? = some p := by
  have := (Array.getElem?_eq_some_iff.1 h).1
  rw [heap_alloc_old w.drew o r this]; exact h
theorem WExt.drewAlloc (w : World) (o : Obj) : WExt w (w.drew.alloc o) := ⟨rfl, rfl, rfl, by simp⟩
theorem WExt.alloc (w : World) (o : Obj) : WExt w (w.alloc o) := ⟨rfl, rfl, rfl, by simp⟩
theorem hs_of {s : Nat} {v : AV} {ys : List AV} (hk : sliceCells H v = some ys) (hsz : szAV v s = true) :
    (∀ e id off len kc, v = .slice e id off len kc → e = s) ∧ (∀ e m xs, v = .list e m xs → m.nl = true ∨ e = s) ∧ (∀ l, v = .str l → s = 1) := by
  refine ⟨fun e id off len kc h => ?_, fun e m xs h => ?_, fun l h => ?_⟩ <;> subst h <;> simp [szAV] at hsz
  · exact hsz
  · exact hsz
  · exact hsz
theorem appF_sound (hH : Holds ro fr Φ H w) (hb : Mem.le bo fr) {t u ty el : TypeId} {i : TypeInfo} (ht : P.underlying t = some (.slice el)) (hu : apTy P t u) (hi : P.info? el = some i) (hs0 : 0 < i.size) (hz : ∃ z : Value, i.zero = some z)
    {v v2 : AV} {x x2 : Value} {ys : List AV} (hv : VR ro bo Φ v x) (hv2 : VR ro bo Φ v2 x2) (hk : sliceCells H v2 = some ys) (hsz : szAV v2 i.size = true) {K : AV → Prop}
    (h : appFWP i.size i.bytes v ys K) : Yv P ro bo fr Φ H w K (Builtin.append_ #[t, u] ty #[x, x2]) := by
  obtain ⟨z, hz⟩ := hz
  obtain ⟨q1, q2, q3⟩ := hs_of hk hsz
  obtain ⟨n, c, g1, g2, g3, g4, g5⟩ := cells_sound (P := P) hH hb hv2 hk q1 q2 q3 hs0
  obtain ⟨n', c', g1', g2', g3', g4', g5'⟩ := cells_sound (P := P) hH.drew hb hv2 hk q1 q2 q3 hs0
  have hnn : n' = n := by
    have : n' * i.size = n * i.size := by rw [← g1, ← g1']
    exact Nat.eq_of_mul_eq_mul_right hs0 this
  subst hnn
  cases v
  case list s' m xs =>
    obtain ⟨h1, h2, ⟨h3, h4⟩, hK⟩ := h
    cases hv with
    | listNil _ _ he =>
      simp only [List.length_nil, Nat.zero_add, List.nil_append] at h3 h4 hK
      rw [g1, Nat.mul_div_cancel _ hs0] at h3 h4
      by_cases hn0 : n' = 0
      · subst hn0
        have hys : ys = [] := List.eq_nil_of_length_eq_zero (by simpa using g1)
        subst hys
        have hc : c = [] := List.eq_nil_of_length_eq_zero (by simpa using g2.len)
        subst hc
        refine .of hH hK (u := .slice none 0 0) (run_append_same ht hu hi g3 g4 (Nat.le_refl _)) (.listNil _ _ hs0)
      · have hne : ys ≠ [] := fun e => by subst e; rw [List.length_nil] at g1; rcases Nat.mul_eq_zero.1 g1.symm with h | h <;> omega
        have hemp : ys.isEmpty = false := by simpa using hne
        have hr := run_append_new (P := P) (w := w) (ty := ty) ht hu hi hz (s := none) (sLen := 0) (sCap := 0) (olds := []) g3 (by simp [Builtin.firstCells]) g4' (by omega) (by omega) (by simpa using h3)
        rw [Nat.zero_add] at hr
        refine Yv.fresh hH hs0 hK (by simp [hemp]) (fun h => by cases h) hr (WExt.drewAlloc _ _) (fun r p hp => heap_alloc_old' _ _ hp) (heap_alloc_new' _ _) g1 (grownCap_ge w _ _ _) g2' ?_
        have hl : c'.length = ys.length := g2'.len
        simp [← hl]
    | list _ _ _ r off len cap cc T fz he hm hlen hc1 hf hr hl hx ho sp hsp =>
      have hse : s' = i.size := h1.resolve_left (by simp [hm])
      subst hse
      have hcap : cap = len := hf (h2.resolve_left (by simp [hm]))
      subst hcap
      rw [hlen, g1, ← Nat.add_mul, Nat.mul_div_cancel _ hs0] at h3 h4
      have hvl : VR ro bo Φ (.list i.size m xs) (.slice (some ⟨r, off, sp⟩) cap cap) := .list _ _ _ r off cap cap cc T fz he hm hlen hc1 hf hr hl hx ho sp hsp
      obtain ⟨n1, c1, f1, f2, f3, f4, f5⟩ := cells_sound (P := P) (s := i.size) hH.drew hb hvl (ys := xs) rfl (fun _ _ _ _ _ h => by cases h) (fun _ _ _ h => by cases h; exact .inr rfl) (fun _ h => by cases h) hs0
      have hn1 : n1 = cap := by simpa [Builtin.lenOf] using f3.symm
      subst hn1
      by_cases hn0 : n' = 0
      · subst hn0
        have hys : ys = [] := List.eq_nil_of_length_eq_zero (by simpa using g1)
        subst hys
        have hc : c = [] := List.eq_nil_of_length_eq_zero (by simpa using g2.len)
        subst hc
        rw [List.append_nil] at hK
        refine .of hH hK (run_append_same ht hu hi g3 g4 (Nat.le_refl _)) ?_
        exact .list _ ⟨m.nl && ([] : List AV).isEmpty, false, m.bw⟩ _ r off n1 n1 cc T fz he (by simp [hm]) hlen hc1 (fun h => by cases h) hr hl hx ho sp hsp
      · have hr := run_append_new (P := P) (w := w) (ty := ty) ht hu hi hz (s := some ⟨r, off, sp⟩) (sLen := n1) (sCap := n1) (olds := c1) g3 f4 g4' (by omega) (by omega) (by simpa using h3)
        refine Yv.fresh hH hs0 hK (by simp [hm]) (fun h => by cases h) hr (WExt.drewAlloc _ _) (fun r p hp => heap_alloc_old' _ _ hp) (heap_alloc_new' _ _) ?_ (grownCap_ge w _ _ _) (f2.append g2') ?_
        · rw [List.length_append, hlen, g1, Nat.add_mul]
        · have hl : (c1 ++ c').length = (xs ++ ys).length := (f2.append g2').len
          simp only [Array.toList_append, List.append_assoc]
          rw [← List.append_assoc, ← hl, List.take_left]
  all_goals exact h.elim
end
end Go.Fw
namespace Go.Fw
section
variable {P : Program} {ro bo fr : Mem} {Φ : Emb} {e : Env} {H : Heap} {a : Act} {w : World}
def mkInts : List IntKind → List Int → List Value
  | k :: ks, n :: ns => .int k n :: mkInts ks ns
  | _, _ => []
theorem mkInts_append : ∀ {ks ls : List IntKind} {ns ms : List Int}, ks.length = ns.length → mkInts (ks ++ ls) (ns ++ ms) = mkInts ks ns ++ mkInts ls ms
  | [], _, [], _, _ => rfl
  | k :: ks, ls, n :: ns, ms, h => by simp [mkInts, mkInts_append (ks := ks) (ls := ls) (ns := ns) (ms := ms) (by simpa using h)]
  | [], _, _ :: _, _, h => by simp at h
  | _ :: _, _, [], _, h => by simp at h
theorem mkInts_length : ∀ {ks : List IntKind} {ns : List Int}, ks.length = ns.length → (mkInts ks ns).length = ks.length
  | [], [], _ => rfl
  | k :: ks, n :: ns, h => by simp [mkInts, mkInts_length (ks := ks) (ns := ns) (by simpa using h)]
  | [], _ :: _, h => by simp at h
  | _ :: _, [], h => by simp at h
theorem rowFrom_take (xs : Array Value) (o k l : Nat) : rowFrom xs o k = (rowFrom xs o (k + l)).take k := by
  simp [rowFrom, List.take_take]
theorem rowFrom_drop (xs : Array Value) (o k l : Nat) : rowFrom xs (o + k) l = (rowFrom xs o (k + l)).drop k := by
  simp [rowFrom, List.drop_take]
theorem rowFrom_all {c : Array Value} {n : Nat} (h : c.toList.length = n) : rowFrom c 0 n = c.toList := by
  simp only [rowFrom, List.drop_zero]
  exact List.take_of_length_le (by omega)
def At (xs : Array Value) (o : Nat) (ks : List IntKind) (ns : List Int) : Prop := ks.length = ns.length ∧ rowFrom xs o ks.length = mkInts ks ns
theorem At.split {xs : Array Value} {o : Nat} {ks ls : List IntKind} {ns : List Int} (h : At xs o (ks ++ ls) ns) :
    ∃ n1 n2, ns = n1 ++ n2 ∧ At xs o ks n1 ∧ At xs (o + ks.length) ls n2 := by
  obtain ⟨h1, h2⟩ := h
  simp only [List.length_append] at h1 h2
  have hl1 : ks.length = (ns.take ks.length).length := by simp; omega
  have hl2 : ls.length = (ns.drop ks.length).length := by simp; omega
  refine ⟨ns.take ks.length, ns.drop ks.length, (List.take_append_drop _ _).symm, ⟨hl1, ?_⟩, ⟨hl2, ?_⟩⟩
  · have e : rowFrom xs o (ks.length + ls.length) = mkInts ks (ns.take ks.length) ++ mkInts ls (ns.drop ks.length) := by
      rw [h2, ← mkInts_append hl1, List.take_append_drop]
    rw [rowFrom_take xs o ks.length ls.length, e, List.take_left' (mkInts_length hl1)]
  · have e : rowFrom xs o (ks.length + ls.length) = mkInts ks (ns.take ks.length) ++ mkInts ls (ns.drop ks.length) := by
      rw [h2, ← mkInts_append hl1, List.take_append_drop]
    rw [rowFrom_drop xs o ks.length ls.length, e, List.drop_left' (mkInts_length hl1)]
theorem At.extract {xs : Array Value} {o n o' : Nat} {ks : List IntKind} {ns : List Int} (h : At xs (o + o') ks ns) (hn : o' + ks.length ≤ n) : At (rowFrom xs o n).toArray o' ks ns := by
  refine ⟨h.1, ?_⟩
  rw [← h.2]
  simp only [rowFrom, List.drop_take, List.drop_drop, List.take_take]
  congr 1
  omega
theorem part_agg {t n o : Nat} {xs : Array Value} (h : (isAgg t).run P w = .ok true w) (hs : szOf P t = some n) : (part t xs o).run P w = .ok (.agg (rowFrom xs o n).toArray) w := by
  have he : xs.extract o (o + n) = (rowFrom xs o n).toArray := by
    apply Array.ext'
    simp [rowFrom, List.take_drop]
  simp [part, h, szOf_run hs, he]
theorem dec_append {a b c d : List Int} (h : a.length = c.length) : decide (a ++ b = c ++ d) = (decide (a = c) && decide (b = d)) := by
  by_cases h1 : a = c
  · subst h1; simp
  · have : ¬ a ++ b = c ++ d := fun e => h1 (List.append_inj e h).1
    simp [h1, this]
def EqOk (P : Program) (d : Nat) (t : TypeId) (ks : List IntKind) : Prop := ∀ (w : World) (D : Nat) (xs ys : Array Value) (o : Nat) (ns ms : List Int), At xs o ks ns → At ys o ks ms →
  ∃ a b, (part t xs o).run P w = .ok a w ∧ (part t ys o).run P w = .ok b w ∧ (Op.equalIn (D + d) t a b).run P w = .ok (decide (ns = ms)) w
theorem eqFields_ok {d : Nat} (ih : ∀ t ks, flatK P d t = some ks → EqOk P d t ks) (D : Nat) (xs ys : Array Value) : ∀ (fs : List Field) (o : Nat) (ks : List IntKind) (ns ms : List Int), flatF P (flatK P d) fs o = some ks →
    At xs o ks ns → At ys o ks ms → (Op.eqFields (D + d) xs ys fs).run P w = .ok (decide (ns = ms)) w := by
  intro fs
  induction fs with
  | nil =>
    intro o ks ns ms h hx hy
    simp [flatF] at h; subst h
    have h1 : ns = [] := List.eq_nil_of_length_eq_zero hx.1.symm
    have h2 : ms = [] := List.eq_nil_of_length_eq_zero hy.1.symm
    subst h1; subst h2
    simp [Op.eqFields]
  | cons f fs ihf =>
    intro o ks ns ms h hx hy
    simp only [flatF] at h
    split at h
    · rename_i hf
      cases hk : flatK P d f.type with
      | none => rw [hk] at h; cases h
      | some k1 =>
        rw [hk] at h; simp only at h
        cases hl : flatF P (flatK P d) fs (o + k1.length) with
        | none => rw [hl] at h; cases h
        | some l1 =>
          rw [hl] at h; simp at h; subst h
          obtain ⟨n1, n2, rfl, hx1, hx2⟩ := hx.split
          obtain ⟨m1, m2, rfl, hy1, hy2⟩ := hy.split
          obtain ⟨a, b, p1, p2, p3⟩ := ih _ _ hk w D xs ys o n1 m1 hx1 hy1
          have hr := ihf _ _ _ _ hl hx2 hy2
          rw [dec_append (by rw [← hx1.1, ← hy1.1])]
          simp only [Op.eqFields, hf.1, hf.2, ne_eq, not_false_eq_true, if_true, Sem.run_bind, p1, p2, p3, Result.andThen_ok]
          cases hd : decide (n1 = m1)
          · simp
          · simpa [hd] using hr
    · cases h
theorem eqItems_ok {d e : Nat} {ks : List IntKind} (ih : EqOk P d e ks) (hc : P.cellsOf e = ks.length) (D : Nat) (xs ys : Array Value) : ∀ (m s : Nat) (ns ms : List Int),
    At xs (s * ks.length) (repK ks m) ns → At ys (s * ks.length) (repK ks m) ms → (Op.eqItems (D + d) e (P.cellsOf e) xs ys (List.range' s m)).run P w = .ok (decide (ns = ms)) w := by
  intro m
  induction m with
  | zero =>
    intro s ns ms hx hy
    have h1 : ns = [] := List.eq_nil_of_length_eq_zero hx.1.symm
    have h2 : ms = [] := List.eq_nil_of_length_eq_zero hy.1.symm
    subst h1; subst h2
    simp [Op.eqItems]
  | succ m ihm =>
    intro s ns ms hx hy
    obtain ⟨n1, n2, rfl, hx1, hx2⟩ := hx.split
    obtain ⟨m1, m2, rfl, hy1, hy2⟩ := hy.split
    obtain ⟨a, b, p1, p2, p3⟩ := ih w D xs ys _ n1 m1 hx1 hy1
    have hr := ihm (s + 1) n2 m2 (by rw [Nat.add_mul, Nat.one_mul]; exact hx2) (by rw [Nat.add_mul, Nat.one_mul]; exact hy2)
    rw [dec_append (by rw [← hx1.1, ← hy1.1]), List.range'_succ]
    rw [hc] at hr ⊢
    simp only [Op.eqItems, Sem.run_bind, p1, p2, p3, Result.andThen_ok]
    cases hd : decide (n1 = m1)
    · simp
    · simpa [hd] using hr
theorem flat_ok : ∀ (d : Nat) (t : TypeId) (ks : List IntKind), flatK P d t = some ks → EqOk P d t ks := by
  intro d
  induction d with
  | zero => intro t ks h; simp [flatK] at h
  | succ d ih =>
    intro t ks h w D xs ys o ns ms hx hy
    simp only [flatK] at h
    split at h
    · rename_i k hu
      cases h
      obtain ⟨x1, x2⟩ := hx
      obtain ⟨y1, y2⟩ := hy
      match ns, x1 with
      | [n], _ => match ms, y1 with
        | [m], _ =>
          have hg : ∀ {zs : Array Value} {v : Int}, rowFrom zs o [k].length = mkInts [k] [v] → zs[o]? = some (.int k v) := by
            intro zs v hh
            have h0 := rowFrom_get (c := zs) (o := o) (n := 1) (j := 0) (by omega)
            have h1 : (rowFrom zs o 1)[0]? = some (.int k v) := by
              have : rowFrom zs o 1 = mkInts [k] [v] := hh
              rw [this]; rfl
            rw [h1] at h0; simpa using h0.symm
          have hia : (isAgg t).run P w = .ok false w := by simp only [isAgg, Sem.run_bind, run_underlying hu, Result.andThen_ok]; rfl
          refine ⟨.int k n, .int k m, by simp [part, hia, hg x2], by simp [part, hia, hg y2], ?_⟩
          have := run_equalIn_int (P := P) w (D + d) t k k n m hu
          rw [show D + (d + 1) = (D + d) + 1 from rfl, this, beq_dec]
          simp
    · rename_i n el hu
      cases hk : flatK P d el with
      | none => rw [hk] at h; cases h
      | some k1 =>
        rw [hk] at h; simp only at h
        split at h
        · rename_i hs
          cases h
          have hia : (isAgg t).run P w = .ok true w := by simp only [isAgg, Sem.run_bind, run_underlying hu, Result.andThen_ok]; rfl
          refine ⟨_, _, part_agg hia hs.1, part_agg hia hs.1, ?_⟩
          obtain ⟨i, hi⟩ : ∃ i, P.info? el = some i := by
            cases d with
            | zero => simp [flatK] at hk
            | succ d =>
              simp only [flatK] at hk
              cases hue : P.underlying el with
              | none => simp [hue] at hk
              | some _ => exact info_of_underlying hue
          rw [show D + (d + 1) = (D + d) + 1 from rfl, run_equalIn_array w (D + d) _ _ hu hi, List.range_eq_range']
          exact eqItems_ok (ih _ _ hk) hs.2 D _ _ n 0 ns ms (At.extract (by simpa using hx) (by omega)) (At.extract (by simpa using hy) (by omega))
        · cases h
    · rename_i fs hu
      cases hk : flatF P (flatK P d) fs.toList 0 with
      | none => rw [hk] at h; cases h
      | some k1 =>
        rw [hk] at h; simp only at h
        split at h
        · rename_i hs
          cases h
          have hia : (isAgg t).run P w = .ok true w := by simp only [isAgg, Sem.run_bind, run_underlying hu, Result.andThen_ok]; rfl
          refine ⟨_, _, part_agg hia hs.1, part_agg hia hs.1, ?_⟩
          have hfs : P.fieldsOf t = fs := by simp [Program.fieldsOf, hu]
          rw [show D + (d + 1) = (D + d) + 1 from rfl, run_equalIn_struct w (D + d) t _ _ (by rw [hfs]; exact hu) hs.2, hfs]
          exact eqFields_ok ih D _ _ fs.toList 0 _ ns ms hk (At.extract (by simpa using hx) (by omega)) (At.extract (by simpa using hy) (by omega))
        · cases h
    · cases h
theorem hasK_ints {ks : List IntKind} : ∀ {xs : List AV} {c : List Value}, hasK ks xs = true → Rw ro bo Φ xs c → c = mkInts ks (ints xs) ∧ ks.length = (ints xs).length := by
  induction ks with
  | nil =>
    intro xs c h hR
    cases xs with
    | nil => exact ⟨List.eq_nil_of_length_eq_zero hR.len, rfl⟩
    | cons x xs => simp [hasK] at h
  | cons k ks ih =>
    intro xs c h hR
    cases xs with
    | nil => simp [hasK] at h
    | cons x xs =>
      cases x <;> simp [hasK] at h
      rename_i k' n
      obtain ⟨rfl, h⟩ := h
      cases c with
      | nil => have := hR.len; simp at this
      | cons u c =>
        have hR' : Rw ro bo Φ xs c := ⟨by have := hR.len; simpa using this, fun j x y hx hy => hR.vr (j + 1) x y hx hy, fun y hy => hR.one y (List.mem_cons_of_mem _ hy)⟩
        obtain ⟨h1, h2⟩ := ih h hR'
        have := (hR.vr 0 _ _ rfl rfl).int_inv
        subst this
        exact ⟨by simp [ints, mkInts, ← h1], by simp [ints, h2]⟩
theorem eqA_sound (hH : Holds ro fr Φ H w) {t : TypeId} {ks : List IntKind} (hk : flatK P 20 t = some ks) (hagg : (isAgg t).run P w = .ok true w) {xs ys : List AV} {u v : Value} (hu : VR ro bo Φ (.agg xs) u) (hv : VR ro bo Φ (.agg ys) v)
    (h1 : hasK ks xs = true) (h2 : hasK ks ys = true) : (Op.equal t u v).run P w = .ok (decide (ints xs = ints ys)) w := by
  have c1 := hu.cells rfl
  have c2 := hv.cells rfl
  cases hu with
  | agg _ c _ _ _ =>
    cases hv with
    | agg _ d _ _ _ =>
      simp only [AV.cells, Value.cells] at c1 c2
      obtain ⟨e1, l1⟩ := hasK_ints h1 c1
      obtain ⟨e2, l2⟩ := hasK_ints h2 c2
      have s1 : c.toList.length = ks.length := by rw [e1, mkInts_length l1]
      have s2 : d.toList.length = ks.length := by rw [e2, mkInts_length l2]
      have a1 : At c 0 ks (ints xs) := ⟨l1, by rw [← e1]; exact rowFrom_all s1⟩
      have a2 : At d 0 ks (ints ys) := ⟨l2, by rw [← e2]; exact rowFrom_all s2⟩
      obtain ⟨a, b, p1, p2, p3⟩ := flat_ok 20 t ks hk w 9980 c d 0 _ _ a1 a2
      have hsz : szOf P t = some ks.length := by
        simp only [flatK] at hk
        split at hk
        · rename_i k hu
          have : (isAgg t).run P w = .ok false w := by simp only [isAgg, Sem.run_bind, run_underlying hu, Result.andThen_ok]; rfl
          rw [this] at hagg; cases hagg
        · split at hk
          · split at hk
            · rename_i hh; cases hk; exact hh.1
            · cases hk
          · cases hk
        · split at hk
          · split at hk
            · rename_i hh; cases hk; exact hh.1
            · cases hk
          · cases hk
        · cases hk
      have f1 : (rowFrom c 0 ks.length).toArray = c := by rw [rowFrom_all s1]
      have f2 : (rowFrom d 0 ks.length).toArray = d := by rw [rowFrom_all s2]
      rw [part_agg hagg hsz, f1] at p1
      rw [part_agg hagg hsz, f2] at p2
      cases p1; cases p2
      exact p3
end
end Go.Fw
namespace Go.Fw
section
variable {P : Program} {ro bo fr : Mem} {Φ : Emb} {e : Env} {H : Heap} {a : Act} {w : World}
def Yn (P : Program) (ro bo fr : Mem) (Φ : Emb) (H : Heap) (w : World) (K : AV → Prop) (s : Sem Next) : Prop :=
  ∃ v u ro' w', K v ∧ s.run P w = .ok (.value u) w' ∧ VR ro' bo Φ v u ∧ Holds ro' fr Φ H w' ∧ Mem.le ro ro' ∧ WExt w w'
theorem Yv.next {K : AV → Prop} {s : Sem Value} (h : Yv P ro bo fr Φ H w K s) : Yn P ro bo fr Φ H w K (do pure (.value (← s))) := by
  obtain ⟨v, u, ro', w', h1, h2, h3⟩ := h
  exact ⟨v, u, ro', w', h1, by simp [h2], h3⟩
theorem Yn.of (hH : Holds ro fr Φ H w) {K : AV → Prop} {s : Sem Next} {v : AV} {u : Value} (hK : K v) (hr : s.run P w = .ok (.value u) w) (hv : VR ro bo Φ v u) : Yn P ro bo fr Φ H w K s :=
  ⟨v, u, ro, w, hK, hr, hv, hH, Mem.le_refl _, WExt.refl _⟩
theorem Yv.cast {K : AV → Prop} {s t : Sem Value} (h : Yv P ro bo fr Φ H w K s) (e : s.run P w = t.run P w) : Yv P ro bo fr Φ H w K t := by
  obtain ⟨v, u, ro', w', h1, h2, h3⟩ := h
  exact ⟨v, u, ro', w', h1, by rw [← e]; exact h2, h3⟩
theorem ov_of (hE : EnvOK ro bo Φ e a) {x : Option Operand} {y : Option Opd} {v : Option AV} (hl : lowOO x = some y) (h : e.opdO y = some v) : OVal ro bo Φ v (x.map a.eval) := by
  rcases opdO_sound hE hl h with ⟨rfl, rfl⟩ | ⟨v', x', rfl, rfl, hv⟩
  · exact .inl ⟨rfl, rfl⟩
  · exact .inr ⟨v', _, rfl, rfl, hv⟩
theorem eqGuard_bin {op : BinOp} {t : TypeId} {x y : Operand} {v u : Value} (hv : v.oneCell' = true) (hn : v ≠ .nilIface) : (eqGuard op t x y v u).run P w = .ok () w := by
  unfold eqGuard
  cases op <;> simp <;> (cases v <;> first | (cases hv; done) | exact absurd rfl hn | (simp))
theorem bin_ev (hH : Holds ro fr Φ H w) {op : BinOp} {t : TypeId} {x y : Operand} {v1 v2 : AV} (h1 : VR ro bo Φ v1 (a.eval x)) (h2 : VR ro bo Φ v2 (a.eval y)) {K : AV → Prop} (h : binWP op v1 v2 K)
    (hT : P.underlying t = some .bool ∨ (∀ b, v1 ≠ .bool b)) : Yv P ro bo fr Φ H w K (do eqGuard op t x y (a.eval x) (a.eval y); Go.binOp op t (a.eval x) (a.eval y)) := by
  cases v1 <;> cases v2 <;> first | exact h.elim | skip
  case bool.bool b c =>
    rw [h1.bool_inv, h2.bool_inv]
    have hT' := hT.resolve_right (fun hh => hh b rfl)
    exact (bool_sound (T := t) hH hT' h).cast (by simp [eqGuard_bin (v := .bool b) rfl (by simp)])
  case int.int k n k' n' =>
    rw [h1.int_inv, h2.int_inv]
    exact (int_sound (t := t) hH h).cast (by simp [eqGuard_bin (v := .int k n) rfl (by simp)])
  case str.str l m =>
    obtain ⟨s1, e1, rfl⟩ := h1.str_inv
    obtain ⟨s2, e2, rfl⟩ := h2.str_inv
    rw [e1, e2]
    exact (str_sound (T := t) hH h).cast (by simp [eqGuard_bin (v := .string s1) rfl (by simp)])
def NilIs (v : AV) (c : Value) (r : Bool) : Prop := match v with
  | .nil => r = true ∧ c = .pointer none
  | .ptr _ _ => r = false ∧ c = .pointer none
  | .rptr _ _ => r = false ∧ c = .pointer none
  | .list _ m xs => (m.nl = true ∨ xs ≠ []) ∧ r = m.nl ∧ c = .slice none 0 0
  | .nilFunc => r = true ∧ c = .nilFunc
  | .func _ _ _ => r = false ∧ c = .nilFunc
  | .nilIface => r = true ∧ c = .nilIface
  | .iface _ _ => r = false ∧ c = .nilIface
  | _ => False
theorem nil_eq {t : TypeId} {v : AV} {u c : Value} (hu : VR ro bo Φ v u)
    (hT : (∃ e, P.underlying t = some (.pointer e)) ∧ c = .pointer none ∨ (∃ e, P.underlying t = some (.slice e)) ∧ c = .slice none 0 0 ∨ (∃ p r q, P.underlying t = some (.func p r q)) ∧ c = .nilFunc ∨ (∃ m, P.underlying t = some (.interface m)) ∧ c = .nilIface)
    {r : Bool} (hr : NilIs v c r) : (Op.equal t u c).run P w = .ok r w := by
  have key : ∀ d, (Op.equalIn (d + 1) t u c).run P w = .ok r w := by
    intro d
    cases hu <;> simp only [NilIs] at hr
    all_goals first | (obtain ⟨rfl, rfl⟩ := hr) | (obtain ⟨hz, rfl, rfl⟩ := hr)
    all_goals (rcases hT with ⟨⟨_, hT⟩, hc⟩ | ⟨⟨_, hT⟩, hc⟩ | ⟨⟨_, _, _, hT⟩, hc⟩ | ⟨⟨_, hT⟩, hc⟩ <;> first | (cases hc; done) | skip)
    all_goals (simp only [Op.equalIn, Sem.run_bind, run_underlying hT, Result.andThen_ok, Sem.run_pure])
    all_goals first | rfl | (simp [*]; done) | (rcases hz with hz | hz <;> simp_all)
  exact key 9999
theorem list_eq_any {t el : TypeId} {e : Nat} {m : Md} {xs : List AV} {u : Value} (hu : VR ro bo Φ (.list e m xs) u) (hT : P.underlying t = some (.slice el)) : ∃ r, (Op.equal t u (.slice none 0 0)).run P w = .ok r w := by
  cases hu with
  | listNil _ _ he => exact ⟨true, nil_eq (v := .list e ⟨true, true, false⟩ []) (ro := ro) (bo := bo) (Φ := Φ) (.listNil _ _ he) (.inr (.inl ⟨⟨_, hT⟩, rfl⟩)) ⟨.inl rfl, rfl, rfl⟩⟩
  | list _ _ _ r off len cap =>
    have key : ∀ d, ∃ b, (Op.equalIn (d + 1) t (.slice (some ⟨r, off, ‹_›⟩) len cap) (.slice none 0 0)).run P w = .ok b w := by
      intro d
      refine ⟨false, ?_⟩
      simp only [Op.equalIn, Sem.run_bind, run_underlying hT, Result.andThen_ok, Sem.run_pure]
      try rfl
    exact key 9999
theorem isNil_ev (hH : Holds ro fr Φ H w) {neg : Bool} {q : Nat} {t : TypeId} {x y : Operand} {v : AV} {c : Value} (hu : VR ro bo Φ v (a.eval x)) (hy : y = .const c)
    (hT : q = 0 ∧ (∃ e, P.underlying t = some (.pointer e)) ∧ c = .pointer none ∨ q = 1 ∧ (∃ e, P.underlying t = some (.slice e)) ∧ c = .slice none 0 0 ∨ q = 2 ∧ (∃ p r q, P.underlying t = some (.func p r q)) ∧ c = .nilFunc ∨ q = 3 ∧ (∃ m, P.underlying t = some (.interface m)) ∧ c = .nilIface)
    {K : AV → Prop} (h : nilWP neg q v K) : Yv P ro bo fr Φ H w K (do eqGuard (if neg then .neq else .eql) t x y (a.eval x) (a.eval y); Go.binOp (if neg then .neq else .eql) t (a.eval x) (a.eval y)) := by
  subst hy
  have hc : a.eval (.const c) = c := rfl
  rw [hc]
  generalize a.eval x = u at hu ⊢
  have hg : (eqGuard (if neg then .neq else .eql) t x (.const c) u c).run P w = .ok () w := by
    unfold eqGuard
    rcases hT with ⟨_, _, rfl⟩ | ⟨_, _, rfl⟩ | ⟨_, _, rfl⟩ | ⟨_, _, rfl⟩ <;> cases neg <;> cases hu <;> simp
  obtain ⟨r, hK, hr⟩ : ∃ r, K (.bool (r != neg)) ∧ (Op.equal t u c).run P w = .ok r w := by
    rcases hT with ⟨rfl, hT, rfl⟩ | ⟨rfl, hT, rfl⟩ | ⟨rfl, hT, rfl⟩ | ⟨rfl, hT, rfl⟩ <;> cases v <;> first | exact h.elim | skip
    · exact ⟨true, by simpa [nilWP] using h, nil_eq hu (.inl ⟨hT, rfl⟩) ⟨rfl, rfl⟩⟩
    · exact ⟨false, by simpa [nilWP] using h, nil_eq hu (.inl ⟨hT, rfl⟩) ⟨rfl, rfl⟩⟩
    · exact ⟨false, by simpa [nilWP] using h, nil_eq hu (.inl ⟨hT, rfl⟩) ⟨rfl, rfl⟩⟩
    · rcases h with h | h
      · exact ⟨_, h.2, nil_eq hu (.inr (.inl ⟨hT, rfl⟩)) ⟨h.1, rfl, rfl⟩⟩
      · obtain ⟨_, hT⟩ := hT
        obtain ⟨r, hr⟩ := list_eq_any (w := w) hu hT
        exact ⟨r, h _, hr⟩
    · exact ⟨false, by simpa [nilWP] using h, nil_eq hu (.inr (.inr (.inl ⟨hT, rfl⟩))) ⟨rfl, rfl⟩⟩
    · exact ⟨true, by simpa [nilWP] using h, nil_eq hu (.inr (.inr (.inl ⟨hT, rfl⟩))) ⟨rfl, rfl⟩⟩
    · exact ⟨false, by simpa [nilWP] using h, nil_eq hu (.inr (.inr (.inr ⟨hT, rfl⟩))) ⟨rfl, rfl⟩⟩
    · exact ⟨true, by simpa [nilWP] using h, nil_eq hu (.inr (.inr (.inr ⟨hT, rfl⟩))) ⟨rfl, rfl⟩⟩
  refine .of hH hK ?_ (.bool _)
  have hb : (Go.binOp (if neg then .neq else .eql) t u c).run P w = .ok (.bool (r != neg)) w := by
    rcases hT with ⟨_, _, rfl⟩ | ⟨_, _, rfl⟩ | ⟨_, _, rfl⟩ | ⟨_, _, rfl⟩ <;> cases neg <;> cases hu <;> simp [Go.binOp, hr] <;> first | rfl | (cases r <;> rfl) | (rcases hr with _ | _; done) | skip
  simp [hg, hb]
theorem minmax_ev (hH : Holds ro fr Φ H w) {k : IntKind} {m n : Int} {K : AV → Prop} :
    (K (.int k (Min.min m n)) → Yv P ro bo fr Φ H w K (Builtin.min_ #[] 0 #[.int k m, .int k n])) ∧ (K (.int k (Max.max m n)) → Yv P ro bo fr Φ H w K (Builtin.max_ #[] 0 #[.int k m, .int k n])) := by
  constructor
  · intro h
    refine .of hH h (u := .int k (Min.min m n)) ?_ (.int _ _)
    simp only [Builtin.min_, List.foldlM_cons, List.foldlM_nil, Builtin.min2, Sem.run_bind, Sem.run_pure, Result.andThen_ok]
    congr 2
    split <;> omega
  · intro h
    refine .of hH h (u := .int k (Max.max m n)) ?_ (.int _ _)
    simp only [Builtin.max_, List.foldlM_cons, List.foldlM_nil, Builtin.max2, Sem.run_bind, Sem.run_pure, Result.andThen_ok]
    congr 2
    split <;> omega
theorem run_mapM_list {α β : Type} (f : α → Sem β) (g : α → β) : ∀ (l : List α), (∀ x ∈ l, (f x).run P w = .ok (g x) w) → (l.mapM f).run P w = .ok (l.map g) w
  | [], _ => by simp
  | x :: l, h => by
    simp [List.mapM_cons, h x List.mem_cons_self, run_mapM_list f g l (fun y hy => h y (List.mem_cons_of_mem _ hy))]
theorem run_mapM_arr {α β : Type} (f : α → Sem β) (g : α → β) (l : Array α) (h : ∀ x ∈ l.toList, (f x).run P w = .ok (g x) w) : (l.mapM f).run P w = .ok (l.map g) w := by
  rw [Array.mapM_eq_mapM_toList]
  simp [run_mapM_list f g l.toList h]
  apply Array.ext'
  simp
theorem build_ev (hH : Holds ro fr Φ H w) (hE : EnvOK ro bo Φ e a) {t : TypeId} {ps : List (Nat × Operand)} {qs : List (Nat × Nat × Opd)} {vs : List (Nat × Nat × AV)} {z : AV} {cs : List AV} {K : AV → Prop}
    (hl : (∃ fs, P.underlying t = some (.struct fs) ∧ (fs.toList.all fun f => (szOf P f.type).isSome) = true ∧ lowParts (fieldOff P fs) ps = some qs) ∨ (∃ n el s, P.underlying t = some (.array n el) ∧ szOf P el = some s ∧ lowParts (fun i => some (i * s, s)) ps = some qs))
    (hz : zeroOf P t = some z) (hzt : z.okc = true) (h1 : e.parts qs = some vs) (h2 : fillA z.cells vs = some cs) (hK : K (.agg cs)) : Yv P ro bo fr Φ H w K (Instr.build t ((ps.toArray).map fun p => (p.1, a.eval p.2))) := by
  unfold zeroOf at hz
  cases hi : P.info? t with
  | none => rw [hi] at hz; cases hz
  | some i =>
    rw [hi] at hz; simp only [Option.bind_some] at hz
    cases hzz : i.zero with
    | none => rw [hzz] at hz; cases hz
    | some zv =>
      rw [hzz] at hz; simp only [Option.bind_some] at hz
      have hzr := (absV_sound (ro := ro) (bo := bo) (Φ := Φ) hz).cells hzt
      have hzv : (zeroValue t).run P w = .ok zv w := by simp [zeroValue, typeInfo, hi, hzz]
      rcases hl with ⟨fs, hT, hall, hp⟩ | ⟨n, el, s, hT, hs, hp⟩
      · obtain ⟨d, hd, hR⟩ := parts_fill hE hp h1 h2 hzr
        refine .of hH hK (u := .agg d) ?_ (VR.agg_of hR)
        have hm := run_mapM_arr (P := P) (w := w) (fun f : Field => (do pure (f.offset, ← sizeOf f.type) : Sem (Nat × Nat))) (fun f => (f.offset, (szOf P f.type).getD 0)) fs (fun f hf => by
          have := List.all_eq_true.1 hall f hf
          cases hs : szOf P f.type with
          | none => rw [hs] at this; cases this
          | some s => simp [szOf_run hs])
        have hpl : (fun i => (fs.map fun f => (f.offset, (szOf P f.type).getD 0))[i]?) = fieldOff P fs := by
          funext i
          simp only [Array.getElem?_map, fieldOff]
          cases hx : fs[i]? with
          | none => rfl
          | some f =>
            have := List.all_eq_true.1 hall f (Array.mem_toList_iff.2 (Array.mem_of_getElem? hx))
            cases hs : szOf P f.type with
            | none => rw [hs] at this; cases this
            | some s => simp [hs]
        simp only [Instr.build, Sem.run_bind, hzv, Result.andThen_ok, run_underlying hT, hm, hpl]
        simp [hd]
      · obtain ⟨d, hd, hR⟩ := parts_fill hE hp h1 h2 hzr
        refine .of hH hK (u := .agg d) ?_ (VR.agg_of hR)
        simp [Instr.build, hzv, run_underlying hT, szOf_run hs, hd]
end
end Go.Fw
namespace Go.Fw
section
variable {P : Program} {ro bo fr : Mem} {Φ : Emb} {e : Env} {H : Heap} {a : Act} {w : World}
theorem map_some {α β : Type} {o : Option α} {f : α → β} {y : β} (h : o.map f = some y) : ∃ x, o = some x ∧ f x = y := by
  cases o with
  | none => cases h
  | some x => exact ⟨x, rfl, by simpa using h⟩
theorem buildF_ev (hH : Holds ro fr Φ H w) (hE : EnvOK ro bo Φ e a) {t el s n : Nat} {ps : List (Nat × Operand)} {qs : List (Nat × Nat × Opd)} {vs : List (Nat × Nat × AV)} {z : AV} {cs : List AV} {K : AV → Prop}
    (hT : P.underlying t = some (.slice el)) (hs : szOf P el = some s) (hs0 : 0 < s) (hn : n * s ≤ 65536) (hz : zeroOf P el = some z) (hzt : z.okc = true) (hzl : z.cells.length = s)
    (hp : lowParts (fun i => some (i * s, s)) ps = some qs) (h1 : e.parts qs = some vs) (h2 : fillA (repZ z.cells n) vs = some cs) :
    ∃ d : Array Value, Rw ro bo Φ cs d.toList ∧ cs.length = n * s ∧ (Instr.buildSlice t n ((ps.toArray).map fun p => (p.1, a.eval p.2))).run P w = .ok (.slice (some ⟨w.heap.size, 0, none⟩) n n) (w.alloc (.cells d el)) := by
  unfold zeroOf at hz
  cases hi : P.info? el with
  | none => rw [hi] at hz; cases hz
  | some i =>
    rw [hi] at hz; simp only [Option.bind_some] at hz
    cases hzz : i.zero with
    | none => rw [hzz] at hz; cases hz
    | some zv =>
      rw [hzz] at hz; simp only [Option.bind_some] at hz
      have hzr := (absV_sound (ro := ro) (bo := bo) (Φ := Φ) hz).cells hzt
      have hzv : (zeroValue el).run P w = .ok zv w := by simp [zeroValue, typeInfo, hi, hzz]
      have hzs : zv.cells.size = s := by rw [← Array.length_toList, hzr.len, hzl]
      have hrep : ∀ m, Rw ro bo Φ (repZ z.cells m) (((Array.range (m * s)).map (zv.cells[· % zv.cells.size]!)).toList) := by
        intro m
        induction m with
        | zero => simpa [repZ] using Rw.nil
        | succ m ih =>
          have e1 : (((Array.range ((m + 1) * s)).map (zv.cells[· % zv.cells.size]!)).toList) = zv.cells.toList ++ (((Array.range (m * s)).map (zv.cells[· % zv.cells.size]!)).toList) := by
            simp only [Array.toList_map, Array.toList_range, hzs]
            rw [show (m + 1) * s = s + m * s by rw [Nat.add_mul]; omega, List.range_add, List.map_append, List.map_map]
            congr 1
            · apply List.ext_getElem
              · simp [hzs]
              · intro j h1 h2
                simp only [List.length_map, List.length_range] at h1
                simp only [List.getElem_map, List.getElem_range, Nat.mod_eq_of_lt h1, Array.getElem_toList]
                rw [getElem!_pos _ _ (by omega)]
            · apply List.map_congr_left
              intro j _
              simp [Nat.add_mod_left]
          rw [e1]
          exact hzr.append ih
      obtain ⟨d, hd, hR⟩ := parts_fill hE hp h1 h2 (hrep n)
      have hlen : cs.length = n * s := by
        have : ∀ {vs : List (Nat × Nat × AV)} {z cs : List AV}, fillA z vs = some cs → cs.length = z.length := by
          intro vs
          induction vs with
          | nil => intro z cs h; simp [fillA] at h; rw [h]
          | cons p vs ih =>
            intro z cs h
            obtain ⟨o, m, v⟩ := p
            simp only [fillA] at h
            split at h
            · have := ih h
              rw [this]
              have hsp : ∀ (vs xs : List AV) (o : Nat), (splice xs o vs).length = xs.length := by
                intro vs
                induction vs with
                | nil => intro xs o; rfl
                | cons v vs ih => intro xs o; simp [splice, ih]
              exact hsp _ _ _
            · cases h
        rw [this h2, (hrep n).len.symm]
        simp
      refine ⟨d, hR, hlen, ?_⟩
      by_cases h0 : n * s = 0
      · rw [h0] at hd
        have hr : ∀ (f : Nat → Value), (Array.range 0).map f = #[] := fun f => by apply Array.ext'; simp
        rw [hr] at hd
        simp [Instr.buildSlice, run_underlying hT, szOf_run hs, h0, hr, hd, newRow]
      · have h3 : ¬ (2 ^ 24 < n * s) := by omega
        simp only [hzs] at hd
        simp [Instr.buildSlice, run_underlying hT, szOf_run hs, h0, h3, hzv, hzs, hd, newRow]
theorem aggN_agg {t : TypeId} (h : (∃ fs, P.underlying t = some (.struct fs)) ∨ ∃ n e, P.underlying t = some (.array n e)) : (isAgg t).run P w = .ok true w := by
  rcases h with ⟨fs, hT⟩ | ⟨n, el, hT⟩ <;> (simp only [isAgg, Sem.run_bind, run_underlying hT, Result.andThen_ok]; rfl)
theorem zero_parts {t : TypeId} {z : AV} (hz : zeroOf P t = some z) : ∃ (i : TypeInfo) (zv : Value), P.info? t = some i ∧ i.zero = some zv ∧ absV zv = some z ∧ (zeroValue t).run P w = .ok zv w := by
  unfold zeroOf at hz
  cases hi : P.info? t with
  | none => rw [hi] at hz; cases hz
  | some i =>
    rw [hi] at hz; simp only [Option.bind_some] at hz
    cases hzz : i.zero with
    | none => rw [hzz] at hz; cases hz
    | some zv =>
      rw [hzz] at hz; simp only [Option.bind_some] at hz
      exact ⟨i, zv, rfl, hzz, hz, by simp [zeroValue, typeInfo, hi, hzz]⟩
theorem CV.vr (c : CV) : VR ro bo Φ c.av c.val := by
  cases c with
  | int k n => exact .int k n
  | ints l =>
    refine .agg _ _ (by simp) (fun j v u hv hu => ?_) (fun j u hu => ?_)
    · simp only [List.getElem?_map, Option.map_eq_some_iff, List.getElem?_toArray] at hv hu
      obtain ⟨x, h1, rfl⟩ := hv
      obtain ⟨y, h2, rfl⟩ := hu
      rw [h1] at h2; cases h2
      exact .int _ _
    · simp only [List.getElem?_map, Option.map_eq_some_iff, List.getElem?_toArray] at hu
      obtain ⟨y, h2, rfl⟩ := hu
      rfl
  | func f => exact .func (.func f) [] [] #[] #[] rfl rfl (by simp) (by simp)
theorem findNow_look {kk : IntKind} {k : IntKind} {n : Int} : ∀ {es : List MapEntry} {kvs : List (Int × CV)} {i : Nat}, es.map (fun e => (e.key, e.val)) = kvs.map (fun (n, c) => (Value.int k n, c.val)) →
    ∃ r, Instr.findNow (.int kk) (.int k n) es i = some r ∧ match r with | some (_, v) => ∃ c, lookC kvs n = some c ∧ v = c.val | none => lookC kvs n = none
  | [], kvs, i, h => by
    cases kvs with
    | nil => exact ⟨none, rfl, rfl⟩
    | cons x l => simp at h
  | e :: es, kvs, i, h => by
    cases kvs with
    | nil => simp at h
    | cons x l =>
      obtain ⟨m, c⟩ := x
      simp only [List.map_cons, List.cons.injEq, Prod.mk.injEq] at h
      obtain ⟨⟨h1, h2⟩, h3⟩ := h
      by_cases hn : n = m
      · subst hn
        exact ⟨some (i, e.val), by simp [Instr.findNow, h1, Instr.sameNow], c, by simp [lookC], h2⟩
      · obtain ⟨r, g1, g2⟩ := findNow_look (kk := kk) (n := n) (i := i + 1) h3
        refine ⟨r, ?_, ?_⟩
        · have : (n == m) = false := by simpa using hn
          simp [Instr.findNow, h1, Instr.sameNow, this, g1]
        · simpa [lookC, hn] using g2
theorem look_sound (hH : Holds ro fr Φ H w) {t kt el : TypeId} {kk : IntKind} {z : AV} {x i : Value} {k : IntKind} {kvs : List (Int × CV)} {n : Int} (hT : P.underlying t = some (.map kt el)) (hk : P.underlying kt = some (.int kk)) (hz : zeroOf P el = some z) (hzo : z.okc = true)
    (hx : VR ro bo Φ (.map k kvs) x) (hi : i = .int k n) (ok : Bool) : ∃ u, (Instr.lookup t x i ok).run P w = .ok u w ∧ VR ro bo Φ (lookV ok z kvs n) u := by
  subst hi
  cases hx with
  | map _ _ r es clock hr he =>
    have hg := hH.hro r _ hr
    obtain ⟨i', zv, z1, z2, z3, z4⟩ := zero_parts (w := w) hz
    obtain ⟨q, g1, g2⟩ := findNow_look (kk := kk) (n := n) (i := 0) he
    have hzv : VR ro bo Φ z zv := absV_sound z3
    have hget : (getObj r).run P w = .ok (.map es clock) w := by simp only [getObj, Sem.run, hg]
    have hck : (Instr.checkKey es.isEmpty 10000 kt (.int k n)).run P w = .ok () w := by
      have : ∀ m, (Instr.checkKey es.isEmpty (m + 1) kt (.int k n)).run P w = .ok () w := fun m => by
        simp [Instr.checkKey, run_underlying hk]
      exact this 9999
    have hfk : (Instr.findKey kt (.int k n) es.toList).run P w = .ok q w := by
      simp [Instr.findKey, run_underlying hk, g1]
    cases q with
    | none =>
      simp only at g2
      cases ok with
      | true => exact ⟨.tuple #[zv, .bool false], by simp [Instr.lookup, run_underlying hT, hget, hck, hfk, z4], by
          simp only [lookV, g2, if_true]
          refine .tuple _ _ rfl fun j v u hv hu => ?_
          match j with
          | 0 => simp at hv hu; subst hv; subst hu; exact hzv
          | 1 => simp at hv hu; subst hv; subst hu; exact .bool _
          | j + 2 => simp at hv⟩
      | false => exact ⟨zv, by simp [Instr.lookup, run_underlying hT, hget, hck, hfk, z4], by simpa [lookV, g2] using hzv⟩
    | some q =>
      obtain ⟨j, v⟩ := q
      obtain ⟨c, g3, rfl⟩ := g2
      cases ok with
      | true => exact ⟨.tuple #[c.val, .bool true], by simp [Instr.lookup, run_underlying hT, hget, hck, hfk], by
          simp only [lookV, g3, if_true]
          refine .tuple _ _ rfl fun j v u hv hu => ?_
          match j with
          | 0 => simp at hv hu; subst hv; subst hu; exact c.vr
          | 1 => simp at hv hu; subst hv; subst hu; exact .bool _
          | j + 2 => simp at hv⟩
      | false => exact ⟨c.val, by simp [Instr.lookup, run_underlying hT, hget, hck, hfk], by simpa [lookV, g3] using c.vr⟩
theorem ev_sound {own : Bool} {o : Oper} {io : IOp} (hl : lowOp P own o.op = some io) (hh : isHv io = false) (hE : EnvOK ro bo Φ e a) (hH : Holds ro fr Φ H w) (hb : Mem.le bo fr) {K : AV → Prop} (h : ev io e H K) :
    Yn P ro bo fr Φ H w K (execOp a.eval o) := by
  unfold execOp
  cases hop : o.op <;> simp only [hop, lowOp] at hl <;> try (cases hl; done)
  case move x =>
    obtain ⟨y, hy, rfl⟩ := map_some hl
    obtain ⟨v, hv, hK⟩ := h
    exact .of hH hK rfl (opd_sound hE hy hv)
  case assign x =>
    obtain ⟨y, hy, rfl⟩ := map_some hl
    obtain ⟨v, hv, hK⟩ := h
    exact .of hH hK rfl (opd_sound hE hy hv)
  case pick c x y =>
    split at hl <;> cases hl
    rename_i c' x' y' hc hx hy
    obtain ⟨t, ht, h1, h2⟩ := h
    have hcb := (opd_sound hE hc ht).bool_inv
    cases t with
    | true =>
      obtain ⟨v, hv, hK⟩ := h1 rfl
      exact .of hH hK (by simp [hcb, asBool]) (opd_sound hE hx hv)
    | false =>
      obtain ⟨v, hv, hK⟩ := h2 rfl
      exact .of hH hK (by simp [hcb, asBool]) (opd_sound hE hy hv)
  case alloc t =>
    split at hl
    · split at hl
      · cases hl; cases hh
      · cases hl
    · cases hl
  case box t x =>
    obtain ⟨y, hy, rfl⟩ := map_some hl
    cases hh
  case store t x v =>
    split at hl <;> cases hl
    cases hh
  case load t x =>
    split at hl <;> cases hl
    rename_i n y hn hy
    obtain ⟨v, hv, hK⟩ := h
    exact ((load_sound hH hb hn (opd_sound hE hy hv) hK).toYv hH).next
  case nilCheck x =>
    obtain ⟨y, hy, rfl⟩ := map_some hl
    obtain ⟨v, hv, hK⟩ := h
    have hV := opd_sound hE hy hv
    simp only
    generalize a.eval x = u at hV
    cases v <;> try exact hK.elim
    case ptr id off => cases hV; exact .of hH hK rfl (.ptr _ _ _ _ _ ‹_›)
    case rptr b xs => cases hV; exact .of hH hK rfl (.rptr _ _ _ _ _ _ _ ‹_› ‹_› ‹_› ‹_›)
    case func f xs ys => cases f <;> try exact hK.elim
                         cases hV; exact .of hH hK rfl (.func _ _ _ _ _ ‹_› ‹_› ‹_› ‹_›)
  case unOp op t x =>
    obtain ⟨y, hy, rfl⟩ := map_some hl
    obtain ⟨v, hv, hK⟩ := h
    have hV := opd_sound hE hy hv
    refine Yv.next ?_
    cases op <;> cases v <;> try exact hK.elim
    · rw [hV.int_inv]; exact .of hH hK (by simp [Op.unary, Op.intArith]) (.int _ _)
    · rw [hV.int_inv]; exact .of hH hK (by simp [Op.unary, Op.intBits, bitI]) (.int _ _)
    · rw [hV.bool_inv]; exact .of hH hK (by simp [Op.unary]) (.bool _)
  case build t ps =>
    refine Yv.next ?_
    split at hl
    · rename_i fs z hT hz
      split at hl
      · rename_i hc
        obtain ⟨qs, hq, rfl⟩ := map_some hl
        obtain ⟨vs, cs, h1, h2, hK⟩ := h
        have := build_ev (t := t) hH hE (.inl ⟨fs, hT, hc.2, hq⟩) hz hc.1 h1 h2 hK
        simpa using this
      · cases hl
    · rename_i n el z hT hz
      split at hl
      · rename_i s hs
        split at hl
        · rename_i hc
          obtain ⟨qs, hq, rfl⟩ := map_some hl
          obtain ⟨vs, cs, h1, h2, hK⟩ := h
          have := build_ev (t := t) hH hE (.inr ⟨n, el, s, hT, hs, hq⟩) hz hc h1 h2 hK
          simpa using this
        · cases hl
      · cases hl
    · cases hl
  case buildSlice t n ps =>
    refine Yv.next ?_
    split at hl
    · rename_i el hT
      split at hl
      · rename_i s z hs hz
        split at hl
        · rename_i hc
          split at hl
          · rename_i l hq
            cases own with
            | true => simp at hl; subst hl; cases hh
            | false =>
              simp at hl; subst hl
              obtain ⟨vs, cs, h1, h2, hK⟩ := h
              obtain ⟨d, hR, hlen, hr⟩ := buildF_ev (K := K) hH hE hT hs hc.1 hc.2.1 hz hc.2.2.1 hc.2.2.2 hq h1 h2
              have hr' : (Instr.buildSlice t n (ps.map fun p => (p.1, a.eval p.2))).run P w = .ok (.slice (some ⟨w.heap.size, 0, none⟩) n n) (w.alloc (.cells d el)) := by simpa using hr
              exact Yv.fresh hH hc.1 hK rfl (fun _ => rfl) hr' (WExt.alloc _ _) (fun r p hp => by
                have := (Array.getElem?_eq_some_iff.1 hp).1
                rw [heap_alloc_old w _ r this]; exact hp) (heap_alloc_new w _) hlen (Nat.le_refl _) hR (by
                  rw [List.take_of_length_le]; rw [hR.len]; exact Nat.le_refl _)
          · cases hl
        · cases hl
      · cases hl
    · cases hl
  case sliceToArrayPointer t x =>
    refine Yv.next ?_
    split at hl
    · rename_i n el y hT hy
      obtain ⟨s, hs, rfl⟩ := map_some hl
      obtain ⟨v, hv, hK⟩ := h
      have hV := opd_sound hE hy hv
      generalize a.eval x = u at hV
      cases v <;> try exact hK.elim
      case slice s' id off len kc =>
        obtain ⟨rfl, hn0, hn, hK⟩ := hK
        cases hV with
        | slice _ _ _ _ cap o' _ r o sz hΦ he h1 h2 h3 h4 =>
          refine .of hH hK (u := .pointer (some ⟨r, o', none⟩)) ?_ ?_
          · have : ¬ len < n := by omega
            simp [Instr.arrayAt, run_underlying hT, this]
          · rw [h4 (by omega)]; exact .ptr _ _ _ _ _ hΦ
        | sliceE => omega
      case list s' m xs =>
        obtain ⟨rfl, hn0, hn, hK⟩ := hK
        cases hV with
        | listNil _ _ he =>
          have := Nat.mul_pos hn0 he
          simp at hn; omega
        | list _ _ _ r off len cap c T fz he hm hlen h1 hf hr hlc hx ho sp hsp =>
          have hne : xs ≠ [] := fun e => by
            have := Nat.mul_pos hn0 he
            rw [e] at hn; simp at hn; omega
          have := hsp hne; subst this
          refine .of hH hK (u := .pointer (some ⟨r, off, none⟩)) ?_ (.rptr _ _ r off c T fz (hr hne) (hlc hne) hx ho)
          have : ¬ len < n := by
            intro hlt
            have := Nat.mul_lt_mul_of_pos_right hlt he
            omega
          simp [Instr.arrayAt, run_underlying hT, this]
    · cases hl
  case makeInterface t x =>
    refine Yv.next ?_
    split at hl
    · cases hl
    · rename_i d y hni hT hy
      cases hl
      obtain ⟨v, hv, hK⟩ := h
      refine .of hH hK (u := .iface t (a.eval x)) ?_ (.iface _ _ _ (opd_sound hE hy hv))
      simp only [Instr.makeInterface, Sem.run_bind, run_underlying hT, Result.andThen_ok]
      cases d <;> first | rfl | exact absurd hT (hni _)
    · cases hl
  case makeFunc f xs ys =>
    refine Yv.next ?_
    split at hl <;> cases hl
    rename_i xs' ys' hx hy
    obtain ⟨vs, ws, h1, h2, hK⟩ := h
    obtain ⟨a1, a2⟩ := opds_sound hE hx h1
    obtain ⟨b1, b2⟩ := opds_sound hE hy h2
    refine .of hH hK (u := .func f (xs.map a.eval) (ys.map a.eval)) rfl (.func _ _ _ _ _ (by simpa using a1) (by simpa using b1) (fun j v u hv hu => a2 j v u hv ?_) (fun j v u hv hu => b2 j v u hv ?_))
    · simpa using hu
    · simpa using hu
  case slice t x lo hi mx =>
    refine Yv.next ?_
    split at hl
    · rename_i n el y l' h' m' hT hy hlo hhi hmx
      split at hl
      · rename_i s hs
        split at hl
        · cases hl
          obtain ⟨v, l, h1, m, e1, e2, e3, e4, hK⟩ := h
          exact slA_sound hH hT hs (by assumption) (opd_sound hE hy e1) (ov_of hE hlo e2) (ov_of hE hhi e3) (ov_of hE hmx e4) hK
        · cases hl
      · cases hl
    · rename_i el y l' h' m' hT hy hlo hhi hmx
      split at hl
      · rename_i s hs
        split at hl
        · cases hl
          obtain ⟨v, l, h1, m, e1, e2, e3, e4, hns, hK⟩ := h
          exact slS_sound hH hT hs (by assumption) (opd_sound hE hy e1) (ov_of hE hlo e2) (ov_of hE hhi e3) (ov_of hE hmx e4) (fun l hl => by subst hl; cases hns) hK
        · cases hl
      · cases hl
    · cases hl
  case fieldAddr t x f =>
    refine Yv.next ?_
    split at hl
    · rename_i fs y hT hy
      split at hl
      · rename_i o n hf
        split at hl
        · cases hl
          obtain ⟨v, hv, hK⟩ := h
          exact fieldAddr_sound hH hT hf (by assumption) (opd_sound hE hy hv) hK
        · cases hl
      · cases hl
    · cases hl
  case field t x f =>
    refine Yv.next ?_
    split at hl
    · rename_i fs y hT hy
      split at hl
      · rename_i fl hf
        obtain ⟨n, hn, rfl⟩ := map_some hl
        obtain ⟨v, hv, hK⟩ := h
        exact field_sound hH hT hf hn (opd_sound hE hy hv) hK
      · cases hl
    · cases hl
  case indexAddr t x i =>
    refine Yv.next ?_
    split at hl
    · rename_i n el y j hT hy hj
      obtain ⟨s, hs, rfl⟩ := map_some hl
      obtain ⟨v, k, m, e1, e2, e3, hK⟩ := h
      rw [(opd_sound hE hj e2).int_inv]
      exact idxA_sound hH hT hs (opd_sound hE hy e1) e3 hK
    · rename_i el y j hT hy hj
      split at hl
      · rename_i s hs
        split at hl
        · cases hl
          obtain ⟨v, k, m, e1, e2, hK⟩ := h
          rw [(opd_sound hE hj e2).int_inv]
          exact idxS_sound hH hT hs (opd_sound hE hy e1) hK
        · cases hl
      · cases hl
    · cases hl
  case index t x i =>
    refine Yv.next ?_
    split at hl
    · rename_i n el y j hT hy hj
      split at hl
      · rename_i s m hs hm
        cases hl
        obtain ⟨v, k, m, e1, e2, e3, hK⟩ := h
        rw [(opd_sound hE hj e2).int_inv]
        exact ixA_sound hH hT hs hm (opd_sound hE hy e1) e3 hK
      · cases hl
    · cases hl
  case extract x i =>
    refine Yv.next ?_
    obtain ⟨y, hy, rfl⟩ := map_some hl
    obtain ⟨v, hv, hK⟩ := h
    have hV := opd_sound hE hy hv
    generalize a.eval x = u at hV
    cases v <;> try exact hK.elim
    case tuple vs =>
      obtain ⟨c, hc, hK⟩ := hK
      cases hV with
      | tuple _ d h1 hx =>
        have hlt := (List.getElem?_eq_some_iff.1 hc).1
        obtain ⟨u, hu⟩ : ∃ u, d[i]? = some u := ⟨d[i]'(by omega), by simp⟩
        exact .of hH hK (by simp [Instr.extract, hu]) (hx i c u hc hu)
  case convert s d x =>
    refine Yv.next ?_
    split at hl
    · rename_i k k' y hS hD hy
      cases hl
      obtain ⟨v, hv, hK⟩ := h
      have hV := opd_sound hE hy hv
      cases v <;> try exact hK.elim
      rw [hV.int_inv]
      exact .of hH hK (by simp [convert, run_underlying hS, run_underlying hD, Conv.intToInt]) (.int _ _)
    · rename_i el y hS hD hy
      split at hl
      · rename_i hel
        cases hl
        obtain ⟨v, xs, l, hv, h0, h1, h2, hK⟩ := h
        exact toStr_sound hH hb hS hel hD (opd_sound hE hy hv) h0 h1 h2 hK
      · cases hl
    · rename_i el y hS hD hy
      split at hl
      · rename_i hel
        cases hl
        obtain ⟨v, hv, hK⟩ := h
        exact ofStr_sound hH hS hD hel (opd_sound hE hy hv) hK
      · cases hl
    · split at hl
      · split at hl
        · cases hl; cases hh
        · cases hl
      · cases hl
    · cases hl
  case lookup t x i ok =>
    refine Yv.next ?_
    split at hl
    · rename_i kt el x' i' hT hx hi
      split at hl
      · rename_i kk z hk hz
        split at hl
        · rename_i hzo
          cases hl
          obtain ⟨k, kvs, n, e1, e2, hK⟩ := h
          obtain ⟨u, g1, g2⟩ := look_sound (bo := bo) hH hT hk hz hzo (opd_sound hE hx e1) (opd_sound hE hi e2).int_inv ok
          exact .of hH hK g1 g2
        · cases hl
      · cases hl
    · cases hl
  case makeSlice t l c =>
    split at hl
    · split at hl
      · split at hl
        · cases hl; cases hh
        · cases hl
      · cases hl
    · cases hl
  case binOp op t x y yt =>
    refine Yv.next ?_
    split at hl
    · rename_i y1 y2 hx hy
      have nilc : ∀ {neg : Bool} {q : Nat} {c : Value}, y = .const c → (io = .isNil neg q y1) → (q = 0 ∧ (∃ e, P.underlying t = some (.pointer e)) ∧ c = .pointer none ∨ q = 1 ∧ (∃ e, P.underlying t = some (.slice e)) ∧ c = .slice none 0 0 ∨ q = 2 ∧ (∃ p r q, P.underlying t = some (.func p r q)) ∧ c = .nilFunc ∨ q = 3 ∧ (∃ m, P.underlying t = some (.interface m)) ∧ c = .nilIface) →
          Yv P ro bo fr Φ H w K (do eqGuard (if neg then .neq else .eql) t x y (a.eval x) (a.eval y); Go.binOp (if neg then .neq else .eql) t (a.eval x) (a.eval y)) := by
        intro neg q c hc hio hT
        subst hio
        obtain ⟨v, hv, hK⟩ := h
        exact isNil_ev hH (opd_sound hE hx hv) hc hT hK
      have eqc : ∀ {neg : Bool} {ks : List IntKind}, (io = .eqA neg ks y1 y2) → flatK P 20 t = some ks → P.eqGuardType P.depth t = false → ((∃ fs, P.underlying t = some (.struct fs)) ∨ ∃ n e, P.underlying t = some (.array n e)) →
          Yv P ro bo fr Φ H w K (do eqGuard (if neg then .neq else .eql) t x y (a.eval x) (a.eval y); Go.binOp (if neg then .neq else .eql) t (a.eval x) (a.eval y)) := by
        intro neg ks hio hk hg hT
        subst hio
        obtain ⟨v1, v2, e1, e2, hK⟩ := h
        have V1 := opd_sound hE hx e1
        have V2 := opd_sound hE hy e2
        generalize a.eval x = u1 at V1 ⊢
        generalize a.eval y = u2 at V2 ⊢
        cases v1 <;> try exact hK.elim
        cases v2 <;> try exact hK.elim
        obtain ⟨k1, k2, hK⟩ := hK
        have heq := eqA_sound hH hk (aggN_agg hT) V1 V2 k1 k2
        cases V1; cases V2
        refine .of hH hK ?_ (.bool _)
        cases neg
        · simp [eqGuard, hg, Go.binOp, heq]
        · simp [eqGuard, hg, Go.binOp, heq]
      have binc : ∀ {b : Bool}, io = .bin b op y1 y2 → (b = true → P.underlying t = some .bool) →
          Yv P ro bo fr Φ H w K (do eqGuard op t x y (a.eval x) (a.eval y); Go.binOp op t (a.eval x) (a.eval y)) := by
        intro b hio hT
        subst hio
        obtain ⟨v1, v2, e1, e2, hnb, hK⟩ := h
        refine bin_ev hH (opd_sound hE hx e1) (opd_sound hE hy e2) hK ?_
        cases b with
        | true => exact .inl (hT rfl)
        | false => exact .inr fun b hb => by subst hb; cases hnb
      split at hl
      all_goals first
        | (split at hl <;> cases hl; exact nilc (neg := false) rfl rfl (.inl ⟨rfl, ⟨_, by assumption⟩, rfl⟩))
        | (split at hl <;> cases hl; exact nilc (neg := false) rfl rfl (.inr (.inl ⟨rfl, ⟨_, by assumption⟩, rfl⟩)))
        | (split at hl <;> cases hl; exact nilc (neg := false) rfl rfl (.inr (.inr (.inl ⟨rfl, ⟨_, _, _, by assumption⟩, rfl⟩))))
        | (split at hl <;> cases hl; exact nilc (neg := false) rfl rfl (.inr (.inr (.inr ⟨rfl, ⟨_, by assumption⟩, rfl⟩))))
        | (split at hl <;> cases hl; exact nilc (neg := true) rfl rfl (.inl ⟨rfl, ⟨_, by assumption⟩, rfl⟩))
        | (split at hl <;> cases hl; exact nilc (neg := true) rfl rfl (.inr (.inl ⟨rfl, ⟨_, by assumption⟩, rfl⟩)))
        | (split at hl <;> cases hl; exact nilc (neg := true) rfl rfl (.inr (.inr (.inl ⟨rfl, ⟨_, _, _, by assumption⟩, rfl⟩))))
        | (split at hl <;> cases hl; exact nilc (neg := true) rfl rfl (.inr (.inr (.inr ⟨rfl, ⟨_, by assumption⟩, rfl⟩))))
        | (split at hl
           · split at hl
             · cases hl; exact eqc (neg := false) rfl (by assumption) (by assumption) (.inl ⟨_, by assumption⟩)
             · cases hl
           · cases hl)
        | (split at hl
           · split at hl
             · cases hl; exact eqc (neg := false) rfl (by assumption) (by assumption) (.inr ⟨_, _, by assumption⟩)
             · cases hl
           · cases hl)
        | (split at hl
           · split at hl
             · cases hl; exact eqc (neg := true) rfl (by assumption) (by assumption) (.inl ⟨_, by assumption⟩)
             · cases hl
           · cases hl)
        | (split at hl
           · split at hl
             · cases hl; exact eqc (neg := true) rfl (by assumption) (by assumption) (.inr ⟨_, _, by assumption⟩)
             · cases hl
           · cases hl)
        | (cases hl; exact binc rfl (fun _ => by assumption))
        | (cases hl; exact binc rfl (fun h => by cases h))
        | (cases hl; done)
    · cases hl
  case call c =>
    obtain ⟨callee, args, argTypes⟩ := c
    simp only at hl
    have arr1 : ∀ {α : Type} {xs : Array α} {x : α}, xs.toList = [x] → xs = #[x] := fun h => by apply Array.ext'; simpa using h
    have arr2 : ∀ {α : Type} {xs : Array α} {x y : α}, xs.toList = [x, y] → xs = #[x, y] := fun h => by apply Array.ext'; simpa using h
    split at hl
    ·
      split at hl
      · rename_i x t hx ht
        have hx := arr1 hx
        have ht := arr1 ht
        subst hx; subst ht
        have hrun : ∀ s : Sem Value, Yv P ro bo fr Φ H w K s → (∀ w, s.run P w = (Builtin.len_ #[t] o.type #[a.eval x]).run P w) → Yn P ro bo fr Φ H w K (do let d ← resolve a.eval { callee := .builtin .len, args := #[x], argTypes := #[t] } o.type; invoke d.target d.args) := by
          intro s ⟨v, u, ro', w', g1, g2, g3⟩ he
          refine ⟨v, u, ro', w', g1, ?_, g3⟩
          have : (Builtin.len_ #[t] o.type #[a.eval x]).run P w = .ok u w' := by rw [← he]; exact g2
          simp [resolve, invoke, builtin, this]
        split at hl
        · rename_i n _ hT
          cases hl
          refine hrun (pure (.int .i64 n)) (.of hH h rfl (.int _ _)) (fun w => by simp [Builtin.len_, run_underlying hT, goInt])
        · rename_i y hT hy
          cases hl
          obtain ⟨v, hv, hs, hK⟩ := h
          exact hrun _ (len_sound hH (opd_sound hE hy hv) (fun _ => hT) (fun hh => by cases v <;> first | (cases hs; done) | exact absurd rfl (hh _)) hK) (fun _ => rfl)
        · rename_i el y hT hy
          cases hl
          obtain ⟨v, hv, hs, hK⟩ := h
          exact hrun _ (len_sound hH (opd_sound hE hy hv) (fun ⟨l, hl⟩ => by subst hl; cases hs) (fun _ => ⟨_, hT⟩) hK) (fun _ => rfl)
        · cases hl
      · cases hl
    ·
      split at hl
      · rename_i x y t u hx ht
        have hx := arr2 hx
        have ht := arr2 ht
        subst hx; subst ht
        have go : ∀ {el : TypeId} {i : TypeInfo} {x' y' : Opd}, P.underlying t = some (.slice el) → apTy P t u → lowO x = some x' → lowO y = some y' → P.info? el = some i → 0 < i.size → (zeroOf P el).map (·.cells.length) = some i.size → io = .appF el i.size i.bytes x' y' →
            Yn P ro bo fr Φ H w K (do let d ← resolve a.eval { callee := .builtin .append, args := #[x, y], argTypes := #[t, u] } o.type; invoke d.target d.args) := by
          intro el i x' y' hT hU hx' hy' hi hs0 hz hio
          subst hio
          obtain ⟨v, w2, ys, e1, e2, e3, e4, hK⟩ := h
          have hz' : ∃ z : Value, i.zero = some z := by
            unfold zeroOf at hz
            rw [hi] at hz
            cases hzz : i.zero with
            | none => simp [hzz] at hz
            | some z => exact ⟨z, rfl⟩
          obtain ⟨v, u', ro', w', g1, g2, g3⟩ := appF_sound (ty := o.type) hH hb hT hU hi hs0 hz' (opd_sound hE hx' e1) (opd_sound hE hy' e2) e3 e4 hK
          exact ⟨v, u', ro', w', g1, by simp [resolve, invoke, builtin, g2], g3⟩
        split at hl
        · rename_i el el2 x' y' hT hU hx' hy'
          split at hl
          · rename_i i hi
            split at hl
            · rename_i hc
              cases own with
              | true => simp at hl; subst hl; cases hh
              | false => simp at hl; exact go hT (.inr ⟨_, hU, rfl⟩) hx' hy' hi hc.1 hc.2.1 hl.symm
            · cases hl
          · cases hl
        · rename_i el x' y' hT hU hx' hy'
          split at hl
          · rename_i i hi
            split at hl
            · rename_i hc
              cases own with
              | true => simp at hl; subst hl; cases hh
              | false => simp at hl; exact go hT (.inl hU) hx' hy' hi hc.1 hc.2.1 hl.symm
            · cases hl
          · cases hl
        · split at hl
          · split at hl
            · cases hl; cases hh
            · cases hl
          · cases hl
        · cases hl
      · cases hl
    ·
      split at hl
      · split at hl
        · split at hl
          · split at hl
            · cases hl; cases hh
            · cases hl
          · cases hl
        · cases hl
      · cases hl
    ·
      split at hl
      · rename_i x y hx
        have hx := arr2 hx
        subst hx
        split at hl <;> cases hl
        rename_i x' y' hx' hy'
        obtain ⟨k, m, n, e1, e2, hK⟩ := h
        obtain ⟨v, u', ro', w', g1, g2, g3⟩ := (minmax_ev (P := P) hH).1 hK
        refine ⟨v, u', ro', w', g1, ?_, g3⟩
        have : ∀ ats ty, Builtin.min_ ats ty #[.int k m, .int k n] = Builtin.min_ #[] 0 #[.int k m, .int k n] := fun _ _ => rfl
        simp [resolve, invoke, builtin, (opd_sound hE hx' e1).int_inv, (opd_sound hE hy' e2).int_inv, this, g2]
      · cases hl
    ·
      split at hl
      · rename_i x y hx
        have hx := arr2 hx
        subst hx
        split at hl <;> cases hl
        rename_i x' y' hx' hy'
        obtain ⟨k, m, n, e1, e2, hK⟩ := h
        obtain ⟨v, u', ro', w', g1, g2, g3⟩ := (minmax_ev (P := P) hH).2 hK
        refine ⟨v, u', ro', w', g1, ?_, g3⟩
        have : ∀ ats ty, Builtin.max_ ats ty #[.int k m, .int k n] = Builtin.max_ #[] 0 #[.int k m, .int k n] := fun _ _ => rfl
        simp [resolve, invoke, builtin, (opd_sound hE hx' e1).int_inv, (opd_sound hE hy' e2).int_inv, this, g2]
      · cases hl
    · split at hl
      · split at hl <;> cases hl
        · cases hh
        · exact h.elim
      · cases hl
    · split at hl <;> cases hl
      cases hh
    · cases hl
end
end Go.Fw
namespace Go.Fw
section
variable {P : Program} {ro bo fr : Mem} {Φ : Emb} {e : Env} {H : Heap} {a : Act} {w w' : World}
theorem cleanL_mem : ∀ {xs : List AV}, cleanL xs = true → ∀ (j : Nat) (x : AV), xs[j]? = some x → x.clean = true := by
  intro xs
  induction xs with
  | nil => intro _ j x h; simp at h
  | cons y xs ih =>
    intro h j x hx
    simp only [cleanL, Bool.and_eq_true] at h
    cases j with
    | zero => simp at hx; subst hx; exact h.1
    | succ j => exact ih h.2 j x (by simpa using hx)
theorem VR.noBo {v : AV} {u : Value} (h : VR ro bo Φ v u) : v.clean = true → VR ro noMem Φ v u := by
  induction h with
  | bool b => intro _; exact .bool b
  | int k n => intro _; exact .int k n
  | str l s h => intro _; exact .str l s h
  | nil => intro _; exact .nil
  | ptr id off r o s h => intro _; exact .ptr id off r o s h
  | rptr bw xs r off c T fz hr hl hx ho ih =>
    intro hc
    simp only [AV.clean, Bool.and_eq_true, Bool.not_eq_true'] at hc
    refine .rptr bw xs r off c T fz ?_ hl (fun j v u hv hu => ih j v u hv hu (cleanL_mem hc.2 j v hv)) ho
    rcases hr with hr | ⟨hb, _⟩
    · exact .inl hr
    · rw [hc.1] at hb; cases hb
  | slice e id off len cap o' kc r o s h he h1 h2 h3 h4 => intro _; exact .slice e id off len cap o' kc r o s h he h1 h2 h3 h4
  | sliceE e id off a he => intro _; exact .sliceE e id off a he
  | listNil e m he => intro _; exact .listNil e m he
  | list e m xs r off len cap c T fz he hm hlen h1 hf hr hl hx ho sp hsp ih =>
    intro hc
    simp only [AV.clean, Bool.and_eq_true, Bool.not_eq_true'] at hc
    refine .list e m xs r off len cap c T fz he hm hlen h1 hf (fun hne => ?_) hl (fun j v u hv hu => ih j v u hv hu (cleanL_mem hc.2 j v hv)) ho sp hsp
    rcases hr hne with hr | ⟨hb, _⟩
    · exact .inl hr
    · rw [hc.1] at hb; cases hb
  | func f xs ys us vs h1 h2 hx hy ih1 ih2 =>
    intro hc
    simp only [AV.clean, Bool.and_eq_true] at hc
    exact .func f xs ys us vs h1 h2 (fun j v u hv hu => ih1 j v u hv hu (cleanL_mem hc.1 j v hv)) (fun j v u hv hu => ih2 j v u hv hu (cleanL_mem hc.2 j v hv))
  | nilFunc => intro _; exact .nilFunc
  | iface t v u h ih => intro hc; exact .iface t v u (ih (by simpa [AV.clean] using hc))
  | nilIface => intro _; exact .nilIface
  | map k kvs r es clock hr he => intro _; exact .map k kvs r es clock hr he
  | agg xs c h1 hx ho ih => intro hc; exact .agg xs c h1 (fun j v u hv hu => ih j v u hv hu (cleanL_mem (by simpa [AV.clean] using hc) j v hv)) ho
  | tuple xs c h1 hx ih => intro hc; exact .tuple xs c h1 (fun j v u hv hu => ih j v u hv hu (cleanL_mem (by simpa [AV.clean] using hc) j v hv))
theorem Rw.noBo {xs : List AV} {c : List Value} (h : Rw ro bo Φ xs c) (hc : cleanL xs = true) : Rw ro noMem Φ xs c :=
  ⟨h.len, fun j v u hv hu => (h.vr j v u hv hu).noBo (cleanL_mem hc j v hv), h.one⟩
def Emb.put (Φ : Emb) (i : Nat) (p : Nat × Nat × Nat) : Emb := fun j => if j = i then some p else Φ j
theorem Holds.emb_le (hH : Holds ro fr Φ H w) (p : Nat × Nat × Nat) : Emb.le Φ (Φ.put H.length p) := by
  intro i q h
  have := hH.dom i q h
  simp only [Emb.put]
  rw [if_neg (by omega)]; exact h
theorem Holds.own_lt (hH : Holds ro fr Φ H w) {i : Nat} {b : Blk} {r : Nat} {p : Nat × Nat} (h1 : H[i]? = some (some b)) (h2 : Φ i = some (r, p)) : r < w.heap.size := by
  rcases hH.own i b h1 with ⟨_, _, h⟩ | ⟨r', o', s', h, ⟨c, h5, _⟩, _⟩
  · rw [h] at h2; cases h2
  · rw [h] at h2; cases h2
    exact (Array.getElem?_eq_some_iff.1 h5).1
theorem get_snoc {α : Type} {l : List α} {x y : α} {i : Nat} (h : (l ++ [x])[i]? = some y) : (l[i]? = some y ∧ i < l.length) ∨ (i = l.length ∧ y = x) := by
  rcases Nat.lt_trichotomy i l.length with h' | h' | h'
  · rw [List.getElem?_append_left h'] at h; exact .inl ⟨h, h'⟩
  · subst h'; rw [List.getElem?_append_right (Nat.le_refl _)] at h; simp at h; exact .inr ⟨rfl, h.symm⟩
  · rw [List.getElem?_eq_none (by simp; omega)] at h; cases h
structure Slot (Φ : Emb) (H : Heap) (id : Nat) (b : Blk) (H' : Heap) : Prop where
  free : Φ id = none
  here : H'[id]? = some (some b)
  old : ∀ (i : Nat) (x : Blk), i ≠ id → H'[i]? = some (some x) → H[i]? = some (some x)
  len : H.length ≤ H'.length
theorem Slot.snoc (hH : Holds ro fr Φ H w) (b : Blk) : Slot Φ H H.length b (H ++ [some b]) where
  free := by
    cases h : Φ H.length with
    | none => rfl
    | some p => have := hH.dom _ p h; omega
  here := by simp
  old i x hi h := by
    rcases get_snoc h with ⟨h, _⟩ | ⟨h, _⟩
    · exact h
    · exact absurd h hi
  len := by simp
theorem Slot.res (hH : Holds ro fr Φ H w) {id : Nat} (b : Blk) (h : H.blk id = some ⟨[], 1000000, false⟩) : Slot Φ H id b (H.set id (some b)) where
  free := by
    rcases hH.own id _ (blk_get h) with ⟨_, _, h⟩ | ⟨_, _, _, _, h⟩
    · exact h
    · have := h.real; simp at this
  here := by
    have := (List.getElem?_eq_some_iff.1 (blk_get h)).1
    rw [List.getElem?_set, if_pos rfl, if_pos this]
  old i x hi h := by
    rw [List.getElem?_set, if_neg (Ne.symm hi)] at h; exact h
  len := by simp
theorem Slot.emb_le {id : Nat} {b : Blk} {H' : Heap} (hs : Slot Φ H id b H') (p : Nat × Nat × Nat) : Emb.le Φ (Φ.put id p) := by
  intro i q h
  simp only [Emb.put]
  rw [if_neg (fun e => by subst e; rw [hs.free] at h; cases h)]; exact h
theorem Holds.newBlk (hH : Holds ro fr Φ H w) {b : Blk} {c : Array Value} {id : Nat} {H' : Heap} (hs : Slot Φ H id b H') (hw : ∀ (r : Nat) (p : Obj), w.heap[r]? = some p → w'.heap[r]? = some p) (hn : w'.heap[w.heap.size]? = some (.cells c b.elem))
    (hR : Rw ro noMem Φ b.cells (c.toList.take b.cells.length)) (h1 : ∀ u ∈ c.toList, u.oneCell' = true) (hex : b.exact = true → b.cells.length = c.size) (hel : b.elem < 1000000) :
    Holds ro fr (Φ.put id (w.heap.size, 0, c.size)) H' w' := by
  have hle := hs.emb_le (w.heap.size, 0, c.size)
  have hlen : b.cells.length ≤ c.size := by have := hR.len; rw [List.length_take, Array.length_toList] at this; omega
  have old : ∀ i, i ≠ id → (Φ.put id (w.heap.size, 0, c.size)) i = Φ i := fun i hi => by simp only [Emb.put]; rw [if_neg hi]
  have new : (Φ.put id (w.heap.size, 0, c.size)) id = some (w.heap.size, 0, c.size) := by simp [Emb.put]
  have hid : id < H'.length := (List.getElem?_eq_some_iff.1 hs.here).1
  refine ⟨fun r o h => hw r o (hH.hro r o h), fun r o h => hw r o (hH.hfr r o h), ?_, ?_, ?_, ?_, hH.disj⟩
  · intro i b' hb
    by_cases hi : i = id
    · subst hi
      rw [hs.here] at hb; cases hb
      refine .inr ⟨_, _, _, new, ⟨c, hn, by omega, fun j v u hv hu => ?_, fun j u hu => h1 u (Array.mem_toList_iff.2 (Array.mem_of_getElem? hu))⟩, hlen, hex, hel⟩
      have hj : j < b.cells.length := (List.getElem?_eq_some_iff.1 hv).1
      exact (hR.vr j v u hv (by rw [List.getElem?_take, if_pos hj]; simpa using hu)).mono (Mem.le_refl _) (Mem.le_refl _) hle
    · rw [old i hi]
      exact (hH.own i b' (hs.old i b' hi hb)).imp (fun x => x) fun ⟨r, o', s, h1, h2⟩ => ⟨r, o', s, h1, h2.mono (Mem.le_refl _) hle (by
        obtain ⟨⟨c, h3, _⟩, _⟩ := h2
        rw [hw _ _ h3, h3])⟩
  · intro i j b1 b2 r p q hi hj hpi hpj
    by_cases li : i = id <;> by_cases lj : j = id
    · rw [li, lj]
    · subst li
      rw [old j lj] at hpj; rw [new] at hpi; cases hpi
      have := hH.own_lt (hs.old j b2 lj hj) hpj; omega
    · subst lj
      rw [old i li] at hpi; rw [new] at hpj; cases hpj
      have := hH.own_lt (hs.old i b1 li hi) hpi; omega
    · rw [old i li] at hpi; rw [old j lj] at hpj
      exact hH.inj i j b1 b2 r p q (hs.old i b1 li hi) (hs.old j b2 lj hj) hpi hpj
  · intro i b1 r p hi hp
    by_cases li : i = id
    · subst li
      rw [new] at hp; cases hp
      refine ⟨?_, ?_⟩
      · cases hx : ro w.heap.size with
        | none => rfl
        | some o => have := hH.ro_lt hx; omega
      · cases hx : fr w.heap.size with
        | none => rfl
        | some o => have := hH.fr_lt hx; omega
    · rw [old i li] at hp; exact hH.sep i b1 r p (hs.old i b1 li hi) hp
  · intro i p hp
    simp only [Emb.put] at hp
    split at hp
    · omega
    · have := hH.dom i p hp; have := hs.len; omega
def Hpost (ro bo fr : Mem) (Φ : Emb) (w : World) (a : Act) (dst : Option Tmp) (K : AV → Heap → Prop) (a' : Act) (w' : World) : Prop :=
  ∃ v u H' ro' Φ', K v H' ∧ a' = a.put dst u ∧ VR ro' bo Φ' v u ∧ Holds ro' fr Φ' H' w' ∧ Mem.le ro ro' ∧ Emb.le Φ Φ' ∧ WExt w w'
def Hv (P : Program) (ro bo fr : Mem) (Φ : Emb) (w : World) (K : AV → Heap → Prop) (s : Sem Value) : Prop :=
  ∃ v u H' ro' Φ' w', K v H' ∧ s.run P w = .ok u w' ∧ VR ro' bo Φ' v u ∧ Holds ro' fr Φ' H' w' ∧ Mem.le ro ro' ∧ Emb.le Φ Φ' ∧ WExt w w'
theorem Hv.newB (hH : Holds ro fr Φ H w) {K : AV → Heap → Prop} {s : Sem Value} {v : AV} {u : Value} {b : Blk} {c : Array Value} {id : Nat} {H' : Heap} (hs : Slot Φ H id b H') (hK : K v H') (hr : s.run P w = .ok u w')
    (hw : ∀ (r : Nat) (p : Obj), w.heap[r]? = some p → w'.heap[r]? = some p) (hext : WExt w w') (hn : w'.heap[w.heap.size]? = some (.cells c b.elem))
    (hR : Rw ro noMem Φ b.cells (c.toList.take b.cells.length)) (h1 : ∀ u ∈ c.toList, u.oneCell' = true) (hex : b.exact = true → b.cells.length = c.size) (hel : b.elem < 1000000)
    (hv : VR ro bo (Φ.put id (w.heap.size, 0, c.size)) v u) : Hv P ro bo fr Φ w K s :=
  ⟨v, u, _, ro, _, w', hK, hr, hv, hH.newBlk hs hw hn hR h1 hex hel, Mem.le_refl _, hs.emb_le _, hext⟩
theorem alloc_old (w : World) (o : Obj) : ∀ (r : Nat) (p : Obj), w.heap[r]? = some p → (w.alloc o).heap[r]? = some p := fun r p hp => by
  have := (Array.getElem?_eq_some_iff.1 hp).1
  rw [heap_alloc_old w _ r this]; exact hp
theorem box_run {t : TypeId} {v : AV} {u : Value} (hH : Holds ro fr Φ H w) (hv : VR ro noMem Φ v u) (ho : v.okc = true) (hT : t < 1000000) {id : Nat} {H' : Heap} (hs : Slot Φ H id ⟨v.cells, t, true⟩ H') {K : AV → Heap → Prop} (hK : K (.ptr id 0) H') :
    Hv P ro bo fr Φ w K (do pure (.pointer (some (← newVar t u)))) := by
  have hR := hv.cells ho
  have hl : v.cells.length = u.cells.size := by rw [← hR.len, Array.length_toList]
  refine Hv.newB hH (b := ⟨v.cells, t, true⟩) (c := u.cells) (u := .pointer (some ⟨w.heap.size, 0, none⟩)) hs hK (w' := w.alloc (.cells u.cells t)) ?_ (alloc_old w _) (WExt.alloc _ _) (heap_alloc_new w _) ?_ hR.one (fun _ => hl) hT ?_
  · simp [newVar, newRow]
  · rw [List.take_of_length_le (by simp [hl])]; exact hR
  · exact .ptr _ _ _ 0 u.cells.size (by simp [Emb.put])
theorem alloc_sound (hH : Holds ro fr Φ H w) {t : TypeId} {z : AV} (hz : zeroOf P t = some z) (ho : z.okc = true) (hc : cleanL z.cells = true) (hT : t < 1000000) {id : Nat} {H' : Heap} (hs : Slot Φ H id ⟨z.cells, t, true⟩ H') {K : AV → Heap → Prop} (hK : K (.ptr id 0) H') :
    Hv P ro bo fr Φ w K (Instr.alloc t true (.tuple #[])) := by
  obtain ⟨i, zv, h1, h2, h3, h4⟩ := zero_parts (w := w) hz
  have hv : VR ro noMem Φ z zv := absV_sound h3
  obtain ⟨v, u, H', ro', Φ', w', g1, g2, g3⟩ := box_run (P := P) (bo := bo) hH hv ho hT hs hK
  exact ⟨v, u, H', ro', Φ', w', g1, by simpa [Instr.alloc, h4] using g2, g3⟩
theorem buildO_sound (hH : Holds ro fr Φ H w) (hE : EnvOK ro bo Φ e a) {t el s n : Nat} {ps : List (Nat × Operand)} {qs : List (Nat × Nat × Opd)} {vs : List (Nat × Nat × AV)} {z : AV} {cs : List AV} {K : AV → Heap → Prop}
    (hT : P.underlying t = some (.slice el)) (hs : szOf P el = some s) (hs0 : 0 < s) (hn : n * s ≤ 65536) (hz : zeroOf P el = some z) (hzt : z.okc = true) (hzl : z.cells.length = s)
    (hp : lowParts (fun i => some (i * s, s)) ps = some qs) (h1 : e.parts qs = some vs) (h2 : fillA (repZ z.cells n) vs = some cs) (hc : cleanL cs = true) (hel : el < 1000000)
    (hK : K (.slice s H.length 0 (cs.length / s) (some (cs.length / s))) (H ++ [some ⟨cs, el, true⟩])) : Hv P ro bo fr Φ w K (Instr.buildSlice t n ((ps.toArray).map fun p => (p.1, a.eval p.2))) := by
  obtain ⟨d, hR, hlen, hr⟩ := buildF_ev (K := fun _ => True) hH hE hT hs hs0 hn hz hzt hzl hp h1 h2
  have hR' := hR.noBo hc
  have hl : cs.length = d.size := by rw [← hR.len, Array.length_toList]
  have hdiv : cs.length / s = n := by rw [hlen, Nat.mul_div_cancel _ hs0]
  rw [hdiv] at hK
  refine Hv.newB hH (b := ⟨cs, el, true⟩) (c := d) (Slot.snoc hH _) hK hr (alloc_old w _) (WExt.alloc _ _) (heap_alloc_new w _) ?_ hR.one (fun _ => hl) hel ?_
  · rw [List.take_of_length_le (by simp [hl])]; exact hR'
  · exact .slice _ _ _ _ _ _ _ _ 0 d.size (by simp [Emb.put]) hs0 (Nat.le_refl _) (by rw [← hl, hlen]; omega) (fun c hc => by cases hc; rfl) (fun _ => rfl)
theorem range_mod {α : Type} (l : List α) (d : α) (hl : 0 < l.length) : ∀ c : Nat, (List.range (c * l.length)).map (fun i => l.getD (i % l.length) d) = (List.replicate c l).flatten
  | 0 => by simp
  | c + 1 => by
    rw [Nat.add_mul, Nat.one_mul, List.range_add, List.map_append, range_mod l d hl c, List.replicate_succ', List.flatten_concat]
    congr 1
    apply List.ext_getElem
    · simp
    · intro i h1 h2
      simp only [List.length_map, List.length_range] at h1
      simp [Nat.mod_eq_of_lt h1, h2]
theorem makeS_sound (hH : Holds ro fr Φ H w) {t el : TypeId} {i : TypeInfo} {z : AV} (hT : P.underlying t = some (.slice el)) (hi : P.info? el = some i) (hz : zeroOf P el = some z) (h1 : 0 < i.size) (hzo : z.okc = true) (hzl : z.cells.length = i.size) (hcl : cleanL z.cells = true) {k : IntKind} {l c : Int}
    (hb : 0 ≤ l ∧ l ≤ c ∧ c * i.bytes ≤ 140737488355328 ∧ c ≤ 9223372036854775807) (hel : el < 1000000) {id : Nat} {H' : Heap} (hs : Slot Φ H id ⟨(List.replicate c.toNat z.cells).flatten, el, true⟩ H') {K : AV → Heap → Prop} (hK : K (.slice i.size id 0 l.toNat (some c.toNat)) H') :
    Hv P ro bo fr Φ w K (Instr.makeSlice t (.int k l) (.int k c)) := by
  obtain ⟨i', zv, g1, g2, g3, g4⟩ := zero_parts (w := w) hz
  rw [hi] at g1; cases g1
  have hzr := ((absV_sound (ro := ro) (bo := noMem) (Φ := Φ) g3)).cells hzo
  have hzs : zv.cells.size = i.size := by rw [← Array.length_toList, hzr.len, hzl]
  have wl : IntKind.i64.wrap l = l := by simp [IntKind.wrap, IntKind.bits, IntKind.signed]; omega
  have wc : IntKind.i64.wrap c = c := by simp [IntKind.wrap, IntKind.bits, IntKind.signed]; omega
  obtain ⟨b0, b1, b2, b3⟩ := hb
  have hbc : (i.bytes : Int) * c = c * i.bytes := Int.mul_comm _ _
  have hcells : ((Array.range (c.toNat * i.size)).map (zv.cells[· % zv.cells.size]!)).toList = (List.replicate c.toNat zv.cells.toList).flatten := by
    rw [← range_mod zv.cells.toList default (by rw [Array.length_toList]; omega), Array.length_toList, hzs, Array.toList_map, Array.toList_range]
    apply List.map_congr_left
    intro j _
    simp [getElem!_def, List.getD]
    cases zv.cells[j % i.size]? <;> rfl
  obtain ⟨row, hrow, hrow2⟩ : ∃ row : Array Value, row.toList = (List.replicate c.toNat zv.cells.toList).flatten ∧ (Instr.makeSlice t (.int k l) (.int k c)).run P w = .ok (.slice (some ⟨w.heap.size, 0, none⟩) l.toNat c.toNat) (w.alloc (.cells row el)) := by
    have n1 : ¬ c < 0 := by omega
    have n2 : ¬ ((281474976710656 : Int) < i.bytes * c) := by rw [hbc]; omega
    have n3 : ¬ l < 0 := by omega
    have n4 : ¬ c < l := by omega
    refine ⟨_, hcells, ?_⟩
    by_cases h0 : c.toNat * i.size = 0
    · have hc0 : c.toNat = 0 := by
        rcases Nat.mul_eq_zero.1 h0 with h | h
        · exact h
        · omega
      simp [Instr.makeSlice, run_underlying hT, asInt, asIntOf, typeInfo, hi, wl, wc, n1, n2, n3, n4, sizeOf, newRow, hc0]
      congr 2
      apply Array.ext'
      simp
    · simp [Instr.makeSlice, run_underlying hT, asInt, asIntOf, typeInfo, hi, wl, wc, n1, n2, n3, n4, sizeOf, h0, newRow, g4]
  have hRrep : ∀ n, Rw ro noMem Φ (List.replicate n z.cells).flatten (List.replicate n zv.cells.toList).flatten := by
    intro n
    induction n with
    | zero => exact Rw.nil
    | succ n ih => rw [List.replicate_succ, List.replicate_succ, List.flatten_cons, List.flatten_cons]; exact hzr.append ih
  have hlen : ∀ n, (List.replicate n z.cells).flatten.length = n * i.size := by
    intro n; simp [hzl]
  have hsz : row.size = c.toNat * i.size := by rw [← Array.length_toList, hrow, ← hlen c.toNat]; exact (hRrep _).len
  refine Hv.newB hH (b := ⟨(List.replicate c.toNat z.cells).flatten, el, true⟩) (c := row) hs hK hrow2 (alloc_old w _) (WExt.alloc _ _) (heap_alloc_new w _) ?_ ?_ (fun _ => by rw [hlen, hsz]) hel ?_
  · rw [List.take_of_length_le (by rw [Array.length_toList, hsz, hlen]; exact Nat.le_refl _), hrow]
    exact hRrep _
  · intro u hu
    exact (hRrep c.toNat).one u (by rw [← hrow]; exact hu)
  · exact .slice _ _ _ _ _ _ _ _ 0 row.size (by simp [Emb.put]) h1 (by omega) (by rw [hsz]; simp) (fun c hc => by cases hc; rfl) (fun _ => rfl)
end
end Go.Fw
namespace Go.Fw
section
variable {P : Program} {ro bo fr : Mem} {Φ : Emb} {e : Env} {H : Heap} {a : Act} {w w' : World}
theorem splice_length : ∀ (vs xs : List AV) (o : Nat), (splice xs o vs).length = xs.length
  | [], _, _ => rfl
  | v :: vs, xs, o => by simp [splice, splice_length vs]
theorem splice_get : ∀ (vs xs : List AV) (o j : Nat), o + vs.length ≤ xs.length → (splice xs o vs)[j]? = if o ≤ j ∧ j < o + vs.length then vs[j - o]? else xs[j]?
  | [], xs, o, j, _ => by simp [splice]; omega
  | v :: vs, xs, o, j, h => by
    simp only [List.length_cons] at h ⊢
    rw [splice, splice_get vs (xs.set o v) (o + 1) j (by simp; omega), List.getElem?_set]
    by_cases h1 : j = o
    · subst h1
      rw [if_neg (by omega), if_pos rfl, if_pos (by omega), if_pos (by omega)]
      simp
    · rw [if_neg (Ne.symm h1)]
      by_cases h2 : o + 1 ≤ j ∧ j < o + 1 + vs.length
      · rw [if_pos h2, if_pos (by omega), show j - o = (j - (o + 1)) + 1 by omega, List.getElem?_cons_succ]
      · rw [if_neg h2, if_neg (by omega)]
theorem seg_get (l vs : List Value) (o j : Nat) (h : o + vs.length ≤ l.length) : (l.take o ++ vs ++ l.drop (o + vs.length))[j]? = if o ≤ j ∧ j < o + vs.length then vs[j - o]? else l[j]? := by
  rw [List.append_assoc]
  by_cases h1 : j < o
  · rw [List.getElem?_append_left (by simp; omega), List.getElem?_take, if_pos h1, if_neg (by omega)]
  · rw [List.getElem?_append_right (by simp; omega)]
    simp only [List.length_take]
    rw [show min o l.length = o by omega]
    by_cases h2 : j < o + vs.length
    · rw [List.getElem?_append_left (by omega), if_pos (by omega)]
    · rw [List.getElem?_append_right (by omega), List.getElem?_drop, if_neg (by omega)]
      congr 1; omega
theorem Holds.write (hH : Holds ro fr Φ H w) {id : Nat} {b : Blk} {r o s : Nat} (hb : Heap.blk H id = some b) (hΦ : Φ id = some (r, o, s)) {vs : List AV} {ds : List Value} {off : Nat} (hR : Rw ro noMem Φ vs ds) (hle : off + vs.length ≤ b.cells.length) :
    ∃ c : Array Value, w.heap[r]? = some (.cells c b.elem) ∧ o + off + ds.length ≤ c.size ∧
      Holds ro fr Φ (H.set id (some { b with cells := splice b.cells off vs })) (w.setRow r (c.toList.take (o + off) ++ ds ++ c.toList.drop (o + off + ds.length)).toArray) := by
  have hbg := blk_get hb
  have hidl : id < H.length := (List.getElem?_eq_some_iff.1 hbg).1
  obtain ⟨⟨c, h1, h2, h3, h4⟩, h5, h6, h7⟩ := hH.blkAt hb hΦ
  have hdl := hR.len
  refine ⟨c, h1, by omega, ?_⟩
  have hne : ∀ r', r' ≠ r → (w.setRow r (c.toList.take (o + off) ++ ds ++ c.toList.drop (o + off + ds.length)).toArray).heap[r']? = w.heap[r']? := fun r' hr' => setRow_other w r r' _ hr'
  have hsep := hH.sep id b r (o, s) hbg hΦ
  have hcs : o + off + ds.length ≤ c.toList.length := by simp; omega
  refine ⟨fun r' p h => ?_, fun r' p h => ?_, ?_, ?_, ?_, ?_, hH.disj⟩
  · rw [hne r' (fun e => by subst e; rw [hsep.1] at h; cases h)]; exact hH.hro r' p h
  · rw [hne r' (fun e => by subst e; rw [hsep.2] at h; cases h)]; exact hH.hfr r' p h
  · intro i b' hb'
    rw [List.getElem?_set] at hb'
    split at hb'
    · rename_i e
      subst e
      cases hb'
      refine .inr ⟨r, o, s, hΦ, ⟨_, setRow_heap w r c _ _ _ h1, by simp; omega, fun j v u hv hu => ?_, fun j u hu => ?_⟩, by simp [splice_length]; exact h5, fun he => by simpa [splice_length] using h6 he, h7⟩
      · simp only at hv
        rw [splice_get _ _ _ _ hle] at hv
        rw [List.getElem?_toArray, seg_get _ _ _ _ hcs] at hu
        by_cases hj : off ≤ j ∧ j < off + vs.length
        · rw [if_pos hj] at hv
          rw [if_pos (by omega), show o + j - (o + off) = j - off by omega] at hu
          exact hR.vr _ v u hv hu
        · rw [if_neg hj] at hv
          rw [if_neg (by omega)] at hu
          exact h3 j v u hv (by simpa using hu)
      · rw [List.getElem?_toArray, seg_get _ _ _ _ hcs] at hu
        split at hu
        · exact hR.one u (List.mem_of_getElem? hu)
        · exact h4 j u (by simpa using hu)
    · rename_i hni
      refine (hH.own i b' hb').imp (fun x => x) fun ⟨r', o', s', g1, g2⟩ => ⟨r', o', s', g1, g2.mono (Mem.le_refl _) (Emb.le_refl _) (hne r' (fun e => ?_))⟩
      subst e
      exact hni (hH.inj id i b b' r' (o, s) (o', s') hbg hb' hΦ g1)
  · intro i j b1 b2 r' p q hi hj hpi hpj
    have key : ∀ {i : Nat} {b1 : Blk}, (H.set id (some { b with cells := splice b.cells off vs }))[i]? = some (some b1) → ∃ b2, H[i]? = some (some b2) := by
      intro i b1 hi
      rw [List.getElem?_set] at hi
      split at hi
      · rename_i e; subst e; exact ⟨b, hbg⟩
      · exact ⟨b1, hi⟩
    obtain ⟨c1, hc1⟩ := key hi
    obtain ⟨c2, hc2⟩ := key hj
    exact hH.inj i j c1 c2 r' p q hc1 hc2 hpi hpj
  · intro i b1 r' p hi hp
    rw [List.getElem?_set] at hi
    split at hi
    · rename_i e; subst e; exact hH.sep id b r' p hbg hp
    · exact hH.sep i b1 r' p hi hp
  · intro i p hp
    rw [List.length_set]; exact hH.dom i p hp
theorem WExt.setRow (w : World) (r : Nat) (c : Array Value) : WExt w (w.setRow r c) := ⟨rfl, rfl, rfl, by simp⟩
theorem store_sound (hH : Holds ro fr Φ H w) {t n : Nat} (hs : szOf P t = some n) {p c : AV} {x u : Value} (hp : VR ro bo Φ p x) (hc : VR ro bo Φ c u) {K : AV → Heap → Prop} (h : storeWP n p c H K) :
    ∃ H' w', K (.tuple []) H' ∧ (Instr.storeAt t x u).run P w = .ok () w' ∧ Holds ro fr Φ H' w' ∧ WExt w w' := by
  cases p <;> try exact h.elim
  rename_i id off
  obtain ⟨b, hb, hok, hn, hle, hcl, hK⟩ := h
  cases hp with
  | ptr _ _ r o s hΦ =>
    have hR := (hc.cells hok).noBo hcl
    obtain ⟨cc, g1, g2, g3⟩ := hH.write hb hΦ hR (off := off) (by omega)
    refine ⟨_, _, hK, ?_, g3, WExt.setRow _ _ _⟩
    have hsz : u.cells.size = n := by rw [← Array.length_toList, hR.len, hn]
    have hst := run_storeCells_at P r (o + off) b.elem u.cells.toList 0 cc w g1 (by simpa using g2) hR.one
    simp only [Nat.add_zero] at hst
    simp [Instr.storeAt, Instr.sureAddr, storeVar, szOf_run hs, hsz, hst]
theorem cleanL_take : ∀ (k : Nat) (l : List AV), cleanL l = true → cleanL (l.take k) = true
  | _, [], _ => by simp [cleanL]
  | 0, _ :: _, _ => rfl
  | k + 1, x :: l, h => by
    simp only [cleanL, Bool.and_eq_true, List.take_succ_cons] at h ⊢
    exact ⟨h.1, cleanL_take k l h.2⟩
theorem copy_sound (hH : Holds ro fr Φ H w) (hb : Mem.le bo fr) {t u ty el s : Nat} (hT : P.underlying t = some (.slice el)) (hs : szOf P el = some s) (hs0 : 0 < s) {v v2 : AV} {x x2 : Value} {ys : List AV} (hv : VR ro bo Φ v x) (hv2 : VR ro bo Φ v2 x2)
    (hk : sliceCells H v2 = some ys) (hsz : szAV v2 s = true) (hcl : cleanL ys = true) (hns : notStr v2 = true) {K : AV → Heap → Prop} (h : copyWP s v ys H K) : Hv P ro bo fr Φ w K (Builtin.copy_ #[t, u] ty #[x, x2]) := by
  obtain ⟨q1, q2, q3⟩ := hs_of hk hsz
  cases v <;> try exact h.elim
  rename_i s' id off len kc
  obtain ⟨b, hbk, rfl, hle, hK⟩ := h
  obtain ⟨n, c, g1, g2, g3, g4, g5⟩ := cells_sound (P := P) hH hb hv2 hk q1 q2 q3 hs0
  have hdiv : ys.length / s' = n := by rw [g1, Nat.mul_div_cancel _ hs0]
  rw [hdiv] at hK
  have hmin : Min.min n len * s' ≤ len * s' := Nat.mul_le_mul_right _ (Nat.min_le_right _ _)
  have hmin2 : Min.min n len * s' ≤ n * s' := Nat.mul_le_mul_right _ (Nat.min_le_left _ _)
  have hR := (g2.take (Min.min n len * s')).noBo (cleanL_take _ _ hcl)
  have hlt : (ys.take (Min.min n len * s')).length = Min.min n len * s' := by simp; omega
  have hlc : (c.take (Min.min n len * s')).length = Min.min n len * s' := by rw [hR.len, hlt]
  have hfc : (Builtin.firstCells s' (Min.min n len) x2).run P w = .ok (c.take (Min.min n len * s')).toArray w := by
    rcases g5 with ⟨rfl, rfl⟩ | ⟨st, rfl⟩ | ⟨o', cap, rfl, hcell⟩ | ⟨rfl, a', rfl⟩
    · simp [Builtin.firstCells]
    · cases hv2; cases hns
    · refine run_firstCells_some (P := P) w s' (Min.min n len) o' n cap _ hlc (fun j v hv => hcell j v ?_)
      rw [List.getElem?_take] at hv
      split at hv
      · exact hv
      · cases hv
    · cases a' <;> simp [Builtin.firstCells, loadCells, loadCellsFrom]
  have hnm : Nat.min n len = Min.min n len := rfl
  cases hv with
  | slice _ _ _ _ cap o' _ r o sz hΦ he h1 h2 h3 h4 =>
    obtain ⟨cc, f1, f2, f3⟩ := hH.write hbk hΦ hR (off := off) (by omega)
    by_cases hc0 : cap = 0
    · have hl0 : len = 0 := by omega
      subst hl0
      simp only [Nat.min_zero, Nat.zero_mul, List.take_zero] at hK hfc hnm
      refine ⟨.int .i64 (0 : Nat), .int .i64 (0 : Nat), _, ro, Φ, w, hK, ?_, .int _ _, ?_, Mem.le_refl _, Emb.le_refl _, WExt.refl _⟩
      · simp [Builtin.copy_, run_underlying hT, szOf_run hs, g3, hnm, hfc, storeCells, goInt]
      · have : H.set id (some { b with cells := splice b.cells off [] }) = H := by
          have hbg := blk_get hbk
          simp only [splice]
          apply List.ext_getElem?
          intro j
          rw [List.getElem?_set]
          split
          · rename_i e; subst e
            rw [if_pos (List.getElem?_eq_some_iff.1 hbg).1, hbg]
          · rfl
        rw [this]; exact hH
    · have ho' := h4 hc0
      subst ho'
      refine ⟨.int .i64 (Min.min n len : Nat), .int .i64 (Min.min n len : Nat), _, ro, Φ, _, hK, ?_, .int _ _, f3, Mem.le_refl _, Emb.le_refl _, WExt.setRow _ _ _⟩
      have hst := run_storeCells_at P r (o + off) b.elem (c.take (Min.min n len * s')) 0 cc w f1 (by simpa using f2) hR.one
      simp only [Nat.add_zero] at hst
      simp [Builtin.copy_, run_underlying hT, szOf_run hs, g3, hnm, hfc, hst, goInt]
  | sliceE _ _ _ a' he =>
    simp only [Nat.min_zero, Nat.zero_mul, List.take_zero] at hK hfc hnm
    refine ⟨.int .i64 (0 : Nat), .int .i64 (0 : Nat), _, ro, Φ, w, hK, ?_, .int _ _, ?_, Mem.le_refl _, Emb.le_refl _, WExt.refl _⟩
    · cases a' <;> simp [Builtin.copy_, run_underlying hT, szOf_run hs, g3, hnm, hfc, storeCells, goInt]
    · have : H.set id (some { b with cells := splice b.cells off [] }) = H := by
        have hbg := blk_get hbk
        simp only [splice]
        apply List.ext_getElem?
        intro j
        rw [List.getElem?_set]
        split
        · rename_i e; subst e
          rw [if_pos (List.getElem?_eq_some_iff.1 hbg).1, hbg]
        · rfl
      rw [this]; exact hH
end
end Go.Fw
namespace Go.Fw
section
variable {P : Program} {ro bo fr : Mem} {Φ : Emb} {e : Env} {H : Heap} {a : Act} {w w' : World}
theorem put_self (Ψ : Emb) (k : Nat) (p : Nat × Nat × Nat) : (Ψ.put k p) k = some p := by simp [Emb.put]
theorem Holds.drop (hH : Holds ro fr Φ H w) {H' : Heap} (hl : H'.length = H.length) (h : ∀ (i : Nat) (b : Blk), H'[i]? = some (some b) → H[i]? = some (some b)) : Holds ro fr Φ H' w :=
  ⟨hH.hro, hH.hfr, fun i b hb => hH.own i b (h i b hb), fun i j b c r p q hi hj => hH.inj i j b c r p q (h i b hi) (h j c hj), fun i b r p hi => hH.sep i b r p (h i b hi), fun i p hp => by rw [hl]; exact hH.dom i p hp, hH.disj⟩
theorem set_none {id i : Nat} {b : Blk} (h : (H.set id none)[i]? = some (some b)) : H[i]? = some (some b) ∧ i ≠ id := by
  rw [List.getElem?_set] at h
  split at h
  · split at h <;> cases h
  · rename_i hne; exact ⟨h, Ne.symm hne⟩
theorem Holds.virt (hH : Holds ro fr Φ H w) (T : TypeId) : Holds ro fr Φ (H ++ [some ⟨[], T, false⟩]) w := by
  have hd : ∀ i p, Φ i = some p → i ≠ H.length := fun i p h e => by have := hH.dom i p h; omega
  refine ⟨hH.hro, hH.hfr, fun i b hb => ?_, fun i j b c r p q hi hj hpi hpj => ?_, fun i b r p hi hp => ?_, fun i p hp => by have := hH.dom i p hp; simp; omega, hH.disj⟩
  · rcases get_snoc hb with ⟨hb, _⟩ | ⟨rfl, hb2⟩
    · exact hH.own i b hb
    · cases hb2
      refine .inl ⟨rfl, rfl, ?_⟩
      cases hx : Φ H.length with
      | none => rfl
      | some p => exact absurd rfl (hd _ _ hx)
  · rcases get_snoc hi with ⟨hi, _⟩ | ⟨rfl, _⟩
    · rcases get_snoc hj with ⟨hj, _⟩ | ⟨rfl, _⟩
      · exact hH.inj i j b c r p q hi hj hpi hpj
      · exact absurd rfl (hd _ _ hpj)
    · exact absurd rfl (hd _ _ hpi)
  · rcases get_snoc hi with ⟨hi, _⟩ | ⟨rfl, _⟩
    · exact hH.sep i b r p hi hp
    · exact absurd rfl (hd _ _ hp)
theorem Holds.rewin (hH : Holds ro fr Φ H w) {id : Nat} {b : Blk} {r o s off : Nat} (hb : Heap.blk H id = some b) (hΦ : Φ id = some (r, o, s)) (hoff : off ≤ s) {cells : List AV} {c : Array Value}
    (hw : ∀ r', r' ≠ r → w'.heap[r']? = w.heap[r']?) (hc : w'.heap[r]? = some (.cells c b.elem)) (hsz : o + s = c.size) (hlen : cells.length ≤ s - off)
    (hx : ∀ (j : Nat) (v : AV) (u : Value), cells[j]? = some v → c[o + off + j]? = some u → VR ro noMem Φ v u) (h1 : ∀ (j : Nat) (u : Value), c[j]? = some u → u.oneCell' = true) :
    Holds ro fr (Φ.put H.length (r, o + off, s - off)) (H.set id none ++ [some ⟨cells, b.elem, false⟩]) w' := by
  have hbg := blk_get hb
  have hsep := hH.sep id b r (o, s) hbg hΦ
  have hle := hH.emb_le (r, o + off, s - off)
  have hlen' : (H.set id none).length = H.length := by simp
  have old : ∀ i, i < H.length → (Φ.put H.length (r, o + off, s - off)) i = Φ i := fun i hi => by simp only [Emb.put]; rw [if_neg (by omega)]
  have new : (Φ.put H.length (r, o + off, s - off)) H.length = some (r, o + off, s - off) := by simp [Emb.put]
  have hother : ∀ (i : Nat) (b' : Blk) (r' : Nat) (p : Nat × Nat), (H.set id none)[i]? = some (some b') → Φ i = some (r', p) → r' ≠ r := by
    intro i b' r' p hi hp e
    subst e
    obtain ⟨hi, hne⟩ := set_none hi
    exact hne (hH.inj i id b' b r' p (o, s) hi hbg hp hΦ)
  refine ⟨fun r' p h => ?_, fun r' p h => ?_, ?_, ?_, ?_, ?_, hH.disj⟩
  · rw [hw r' (fun e => by subst e; rw [hsep.1] at h; cases h)]; exact hH.hro r' p h
  · rw [hw r' (fun e => by subst e; rw [hsep.2] at h; cases h)]; exact hH.hfr r' p h
  · intro i b' hb'
    rcases get_snoc hb' with ⟨hb', hi⟩ | ⟨rfl, hb2⟩
    · rw [old i (by omega)]
      refine (hH.own i b' (set_none hb').1).imp (fun x => x) fun ⟨r', o', s', g1, g2⟩ => ⟨r', o', s', g1, g2.mono (Mem.le_refl _) hle (hw r' (hother i b' r' _ hb' g1))⟩
    · cases hb2
      rw [hlen', new]
      refine .inr ⟨_, _, _, rfl, ⟨c, hc, by omega, fun j v u hv hu => (hx j v u hv hu).mono (Mem.le_refl _) (Mem.le_refl _) hle, h1⟩, hlen, fun h => (by cases h), (hH.blkAt hb hΦ).real⟩
  · intro i j b1 b2 r' p q hi hj hpi hpj
    rcases get_snoc hi with ⟨hi, li⟩ | ⟨ei, _⟩ <;> rcases get_snoc hj with ⟨hj, lj⟩ | ⟨ej, _⟩
    · rw [old i (by omega)] at hpi; rw [old j (by omega)] at hpj
      exact hH.inj i j b1 b2 r' p q (set_none hi).1 (set_none hj).1 hpi hpj
    · rw [ej, hlen', new] at hpj; cases hpj
      rw [old i (by omega)] at hpi
      exact absurd rfl (hother i b1 _ _ hi hpi)
    · rw [ei, hlen', new] at hpi; cases hpi
      rw [old j (by omega)] at hpj
      exact absurd rfl (hother j b2 _ _ hj hpj)
    · rw [ei, ej]
  · intro i b1 r' p hi hp
    rcases get_snoc hi with ⟨hi, li⟩ | ⟨ei, _⟩
    · rw [old i (by omega)] at hp; exact hH.sep i b1 r' p (set_none hi).1 hp
    · rw [ei, hlen', new] at hp; cases hp; exact hsep
  · intro i p hp
    simp only [Emb.put] at hp
    split at hp
    · simp; omega
    · have := hH.dom i p hp; simp; omega
theorem run_append_room' {t u ty el : TypeId} {i : TypeInfo} (ht : P.underlying t = some (.slice el)) (hu : apTy P t u) (hi : P.info? el = some i)
    {r o' sLen sCap n : Nat} {x : Value} {news : List Value} {cur : Array Value} {T : TypeId} (hx : (Builtin.lenOf x).run P w = .ok n w) (hf : (Builtin.firstCells i.size n x).run P w = .ok news.toArray w)
    (hg : w.heap[r]? = some (.cells cur T)) (hc : sLen + n ≤ sCap) (hfit : o' + sLen * i.size + news.length ≤ cur.size) (h1 : ∀ u ∈ news, u.oneCell' = true) :
    (Builtin.append_ #[t, u] ty #[.slice (some ⟨r, o', none⟩) sLen sCap, x]).run P w =
      .ok (.slice (some ⟨r, o', none⟩) (sLen + n) sCap) (w.setRow r (cur.toList.take (o' + sLen * i.size) ++ news ++ cur.toList.drop (o' + sLen * i.size + news.length)).toArray) := by
  have hst := run_storeCells_at P r (o' + sLen * i.size) T news 0 cur w hg (by simpa using hfit) h1
  simp only [Nat.add_zero] at hst
  rcases hu with hu | ⟨el', hu, _⟩
  · simp [Builtin.append_, run_underlying ht, run_underlying hu, sizeOf, typeInfo, hi, hx, hc, hf, Addr.add_lit, hst]
  · simp [Builtin.append_, run_underlying ht, run_underlying hu, sizeOf, typeInfo, hi, hx, hc, hf, Addr.add_lit, hst]
structure Src (P : Program) (t u ty el : TypeId) (i : TypeInfo) (z : Value) (w : World) (x : Value) (n : Nat) (c c' : List Value) : Prop where
  new : ∀ {s : Option Addr} {sLen sCap : Nat} {olds : List Value}, (Builtin.firstCells i.size sLen (.slice s sLen sCap)).run P w.drew = .ok olds.toArray w.drew → sCap < sLen + n → sLen + n ≤ 9223372036854775807 → (sLen + n) * i.bytes ≤ 140737488355328 →
    (Builtin.append_ #[t, u] ty #[.slice s sLen sCap, x]).run P w =
      .ok (.slice (some ⟨w.heap.size, 0, none⟩) (sLen + n) (grownCap w (sLen + n) sCap el))
        (w.drew.alloc (.cells (olds.toArray ++ c'.toArray ++ Builtin.zeroCells z.cells (grownCap w (sLen + n) sCap el - (sLen + n))) el))
  room : ∀ {r o' sLen sCap : Nat} {cur : Array Value} {T : TypeId}, w.heap[r]? = some (.cells cur T) → sLen + n ≤ sCap → o' + sLen * i.size + c.length ≤ cur.size → (∀ u ∈ c, u.oneCell' = true) →
    (Builtin.append_ #[t, u] ty #[.slice (some ⟨r, o', none⟩) sLen sCap, x]).run P w =
      .ok (.slice (some ⟨r, o', none⟩) (sLen + n) sCap) (w.setRow r (cur.toList.take (o' + sLen * i.size) ++ c ++ cur.toList.drop (o' + sLen * i.size + c.length)).toArray)
  same : n = 0 → c = [] → ∀ {s : Option Addr} {sLen sCap : Nat}, sLen ≤ sCap → (Builtin.append_ #[t, u] ty #[.slice s sLen sCap, x]).run P w = .ok (.slice s sLen sCap) w
theorem Src.of {t u ty el : TypeId} {i : TypeInfo} {z : Value} {x : Value} {n : Nat} {c c' : List Value} (ht : P.underlying t = some (.slice el)) (hu : apTy P t u) (hi : P.info? el = some i) (hz : i.zero = some z)
    (hx : (Builtin.lenOf x).run P w = .ok n w) (hf : (Builtin.firstCells i.size n x).run P w = .ok c.toArray w) (hf' : (Builtin.firstCells i.size n x).run P w.drew = .ok c'.toArray w.drew) : Src P t u ty el i z w x n c c' where
  new h1 h2 h3 h4 := run_append_new ht hu hi hz hx h1 hf' h2 h3 h4
  room h1 h2 h3 h4 := run_append_room' ht hu hi hx hf h1 h2 h3 h4
  same h1 h2 := by subst h1; subst h2; intro s sLen sCap h; exact run_append_same ht hu hi hx (by simpa using hf) h
theorem wrap64s {n : Int} (h1 : -9223372036854775808 ≤ n) (h2 : n < 9223372036854775808) : IntKind.i64.wrap n = n := by
  unfold IntKind.wrap; simp [IntKind.signed, IntKind.bits] at *; omega
theorem Src.zero {t u ty el : TypeId} {i : TypeInfo} {z : Value} {k k' : IntKind} {n : Nat} (ht : P.underlying t = some (.slice el)) (hu : P.underlying u = some (.int k)) (hi : P.info? el = some i) (hz : i.zero = some z)
    (h1 : 0 < n) (hn : n ≤ 65536) (hb : n * i.bytes ≤ 140737488355328) (hs0 : 0 < i.size) : Src P t u ty el i z w (.int k' n) n (Builtin.zeroCells z.cells n).toList (Builtin.zeroCells z.cells n).toList := by
  have wl := wrap64s (n := n) (by omega) (by omega)
  have w1 : ¬ ((n : Int) < 0) := by omega
  have hb2 : ((n * i.bytes : Nat) : Int) ≤ 140737488355328 := by omega
  rw [Int.natCast_mul] at hb2
  have w2 : ¬ ((281474976710656 : Int) < n * i.bytes) := by omega
  have hne : n ≠ 0 := by omega
  have hse : i.size ≠ 0 := by omega
  have hns : ¬ n * i.size = 0 := fun h => by rcases Nat.mul_eq_zero.1 h with h | h <;> omega
  refine ⟨?_, ?_, ?_⟩
  · intro s sLen sCap olds hfo hg h63 h47
    have hn : ¬ (sLen + n ≤ sCap) := by omega
    have h63' : ¬ (9223372036854775807 < ((sLen : Int) + (n : Int))) := by omega
    have hfit := growslice_fits (bytes := i.bytes) hg h47
    have h48' : ¬ (281474976710656 < Builtin.nextslicecap (sLen + n) sCap * i.bytes) := by omega
    simp [Builtin.append_, run_underlying ht, run_underlying hu, sizeOf, typeInfo, zeroValue, hi, hz, asInt, asIntOf, wl, w1, w2, hn, h63', h48', Question.forced, hfo, newRow, grownCap, hns]
  · intro r o' sLen sCap cur T hg hc hfit h1
    have hst := run_storeCells_at P r (o' + sLen * i.size) T (Builtin.zeroCells z.cells n).toList 0 cur w hg (by simpa using hfit) h1
    simp only [Nat.add_zero] at hst
    simp [Builtin.append_, run_underlying ht, run_underlying hu, sizeOf, typeInfo, zeroValue, hi, hz, asInt, asIntOf, wl, w1, w2, hc, Addr.add_lit, hst, hns]
  · intro h0
    exact absurd h0 hne
theorem appO_core (hH : Holds ro fr Φ H w) (hb : Mem.le bo fr) {t u ty el : TypeId} {i : TypeInfo} (hs0 : 0 < i.size) {z : Value} (hzc : ∀ u ∈ z.cells.toList, u.oneCell' = true) (hzs : z.cells.size = i.size)
    {v : AV} {x x2 : Value} {n' : Nat} {c c' : List Value} {ys : List AV} (hS : Src P t u ty el i z w x2 n' c c') (hv : VR ro bo Φ v x) (g1 : ys.length = n' * i.size) (hR : Rw ro noMem Φ ys c) (hR' : Rw ro noMem Φ ys c') (hel : el < 1000000) {K : AV → Heap → Prop}
    (h : appOWP el i.size i.bytes v ys H K) : Hv P ro bo fr Φ w K (Builtin.append_ #[t, u] ty #[x, x2]) := by
  have zone : ∀ k, ∀ u ∈ (Builtin.zeroCells z.cells k).toList, u.oneCell' = true := by
    intro k u hu
    simp only [Builtin.zeroCells, Array.toList_map, Array.toList_range, List.mem_map, List.mem_range] at hu
    obtain ⟨j, hj, rfl⟩ := hu
    have hpos : 0 < z.cells.size := by omega
    rw [getElem!_pos z.cells (j % z.cells.size) (Nat.mod_lt _ hpos)]
    exact hzc _ (by simp)
  have fresh : ∀ {H0 : Heap} {s : Option Addr} {sLen sCap : Nat} {xs : List AV} {olds : List Value}, Holds ro fr Φ H0 w → Rw ro noMem Φ xs olds → xs.length = sLen * i.size → (Builtin.firstCells i.size sLen (.slice s sLen sCap)).run P w.drew = .ok olds.toArray w.drew →
      sCap < sLen + n' → sLen + n' ≤ 9223372036854775807 → (sLen + n') * i.bytes ≤ 140737488355328 → K (.slice i.size H0.length 0 (sLen + n') none) (H0 ++ [some ⟨xs ++ ys, el, false⟩]) →
      Hv P ro bo fr Φ w K (Builtin.append_ #[t, u] ty #[.slice s sLen sCap, x2]) := by
    intro H0 s sLen sCap xs olds hH0 hRx hxl hfo hg h63 h47 hK
    have hr := hS.new (s := s) hfo hg h63 h47
    have hRa := hRx.append hR'
    have hge := grownCap_ge w (sLen + n') sCap el
    have hcsz : (olds.toArray ++ c'.toArray ++ Builtin.zeroCells z.cells (grownCap w (sLen + n') sCap el - (sLen + n'))).size = grownCap w (sLen + n') sCap el * i.size := by
      have e1 : olds.length = sLen * i.size := by rw [hRx.len, hxl]
      have e2 : c'.length = n' * i.size := by rw [hR'.len, g1]
      simp only [Array.size_append, List.size_toArray, size_zeroCells, hzs, e1, e2, ← Nat.add_mul]
      congr 1; omega
    refine Hv.newB hH0 (b := ⟨xs ++ ys, el, false⟩) (Slot.snoc hH0 _) hK hr (fun r p hp => heap_alloc_old' _ _ hp) (WExt.drewAlloc _ _) (heap_alloc_new' _ _) ?_ ?_ (fun h => by cases h) hel ?_
    · have hl : (olds ++ c').length = (xs ++ ys).length := hRa.len
      simp only [Array.toList_append]
      rw [← hl, List.take_left]
      exact hRa
    · intro u hu
      simp only [Array.toList_append, List.mem_append] at hu
      rcases hu with (hu | hu) | hu
      · exact hRx.one u hu
      · exact hR'.one u hu
      · exact zone _ u hu
    · exact .slice _ _ _ _ _ _ _ _ 0 _ (put_self _ _ _) hs0 hge (by rw [hcsz]; omega) (fun c hc => by cases hc) (fun _ => rfl)
  cases v <;> try exact h.elim
  case list s' m xs =>
    obtain ⟨h1, h2, h3, hclx, ⟨h4, h5⟩, hK⟩ := h
    by_cases hys : ys = []
    · have hxs : xs = [] := h3.resolve_right (fun hne => hne hys)
      subst hys; subst hxs
      have hn0 : n' = 0 := by
        rcases Nat.eq_zero_or_pos n' with h | h
        · exact h
        · have := Nat.mul_pos h hs0; simp at g1; omega
      subst hn0
      have hc0 : c = [] := List.eq_nil_of_length_eq_zero (by simpa using hR.len)
      subst hc0
      simp only [List.length_nil, Nat.add_zero, Nat.zero_div, List.append_nil] at hK
      obtain ⟨ad, hx0⟩ : ∃ ad, x = .slice ad 0 0 := by
        cases hv with
        | listNil => exact ⟨_, rfl⟩
        | list _ _ _ r off len cap c T fz he hm hlen hc1 hf =>
          have : len = 0 := by
            rcases Nat.eq_zero_or_pos len with h' | h'
            · exact h'
            · have := Nat.mul_pos h' he; simp at hlen; omega
          subst this
          have : cap = 0 := hf (h2.resolve_left (by simp [hm]))
          subst this
          exact ⟨_, rfl⟩
      subst hx0
      exact ⟨_, _, _, ro, Φ, w, hK, hS.same rfl rfl (Nat.le_refl _), .sliceE _ _ _ _ hs0, hH.virt el, Mem.le_refl _, Emb.le_refl _, WExt.refl _⟩
    · have hn0 : 0 < n' := by
        rcases Nat.eq_zero_or_pos n' with h | h
        · subst h; exact absurd (List.eq_nil_of_length_eq_zero (by simpa using g1)) hys
        · exact h
      cases hv with
      | listNil =>
        simp only [List.length_nil, Nat.zero_add, List.nil_append] at h4 h5 hK
        rw [g1, Nat.mul_div_cancel _ hs0] at h4 h5 hK
        exact fresh hH (Rw.nil) (by simp) (by simp [Builtin.firstCells]) (by omega) (by omega) (by simpa using h4) (by simpa using hK)
      | list _ _ _ r off len cap cc T fz he hm hlen hc1 hf hr hl hx ho sp hsp =>
        have hse : s' = i.size := h1.resolve_left (by simp [hm])
        subst hse
        have hcap : cap = len := hf (h2.resolve_left (by simp [hm]))
        subst hcap
        rw [hlen, g1, ← Nat.add_mul, Nat.mul_div_cancel _ hs0] at h4 h5
        have hvl : VR ro bo Φ (.list i.size m xs) (.slice (some ⟨r, off, sp⟩) cap cap) := .list _ _ _ r off cap cap cc T fz he hm hlen hc1 hf hr hl hx ho sp hsp
        obtain ⟨n1, c1, f1, f2, f3, f4, f5⟩ := cells_sound (P := P) (s := i.size) hH.drew hb hvl (ys := xs) rfl (fun _ _ _ _ _ h => by cases h) (fun _ _ _ h => by cases h; exact .inr rfl) (fun _ h => by cases h) hs0
        have hn1 : n1 = cap := by simpa [Builtin.lenOf] using f3.symm
        subst hn1
        have hKl : (xs.length + ys.length) / i.size = n1 + n' := by rw [hlen, g1, ← Nat.add_mul, Nat.mul_div_cancel _ hs0]
        rw [hKl] at hK
        exact fresh hH (f2.noBo hclx) hlen f4 (by omega) h5 h4 hK
  case slice s' id off len kc =>
    cases kc with
    | none =>
      obtain ⟨b, hbk, hse, hel, hle, ⟨h4, h5⟩, hK⟩ := h
      subst hse; subst hel
      have hyn : ys.length / i.size = n' := by rw [g1, Nat.mul_div_cancel _ hs0]
      rw [hyn] at h4 h5 hK
      have hset : ∀ j b', (H.set id none)[j]? = some (some b') → H[j]? = some (some b') := fun j b' hj => (set_none hj).1
      have hHd : Holds ro fr Φ (H.set id none) w := hH.drop (by simp) hset
      have hlset : (H.set id none).length = H.length := by simp
      obtain ⟨n1, c1, f1, f2, f3, f4, f5⟩ := cells_sound (P := P) (s := i.size) (bo := noMem) hH.drew (fun _ _ h => by cases h) (hv.noBo rfl) (ys := (b.cells.drop off).take (len * i.size)) (by simp only [sliceCells, hbk]; rw [if_pos hle]) (fun _ _ _ _ _ h => by cases h; rfl) (fun _ _ _ h => by cases h) (fun _ h => by cases h) hs0
      have f2n : Rw ro noMem Φ ((b.cells.drop off).take (len * i.size)) c1 := f2
      cases hv with
      | sliceE _ _ _ ad he =>
        have hn1 : n1 = 0 := by simpa [Builtin.lenOf] using f3.symm
        subst hn1
        simp only [Nat.zero_mul, List.take_zero, List.nil_append, Nat.zero_add] at hK h4 h5 f1 f2n
        by_cases hn0 : n' = 0
        · subst hn0
          have hys : ys = [] := List.eq_nil_of_length_eq_zero (by simpa using g1)
          subst hys
          have hc0 : c = [] := List.eq_nil_of_length_eq_zero (by simpa using hR.len)
          subst hc0
          exact ⟨_, _, _, ro, Φ, w, hK, hS.same rfl rfl (Nat.le_refl _), .sliceE _ _ _ _ hs0, hHd.virt _, Mem.le_refl _, Emb.le_refl _, WExt.refl _⟩
        · exact fresh hHd (xs := []) (by simpa using f2n) (by simp) f4 (by omega) (by omega) (by simpa using h4) (by rw [hlset]; simpa using hK)
      | slice _ _ _ _ cap o' _ r o sz hΦ he hc1 hc2 hc3 hc4 =>
        have hn1 : n1 = len := by simpa [Builtin.lenOf] using f3.symm
        subst hn1
        have hcl : ((b.cells.drop off).take (n1 * i.size)).length = n1 * i.size := by simp; omega
        by_cases hroom : n1 + n' ≤ cap
        · by_cases hc0 : cap = 0
          · have e1 : n1 = 0 := by omega
            have e2 : n' = 0 := by omega
            subst e1; subst e2; subst hc0
            have hys : ys = [] := List.eq_nil_of_length_eq_zero (by simpa using g1)
            subst hys
            have hc0 : c = [] := List.eq_nil_of_length_eq_zero (by simpa using hR.len)
            subst hc0
            simp only [Nat.zero_mul, List.take_zero, List.nil_append, Nat.zero_add] at hK
            exact ⟨_, _, _, ro, Φ, w, hK, hS.same rfl rfl (Nat.le_refl _), .sliceE _ _ _ _ hs0, hHd.virt _, Mem.le_refl _, Emb.le_refl _, WExt.refl _⟩
          · have ho' := hc4 hc0
            subst ho'
            obtain ⟨⟨cur, k1, k2, k3, k4⟩, k5, k6⟩ := hH.blkAt hbk hΦ
            have hcs : n1 * i.size + n' * i.size ≤ cap * i.size := by rw [← Nat.add_mul]; exact Nat.mul_le_mul_right _ hroom
            have hcl' : c.length = n' * i.size := by rw [hR.len, g1]
            have hfit : o + off + n1 * i.size + c.length ≤ cur.size := by omega
            have hr := hS.room k1 hroom hfit hR.one
            have hseg : o + off + n1 * i.size + c.length ≤ cur.toList.length := by simpa using hfit
            refine ⟨_, _, _, ro, _, _, hK, hr, ?_, hH.rewin (off := off) hbk hΦ (by omega) (w' := w.setRow r _) (fun r' hr' => setRow_other w r r' _ hr') (setRow_heap w r cur _ _ _ k1) (by simp; omega) (by simp [g1]; omega) (fun j v u hv hu => ?_) (fun j u hu => ?_), Mem.le_refl _, hH.emb_le _, WExt.setRow _ _ _⟩
            · exact .slice _ _ _ _ _ _ _ r (o + off) (sz - off) (by simp [Emb.put]) hs0 hroom (by omega) (fun c hc => by cases hc) (fun _ => rfl)
            · rw [List.getElem?_toArray, seg_get _ _ _ _ hseg] at hu
              rcases Nat.lt_or_ge j (n1 * i.size) with hj | hj
              · rw [List.getElem?_append_left (by omega), List.getElem?_take, if_pos hj, List.getElem?_drop] at hv
                rw [if_neg (by omega)] at hu
                exact k3 (off + j) v u hv (by rw [← Nat.add_assoc]; simpa using hu)
              · rw [List.getElem?_append_right (by omega), hcl] at hv
                have hjl : j - n1 * i.size < ys.length := (List.getElem?_eq_some_iff.1 hv).1
                rw [if_pos (by omega), show o + off + j - (o + off + n1 * i.size) = j - n1 * i.size by omega] at hu
                exact hR.vr _ v u hv hu
            · rw [List.getElem?_toArray, seg_get _ _ _ _ hseg] at hu
              split at hu
              · exact hR.one u (List.mem_of_getElem? hu)
              · exact k4 j u (by simpa using hu)
        · exact fresh hHd f2n hcl f4 (by omega) h5 h4 (by rw [hlset]; exact hK)
    | some kc =>
      obtain ⟨b, hbk, hse, hle, hlc, ⟨h4, h5⟩, hK1, hK2⟩ := h
      subst hse
      have hyn : ys.length / i.size = n' := by rw [g1, Nat.mul_div_cancel _ hs0]
      rw [hyn] at h4 h5 hK1 hK2
      have hlk : len * i.size ≤ kc * i.size := Nat.mul_le_mul_right _ hlc
      obtain ⟨n1, c1, f1, f2, f3, f4, f5⟩ := cells_sound (P := P) (s := i.size) (bo := noMem) hH.drew (fun _ _ h => by cases h) (hv.noBo rfl) (ys := (b.cells.drop off).take (len * i.size)) (by simp only [sliceCells, hbk]; rw [if_pos (by omega)]) (fun _ _ _ _ _ h => by cases h; rfl) (fun _ _ _ h => by cases h) (fun _ h => by cases h) hs0
      have f2n : Rw ro noMem Φ ((b.cells.drop off).take (len * i.size)) c1 := f2
      cases hv with
      | slice _ _ _ _ cap o' _ r o sz hΦ he hc1 hc2 hc3 hc4 =>
        have hcap : cap = kc := hc3 kc rfl
        subst hcap
        have hn1 : n1 = len := by simpa [Builtin.lenOf] using f3.symm
        subst hn1
        have hcl : ((b.cells.drop off).take (n1 * i.size)).length = n1 * i.size := by simp; omega
        by_cases hroom : n1 + n' ≤ cap
        · have hK := hK1 hroom
          have hcs : n1 * i.size + n' * i.size ≤ cap * i.size := by rw [← Nat.add_mul]; exact Nat.mul_le_mul_right _ hroom
          by_cases hc0 : cap = 0
          · have e1 : n1 = 0 := by omega
            have e2 : n' = 0 := by omega
            subst e1; subst e2; subst hc0
            have hys : ys = [] := List.eq_nil_of_length_eq_zero (by simpa using g1)
            subst hys
            have hc0 : c = [] := List.eq_nil_of_length_eq_zero (by simpa using hR.len)
            subst hc0
            have hHs : H.set id (some { b with cells := splice b.cells (off + 0 * i.size) [] }) = H := by
              have hbg := blk_get hbk
              simp only [splice]
              apply List.ext_getElem?
              intro j
              rw [List.getElem?_set]
              split
              · rename_i e; subst e
                rw [if_pos (List.getElem?_eq_some_iff.1 hbg).1, hbg]
              · rfl
            rw [hHs] at hK
            exact ⟨_, _, _, ro, Φ, w, hK, hS.same rfl rfl (Nat.le_refl _), .slice _ _ _ _ _ _ _ r o sz hΦ he hc1 hc2 hc3 hc4, hH, Mem.le_refl _, Emb.le_refl _, WExt.refl _⟩
          · have ho' := hc4 hc0
            subst ho'
            obtain ⟨cur, k1, k2, k3⟩ := hH.write hbk hΦ hR (off := off + n1 * i.size) (by omega)
            have hr := hS.room (o' := o + off) k1 hroom (by omega) hR.one
            rw [← Nat.add_assoc] at k3
            refine ⟨_, _, _, ro, _, _, hK, hr, ?_, k3, Mem.le_refl _, Emb.le_refl _, WExt.setRow _ _ _⟩
            exact .slice _ _ _ _ _ _ _ r o sz hΦ hs0 hroom (by omega) (fun c hc => by cases hc; rfl) (fun _ => rfl)
        · exact fresh hH f2n hcl f4 (by omega) h5 h4 (hK2 (by omega))
theorem appO_sound (hH : Holds ro fr Φ H w) (hb : Mem.le bo fr) {t u ty el : TypeId} {i : TypeInfo} (ht : P.underlying t = some (.slice el)) (hu : apTy P t u) (hi : P.info? el = some i) (hs0 : 0 < i.size) {z : Value} (hz : i.zero = some z) (hzc : ∀ u ∈ z.cells.toList, u.oneCell' = true) (hzs : z.cells.size = i.size)
    {v v2 : AV} {x x2 : Value} {ys : List AV} (hv : VR ro bo Φ v x) (hv2 : VR ro bo Φ v2 x2) (hk : sliceCells H v2 = some ys) (hsz : szAV v2 i.size = true) (hcl : cleanL ys = true) (hel : el < 1000000) {K : AV → Heap → Prop}
    (h : appOWP el i.size i.bytes v ys H K) : Hv P ro bo fr Φ w K (Builtin.append_ #[t, u] ty #[x, x2]) := by
  obtain ⟨q1, q2, q3⟩ := hs_of hk hsz
  obtain ⟨n, c, g1, g2, g3, g4, g5⟩ := cells_sound (P := P) hH hb hv2 hk q1 q2 q3 hs0
  obtain ⟨n', c', g1', g2', g3', g4', g5'⟩ := cells_sound (P := P) hH.drew hb hv2 hk q1 q2 q3 hs0
  have hnn : n' = n := by
    have : n' * i.size = n * i.size := by rw [← g1, ← g1']
    exact Nat.eq_of_mul_eq_mul_right hs0 this
  subst hnn
  exact appO_core hH hb hs0 hzc hzs (Src.of ht hu hi hz g3 g4 g4') hv g1 (g2.noBo hcl) (g2'.noBo hcl) hel h
theorem cvt_sound (hH : Holds ro fr Φ H w) {t el : TypeId} (ht : P.underlying t = some (.slice el)) (he : P.underlying el = some (.int .u8)) {id off len cap : Nat} {b : Blk} {x : Value} (hv : VR ro bo Φ (.slice 1 id off len (some cap)) x)
    (hb : H.blk id = some b) (h0 : 0 < len) (hle : off + len ≤ b.cells.length) {K : AV → Heap → Prop} (hK : K (.list 1 ⟨false, decide (cap = len), false⟩ ((b.cells.drop off).take len)) (H.set id none)) :
    Hv P ro bo fr Φ w K (convert t t x) := by
  cases hv with
  | slice _ _ _ _ cap' o' _ r o sz hΦ he1 hc1 hc2 hc3 hc4 =>
    have hcap : cap' = cap := hc3 cap rfl
    subst hcap
    have ho' := hc4 (by omega)
    subst ho'
    have hbg := blk_get hb
    obtain ⟨⟨c, k1, k2, k3, k4⟩, k5, k6, k7⟩ := hH.blkAt hb hΦ
    have hsep := hH.sep id b r (o, sz) hbg hΦ
    have hrl : r < w.heap.size := (Array.getElem?_eq_some_iff.1 k1).1
    have hsh : w.shape? r = some (b.elem, c.size) := by unfold World.shape?; rw [k1]
    have hr : (w.freeze ⟨r, c.size, none⟩ 1).heap[r]? = some (.cells c b.elem (c.size, c.size + 1)) := by
      unfold World.freeze
      rw [if_neg (by decide)]
      show (w.heap.modify r _)[r]? = _
      rw [Array.getElem?_modify, if_pos rfl, k1]
      rfl
    have hne : ∀ r', r' ≠ r → (w.freeze ⟨r, c.size, none⟩ 1).heap[r']? = w.heap[r']? := by
      intro r' h
      unfold World.freeze
      rw [if_neg (by decide)]
      show (w.heap.modify r _)[r']? = _
      rw [Array.getElem?_modify, if_neg (Ne.symm h)]
    have hle2 : Mem.le ro (ro.put r (.cells c b.elem (c.size, c.size + 1))) := by
      intro r' o h
      simp only [Mem.put]
      rw [if_neg (fun q => by subst q; rw [hsep.1] at h; cases h)]; exact h
    have hot : ∀ (i : Nat) (b' : Blk) (r' : Nat) (p : Nat × Nat), (H.set id none)[i]? = some (some b') → Φ i = some (r', p) → r' ≠ r := by
      intro i b' r' p hi hp q
      subst q
      obtain ⟨hi, hn⟩ := set_none hi
      exact hn (hH.inj i id b' b r' p (o, sz) hi hbg hp hΦ)
    have hlen : ((b.cells.drop off).take len).length = len := by simp; omega
    refine ⟨_, .slice (some ⟨r, o + off, none⟩) len cap', _, ro.put r (.cells c b.elem (c.size, c.size + 1)), Φ, w.freeze ⟨r, c.size, none⟩ 1, hK, by simp [convert, run_underlying ht, run_underlying he, markStringish, hsh], ?_, ⟨fun r' o h => ?_, fun r' o h => ?_, fun i b' hi => ?_, fun i j b1 b2 r' p q hi hj => ?_, fun i b' r' p hi hp => ?_, fun i p hp => by rw [List.length_set]; exact hH.dom i p hp, fun r' o h => ?_⟩, hle2, Emb.le_refl _, ⟨rfl, rfl, rfl, by unfold World.freeze; rw [if_neg (by decide)]; simp⟩⟩
    · refine .list 1 _ _ r (o + off) len cap' c b.elem (c.size, c.size + 1) (by omega) rfl (by rw [hlen]; omega) hc1 (fun h => by simpa using h) (fun _ => .inl (by simp [Mem.put])) (fun _ => by rw [hlen]; omega) (fun j v u hv hu => ?_) (fun j u _ hu => k4 _ u hu) none (fun _ => rfl)
      rw [List.getElem?_take] at hv
      split at hv
      · rw [List.getElem?_drop] at hv
        exact (k3 (off + j) v u hv (by rw [← Nat.add_assoc]; exact hu)).mono hle2 (fun _ _ h => by cases h) (Emb.le_refl _)
      · cases hv
    · simp only [Mem.put] at h
      split at h
      · rename_i e; subst e; cases h; exact hr
      · rename_i e; rw [hne r' e]; exact hH.hro r' o h
    · rw [hne r' (fun e => by subst e; rw [hsep.2] at h; cases h)]; exact hH.hfr r' o h
    · refine (hH.own i b' (set_none hi).1).imp (fun x => x) fun ⟨r', o', s', g1, g2⟩ => ⟨r', o', s', g1, g2.mono hle2 (Emb.le_refl _) (hne r' (hot i b' r' _ hi g1))⟩
    · exact hH.inj i j b1 b2 r' p q (set_none hi).1 (set_none hj).1
    · obtain ⟨g1, g2⟩ := hH.sep i b' r' p (set_none hi).1 hp
      refine ⟨?_, g2⟩
      simp only [Mem.put]
      rw [if_neg (hot i b' r' p hi hp)]; exact g1
    · simp only [Mem.put] at h
      split at h
      · rename_i e; subst e; exact hsep.2
      · exact hH.disj r' o h
theorem zeros_rw {z : AV} {zv : Value} (hz : VR ro noMem Φ z zv) (hzo : z.okc = true) (n : Nat) : Rw ro noMem Φ (repZ z.cells n) (Builtin.zeroCells zv.cells n).toList := by
  have hzr := hz.cells hzo
  have e1 : ∀ n, repZ z.cells n = (List.replicate n z.cells).flatten := by
    intro n
    induction n with
    | zero => rfl
    | succ n ih => rw [repZ, ih, List.replicate_succ, List.flatten_cons]
  have hRrep : ∀ n, Rw ro noMem Φ (List.replicate n z.cells).flatten (List.replicate n zv.cells.toList).flatten := by
    intro n
    induction n with
    | zero => exact Rw.nil
    | succ n ih => rw [List.replicate_succ, List.replicate_succ, List.flatten_cons, List.flatten_cons]; exact hzr.append ih
  have e2 : (Builtin.zeroCells zv.cells n).toList = (List.replicate n zv.cells.toList).flatten := by
    rcases Nat.eq_zero_or_pos zv.cells.size with h | h
    · have : zv.cells.toList = [] := List.eq_nil_of_length_eq_zero (by rw [Array.length_toList]; exact h)
      simp [Builtin.zeroCells, h, this]
    · rw [← range_mod zv.cells.toList default (by rw [Array.length_toList]; exact h), Array.length_toList, Builtin.zeroCells, Array.toList_map, Array.toList_range]
      apply List.map_congr_left
      intro j _
      simp [getElem!_def, List.getD]
      cases zv.cells[j % zv.cells.size]? <;> rfl
  rw [e1, e2]
  exact hRrep n
end
end Go.Fw
namespace Go.Fw
section
variable {P : Program} {ro bo fr : Mem} {Φ : Emb} {e : Env} {H : Heap} {a : Act} {w w' : World}
theorem Hv.wp {K : AV → Heap → Prop} {s : Sem Value} {o : Oper} {Q : Exit → Act → World → Prop} (h : Hv P ro bo fr Φ w K s) (he : (execOp a.eval o).run P w = ((do pure (.value (← s))) : Sem Next).run P w) :
    o.wp P a w (Hpost ro bo fr Φ w a o.dst K) Q := by
  obtain ⟨v, u, H', ro', Φ', w', g1, g2, g3, g4, g5, g6, g7⟩ := h
  unfold Oper.wp
  rw [he]
  simp only [Sem.run_bind, g2, Result.andThen_ok, Sem.run_pure, Oper.upon_value]
  exact ⟨v, u, H', ro', Φ', g1, rfl, g3, g4, g5, g6, g7⟩
theorem callFunc_run {f : FuncId} {args : Array Value} (h : okFn P f = true) : (callFunc f args).run P w = .ok (.enter f args) w := by
  unfold okFn at h
  cases hf : P.funcs[f]? with
  | none => rw [hf] at h; cases h
  | some fn =>
    rw [hf] at h
    simp only [Bool.and_eq_true, Bool.not_eq_true'] at h
    have hb : fn.body.isNone = false := by
      cases hx : fn.body with
      | none => rw [hx] at h; simp at h
      | some _ => rfl
    have hn : ¬ fn.name = "runtime.NumGoroutine" := by have := h.2; simpa using this
    have hb2 : ¬ fn.body = none := fun e => by rw [e] at hb; cases hb
    simp [callFunc, hf, hn, hb2]
theorem call_wp (hH : Holds ro fr Φ H w) (hb : Mem.le bo fr) {f : FuncId} {as : List AV} {vs : Array Value} {r : AV} {H' : Heap} {K : AV → Heap → Prop} {o : Oper} {Q : Exit → Act → World → Prop} (h : FSpec P f as H r H') (hK : K r H')
    (hl : vs.size = as.length) (hv : ∀ (j : Nat) (v : AV) (u : Value), as[j]? = some v → vs[j]? = some u → VR ro bo Φ v u) (he : (execOp a.eval o).run P w = (callFunc f vs).run P w) :
    o.wp P a w (Hpost ro bo fr Φ w a o.dst K) Q := by
  unfold Oper.wp
  rw [he]
  rcases h ro bo fr Φ w vs hl hv hH hb with ⟨hok, h⟩ | ⟨u, w', h1, u2, ro', Φ', h2, g1, g2, g3, g4, g5⟩
  · rw [callFunc_run hok, Oper.upon_enter]
    refine h.mono ?_
    rintro e w' ⟨u, ro', Φ', rfl, g1, g2, g3, g4, g5⟩
    exact ⟨r, u, H', ro', Φ', hK, rfl, g1, g2, g3, g4, g5⟩
  · cases h2
    rw [h1, Oper.upon_value]
    exact ⟨r, u, H', ro', Φ', hK, rfl, g1, g2, g3, g4, g5⟩
theorem low_callP {own : Bool} {op : Op} {f : FuncId} {xs : List Opd} (hl : lowOp P own op = some (.callP f xs)) : ∃ args ts, op = .call ⟨.value (.func f), args, ts⟩ ∧ lowOs args.toList = some xs := by
  cases op <;> simp only [lowOp] at hl <;> try ((repeat' split at hl) <;> first | (cases hl; done) | (obtain ⟨_, _, hh⟩ := map_some hl; cases hh; done))
  case call c =>
    obtain ⟨callee, args, ts⟩ := c
    simp only at hl
    split at hl <;> try ((repeat' split at hl) <;> (cases hl; done))
    split at hl
    · rename_i as has
      split at hl
      · cases hl
      · cases hl; exact ⟨_, _, rfl, has⟩
    · cases hl
theorem callP_sound {own : Bool} {o : Oper} {f : FuncId} {xs : List Opd} (hl : lowOp P own o.op = some (.callP f xs)) (hE : EnvOK ro bo Φ e a) (hH : Holds ro fr Φ H w) (hb : Mem.le bo fr) {K : AV → Heap → Prop}
    (h : ∃ as, e.opds xs = some as ∧ ∃ r, (∀ H, FSpec P f as H r H) ∧ K r H) {Q : Exit → Act → World → Prop} : o.wp P a w (Hpost ro bo fr Φ w a o.dst K) Q := by
  obtain ⟨args, ts, hop, has⟩ := low_callP hl
  obtain ⟨vs, e1, r, hF, hK⟩ := h
  obtain ⟨a1, a2⟩ := opds_sound hE has e1
  refine call_wp hH hb (hF H) hK (vs := args.map a.eval) (by simpa using a1) (fun j v u hv hu => a2 j v u hv (by simpa using hu)) ?_
  have : a.eval (.func f) = .func (.func f) #[] #[] := rfl
  simp [execOp, hop, resolve, this, Deferred.ofValue, invoke]
theorem zsound {el : TypeId} {i : TypeInfo} (hi : P.info? el = some i) (hz : (zeroOf P el).map (·.cells.length) = some i.size) (hok : (zeroOf P el).map (·.okc) = some true) :
    ∃ z : Value, i.zero = some z ∧ (∀ u ∈ z.cells.toList, u.oneCell' = true) ∧ z.cells.size = i.size := by
  cases hzo : zeroOf P el with
  | none => rw [hzo] at hz; cases hz
  | some zv =>
    rw [hzo] at hz hok
    simp at hz hok
    obtain ⟨i', z, h1, h2, h3, _⟩ := zero_parts (w := default) hzo
    rw [hi] at h1; cases h1
    have hR := (absV_sound (ro := noMem) (bo := noMem) (Φ := fun _ => none) h3).cells hok
    exact ⟨z, h2, hR.one, by rw [← Array.length_toList, hR.len, hz]⟩
theorem hv_sound {own : Bool} {o : Oper} {io : IOp} (hl : lowOp P own o.op = some io) (hh : isHv io = true) (hE : EnvOK ro bo Φ e a) (hH : Holds ro fr Φ H w) (hb : Mem.le bo fr) {K : AV → Heap → Prop} (h : hv P io e H K) {Q : Exit → Act → World → Prop} :
    o.wp P a w (Hpost ro bo fr Φ w a o.dst K) Q := by
  cases hop : o.op <;> simp only [hop, lowOp] at hl <;> try (cases hl; done)
  case alloc t =>
    split at hl
    · rename_i z hz
      split at hl
      · rename_i hc
        cases hl
        exact (alloc_sound (P := P) (bo := bo) hH hz hc.1 hc.2 h.1 (Slot.snoc hH _) h.2).wp (by simp [execOp, hop])
      · cases hl
    · cases hl
  case box t x =>
    obtain ⟨y, hy, rfl⟩ := map_some hl
    obtain ⟨v, hv, hok, hc, hT, hK⟩ := h
    have hV := opd_sound hE hy hv
    have hcl : v.clean = true := by
      cases v <;> first | rfl | (simp only [AV.cells, cleanL, Bool.and_eq_true] at hc; first | exact hc.1 | (simpa [AV.clean] using hc)) | cases hok
    exact (box_run (P := P) (bo := bo) hH (hV.noBo hcl) hok hT (Slot.snoc hH _) hK).wp (by simp [execOp, hop, Instr.box])
  case buildSlice t n ps =>
    split at hl
    · rename_i el hT
      split at hl
      · rename_i s z hs hz
        split at hl
        · rename_i hc
          split at hl
          · rename_i l hq
            cases own with
            | false => simp at hl; subst hl; cases hh
            | true =>
              simp at hl; subst hl
              obtain ⟨vs, cs, h1, h2, h3, hel, hK⟩ := h
              exact (buildO_sound (bo := bo) hH hE hT hs hc.1 hc.2.1 hz hc.2.2.1 hc.2.2.2 hq h1 h2 h3 hel hK).wp (by simp [execOp, hop])
          · cases hl
        · cases hl
      · cases hl
    · cases hl
  case store t x v =>
    split at hl <;> cases hl
    rename_i n p c hn hp hc
    obtain ⟨pv, cv, e1, e2, hK⟩ := h
    obtain ⟨H', w', g1, g2, g3, g4⟩ := store_sound (P := P) hH hn (opd_sound hE hp e1) (opd_sound hE hc e2) hK
    unfold Oper.wp
    have : (execOp a.eval o).run P w = .ok .skip w' := by simp [execOp, hop, g2]
    rw [this, Oper.upon_skip]
    exact ⟨_, undef, H', ro, Φ, g1, rfl, .tuple _ _ rfl (by simp), g3, Mem.le_refl _, Emb.le_refl _, g4⟩
  case convert s d x =>
    split at hl
    · cases hl; cases hh
    · split at hl <;> cases hl
      cases hh
    · split at hl <;> cases hl
      cases hh
    · rename_i el0 el y hS hD hy
      split at hl
      · rename_i he
        split at hl
        · rename_i hsd
          subst hsd
          cases hl
          obtain ⟨id, off, len, cap, b, e1, hb1, h0, hle, hK⟩ := h
          exact (cvt_sound (bo := bo) hH hD he (opd_sound hE hy e1) hb1 h0 hle hK).wp (by simp [execOp, hop])
        · cases hl
      · cases hl
    · cases hl
  case makeSlice t l c =>
    split at hl
    · rename_i el hT
      split at hl
      · rename_i i z l' c' hi hz hl' hc'
        split at hl
        · rename_i hc
          cases hl
          obtain ⟨k, lv, cv, e1, e2, hbd, hel, hK⟩ := h
          have hV1 := (opd_sound hE hl' e1).int_inv
          have hV2 := (opd_sound hE hc' e2).int_inv
          have := makeS_sound (bo := bo) (k := k) hH hT hi hz hc.1 hc.2.1 hc.2.2.1 hc.2.2.2 hbd hel (Slot.snoc hH _) hK
          exact this.wp (by simp [execOp, hop, hV1, hV2])
        · cases hl
      · cases hl
    · cases hl
  case call c =>
    obtain ⟨callee, args, argTypes⟩ := c
    simp only at hl
    have arr2 : ∀ {α : Type} {xs : Array α} {x y : α}, xs.toList = [x, y] → xs = #[x, y] := fun h => by apply Array.ext'; simpa using h
    split at hl
    · split at hl
      · split at hl <;> (cases hl; try cases hh)
      · cases hl
    ·
      split at hl
      · rename_i x y t u hx ht
        have hx := arr2 hx
        have ht := arr2 ht
        subst hx; subst ht
        have go : ∀ {el : TypeId} {i : TypeInfo} {x' y' : Opd}, P.underlying t = some (.slice el) → apTy P t u → lowO x = some x' → lowO y = some y' → P.info? el = some i → 0 < i.size → (zeroOf P el).map (·.cells.length) = some i.size → (zeroOf P el).map (·.okc) = some true → io = .appO el i.size i.bytes x' y' →
            o.wp P a w (Hpost ro bo fr Φ w a o.dst K) Q := by
          intro el i x' y' hT hU hx' hy' hi hs0 hz hzo hio
          subst hio
          obtain ⟨v, w2, ys, e1, e2, e3, e4, e5, hel, hK⟩ := h
          obtain ⟨z, z1, z2, z3⟩ := zsound hi hz hzo
          refine (appO_sound (ty := o.type) hH hb hT hU hi hs0 z1 z2 z3 (opd_sound hE hx' e1) (opd_sound hE hy' e2) e3 e4 e5 hel hK).wp ?_
          simp [execOp, hop, resolve, invoke, builtin]
        split at hl
        · rename_i el el2 x' y' hT hU hx' hy'
          split at hl
          · rename_i i hi
            split at hl
            · rename_i hc
              cases own with
              | false => simp at hl; subst hl; cases hh
              | true => simp at hl; exact go hT (.inr ⟨_, hU, rfl⟩) hx' hy' hi hc.1 hc.2.1 hc.2.2 hl.symm
            · cases hl
          · cases hl
        · rename_i el x' y' hT hU hx' hy'
          split at hl
          · rename_i i hi
            split at hl
            · rename_i hc
              cases own with
              | false => simp at hl; subst hl; cases hh
              | true => simp at hl; exact go hT (.inl hU) hx' hy' hi hc.1 hc.2.1 hc.2.2 hl.symm
            · cases hl
          · cases hl
        · rename_i el k2 x' k3 n hT hU hx' hy'
          split at hl
          · rename_i i z hi hz
            split at hl
            · rename_i hc
              obtain ⟨-, n1, n2, n3, n4, n5, n6, n7⟩ := hc
              cases hl
              obtain ⟨v, w2, ys, e1, e2, e3, e4, e5, hel, hK⟩ := h
              obtain ⟨i', zv, z1, z2, z3, _⟩ := zero_parts (w := w) hz
              rw [hi] at z1; cases z1
              have hzr := (absV_sound (ro := ro) (bo := noMem) (Φ := Φ) z3)
              have hzc := hzr.cells n5
              simp only [Env.opd, Option.some.injEq] at e2
              subst e2
              simp only [sliceCells, Option.some.injEq] at e3
              subst e3
              obtain ⟨m, rfl⟩ := Int.eq_ofNat_of_zero_le (Int.le_of_lt n1)
              have hR := zeros_rw (n := m) hzr n5
              have n3' : m * i.bytes ≤ 140737488355328 := by
                have h := n3
                rw [← Int.natCast_mul] at h
                omega
              have hly : ∀ k, (repZ z.cells k).length = k * i.size := by
                intro k
                induction k with
                | zero => simp [repZ]
                | succ k ih => rw [repZ, List.length_append, ih, n6, Nat.add_mul]; omega
              have hlen := hly m
              have hev : a.eval y = .int k3 (m : Int) := (opd_sound hE hy' (v := .int k3 (m : Int)) rfl).int_inv
              refine (appO_core (ty := o.type) (x2 := .int k3 (m : Int)) hH hb n4 hzc.one (by rw [← Array.length_toList, hzc.len, n6]) (Src.zero hT hU hi z2 (by omega) (by omega) n3' n4) (opd_sound hE hx' e1) hlen hR hR hel hK).wp ?_
              simp [execOp, hop, resolve, invoke, builtin, hev]
            · cases hl
          · cases hl
        · cases hl
      · cases hl
    ·
      split at hl
      · rename_i x y t u hx ht
        have hx := arr2 hx
        have ht := arr2 ht
        subst hx; subst ht
        split at hl
        · rename_i el x' y' hT hx' hy'
          split at hl
          · rename_i s hs
            split at hl
            · rename_i hs0
              cases hl
              obtain ⟨v, w2, ys, e1, e2, e3, e4, e5, e6, hK⟩ := h
              refine (copy_sound (ty := o.type) (u := u) hH hb hT hs hs0 (opd_sound hE hx' e1) (opd_sound hE hy' e2) e3 e4 e5 e6 hK).wp ?_
              simp [execOp, hop, resolve, invoke, builtin]
            · cases hl
          · cases hl
        · cases hl
      · cases hl
    · split at hl
      · split at hl <;> (cases hl; try cases hh)
      · cases hl
    · split at hl
      · split at hl <;> (cases hl; try cases hh)
      · cases hl
    ·
      rename_i f
      split at hl
      · rename_i as has
        split at hl
        · cases hl
          obtain ⟨vs, e1, r, H', hF, hK⟩ := h
          obtain ⟨a1, a2⟩ := opds_sound hE has e1
          refine call_wp hH hb hF hK (vs := args.map a.eval) (by simpa using a1) (fun j v u hv hu => a2 j v u hv (by simpa using hu)) ?_
          have : a.eval (.func f) = .func (.func f) #[] #[] := rfl
          simp [execOp, hop, resolve, this, Deferred.ofValue, invoke]
        · cases hl; cases hh
      · cases hl
    ·
      split at hl <;> cases hl
      rename_i y as hy has
      obtain ⟨g, caps, vs, e0, e1, hok, r, H', hF, hK⟩ := h
      obtain ⟨a1, a2⟩ := opds_sound hE has e1
      have hV := opd_sound hE hy e0
      rename_i x _ _ _
      generalize hx : a.eval x = u at hV
      cases hV with
      | func _ _ _ us cs h1 h2 hx1 hy1 =>
        have hus : us = #[] := by simpa using h1
        subst hus
        refine call_wp hH hb hF hK (vs := args.map a.eval ++ cs) (by simp [h2]; simpa using a1) (fun j v u hv hu => ?_) ?_
        · have hal : args.size = vs.length := by simpa using a1
          rcases Nat.lt_or_ge j vs.length with hj | hj
          · rw [List.getElem?_append_left hj] at hv
            rw [Array.getElem?_append_left (by simp; omega)] at hu
            exact a2 j v u hv (by simpa using hu)
          · rw [List.getElem?_append_right hj] at hv
            rw [Array.getElem?_append_right (by simp; omega)] at hu
            exact hy1 _ v u hv (by simpa [hal] using hu)
        · simp [execOp, hop, resolve, hx, Deferred.ofValue, invoke, callFunc_run hok]
    · cases hl
  all_goals ((repeat' (split at hl)) <;> first | (cases hl; done) | (cases hl; cases hh; done) | (obtain ⟨_, _, rfl⟩ := map_some hl; cases hh; done))
inductive Aft : IOp → IOp → Prop
  | alloc (L k T : Nat) (z : List AV) : Aft (.alloc T z) (.allocA L k T z)
  | makeS (L k T s by_ : Nat) (z : List AV) (l c : Opd) : Aft (.makeS T s by_ z l c) (.makeA L k T s by_ z l c)
theorem aft_sound {own : Bool} {o : Oper} {io io' : IOp} (hl : lowOp P own o.op = some io) (ha : Aft io io') (hE : EnvOK ro bo Φ e a) (hH : Holds ro fr Φ H w) {K : AV → Heap → Prop} (h : opWP P io' e H K) {Q : Exit → Act → World → Prop} :
    o.wp P a w (Hpost ro bo fr Φ w a o.dst K) Q := by
  cases ha with
  | alloc L k T z =>
    cases hop : o.op <;> simp only [hop, lowOp] at hl <;> try (cases hl; done)
    case alloc t =>
      split at hl
      · rename_i z hz
        split at hl
        · rename_i hc
          cases hl
          have h : hv P (.allocA L k _ _) e H K := h
          exact (alloc_sound (P := P) (bo := bo) hH hz hc.1 hc.2 h.2.1 (Slot.res hH _ h.1) h.2.2).wp (by simp [execOp, hop])
        · cases hl
      · cases hl
    all_goals ((repeat' (split at hl)) <;> first | (cases hl; done) | (obtain ⟨_, _, hx⟩ := map_some hl; cases hx; done))
  | makeS L k T s by_ z l0 c0 =>
    cases hop : o.op <;> simp only [hop, lowOp] at hl <;> try (cases hl; done)
    case makeSlice t l c =>
      split at hl
      · rename_i el hT
        split at hl
        · rename_i i z l' c' hi hz hl' hc'
          split at hl
          · rename_i hc
            cases hl
            have h : hv P (.makeA L k _ _ _ _ l0 c0) e H K := h
            obtain ⟨k, lv, cv, e1, e2, hr, hbd, hel, hK⟩ := h
            have hV1 := (opd_sound hE hl' e1).int_inv
            have hV2 := (opd_sound hE hc' e2).int_inv
            have := makeS_sound (bo := bo) (k := k) hH hT hi hz hc.1 hc.2.1 hc.2.2.1 hc.2.2.2 hbd hel (Slot.res hH _ hr) hK
            exact this.wp (by simp [execOp, hop, hV1, hV2])
          · cases hl
        · cases hl
      · cases hl
    all_goals ((repeat' (split at hl)) <;> first | (cases hl; done) | (obtain ⟨_, _, hx⟩ := map_some hl; cases hx; done))
end
end Go.Fw
namespace Go.Fw
mutual
def AV.sub (s : Nat → Nat → Nat → Nat → Option Nat → AV) (p : Nat → Nat → AV) : AV → AV
  | .slice e id off len kc => s e id off len kc
  | .ptr id off => p id off
  | .list e m xs => .list e m (subL s p xs)
  | .rptr b xs => .rptr b (subL s p xs)
  | .agg xs => .agg (subL s p xs)
  | .tuple xs => .tuple (subL s p xs)
  | .func f a b => .func f (subL s p a) (subL s p b)
  | .iface t v => .iface t (AV.sub s p v)
  | .bool b => .bool b
  | .int k n => .int k n
  | .str l => .str l
  | .nil => .nil
  | .nilFunc => .nilFunc
  | .nilIface => .nilIface
  | .map k l => .map k l
def subL (s : Nat → Nat → Nat → Nat → Option Nat → AV) (p : Nat → Nat → AV) : List AV → List AV
  | [] => []
  | x :: l => AV.sub s p x :: subL s p l
end
mutual
def AV.ids (q : Nat → Bool) : AV → Bool
  | .ptr id _ => q id
  | .slice _ id _ _ _ => q id
  | .list _ _ xs => idsL q xs
  | .rptr _ xs => idsL q xs
  | .agg xs => idsL q xs
  | .tuple xs => idsL q xs
  | .func _ a b => idsL q a && idsL q b
  | .iface _ v => AV.ids q v
  | .bool _ => true
  | .int _ _ => true
  | .str _ => true
  | .nil => true
  | .nilFunc => true
  | .nilIface => true
  | .map _ _ => true
def idsL (q : Nat → Bool) : List AV → Bool
  | [] => true
  | x :: l => AV.ids q x && idsL q l
end
section
variable {P : Program} {ro bo fr ro' bo' : Mem} {Φ Φ' : Emb} {H H' : Heap} {w w' : World} {s : Nat → Nat → Nat → Nat → Option Nat → AV} {p : Nat → Nat → AV} {q : Nat → Bool}
theorem subL_length : ∀ xs : List AV, (subL s p xs).length = xs.length
  | [] => rfl
  | x :: l => by simp [subL, subL_length l]
theorem subL_get : ∀ (xs : List AV) (j : Nat) (v : AV), (subL s p xs)[j]? = some v → ∃ x, xs[j]? = some x ∧ v = x.sub s p
  | [], j, v, h => by simp [subL] at h
  | x :: l, 0, v, h => by simp [subL] at h; exact ⟨x, by simp, h.symm⟩
  | x :: l, j + 1, v, h => by simp [subL] at h; obtain ⟨y, h1, h2⟩ := subL_get l j v h; exact ⟨y, by simpa using h1, h2⟩
theorem idsL_get : ∀ {xs : List AV}, idsL q xs = true → ∀ (j : Nat) (x : AV), xs[j]? = some x → x.ids q = true
  | [], _, j, x, h => by simp at h
  | y :: l, hc, 0, x, h => by simp [idsL] at hc h; subst h; exact hc.1
  | y :: l, hc, j + 1, x, h => by simp [idsL] at hc; exact idsL_get hc.2 j x (by simpa using h)
theorem VR.subst (hs : ∀ e id off len kc u, q id = true → VR ro bo Φ (.slice e id off len kc) u → VR ro' bo' Φ' (s e id off len kc) u) (hp : ∀ id off u, q id = true → VR ro bo Φ (.ptr id off) u → VR ro' bo' Φ' (p id off) u)
    (hr : Mem.le ro ro') (hb : Mem.le bo bo') {v : AV} {u : Value} (hv : VR ro bo Φ v u) : v.ids q = true → VR ro' bo' Φ' (v.sub s p) u := by
  induction hv with
  | bool b => intro _; exact .bool b
  | int k n => intro _; exact .int k n
  | str l s h => intro _; exact .str l s h
  | nil => intro _; exact .nil
  | ptr id off r o s h => intro hc; exact hp id off _ hc (.ptr id off r o s h)
  | rptr bw xs r off c T fz hm hl hx ho ih =>
    intro hc
    refine .rptr bw _ r off c T fz (sel_mono hr hb hm) (by rw [subL_length]; exact hl) (fun j v u hv hu => ?_) (fun j u hj hu => ho j u (by rw [subL_length] at hj; exact hj) hu)
    obtain ⟨x, h1, rfl⟩ := subL_get _ _ _ hv
    exact ih j x u h1 hu (idsL_get hc j x h1)
  | slice e id off len cap o' kc r o s h he h1 h2 h3 h4 => intro hc; exact hs e id off len kc _ hc (.slice e id off len cap o' kc r o s h he h1 h2 h3 h4)
  | sliceE e id off a he => intro hc; exact hs e id off 0 none _ hc (.sliceE e id off a he)
  | listNil e m he => intro _; exact .listNil e m he
  | list e m xs r off len cap c T fz he hm hlen h1 hf hmm hl hx ho sp hsp ih =>
    intro hc
    have hne : subL s p xs ≠ [] → xs ≠ [] := fun k e => k (by rw [e]; rfl)
    refine .list e m _ r off len cap c T fz he hm (by rw [subL_length]; exact hlen) h1 hf (fun k => sel_mono hr hb (hmm (hne k))) (fun k => by rw [subL_length]; exact hl (hne k)) (fun j v u hv hu => ?_) (fun j u hj hu => ho j u (by rw [subL_length] at hj; exact hj) hu) sp (fun k => hsp (hne k))
    obtain ⟨x, g1, rfl⟩ := subL_get _ _ _ hv
    exact ih j x u g1 hu (idsL_get hc j x g1)
  | func f xs ys us vs h1 h2 hx hy ih1 ih2 =>
    intro hc
    simp only [AV.ids, Bool.and_eq_true] at hc
    refine .func f _ _ us vs (by rw [subL_length]; exact h1) (by rw [subL_length]; exact h2) (fun j v u hv hu => ?_) (fun j v u hv hu => ?_)
    · obtain ⟨x, g1, rfl⟩ := subL_get _ _ _ hv; exact ih1 j x u g1 hu (idsL_get hc.1 j x g1)
    · obtain ⟨x, g1, rfl⟩ := subL_get _ _ _ hv; exact ih2 j x u g1 hu (idsL_get hc.2 j x g1)
  | nilFunc => intro _; exact .nilFunc
  | iface t v u h ih => intro hc; exact .iface t _ u (ih (by simpa [AV.ids] using hc))
  | nilIface => intro _; exact .nilIface
  | map k kvs r es clock hm he => intro _; exact .map k kvs r es clock (hr _ _ hm) he
  | agg xs c h1 hx ho ih =>
    intro hc
    refine .agg _ c (by rw [subL_length]; exact h1) (fun j v u hv hu => ?_) ho
    obtain ⟨x, g1, rfl⟩ := subL_get _ _ _ hv; exact ih j x u g1 hu (idsL_get (by simpa [AV.ids] using hc) j x g1)
  | tuple xs c h1 hx ih =>
    intro hc
    refine .tuple _ c (by rw [subL_length]; exact h1) (fun j v u hv hu => ?_)
    obtain ⟨x, g1, rfl⟩ := subL_get _ _ _ hv; exact ih j x u g1 hu (idsL_get (by simpa [AV.ids] using hc) j x g1)
mutual
theorem AV.ids_true : ∀ v : AV, v.ids (fun _ => true) = true
  | .ptr _ _ => rfl
  | .slice .. => rfl
  | .list _ _ xs => idsL_true xs
  | .rptr _ xs => idsL_true xs
  | .agg xs => idsL_true xs
  | .tuple xs => idsL_true xs
  | .func _ a b => by simp [AV.ids, idsL_true a, idsL_true b]
  | .iface _ v => AV.ids_true v
  | .bool _ => rfl
  | .int _ _ => rfl
  | .str _ => rfl
  | .nil => rfl
  | .nilFunc => rfl
  | .nilIface => rfl
  | .map _ _ => rfl
theorem idsL_true : ∀ xs : List AV, idsL (fun _ => true) xs = true
  | [] => rfl
  | x :: l => by simp [idsL, AV.ids_true x, idsL_true l]
end
def rnS (ρ : Nat → Nat) (e i off len : Nat) (kc : Option Nat) : AV := .slice e (ρ i) off len kc
def rnP (ρ : Nat → Nat) (i off : Nat) : AV := .ptr (ρ i) off
def AV.ren (ρ : Nat → Nat) (v : AV) : AV := v.sub (rnS ρ) (rnP ρ)
def renL (ρ : Nat → Nat) (l : List AV) : List AV := subL (rnS ρ) (rnP ρ) l
theorem VR.ren {ρ : Nat → Nat} {q : Nat → Bool} (h : ∀ i p, q i = true → Φ i = some p → Φ' (ρ i) = some p) (hr : Mem.le ro ro') (hb : Mem.le bo bo') {v : AV} {u : Value} (hv : VR ro bo Φ v u) (hq : v.ids q = true) : VR ro' bo' Φ' (v.ren ρ) u := by
  refine VR.subst (q := q) ?_ ?_ hr hb hv hq
  · intro e i off len kc u hi hv
    cases hv with
    | slice _ _ _ _ cap o' _ r o s hh he h1 h2 h3 h4 => exact .slice e _ off len cap o' kc r o s (h i _ hi hh) he h1 h2 h3 h4
    | sliceE _ _ _ a he => exact .sliceE e _ off a he
  · intro i off u hi hv
    cases hv with
    | ptr _ _ r o s hh => exact .ptr _ off r o s (h i _ hi hh)
def Blk.ren (ρ : Nat → Nat) (b : Blk) : Blk := ⟨renL ρ b.cells, b.elem, b.exact⟩
def bwd (σ : List Nat) (k : Nat) : Nat := σ.idxOf k
theorem subL_bv (s : Nat → Nat → Nat → Nat → Option Nat → AV) (p : Nat → Nat → AV) (l : List UInt8) : subL s p (l.map bv) = l.map bv := by
  induction l with
  | nil => rfl
  | cons x l ih => simp only [List.map_cons, subL, ih]; rfl
theorem idsL_bv (q : Nat → Bool) (l : List UInt8) : idsL q (l.map bv) = true := by
  induction l with
  | nil => rfl
  | cons x l ih => simp only [List.map_cons, idsL, ih]; rfl
theorem subL_append (s : Nat → Nat → Nat → Nat → Option Nat → AV) (p : Nat → Nat → AV) (a b : List AV) : subL s p (a ++ b) = subL s p a ++ subL s p b := by
  induction a with
  | nil => rfl
  | cons x a ih => simp [subL, ih]
theorem idsL_append (q : Nat → Bool) (a b : List AV) : idsL q (a ++ b) = (idsL q a && idsL q b) := by
  induction a with
  | nil => simp [idsL]
  | cons x a ih => simp [idsL, ih, Bool.and_assoc]
theorem bwd_get {σ : List Nat} {k : Nat} (h : k ∈ σ) : σ[bwd σ k]? = some k := by
  have hlt := List.idxOf_lt_length_of_mem h
  unfold bwd
  rw [List.getElem?_eq_getElem hlt, List.getElem_idxOf hlt]
theorem bwd_of {σ : List Nat} (hn : σ.Nodup) {i k : Nat} (h : σ[i]? = some k) : bwd σ k = i := by
  have hm : k ∈ σ := List.mem_of_getElem? h
  have h1 := bwd_get hm
  have hi : i < σ.length := (List.getElem?_eq_some_iff.1 h).1
  exact ((List.getElem?_inj hi hn).1 (by rw [h, h1])).symm
end
end Go.Fw
namespace Go.Fw
def toBytes : List AV → Option (List UInt8)
  | [] => some []
  | .int .u8 n :: l => match toBytes l with
    | some bs => if 0 ≤ n ∧ n < 256 then some (UInt8.ofNat n.toNat :: bs) else none
    | none => none
  | _ => none
def pickF (c : Bool) (a b : Option AV) : Option AV := match c with
  | true => a
  | false => b
abbrev R1 := Option (Prop × AV)
def ok1 (v : AV) : R1 := some (True, v)
def intF (op : BinOp) (k : IntKind) (a : Int) (k' : IntKind) (b : Int) : R1 :=
  match op with
  | .add => some (k = k', .int k (k.wrap (a + b)))
  | .sub => some (k = k', .int k (k.wrap (a - b)))
  | .mul => some (k = k', .int k (k.wrap (a * b)))
  | .quo => some (k = k' ∧ b ≠ 0, .int k (k.wrap (a.tdiv b)))
  | .rem => some (k = k' ∧ b ≠ 0, .int k (a.tmod b))
  | .and => some (k = k', .int k (bitI .and k a b))
  | .or => some (k = k', .int k (bitI .or k a b))
  | .xor => some (k = k', .int k (bitI .xor k a b))
  | .andNot => some (k = k', .int k (bitI .andNot k a b))
  | .shl => some (0 ≤ b, .int k (k.wrap (a * 2 ^ (Min.min b.toNat k.bits))))
  | .shr => some (0 ≤ b, .int k (a.fdiv (2 ^ (Min.min b.toNat k.bits))))
  | .eql => some (k = k', .bool (decide (a = b)))
  | .neq => some (k = k', .bool (decide (¬ a = b)))
  | .lss => some (k = k', .bool (decide (a < b)))
  | .leq => some (k = k', .bool (decide (a ≤ b)))
  | .gtr => some (k = k', .bool (decide (b < a)))
  | .geq => some (k = k', .bool (decide (b ≤ a)))
def binF (isb : Bool) (op : BinOp) (v w : AV) : R1 :=
  match v, w with
  | .int k a, .int k' b => match isb with
    | false => intF op k a k' b
    | true => none
  | .str a, .str b => match isb, op with
    | false, .add => some (a.length + b.length < 9223372036854775808, .str (a ++ b))
    | false, .eql => ok1 (.bool (decide (a = b)))
    | false, .neq => ok1 (.bool (decide (¬ a = b)))
    | _, _ => none
  | .bool a, .bool b => match isb, op with
    | true, .eql => ok1 (.bool (decide (a = b)))
    | true, .neq => ok1 (.bool (decide (¬ a = b)))
    | _, _ => none
  | _, _ => none
def nilF (neg : Bool) (q : Nat) (v : AV) : R1 :=
  match q, v with
  | 0, .nil => ok1 (.bool (!neg))
  | 0, .ptr _ _ => ok1 (.bool neg)
  | 0, .rptr _ _ => ok1 (.bool neg)
  | 1, .list _ m xs => some (m.nl = true ∨ xs ≠ [], .bool (m.nl != neg))
  | 2, .nilFunc => ok1 (.bool (!neg))
  | 2, .func _ _ _ => ok1 (.bool neg)
  | 3, .nilIface => ok1 (.bool (!neg))
  | 3, .iface _ _ => ok1 (.bool neg)
  | _, _ => none
def eqAF (neg : Bool) (ks : List IntKind) (v w : AV) : R1 :=
  match v, w with
  | .agg xs, .agg ys => some (hasK ks xs = true ∧ hasK ks ys = true, .bool (if neg then decide (¬ ints xs = ints ys) else decide (ints xs = ints ys)))
  | _, _ => none
def unF (op : UnOp) (v : AV) : R1 :=
  match op, v with
  | .neg, .int k n => ok1 (.int k (k.wrap (0 - n)))
  | .xor, .int k n => ok1 (.int k (bitI .xor k (if k.signed then -1 else k.max) n))
  | .not, .bool b => ok1 (.bool (!b))
  | _, _ => none
def convF (k : IntKind) (v : AV) : R1 := match v with
  | .int _ n => ok1 (.int k (k.wrap n))
  | _ => none
def toStrF (H : Heap) (v : AV) : R1 := match sliceCells H v with
  | some xs => match toBytes xs with
    | some l => some (oneSl v = true, .str l)
    | none => none
  | none => none
def ofStrF (v : AV) : R1 := match v with
  | .str l => ok1 (.list 1 ⟨false, false, false⟩ (l.map bv))
  | _ => none
def loadF (H : Heap) (v : AV) (n : Option Nat) : R1 :=
  match v with
  | .ptr id off => match H.blk id with
    | some b => match n with
      | none => match b.cells[off]? with
        | some c => ok1 c
        | none => none
      | some n => some (off + n ≤ b.cells.length, .agg ((b.cells.drop off).take n))
    | none => none
  | .rptr _ xs => match n with
    | none => match xs[0]? with
      | some c => ok1 c
      | none => none
    | some n => some (n ≤ xs.length, .agg (xs.take n))
  | _ => none
def nchkF (v : AV) : R1 := match v with
  | .ptr _ _ => ok1 v
  | .rptr _ _ => ok1 v
  | .func (.func _) _ _ => ok1 v
  | _ => none
def faF (o : Nat) (v : AV) : R1 := match v with
  | .ptr id off => ok1 (.ptr id (off + o))
  | .rptr b xs => some (o ≤ xs.length, .rptr b (xs.drop o))
  | _ => none
def fldF (o : Nat) (v : AV) (n : Option Nat) : R1 := match v with
  | .agg xs => match n with
    | none => match xs[o]? with
      | some c => ok1 c
      | none => none
    | some n => some (o + n ≤ xs.length, .agg ((xs.drop o).take n))
  | _ => none
def idxAF (len s : Nat) (v i : AV) : R1 := match i with
  | .int _ n => match v with
    | .ptr id off => some (0 ≤ n ∧ n < len, .ptr id (off + n.toNat * s))
    | .rptr b xs => some ((0 ≤ n ∧ n < len) ∧ n.toNat * s ≤ xs.length, .rptr b (xs.drop (n.toNat * s)))
    | _ => none
  | _ => none
def idxSF (s : Nat) (v i : AV) : R1 := match i with
  | .int _ n => match v with
    | .slice s' id off len _ => some (s' = s ∧ (0 ≤ n ∧ n < len), .ptr id (off + n.toNat * s))
    | .list s' m xs => some (s' = s ∧ (0 ≤ n ∧ n.toNat * s < xs.length), .rptr m.bw (xs.drop (n.toNat * s)))
    | _ => none
  | _ => none
def ixAF (len s : Nat) (a : Option Nat) (v i : AV) : R1 := match i with
  | .int _ n => match v with
    | .agg xs => match a with
      | none => match xs[n.toNat * s]? with
        | some c => some (0 ≤ n ∧ n < len, c)
        | none => none
      | some m => some ((0 ≤ n ∧ n < len) ∧ n.toNat * s + m ≤ xs.length, .agg ((xs.drop (n.toNat * s)).take m))
    | _ => none
  | _ => none
def bndF (len cap : Nat) (lo hi mx : Option AV) : Option (Prop × Nat × Nat × Nat) :=
  match lo, hi, mx with
  | none, none, none => some (len ≤ cap, 0, len, cap)
  | some (.int _ l), none, none => some (0 ≤ l ∧ l ≤ len ∧ len ≤ cap, l.toNat, len, cap)
  | none, some (.int _ h), none => some (0 ≤ h ∧ h ≤ cap, 0, h.toNat, cap)
  | some (.int _ l), some (.int _ h), none => some (0 ≤ l ∧ l ≤ h ∧ h ≤ cap, l.toNat, h.toNat, cap)
  | none, some (.int _ h), some (.int _ m) => some (0 ≤ h ∧ h ≤ m ∧ m ≤ cap, 0, h.toNat, m.toNat)
  | some (.int _ l), some (.int _ h), some (.int _ m) => some (0 ≤ l ∧ l ≤ h ∧ h ≤ m ∧ m ≤ cap, l.toNat, h.toNat, m.toNat)
  | _, _, _ => none
def slSF (e : Nat) (v : AV) (lo hi mx : Option AV) : R1 :=
  match v with
  | .slice e' id off len kc => match kc with
    | some c => match bndF len c lo hi mx with
      | some (p, l, h, m) => some (e' = e ∧ p, .slice e id (off + l * e) (h - l) (some (m - l)))
      | none => none
    | none => match mx with
      | none => match bndF len len lo hi none with
        | some (p, l, h, _) => some (e' = e ∧ p, .slice e id (off + l * e) (h - l) none)
        | none => none
      | some _ => none
  | .list e' m xs => match bndF (xs.length / e) (xs.length / e) lo hi mx with
    | some (p, l, h, c) => some ((m.nl = true ∨ e' = e) ∧ p, .list e ⟨m.nl, (match mx with | some _ => decide (c = h) | none => m.full && decide (h = xs.length / e)), m.bw⟩ ((xs.drop (l * e)).take ((h - l) * e)))
    | none => none
  | _ => none
def slAF (H : Heap) (s n : Nat) (v : AV) (lo hi mx : Option AV) : R1 :=
  match bndF n n lo hi mx with
  | some (p, a, b, c) => match v with
    | .ptr id off => match H.blk id with
      | some bl => some (off + n * s ≤ bl.cells.length ∧ p, .slice s id (off + a * s) (b - a) (some (c - a)))
      | none => none
    | .rptr bw xs => some (n * s ≤ xs.length ∧ p, .list s ⟨false, decide (c = b), bw⟩ ((xs.drop (a * s)).take ((b - a) * s)))
    | _ => none
  | none => none
def lenF (b : Bool) (v : AV) : R1 := match v with
  | .slice _ _ _ n _ => some (b = true, .int .i64 n)
  | .list s _ xs => some (b = true, .int .i64 (xs.length / s : Nat))
  | .str l => some (b = false, .int .i64 l.length)
  | _ => none
def appFF (H : Heap) (s by_ : Nat) (v w : AV) : R1 := match sliceCells H w with
  | some ys => match v with
    | .list s' m xs => some (szAV w s = true ∧ (m.nl = true ∨ s' = s) ∧ (m.nl = true ∨ m.full = true) ∧ ((xs.length + ys.length) / s * by_ ≤ 140737488355328 ∧ (xs.length + ys.length) / s ≤ 9223372036854775807),
        .list s ⟨m.nl && ys.isEmpty, false, m.bw⟩ (xs ++ ys))
    | _ => none
  | none => none
def extF (i : Nat) (v : AV) : R1 := match v with
  | .tuple vs => match vs[i]? with
    | some c => ok1 c
    | none => none
  | _ => none
def s2aF (n s : Nat) (v : AV) : R1 := match v with
  | .slice s' id off len _ => some (s' = s ∧ 0 < n ∧ n ≤ len, .ptr id off)
  | .list s' m xs => some (s' = s ∧ 0 < n ∧ n * s ≤ xs.length, .rptr m.bw xs)
  | _ => none
def mmF (mx : Bool) (v w : AV) : R1 := match v, w with
  | .int k a, .int k' b => some (k = k', .int k (if mx then Max.max a b else Min.min a b))
  | _, _ => none
def bind1 (o : Option AV) (f : AV → R1) : R1 := match o with
  | some v => f v
  | none => none
def bind2 (o p : Option AV) (f : AV → AV → R1) : R1 := match o, p with
  | some v, some w => f v w
  | _, _ => none
def bindS (o : Option AV) (l h m : Option (Option AV)) (f : AV → Option AV → Option AV → Option AV → R1) : R1 := match o, l, h, m with
  | some v, some l, some h, some m => f v l h m
  | _, _, _, _ => none
def aggF (o : Option (List (Nat × Nat × AV))) (z : List AV) (f : List AV → AV) : R1 := match o with
  | some vs => match fillA z vs with
    | some cs => ok1 (f cs)
    | none => none
  | none => none
def okO (o : Option AV) : R1 := match o with
  | some v => ok1 v
  | none => none
def pickO (o a b : Option AV) : R1 := match o with
  | some (.bool c) => okO (pickF c a b)
  | _ => none
def lookF (ok : Bool) (z : AV) (v w : AV) : R1 := match v, w with
  | .map k kvs, .int k' n => some (k' = k, lookV ok z kvs n)
  | _, _ => none
def evF (o : IOp) (e : Env) (H : Heap) : R1 :=
  match o with
  | .mv x => okO (e.opd x)
  | .pick c a b => pickO (e.opd c) (e.opd a) (e.opd b)
  | .bin i op x y => bind2 (e.opd x) (e.opd y) (binF i op)
  | .isNil neg q x => bind1 (e.opd x) (nilF neg q)
  | .eqA neg ks x y => bind2 (e.opd x) (e.opd y) (eqAF neg ks)
  | .un op x => bind1 (e.opd x) (unF op)
  | .convI k x => bind1 (e.opd x) (convF k)
  | .toStr x => bind1 (e.opd x) (toStrF H)
  | .ofStr _ x => bind1 (e.opd x) ofStrF
  | .build z ps => aggF (e.parts ps) z .agg
  | .buildF _ n z ps => aggF (e.parts ps) z (.list n ⟨false, true, false⟩)
  | .load n x => bind1 (e.opd x) fun v => loadF H v n
  | .nilCheck x => bind1 (e.opd x) nchkF
  | .fieldAddr o x => bind1 (e.opd x) (faF o)
  | .field o n x => bind1 (e.opd x) fun v => fldF o v n
  | .idxA len s x i => bind2 (e.opd x) (e.opd i) (idxAF len s)
  | .idxS s x i => bind2 (e.opd x) (e.opd i) (idxSF s)
  | .ixA len s a x i => bind2 (e.opd x) (e.opd i) (ixAF len s a)
  | .slS s x lo hi mx => bindS (e.opd x) (e.opdO lo) (e.opdO hi) (e.opdO mx) (slSF s)
  | .slA s n x lo hi mx => bindS (e.opd x) (e.opdO lo) (e.opdO hi) (e.opdO mx) (slAF H s n)
  | .len b x => bind1 (e.opd x) (lenF b)
  | .lenK n => ok1 (.int .i64 n)
  | .appF _ s by_ x y => bind2 (e.opd x) (e.opd y) (appFF H s by_)
  | .extract i x => bind1 (e.opd x) (extF i)
  | .s2a n s x => bind1 (e.opd x) (s2aF n s)
  | .func f first caps => match e.opds first, e.opds caps with
    | some xs, some ys => ok1 (.func f xs ys)
    | _, _ => none
  | .iface t x => bind1 (e.opd x) fun v => ok1 (.iface t v)
  | .look ok z x i => bind2 (e.opd x) (e.opd i) (lookF ok z)
  | .min x y => bind2 (e.opd x) (e.opd y) (mmF false)
  | .max x y => bind2 (e.opd x) (e.opd y) (mmF true)
  | _ => none
theorem toBytes_sound : ∀ {xs : List AV} {l : List UInt8}, toBytes xs = some l → xs = l.map bv := by
  intro xs
  induction xs with
  | nil => intro l h; simp [toBytes] at h; subst h; rfl
  | cons x xs ih =>
    intro l h
    cases x <;> try (simp [toBytes] at h; done)
    rename_i k n
    cases k <;> try (simp [toBytes] at h; done)
    simp only [toBytes] at h
    cases hb : toBytes xs with
    | none => rw [hb] at h; cases h
    | some bs =>
      rw [hb] at h
      simp only at h
      split at h
      · rename_i hr
        cases h
        rw [ih hb, List.map_cons]
        congr 1
        simp only [bv, AV.int.injEq, true_and]
        rw [UInt8.toNat_ofNat_of_lt' (by have := hr.2; have := hr.1; show n.toNat < 256; omega)]
        omega
      · cases h
theorem bndF_sound {len cap : Nat} {lo hi mx : Option AV} {p : Prop} {l h m : Nat} (hf : bndF len cap lo hi mx = some (p, l, h, m)) (hp : p) {K : Nat → Nat → Nat → Prop} (hK : K l h m) : bnds len cap lo hi mx K := by
  unfold bndF at hf
  split at hf <;> cases hf <;> exact ⟨hp, hK⟩
theorem bind1_some {o : Option AV} {f : AV → R1} {x : Prop × AV} (h : bind1 o f = some x) : ∃ v, o = some v ∧ f v = some x := by
  cases o with
  | none => cases h
  | some v => exact ⟨v, rfl, h⟩
theorem bind2_some {o q : Option AV} {f : AV → AV → R1} {x : Prop × AV} (h : bind2 o q f = some x) : ∃ v w, o = some v ∧ q = some w ∧ f v w = some x := by
  cases o with
  | none => cases h
  | some v => cases q with
    | none => cases h
    | some w => exact ⟨v, w, rfl, rfl, h⟩
theorem bindS_some {o : Option AV} {l h m : Option (Option AV)} {f : AV → Option AV → Option AV → Option AV → R1} {x : Prop × AV} (hh : bindS o l h m f = some x) : ∃ v a b c, o = some v ∧ l = some a ∧ h = some b ∧ m = some c ∧ f v a b c = some x := by
  unfold bindS at hh
  split at hh
  · exact ⟨_, _, _, _, rfl, rfl, rfl, rfl, hh⟩
  · cases hh
section
variable {p : Prop} {v w u : AV} {K : AV → Prop} {H : Heap}
theorem intF_sound {op : BinOp} {k k' : IntKind} {a b : Int} (h : intF op k a k' b = some (p, v)) (hp : p) (hK : K v) : intWP op k a k' b K := by
  cases op <;> cases h <;> first | exact ⟨hp, hK⟩ | exact ⟨hp.1, hp.2, hK⟩
theorem binF_sound {i : Bool} {op : BinOp} (h : binF i op u w = some (p, v)) (hp : p) (hK : K v) : isB u = i ∧ binWP op u w K := by
  unfold binF at h
  split at h
  · split at h
    · exact ⟨rfl, intF_sound h hp hK⟩
    · cases h
  · split at h <;> cases h <;> first | exact ⟨rfl, hK⟩ | exact ⟨rfl, hp, hK⟩
  · split at h <;> cases h <;> exact ⟨rfl, hK⟩
  · cases h
theorem nilF_sound {neg : Bool} {q : Nat} (h : nilF neg q u = some (p, v)) (hp : p) (hK : K v) : nilWP neg q u K := by
  unfold nilF at h
  split at h <;> cases h <;> first | exact hK | exact .inl ⟨hp, hK⟩
theorem eqAF_sound {neg : Bool} {ks : List IntKind} (h : eqAF neg ks u w = some (p, v)) (hp : p) (hK : K v) : eqAWP neg ks u w K := by
  unfold eqAF at h
  split at h <;> cases h
  exact ⟨hp.1, hp.2, hK⟩
theorem unF_sound {op : UnOp} (h : unF op u = some (p, v)) (hK : K v) : unWP op u K := by
  unfold unF at h
  split at h <;> cases h <;> exact hK
theorem convF_sound {k : IntKind} (h : convF k u = some (p, v)) (hK : K v) : convWP k u K := by
  unfold convF at h
  split at h <;> cases h; exact hK
theorem ofStrF_sound (h : ofStrF u = some (p, v)) (hK : K v) : ofStrWP u K := by
  unfold ofStrF at h
  split at h <;> cases h; exact hK
theorem toStrF_sound (h : toStrF H u = some (p, v)) (hp : p) (hK : K v) : ∃ xs l, oneSl u = true ∧ sliceCells H u = some xs ∧ xs = l.map bv ∧ K (.str l) := by
  unfold toStrF at h
  split at h
  · rename_i xs hx
    split at h
    · rename_i l hl
      cases h; exact ⟨_, _, hp, hx, toBytes_sound hl, hK⟩
    · cases h
  · cases h
theorem loadF_sound {n : Option Nat} (h : loadF H u n = some (p, v)) (hp : p) (hK : K v) : loadWP H u n K := by
  unfold loadF at h
  split at h
  · split at h
    · rename_i b hb
      split at h
      · split at h
        · rename_i c hc
          cases h; exact ⟨_, _, hb, hc, hK⟩
        · cases h
      · cases h; exact ⟨_, hb, hp, hK⟩
    · cases h
  · split at h
    · split at h
      · rename_i c hc
        cases h; exact ⟨_, hc, hK⟩
      · cases h
    · cases h; exact ⟨hp, hK⟩
  · cases h
theorem nchkF_sound (h : nchkF u = some (p, v)) (hK : K v) : nchkWP u K := by
  unfold nchkF at h
  split at h <;> cases h <;> exact hK
theorem faF_sound {o : Nat} (h : faF o u = some (p, v)) (hp : p) (hK : K v) : faWP o u K := by
  unfold faF at h
  split at h <;> cases h <;> first | exact hK | exact ⟨hp, hK⟩
theorem fldF_sound {o : Nat} {n : Option Nat} (h : fldF o u n = some (p, v)) (hp : p) (hK : K v) : fldWP o u n K := by
  unfold fldF at h
  split at h
  · split at h
    · split at h
      · rename_i c hc
        cases h; exact ⟨_, hc, hK⟩
      · cases h
    · cases h; exact ⟨hp, hK⟩
  · cases h
theorem idxAF_sound {len s : Nat} (h : idxAF len s u w = some (p, v)) (hp : p) (hK : K v) : ∃ k n, w = .int k n ∧ (0 ≤ n ∧ n < len) ∧ idxAWP s u n K := by
  unfold idxAF at h
  split at h
  · split at h <;> cases h
    · exact ⟨_, _, rfl, hp, hK⟩
    · exact ⟨_, _, rfl, hp.1, hp.2, hK⟩
  · cases h
theorem idxSF_sound {s : Nat} (h : idxSF s u w = some (p, v)) (hp : p) (hK : K v) : ∃ k n, w = .int k n ∧ idxSWP s u n K := by
  unfold idxSF at h
  split at h
  · split at h <;> cases h
    · exact ⟨_, _, rfl, hp.1, hp.2, hK⟩
    · exact ⟨_, _, rfl, hp.1, hp.2, hK⟩
  · cases h
theorem ixAF_sound {len s : Nat} {a : Option Nat} (h : ixAF len s a u w = some (p, v)) (hp : p) (hK : K v) : ∃ k n, w = .int k n ∧ (0 ≤ n ∧ n < len) ∧ ixAWP s u a n K := by
  unfold ixAF at h
  split at h
  · split at h
    · split at h
      · split at h
        · rename_i c hc
          cases h; exact ⟨_, _, rfl, hp, _, hc, hK⟩
        · cases h
      · cases h; exact ⟨_, _, rfl, hp.1, hp.2, hK⟩
    · cases h
  · cases h
theorem slSF_sound {e : Nat} {lo hi mx : Option AV} (h : slSF e u lo hi mx = some (p, v)) (hp : p) (hK : K v) : notStr u = true ∧ slSWP e u lo hi mx K := by
  unfold slSF at h
  split at h
  · split at h
    · split at h
      · rename_i hb
        cases h; exact ⟨rfl, hp.1, bndF_sound hb hp.2 hK⟩
      · cases h
    · split at h
      · split at h
        · rename_i hb
          cases h; exact ⟨rfl, hp.1, rfl, bndF_sound hb hp.2 hK⟩
        · cases h
      · cases h
  · split at h
    · rename_i hb
      cases h; exact ⟨rfl, hp.1, bndF_sound hb hp.2 hK⟩
    · cases h
  · cases h
theorem slAF_sound {s n : Nat} {lo hi mx : Option AV} (h : slAF H s n u lo hi mx = some (p, v)) (hp : p) (hK : K v) : slAWP H s n u lo hi mx K := by
  unfold slAF at h
  split at h
  · rename_i hb
    split at h
    · split at h
      · rename_i hbk
        cases h; exact ⟨_, hbk, hp.1, bndF_sound hb hp.2 hK⟩
      · cases h
    · cases h; exact ⟨hp.1, bndF_sound hb hp.2 hK⟩
    · cases h
  · cases h
theorem lenF_sound {b : Bool} (h : lenF b u = some (p, v)) (hp : p) (hK : K v) : notStr u = b ∧ lenWP u K := by
  unfold lenF at h
  split at h <;> cases h <;> exact ⟨hp.symm, hK⟩
theorem appFF_sound {s by_ : Nat} (h : appFF H s by_ u w = some (p, v)) (hp : p) (hK : K v) : ∃ ys, sliceCells H w = some ys ∧ szAV w s = true ∧ appFWP s by_ u ys K := by
  unfold appFF at h
  split at h
  · rename_i ys hy
    split at h
    · cases h; exact ⟨_, hy, hp.1, hp.2.1, hp.2.2.1, hp.2.2.2, hK⟩
    · cases h
  · cases h
theorem extF_sound {i : Nat} (h : extF i u = some (p, v)) (hK : K v) : extWP i u K := by
  unfold extF at h
  split at h
  · split at h
    · rename_i hc
      cases h; exact ⟨_, hc, hK⟩
    · cases h
  · cases h
theorem s2aF_sound {n s : Nat} (h : s2aF n s u = some (p, v)) (hp : p) (hK : K v) : s2aWP n s u K := by
  unfold s2aF at h
  split at h <;> cases h <;> exact ⟨hp.1, hp.2.1, hp.2.2, hK⟩
theorem mmF_sound {mx : Bool} (h : mmF mx u w = some (p, v)) (hp : p) (hK : K v) : ∃ k a b, u = .int k a ∧ w = .int k b ∧ K (.int k (if mx then Max.max a b else Min.min a b)) := by
  unfold mmF at h
  split at h <;> cases h
  subst hp
  exact ⟨_, _, _, rfl, rfl, hK⟩
theorem aggF_some {o : Option (List (Nat × Nat × AV))} {z : List AV} {f : List AV → AV} (h : aggF o z f = some (p, v)) : ∃ vs cs, o = some vs ∧ fillA z vs = some cs ∧ v = f cs := by
  unfold aggF at h
  split at h
  · split at h
    · rename_i hc
      cases h; exact ⟨_, _, rfl, hc, rfl⟩
    · cases h
  · cases h
end
theorem evF_sound {o : IOp} {e : Env} {H : Heap} {p : Prop} {v : AV} (hf : evF o e H = some (p, v)) (hp : p) {K : AV → Prop} (hK : K v) : ev o e H K := by
  cases o <;> simp only [evF] at hf <;> try (cases hf; done)
  case mv x =>
    cases hx : e.opd x <;> rw [hx] at hf <;> cases hf
    exact ⟨_, hx, hK⟩
  case pick c a b =>
    cases hc : e.opd c with
    | none => rw [hc] at hf; cases hf
    | some cv =>
      rw [hc] at hf
      cases cv <;> try (cases hf; done)
      rename_i t
      cases t with
      | true =>
        simp only [pickO, pickF] at hf
        cases ha : e.opd a <;> rw [ha] at hf <;> cases hf
        exact ⟨true, hc, fun _ => ⟨_, ha, hK⟩, fun h => by cases h⟩
      | false =>
        simp only [pickO, pickF] at hf
        cases hb : e.opd b <;> rw [hb] at hf <;> cases hf
        exact ⟨false, hc, (fun h => by cases h), fun _ => ⟨_, hb, hK⟩⟩
  case lenK n => cases hf; exact hK
  case bin i op x y => obtain ⟨u, w, h1, h2, h3⟩ := bind2_some hf; exact ⟨u, w, h1, h2, binF_sound h3 hp hK⟩
  case isNil neg q x => obtain ⟨u, h1, h2⟩ := bind1_some hf; exact ⟨u, h1, nilF_sound h2 hp hK⟩
  case eqA neg ks x y => obtain ⟨u, w, h1, h2, h3⟩ := bind2_some hf; exact ⟨u, w, h1, h2, eqAF_sound h3 hp hK⟩
  case un op x => obtain ⟨u, h1, h2⟩ := bind1_some hf; exact ⟨u, h1, unF_sound h2 hK⟩
  case convI k x => obtain ⟨u, h1, h2⟩ := bind1_some hf; exact ⟨u, h1, convF_sound h2 hK⟩
  case toStr x =>
    obtain ⟨u, h1, h2⟩ := bind1_some hf
    obtain ⟨xs, l, g1, g2, g3, g4⟩ := toStrF_sound h2 hp hK
    exact ⟨u, xs, l, h1, g1, g2, g3, g4⟩
  case ofStr T x => obtain ⟨u, h1, h2⟩ := bind1_some hf; exact ⟨u, h1, ofStrF_sound h2 hK⟩
  case build z ps => obtain ⟨vs, cs, h1, h2, rfl⟩ := aggF_some hf; exact ⟨vs, cs, h1, h2, hK⟩
  case buildF T n z ps => obtain ⟨vs, cs, h1, h2, rfl⟩ := aggF_some hf; exact ⟨vs, cs, h1, h2, hK⟩
  case load n x => obtain ⟨u, h1, h2⟩ := bind1_some hf; exact ⟨u, h1, loadF_sound h2 hp hK⟩
  case nilCheck x => obtain ⟨u, h1, h2⟩ := bind1_some hf; exact ⟨u, h1, nchkF_sound h2 hK⟩
  case fieldAddr o x => obtain ⟨u, h1, h2⟩ := bind1_some hf; exact ⟨u, h1, faF_sound h2 hp hK⟩
  case field o n x => obtain ⟨u, h1, h2⟩ := bind1_some hf; exact ⟨u, h1, fldF_sound h2 hp hK⟩
  case idxA len s x i =>
    obtain ⟨u, w, h1, h2, h3⟩ := bind2_some hf
    obtain ⟨k, n, rfl, g1, g2⟩ := idxAF_sound h3 hp hK
    exact ⟨u, k, n, h1, h2, g1, g2⟩
  case idxS s x i =>
    obtain ⟨u, w, h1, h2, h3⟩ := bind2_some hf
    obtain ⟨k, n, rfl, g2⟩ := idxSF_sound h3 hp hK
    exact ⟨u, k, n, h1, h2, g2⟩
  case ixA len s m x i =>
    obtain ⟨u, w, h1, h2, h3⟩ := bind2_some hf
    obtain ⟨k, n, rfl, g1, g2⟩ := ixAF_sound h3 hp hK
    exact ⟨u, k, n, h1, h2, g1, g2⟩
  case slS s x lo hi mx =>
    obtain ⟨u, a, b, c, h1, h2, h3, h4, h5⟩ := bindS_some hf
    exact ⟨u, a, b, c, h1, h2, h3, h4, slSF_sound h5 hp hK⟩
  case slA s n x lo hi mx =>
    obtain ⟨u, a, b, c, h1, h2, h3, h4, h5⟩ := bindS_some hf
    exact ⟨u, a, b, c, h1, h2, h3, h4, slAF_sound h5 hp hK⟩
  case len b x => obtain ⟨u, h1, h2⟩ := bind1_some hf; exact ⟨u, h1, lenF_sound h2 hp hK⟩
  case appF T s by_ x y =>
    obtain ⟨u, w, h1, h2, h3⟩ := bind2_some hf
    obtain ⟨ys, g1, g2, g3⟩ := appFF_sound h3 hp hK
    exact ⟨u, w, ys, h1, h2, g1, g2, g3⟩
  case extract i x => obtain ⟨u, h1, h2⟩ := bind1_some hf; exact ⟨u, h1, extF_sound h2 hK⟩
  case s2a n s x => obtain ⟨u, h1, h2⟩ := bind1_some hf; exact ⟨u, h1, s2aF_sound h2 hp hK⟩
  case func f first caps =>
    split at hf <;> cases hf
    exact ⟨_, _, ‹_›, ‹_›, hK⟩
  case iface t x => obtain ⟨u, h1, h2⟩ := bind1_some hf; cases h2; exact ⟨u, h1, hK⟩
  case look ok z x i =>
    obtain ⟨u, w, h1, h2, h3⟩ := bind2_some hf
    unfold lookF at h3
    split at h3 <;> cases h3
    cases hp
    exact ⟨_, _, _, h1, h2, hK⟩
  case min x y =>
    obtain ⟨u, w, h1, h2, h3⟩ := bind2_some hf
    obtain ⟨k, a, b, rfl, rfl, g1⟩ := mmF_sound h3 hp hK
    exact ⟨k, a, b, h1, h2, g1⟩
  case max x y =>
    obtain ⟨u, w, h1, h2, h3⟩ := bind2_some hf
    obtain ⟨k, a, b, rfl, rfl, g1⟩ := mmF_sound h3 hp hK
    exact ⟨k, a, b, h1, h2, g1⟩
end Go.Fw
