/-
  An evaluator of the model's code by continuations, whose result on a function's body is an ordinary Lean term over worlds; soundness against the model's own runs stands in the texts behind it.
-/
import Derived.WalkKit
import Derived.WalkSpells
import Derived.WalkLawsBesides
namespace Go.Ev
open Go

/-- A slice's three parts. -/
structure Sl where
  a : Option Addr
  n : Nat
  c : Nat

/-- The shapes of values. -/
inductive K where
  | i (k : IntKind) | b | p | a | s | str | m | ag | raw

def K.T : K → Type
  | .i _ => Int
  | .b => Bool
  | .p => Option Addr
  | .a => Addr
  | .s => Sl
  | .str => ByteArray
  | .m => Option Nat
  | .ag => Array Value
  | .raw => Value

def K.v : (k : K) → k.T → Value
  | .i k, x => .int k x
  | .b, x => .bool x
  | .p, x => .pointer x
  | .a, x => .pointer (some x)
  | .s, x => .slice (Sl.a x) (Sl.n x) (Sl.c x)
  | .str, x => .string x
  | .m, x => .map x
  | .ag, x => .agg x
  | .raw, x => x

/-! ### what is asked of values and of memory -/

def toI (k : IntKind) (v : Value) (c : Int → Prop) : Prop := match v with | .int k' n => if k' = k then c n else False | _ => False
def toB (v : Value) (c : Bool → Prop) : Prop := match v with | .bool b => c b | _ => False
def toP (v : Value) (c : Option Addr → Prop) : Prop := match v with | .pointer b => c b | _ => False
def toAd (v : Value) (c : Addr → Prop) : Prop := match v with | .pointer (some b) => c b | _ => False
def toS (v : Value) (c : Sl → Prop) : Prop := match v with | .slice a n k => c ⟨a, n, k⟩ | _ => False
def toStr (v : Value) (c : ByteArray → Prop) : Prop := match v with | .string b => c b | _ => False
def toM (v : Value) (c : Option Nat → Prop) : Prop := match v with | .map b => c b | _ => False
def toA (v : Value) (c : Array Value → Prop) : Prop := match v with | .agg b => c b | _ => False
/-- a tuple's parts -/
def toT (v : Value) (c : List Value → Prop) : Prop := match v with | .tuple vs => c vs.toList | _ => False

def unV (k : K) (v : Value) (c : k.T → Prop) : Prop :=
  match k with
  | .i k => toI k v c
  | .b => toB v c
  | .p => toP v c
  | .a => toAd v c
  | .s => toS v c
  | .str => toStr v c
  | .m => toM v c
  | .ag => toA v c
  | .raw => c v
/-- values of these shapes -/
def KT : List K → Type
  | [] => Unit
  | [k] => k.T
  | k :: (x :: r) => k.T × KT (x :: r)
def unL : (ks : List K) → List Value → (KT ks → Prop) → Prop
  | [], [], c => c ()
  | [k], [v], c => unV k v c
  | k :: (y :: r), v :: vs, c => unV k v fun x => unL (y :: r) vs fun xs => c (x, xs)
  | _, _, _ => False
def valL : (ks : List K) → KT ks → List Value
  | [], _ => []
  | [k], x => [k.v x]
  | k :: (y :: r), x => k.v x.1 :: valL (y :: r) x.2

/-- a tuple's parts, of these shapes -/
def unT (ks : List K) (v : Value) (c : KT ks → Prop) : Prop := toT v fun l => unL ks l c
/-- what a call hands back -/
def packV (l : List Value) : Value := match l with | [v] => v | l => .tuple l.toArray
/-- the value, seen to be of its shape -/
def cast (k : K) (v : Value) (c : Value → Prop) : Prop :=
  match k with
  | .i k => toI k v fun n => c (.int k n)
  | .b => toB v fun n => c (.bool n)
  | .p => toP v fun n => c (.pointer n)
  | .a => toAd v fun n => c (.pointer (some n))
  | .s => toS v fun n => c (.slice n.a n.n n.c)
  | .str => toStr v fun n => c (.string n)
  | .m => toM v fun n => c (.map n)
  | .ag => toA v fun n => c (.agg n)
  | .raw => c v

/-- cells -/
def rd (w : World) (a : Addr) (c : Value → Prop) : Prop := match w.cell? a with | some v => c v | none => False
def ldI (k : IntKind) (w : World) (a : Addr) (c : Int → Prop) : Prop := rd w a fun v => toI k v c
def ldB (w : World) (a : Addr) (c : Bool → Prop) : Prop := rd w a fun v => toB v c
def ldP (w : World) (a : Addr) (c : Option Addr → Prop) : Prop := rd w a fun v => toP v c
def ldS (w : World) (a : Addr) (c : Sl → Prop) : Prop := rd w a fun v => toS v c
def ldStr (w : World) (a : Addr) (c : ByteArray → Prop) : Prop := rd w a fun v => toStr v c
def ldM (w : World) (a : Addr) (c : Option Nat → Prop) : Prop := rd w a fun v => toM v c
def ldV (w : World) (a : Addr) (c : Value → Prop) : Prop := rd w a c
def rdFrom (w : World) (a : Addr) (i : Nat) : Nat → Option (List Value)
  | 0 => some []
  | n + 1 => match w.cell? (a.add i) with
    | some v => match rdFrom w a (i + 1) n with | some l => some (v :: l) | none => none
    | none => none
/-- n cells side by side -/
def ldA (n : Nat) (w : World) (a : Addr) (c : Array Value → Prop) : Prop := match rdFrom w a 0 n with | some l => c l.toArray | none => False

def stC (w : World) (a : Addr) (v : Value) (c : World → Prop) : Prop :=
  v.oneCell' = true ∧ (w.cell? a).isSome = true ∧ w.frozen? a = false ∧ c (w.setCell a v)
def wrFrom (w : World) (a : Addr) (i : Nat) : List Value → (World → Prop) → Prop
  | [], c => c w
  | v :: l, c => stC w (a.add i) v fun w => wrFrom w a (i + 1) l c
/-- n cells side by side are written -/
def stA (n : Nat) (w : World) (a : Addr) (cs : Array Value) (c : World → Prop) : Prop := cs.size = n ∧ wrFrom w a 0 cs.toList c

/-- a pointer that is not nil -/
def nn (p : Option Addr) (c : Addr → Prop) : Prop := match p with | some a => c a | none => False
/-- an element's place -/
def ixS (s : Sl) (i : Int) (sz : Nat) (c : Addr → Prop) : Prop := match s.a with | some a => (0 ≤ i ∧ i < s.n) ∧ c (a.add (i.toNat * sz)) | none => False
def ixP (a : Addr) (len : Nat) (i : Int) (sz : Nat) (c : Addr → Prop) : Prop := (0 ≤ i ∧ i < len) ∧ c (a.add (i.toNat * sz))
/-- an array's part -/
def ptA (cs : Array Value) (o : Nat) (c : Value → Prop) : Prop := match cs[o]? with | some v => c v | none => False
def ixA (cs : Array Value) (len : Nat) (i : Int) (c : Value → Prop) : Prop := (0 ≤ i ∧ i < len) ∧ ptA cs i.toNat c
def ixStr (s : ByteArray) (i : Int) (c : Int → Prop) : Prop := 0 ≤ i ∧ match s[i.toNat]? with | some b => c b.toNat | none => False

def slS (s : Sl) (sz : Nat) (lo hi : Int) (c : Sl → Prop) : Prop :=
  (0 ≤ hi ∧ hi ≤ s.c) ∧ (0 ≤ lo ∧ lo ≤ hi) ∧ c ⟨if s.c = lo.toNat then s.a else s.a.map (·.add (lo.toNat * sz)), hi.toNat - lo.toNat, s.c - lo.toNat⟩
def slL (s : Sl) (sz : Nat) (lo : Int) (c : Sl → Prop) : Prop :=
  (0 ≤ lo ∧ lo ≤ s.n) ∧ c ⟨if s.c = lo.toNat then s.a else s.a.map (·.add (lo.toNat * sz)), s.n - lo.toNat, s.c - lo.toNat⟩
def slS3 (s : Sl) (sz : Nat) (lo hi mx : Int) (c : Sl → Prop) : Prop :=
  (0 ≤ mx ∧ mx ≤ s.c) ∧ (0 ≤ hi ∧ hi ≤ mx) ∧ (0 ≤ lo ∧ lo ≤ hi) ∧ c ⟨if mx.toNat = lo.toNat then s.a else s.a.map (·.add (lo.toNat * sz)), hi.toNat - lo.toNat, mx.toNat - lo.toNat⟩
def slStr (s : ByteArray) (lo hi : Int) (c : ByteArray → Prop) : Prop :=
  (0 ≤ hi ∧ hi ≤ s.size) ∧ (0 ≤ lo ∧ lo ≤ hi) ∧ c (s.extract lo.toNat hi.toNat)

def divV (k : IntKind) (x y : Int) : Int := k.wrap (x.tdiv y)
def remV (x y : Int) : Int := x.tmod y
def shlV (k : IntKind) (x y : Int) : Int := k.wrap (x * 2 ^ min y.toNat k.bits)
def shrV (k : IntKind) (x y : Int) : Int := x.fdiv (2 ^ min y.toNat k.bits)
def divI (k : IntKind) (x y : Int) (c : Int → Prop) : Prop := y ≠ 0 ∧ c (divV k x y)
def remI (x y : Int) (c : Int → Prop) : Prop := y ≠ 0 ∧ c (remV x y)
def shlI (k : IntKind) (x y : Int) (c : Int → Prop) : Prop := 0 ≤ y ∧ c (shlV k x y)
def shrI (k : IntKind) (x y : Int) (c : Int → Prop) : Prop := 0 ≤ y ∧ c (shrV k x y)
def andI (k : IntKind) (x y : Int) : Int := k.wrap (BitVec.ofInt k.bits x &&& BitVec.ofInt k.bits y).toNat
def orI (k : IntKind) (x y : Int) : Int := k.wrap (BitVec.ofInt k.bits x ||| BitVec.ofInt k.bits y).toNat
def xorI (k : IntKind) (x y : Int) : Int := k.wrap (BitVec.ofInt k.bits x ^^^ BitVec.ofInt k.bits y).toNat
def andNotI (k : IntKind) (x y : Int) : Int := k.wrap (BitVec.ofInt k.bits x &&& ~~~ BitVec.ofInt k.bits y).toNat
def minI (x y : Int) : Int := if y < x then y else x
def maxI (x y : Int) : Int := if y > x then y else x

/-- a new block -/
def newC (w : World) (cs : Array Value) (t : TypeId) (c : Addr → World → Prop) : Prop := c ⟨w.heap.size, 0, none⟩ (w.alloc (.cells cs t))
/-- an order was drawn -/
def drew (w : World) (c : World → Prop) : Prop := c w.drew

/-- whatever the model's own operation comes to -/
def runV (r : Result Value) (c : Value → World → Prop) : Prop := match r with | .ok v w => c v w | .halt _ _ => False
def runU {A : Type} (r : Result A) (c : World → Prop) : Prop := match r with | .ok _ w => c w | .halt _ _ => False

/-- a part's equality: 0 a number, 1 a Bool, else a text -/
def eqC (k : Nat) (x y : Value) : Option Bool :=
  match k with
  | 0 => match x, y with | .int k a, .int k' b => if k = k' then some (a == b) else none | _, _ => none
  | 1 => match x, y with | .bool a, .bool b => some (a == b) | _, _ => none
  | _ => match x, y with | .string a, .string b => some (a.toList == b.toList) | _, _ => none
def eqOffs (xs ys : Array Value) : List (Nat × Nat) → Option Bool
  | [] => some true
  | (o, k) :: os => match xs[o]?, ys[o]? with
    | some a, some b => match eqC k a b, eqOffs xs ys os with | some r, some rs => some (r && rs) | _, _ => none
    | _, _ => none
def eqA (os : List (Nat × Nat)) (xs ys : Array Value) (c : Bool → Prop) : Prop := match eqOffs xs ys os with | some b => c b | none => False

/-- a row's part written over -/
def spl (acc : Array Value) (off size : Nat) (cs : Array Value) (c : Array Value → Prop) : Prop :=
  cs.size = size ∧ c (cs.zipIdx.foldl (fun cs (x, j) => cs.setIfInBounds (off + j) x) acc)

/-- a test -/
def iteB (b : Bool) (x y : Prop) : Prop := match b with | true => x | false => y
/-- a value that is not nil -/
def nnV (v : Value) (c : Value → Prop) : Prop := match v with | .pointer p => nn p fun a => c (.pointer (some a)) | .func (.func f) a b => c (.func (.func f) a b) | _ => False
/-- the model's own operations -/
def bApp (P : Program) (ts : Array TypeId) (t : TypeId) (vs : List Value) (w : World) (c : Sl → World → Prop) : Prop := runV ((Builtin.append_ ts t vs.toArray).run P w) fun v w => toS v fun s => c s w
def bCopy (P : Program) (ts : Array TypeId) (t : TypeId) (vs : List Value) (w : World) (c : Int → World → Prop) : Prop := runV ((Builtin.copy_ ts t vs.toArray).run P w) fun v w => toI .i64 v fun s => c s w
def bLen (P : Program) (ts : Array TypeId) (t : TypeId) (vs : List Value) (w : World) (c : Int → World → Prop) : Prop := runV ((Builtin.len_ ts t vs.toArray).run P w) fun v w => toI .i64 v fun s => c s w
def bClear (P : Program) (ts : Array TypeId) (t : TypeId) (vs : List Value) (w : World) (c : Value → World → Prop) : Prop := runV ((Builtin.clear_ ts t vs.toArray).run P w) c
def bDel (P : Program) (ts : Array TypeId) (t : TypeId) (vs : List Value) (w : World) (c : Value → World → Prop) : Prop := runV ((Builtin.delete_ ts t vs.toArray).run P w) c
def mkSl (P : Program) (t : TypeId) (l k : Value) (w : World) (c : Sl → World → Prop) : Prop := runV ((Instr.makeSlice t l k).run P w) fun v w => toS v fun s => c s w
def mkMap (P : Program) (t : TypeId) (r : Option Value) (w : World) (c : Option Nat → World → Prop) : Prop := runV ((Instr.makeMap t r).run P w) fun v w => toM v fun s => c s w
def look (P : Program) (t : TypeId) (x i : Value) (ok : Bool) (w : World) (c : Value → World → Prop) : Prop := runV ((Instr.lookup t x i ok).run P w) c
def mapPut (P : Program) (t : TypeId) (m k x : Value) (w : World) (c : World → Prop) : Prop := runU ((Instr.mapUpdate t m k x).run P w) c
def tyA (P : Program) (x : Value) (xt as : TypeId) (ok : Bool) (w : World) (c : Value → World → Prop) : Prop := runV ((Instr.typeAssert x xt as ok).run P w) c
def cvt (P : Program) (s d : TypeId) (x : Value) (w : World) (c : Value → World → Prop) : Prop := runV ((convert s d x).run P w) c

/-- what follows two ways -/
def joinP {S : Type} (body : (S → World → Prop) → Prop) (rest : S → World → Prop) : Prop := body rest

def iterP {S : Type} (f : (S → World → Prop) → S → World → Prop) : Nat → S → World → Prop
  | 0, _, _ => False
  | n + 1, s, w => f (iterP f n) s w
/-- a loop: so many rounds -/
def loopP {S : Type} (f : (S → World → Prop) → S → World → Prop) (s : S) (w : World) : Prop := ∃ n, iterP f n s w

theorem loopP_of {S : Type} {f : (S → World → Prop) → S → World → Prop} (I : S → World → Prop) (μ : S → World → Nat) {s : S} {w : World} (h0 : I s w)
    (h : ∀ s w, I s w → ∀ C : S → World → Prop, (∀ s' w', I s' w' → μ s' w' < μ s w → C s' w') → f C s w) : loopP f s w := by
  have key : ∀ n s w, μ s w ≤ n → I s w → iterP f (n + 1) s w := by
    intro n
    induction n with
    | zero => intro s w hn hI; exact h s w hI _ fun s' w' _ hlt => by omega
    | succ n ih => intro s w hn hI; exact h s w hI _ fun s' w' hI' hlt => ih s' w' (by omega) hI'
  exact ⟨_, key _ s w (Nat.le_refl _) h0⟩

/-! ### what is known of slots -/

inductive EV where
  | val (v : Value)
  /-- the slot has this value, if the slot g has that Bool, else none -/
  | gd (g : Nat) (want : Bool) (v : Value)

abbrev Env := List (Nat × EV)

def Env.find : Env → Nat → Option EV
  | [], _ => none
  | (s, x) :: e, t => if Nat.beq s t then some x else Env.find e t

def EV.on : EV → Nat → Bool
  | .val _, _ => false
  | .gd g _ _, d => Nat.beq g d

/-- nothing is known of slot d any more -/
def Env.del (e : Env) (d : Nat) : Env := e.filter fun (s, x) => !(Nat.beq s d) && !(x.on d)
def Env.put (e : Env) (d : Nat) (v : Value) : Env := (d, .val v) :: e.del d
def Env.put? (e : Env) (d : Option Nat) (v : Value) : Env := match d with | some d => e.put d v | none => e
def Env.del? (e : Env) (d : Option Nat) : Env := match d with | some d => e.del d | none => e
def Env.putG (e : Env) (d g : Nat) (want : Bool) (v : Value) : Env := (d, .gd g want v) :: e.del d

/-- slot g has this Bool -/
def Env.refine (e : Env) (g : Nat) (b : Bool) : Env :=
  (g, .val (.bool b)) :: e.filterMap fun (s, x) => if Nat.beq s g then none else match x with
    | .val v => some (s, .val v)
    | .gd h want v => if Nat.beq h g then some (s, .val (if want == b then v else undef)) else some (s, .gd h want v)

/-- .. written out -/
def forceE : Env → (Env → Prop) → Prop
  | [], c => c []
  | (s, x) :: e, c => forceE e fun e => c ((s, x) :: e)
theorem forceE_eq : ∀ (e : Env) (c : Env → Prop), forceE e c = c e
  | [], _ => rfl
  | (_, _) :: e, _ => forceE_eq e _

def Env.op (e : Env) : Operand → Option Value
  | .tmp t => match e.find t with | some (.val v) => some v | _ => none
  | .const v => some v
  | .global g => some (.pointer (some ⟨g, 0, none⟩))
  | .func f => some (.func (.func f) #[] #[])
/-- an operand's value, as far as slot g has this Bool -/
def Env.opG (e : Env) (g : Nat) (b : Bool) : Operand → Option Value
  | .tmp t => match e.find t with | some (.val v) => some v | some (.gd h want v) => if Nat.beq h g && want == b then some v else none | _ => none
  | .const v => some v
  | .global g => some (.pointer (some ⟨g, 0, none⟩))
  | .func f => some (.func (.func f) #[] #[])
/-- whether an operand is the value of slot d under slot g's Bool -/
def Env.under (e : Env) (g : Nat) (b : Bool) : Operand → Option Value
  | .tmp t => match e.find t with | some (.gd h want v) => if Nat.beq h g && want == b then some v else none | _ => none
  | _ => none

/-! ### types -/

def kOf (P : Program) (t : TypeId) : K :=
  match P.underlying t with
  | some (.int k) => .i k
  | some .bool => .b
  | some .string => .str
  | some (.pointer _) => .p
  | some (.slice _) => .s
  | some (.map _ _) => .m
  | some (.struct _) | some (.array _ _) => .ag
  | _ => .raw
def szOf (P : Program) (t : TypeId) : Nat := match P.info? t with | some i => i.size | none => 0
def zOf (P : Program) (t : TypeId) : Option Value := match P.info? t with | some i => i.zero | none => none
def fieldOf (P : Program) (s : TypeId) (f : Nat) : Option Field := match P.underlying s with | some (.struct fs) => fs[f]? | _ => none
def elemOf (P : Program) (t : TypeId) : Option TypeId := match P.underlying t with | some (.slice e) => some e | some (.array _ e) => some e | _ => none

/-- a tuple's types, or none -/
def tupOf (P : Program) (t : TypeId) : Option (List TypeId) := match P.underlying t with | some (.tuple ts) => some ts.toList | _ => none

section
/-- a call's result, seen to be of its type -/
def castT (P : Program) (t : TypeId) (v : Value) (c : Value → Prop) : Prop :=
  match tupOf P t with
  | none => cast (kOf P t) v c
  | some ts => unT (ts.map (kOf P)) v fun x => c (.tuple (valL (ts.map (kOf P)) x).toArray)

/-- a type all of whose parts are numbers, Bools, texts: their places, and which of these each is -/
def leavesF (P : Program) (rec : TypeId → Option (List (Nat × Nat))) : List Field → Option (List (Nat × Nat))
  | [] => some []
  | f :: fs => if f.name == "_" then none else
    match rec f.type, leavesF P rec fs with
    | some m, some l => if m.all (fun x => Nat.blt x.1 (szOf P f.type)) then some (m.map (fun x => (x.1 + f.offset, x.2)) ++ l) else none
    | _, _ => none
def leavesE (sz : Nat) (m : List (Nat × Nat)) : Nat → Nat → List (Nat × Nat)
  | _, 0 => []
  | i, n + 1 => m.map (fun x => (x.1 + i * sz, x.2)) ++ leavesE sz m (i + 1) n
def leavesR (P : Program) : Nat → TypeId → Option (List (Nat × Nat))
  | 0, _ => none
  | d + 1, t =>
    match P.underlying t with
    | some (.int _) => some [(0, 0)]
    | some .bool => some [(0, 1)]
    | some .string => some [(0, 2)]
    | some (.struct fs) => if szOf P t = 0 then none else if P.stoodInHeld t then none else leavesF P (leavesR P d) fs.toList
    | some (.array n e) => if szOf P t = 0 then none else if szOf P e = 0 then none else match leavesR P d e with
      | some m => if m.all (fun x => Nat.blt x.1 (szOf P e)) then some (leavesE (szOf P e) m 0 n) else none
      | none => none
    | _ => none

/-! ### operations -/

abbrev Oracle := Fn → Array Value → World → (Value → World → Prop) → Prop

/-- a function value is called -/
def callF (orc : Oracle) (f : Value) (args : Array Value) (w : World) (c : Value → World → Prop) : Prop :=
  match f with
  | .func (.func id) first captured => orc (.func id) (first ++ args ++ captured) w c
  | .func (.yield l) first _ => orc (.yield l) (first ++ args) w c
  | _ => False

/-- a method of what an interface value holds is called -/
def callM (orc : Oracle) (P : Program) (v : Value) (name : String) (args : Array Value) (w : World) (c : Value → World → Prop) : Prop :=
  match v with
  | .iface t v => match (method (P.types.size + Made.depth) t v name).run P w with
    | .ok (f, r) w => orc (.func f) (#[r] ++ args) w c
    | .halt _ _ => False
  | _ => False

def isI : K → Bool | .i _ => true | _ => false
def lit0 : Operand → Bool
  | .const (.int _ n) => n == 0
  | _ => true
def litNat : Operand → Option Nat
  | .const (.int _ (.ofNat n)) => some n
  | _ => none
def litNeg : Operand → Bool
  | .const (.int _ n) => n < 0
  | _ => true
def isNilP : Operand → Bool
  | .const (.pointer none) => true
  | _ => false
def isNilS : Operand → Bool
  | .const (.slice none _ _) => true
  | _ => false
def isNilI : Operand → Bool
  | .const .nilIface => true
  | _ => false
def isNilM : Operand → Bool
  | .const (.map none) => true
  | _ => false

/-- the shape of a builtin's first argument -/
def kArg (P : Program) (ts : Array TypeId) : K := match ts[0]? with | some t => kOf P t | none => .raw
def isEq : BinOp → Bool
  | .eql => true
  | .neq => true
  | _ => false
def isOrd : BinOp → Bool
  | .eql => true
  | .neq => true
  | .lss => true
  | .leq => true
  | .gtr => true
  | .geq => true
  | _ => false
def pureInt (op : BinOp) (y : Operand) : Bool :=
  match op with
  | .quo => !lit0 y
  | .rem => !lit0 y
  | .shl => !litNeg y
  | .shr => !litNeg y
  | _ => true
def pureBin (k : K) (op : BinOp) (y : Operand) : Bool :=
  match k with
  | .i _ => pureInt op y
  | .b => isEq op
  | .str => isOrd op
  | .p => isEq op && isNilP y
  | .s => isEq op && isNilS y
  | .m => isEq op && isNilM y
  | _ => false
def isLen : Builtin → Bool | .len => true | _ => false
def isCap : Builtin → Bool | .cap => true | _ => false
def isMM : Builtin → Bool | .min => true | .max => true | _ => false
def pureB (b : Builtin) (k : K) : Bool :=
  match k with
  | .s => isLen b || isCap b
  | .str => isLen b
  | .i _ => isMM b
  | _ => false
def pureUn (k : K) : Bool :=
  match k with
  | .i _ => true
  | .b => true
  | _ => false
/-- whether an operation neither looks at memory nor can fail, whatever its operands hold -/
def pureOK (P : Program) (o : Op) : Bool :=
  match o with
  | .move _ => true
  | .assign _ => true
  | .extract _ _ => true
  | .makeFunc _ _ _ => true
  | .binOp op t _ y _ => pureBin (kOf P t) op y
  | .unOp _ t _ => pureUn (kOf P t)
  | .convert s d _ => isI (kOf P s) && isI (kOf P d)
  | .call c => match c.callee with
    | .builtin b => pureB b (kArg P c.argTypes)
    | _ => false
  | _ => false

def intBin (op : BinOp) (k : IntKind) (x y : Int) : Option Value :=
  match op with
  | .add => some (.int k (k.wrap (x + y)))
  | .sub => some (.int k (k.wrap (x - y)))
  | .mul => some (.int k (k.wrap (x * y)))
  | .and => some (.int k (andI k x y))
  | .or => some (.int k (orI k x y))
  | .xor => some (.int k (xorI k x y))
  | .andNot => some (.int k (andNotI k x y))
  | .quo => some (.int k (divV k x y))
  | .rem => some (.int k (remV x y))
  | .eql => some (.bool (x == y))
  | .neq => some (.bool (x != y))
  | .lss => some (.bool (decide (x < y)))
  | .leq => some (.bool (decide (x ≤ y)))
  | .gtr => some (.bool (decide (x > y)))
  | .geq => some (.bool (decide (x ≥ y)))
  | _ => none

/-- texts are one -/
def strEqB (a b : ByteArray) : Bool := a.toList == b.toList
def strBin (op : BinOp) (a b : ByteArray) : Option Value :=
  match op with
  | .eql => some (.bool (strEqB a b))
  | .neq => some (.bool (!(strEqB a b)))
  | .lss => some (.bool (Op.bytesLess a.toList b.toList))
  | .leq => some (.bool (Op.bytesLess a.toList b.toList || strEqB a b))
  | .gtr => some (.bool (!(Op.bytesLess a.toList b.toList || strEqB a b)))
  | .geq => some (.bool (!(Op.bytesLess a.toList b.toList)))
  | _ => none

def eqBin (op : BinOp) (b : Bool) : Option Value :=
  match op with
  | .eql => some (.bool b)
  | .neq => some (.bool (!b))
  | _ => none

def ofOpt {A : Type} (v : Option A) (c : A → Prop) : Prop := match v with | some v => c v | none => False

def opsL (ρ : Operand → Option Value) : List Operand → Option (List Value)
  | [] => some []
  | x :: l => match ρ x, opsL ρ l with | some v, some r => some (v :: r) | _, _ => none

def evBin (P : Program) (op : BinOp) (t : TypeId) (x y : Value) : Option Value :=
  match kOf P t with
  | .i _ => match x, y with
    | .int k a, .int k' b => match op with
      | .shl => some (.int k (shlV k a b))
      | .shr => some (.int k (shrV k a b))
      | _ => if k = k' then intBin op k a b else none
    | _, _ => none
  | .b => match x, y with | .bool a, .bool b => eqBin op (a == b) | _, _ => none
  | .str => match x, y with | .string a, .string b => strBin op a b | _, _ => none
  | .p => match x, y with | .pointer a, .pointer none => eqBin op a.isNone | _, _ => none
  | .s => match x, y with | .slice a _ _, .slice none _ _ => eqBin op a.isNone | _, _ => none
  | .m => match x, y with | .map a, .map none => eqBin op a.isNone | _, _ => none
  | _ => none

def evUn (op : UnOp) (x : Value) : Option Value :=
  match x, op with
  | .bool b, .not => some (.bool (!b))
  | .int k n, .neg => some (.int k (k.wrap (0 - n)))
  | .int k n, .xor => some (.int k (xorI k (if k.signed then -1 else k.max) n))
  | _, _ => none

def evB (b : Builtin) (k : K) (l : Option (List Value)) : Option Value :=
  match k, l with
  | .s, some [.slice _ n c] => if isLen b then some (.int .i64 n) else if isCap b then some (.int .i64 c) else none
  | .str, some [.string s] => if isLen b then some (.int .i64 s.size) else none
  | .i _, some [.int k x, .int _ y] => match b with | .min => some (.int k (minI x y)) | .max => some (.int k (maxI x y)) | _ => none
  | _, _ => none
/-- a pure operation's value -/
def evPure (P : Program) (o : Op) (ρ : Operand → Option Value) : Option Value :=
  match o with
  | .move x => ρ x
  | .assign x => ρ x
  | .extract x i => match ρ x with | some (.tuple vs) => vs.toList[i]? | _ => none
  | .makeFunc fn first captured =>
    match opsL ρ first.toList, opsL ρ captured.toList with
    | some a, some b => some (.func fn a.toArray b.toArray)
    | _, _ => none
  | .binOp op t x y _ => match ρ x, ρ y with | some a, some b => evBin P op t a b | _, _ => none
  | .unOp op _ x => match ρ x with | some a => evUn op a | _ => none
  | .convert _ d x => match ρ x, kOf P d with | some (.int _ n), .i k => some (.int k (k.wrap n)) | _, _ => none
  | .call c => match c.callee with
    | .builtin b => evB b (kArg P c.argTypes) (opsL ρ c.args.toList)
    | _ => none
  | _ => none

/-- an operation that does not look at memory, but may fail -/
def evFree (P : Program) (o : Op) (ρ : Operand → Option Value) (c : Value → Prop) : Prop :=
  match o with
  | .binOp op t x y _ =>
    match ρ x, ρ y with
    | some (.int k a), some (.int k' b) =>
      match op with
      | .shl => shlI k a b fun n => c (.int k n)
      | .shr => shrI k a b fun n => c (.int k n)
      | .quo => if k = k' then divI k a b fun n => c (.int k n) else False
      | .rem => if k = k' then remI a b fun n => c (.int k n) else False
      | _ => False
    | some (.string a), some (.string b) => match op with | .add => ((a.size + b.size : Nat) : Int) ≤ 9223372036854775807 ∧ c (.string (a ++ b)) | _ => False
    | some (.agg xs), some (.agg ys) =>
      if P.eqGuardType P.depth t then False else
      match kOf P t with
      | .ag => match leavesR P 20 t, op with
        | some os, .eql => eqA os xs ys fun b => c (.bool b)
        | some os, .neq => eqA os xs ys fun b => c (.bool (!b))
        | _, _ => False
      | _ => False
    | some (.iface _ _), some .nilIface => match P.underlying t with
      | some (.interface _) => match op with | .eql => c (.bool false) | .neq => c (.bool true) | _ => False
      | _ => False
    | some .nilIface, some .nilIface => match isNilI y with
      | true => match P.underlying t with
        | some (.interface _) => match op with | .eql => c (.bool true) | .neq => c (.bool false) | _ => False
        | _ => False
      | false => False
    | _, _ => False
  | .nilCheck x => match ρ x with | some v => nnV v c | _ => False
  | .fieldAddr s x f =>
    match ρ x, fieldOf P s f with
    | some (.pointer (some a)), some fd => if szOf P fd.type = 0 then False else c (.pointer (some (a.add fd.offset)))
    | _, _ => False
  | .field s x f =>
    match ρ x, fieldOf P s f with
    | some (.agg cs), some fd => match kOf P fd.type with | .ag => if szOf P fd.type = 0 then False else c (.agg (cs.extract fd.offset (fd.offset + szOf P fd.type))) | .raw => False | k => ptA cs fd.offset fun v => cast k v c
    | _, _ => False
  | .indexAddr t x i =>
    match ρ x, ρ i, P.underlying t with
    | some (.slice a n k), some (.int _ i), some (.slice e) => if szOf P e = 0 then False else ixS ⟨a, n, k⟩ i (szOf P e) fun a => c (.pointer (some a))
    | some (.pointer (some a)), some (.int _ j), some (.array n e) => if szOf P e = 0 then False else
      match litNat i with
      | some j => if j < n then c (.pointer (some (a.add (j * szOf P e)))) else False
      | none => ixP a n j (szOf P e) fun a => c (.pointer (some a))
    | _, _, _ => False
  | .index t x i =>
    match ρ x, ρ i, P.underlying t with
    | some (.agg cs), some (.int _ i), some (.array n e) => match kOf P e with | .ag => False | .raw => False | k => if szOf P e = 1 then ixA cs n i fun v => cast k v c else False
    | some (.string s), some (.int _ i), some .string => ixStr s i fun n => c (.int .u8 n)
    | _, _, _ => False
  | .slice t x lo hi mx =>
    match ρ x, P.underlying t, (match lo with | some l => ρ l | none => some (.int .i64 0)) with
    | some (.slice a n k), some (.slice e), some (.int _ lo) =>
      if szOf P e = 0 then False else
      match mx, hi with
      | none, none => slL ⟨a, n, k⟩ (szOf P e) lo fun s => c (.slice s.a s.n s.c)
      | none, some h => match ρ h with | some (.int _ h) => slS ⟨a, n, k⟩ (szOf P e) lo h fun s => c (.slice s.a s.n s.c) | _ => False
      | some m, some h => match ρ h, ρ m with | some (.int _ h), some (.int _ m) => slS3 ⟨a, n, k⟩ (szOf P e) lo h m fun s => c (.slice s.a s.n s.c) | _, _ => False
      | _, _ => False
    | some (.string s), some .string, some (.int _ lo) =>
      match mx, hi with
      | none, none => slStr s lo s.size fun s => c (.string s)
      | none, some h => match ρ h with | some (.int _ h) => slStr s lo h fun s => c (.string s) | _ => False
      | _, _ => False
    | some (.pointer (some a)), some (.array n e), some (.int _ lo) =>
      if szOf P e = 0 then False else
      match mx, hi with
      | none, none => slL ⟨some a, n, n⟩ (szOf P e) lo fun s => c (.slice s.a s.n s.c)
      | none, some h => match ρ h with | some (.int _ h) => slS ⟨some a, n, n⟩ (szOf P e) lo h fun s => c (.slice s.a s.n s.c) | _ => False
      | _, _ => False
    | _, _, _ => False
  | .makeInterface t x => match kOf P t with | .raw => False | _ => match ρ x with | some v => c (.iface t v) | none => False
  | _ => False

def isFree : Op → Bool
  | .binOp _ _ _ _ _ => true
  | .nilCheck _ => true
  | .fieldAddr _ _ _ => true
  | .field _ _ _ => true
  | .indexAddr _ _ _ => true
  | .index _ _ _ => true
  | .slice _ _ _ _ _ => true
  | .makeInterface _ _ => true
  | _ => false
def freeOK (P : Program) (o : Op) : Bool := isFree o && !pureOK P o

/-- an operation that looks at memory, and leaves it as it is -/
def evRead (P : Program) (t : TypeId) (v : Option Value) (w : World) (c : Value → Prop) : Prop :=
  match v with
  | some (.pointer (some a)) =>
    match kOf P t with
    | .i k => ldI k w a fun n => c (.int k n)
    | .b => ldB w a fun n => c (.bool n)
    | .p => ldP w a fun n => c (.pointer n)
    | .a => False
    | .s => ldS w a fun n => c (.slice n.a n.n n.c)
    | .str => ldStr w a fun n => c (.string n)
    | .m => ldM w a fun n => c (.map n)
    | .ag => if szOf P t = 0 then False else ldA (szOf P t) w a fun cs => c (.agg cs)
    | .raw => match P.underlying t with | some _ => ldV w a c | none => False
  | _ => False

/-- a row's cells, part by part -/
def fillE (place : Nat → Option (Nat × Nat)) (n : Nat) : List (Nat × Value) → Array Value → (Array Value → Prop) → Prop
  | [], acc, c => c acc
  | (i, v) :: rest, acc, c =>
    match place i with
    | none => False
    | some (off, size) =>
      if off + size > n then False else
      match v with
      | .agg cs => spl acc off size cs fun acc => fillE place n rest acc c
      | v => if size = 1 then fillE place n rest (acc.setIfInBounds off v) c else False

/-- a struct's, or an array's, parts' places -/
def placesOf (P : Program) (t : TypeId) (i : Nat) : Option (Nat × Nat) :=
  match P.underlying t with
  | some (.struct fs) => match fs[i]? with | some f => some (f.offset, szOf P f.type) | none => none
  | some (.array _ e) => some (i * szOf P e, szOf P e)
  | _ => none

/-- every field's type is known -/
def infosOK (P : Program) (t : TypeId) : Bool :=
  match P.underlying t with
  | some (.struct fs) => fs.toList.all fun f => (P.info? f.type).isSome
  | some (.array _ e) => (P.info? e).isSome
  | _ => false
def opsOf (ρ : Operand → Option Value) : List (Nat × Operand) → Option (List (Nat × Value))
  | [] => some []
  | (i, x) :: l => match ρ x, opsOf ρ l with | some v, some r => some ((i, v) :: r) | _, _ => none

/-- any other operation -/
def evAct (P : Program) (orc : Oracle) (o : Oper) (ρ : Operand → Option Value) (w : World) (c : Value → World → Prop) : Prop :=
  match o.op with
  | .store t x y =>
    match ρ x, ρ y with
    | some (.pointer (some a)), some v =>
      match kOf P t with
      | .ag => if szOf P t = 0 then False else match v with | .agg cs => stA (szOf P t) w a cs fun w => c undef w | _ => False
      | _ => if szOf P t = 1 then stC w a v fun w => c undef w else False
    | _, _ => False
  | .alloc t => match zOf P t with | some z => newC w z.cells t fun a w => c (.pointer (some a)) w | none => False
  | .box t x => match ρ x with | some v => newC w v.cells t fun a w => c (.pointer (some a)) w | none => False
  | .build t parts =>
    match opsOf ρ parts.toList, zOf P t with
    | some l, some z => if z.cells.size = szOf P t ∧ infosOK P t = true then fillE (placesOf P t) (szOf P t) l z.cells fun cs => c (.agg cs) w else False
    | _, _ => False
  | .buildSlice t len parts =>
    match P.underlying t, opsOf ρ parts.toList with
    | some (.slice e), some l =>
      if len * szOf P e > 2 ^ 24 ∨ (P.info? e).isSome = false then False else
      match (if len * szOf P e = 0 then some #[] else (zOf P e).map (·.cells)) with
      | some z => fillE (fun i => some (i * szOf P e, szOf P e)) (len * szOf P e) l ((Array.range (len * szOf P e)).map (z[· % z.size]!)) fun cs =>
          newC w cs e fun a w => c (.slice (some a) len len) w
      | none => False
    | _, _ => False
  | .makeSlice t l k =>
    match ρ l, ρ k with
    | some a, some b => mkSl P t a b w fun s w => c (.slice s.a s.n s.c) w
    | _, _ => False
  | .call cl =>
    match cl.callee with
    | .builtin b => match opsL ρ cl.args.toList with
      | some vs => match b with
        | .append => bApp P cl.argTypes o.type vs w fun s w => c (.slice s.a s.n s.c) w
        | .copy => bCopy P cl.argTypes o.type vs w fun n w => c (.int .i64 n) w
        | .len => bLen P cl.argTypes o.type vs w fun n w => c (.int .i64 n) w
        | .clear => bClear P cl.argTypes o.type vs w c
        | .delete => bDel P cl.argTypes o.type vs w c
        | .panic => orc (.method "panic") vs.toArray w c
        | _ => False
      | none => False
    | .value f => match ρ f, opsL ρ cl.args.toList with
      | some f, some vs => callF orc f vs.toArray w fun v w => castT P o.type v fun v => c v w
      | _, _ => False
    | .invoke r name => match ρ r, opsL ρ cl.args.toList with
      | some v, some vs => callM orc P v name vs.toArray w fun v w => castT P o.type v fun v => c v w
      | _, _ => False
  | .makeMap t r =>
    match r with
    | none => mkMap P t none w fun m w => c (.map m) w
    | some r => match ρ r with | some r => mkMap P t (some r) w fun m w => c (.map m) w | none => False
  | .lookup t x i ok =>
    match ρ x, ρ i with
    | some x, some i => look P t x i ok w fun v w => castT P o.type v fun v => c v w
    | _, _ => False
  | .mapUpdate t m k x =>
    match ρ m, ρ k, ρ x with
    | some m, some k, some x => mapPut P t m k x w fun w => c undef w
    | _, _, _ => False
  | .convert s d x =>
    match ρ x with
    | some x => cvt P s d x w fun v w => cast (kOf P d) v fun v => c v w
    | none => False
  | .typeAssert x xt as ok =>
    match ρ x with
    | some x => tyA P x xt as ok w fun v w => castT P o.type v fun v => c v w
    | none => False
  | .panic x =>
    match ρ x with
    | some v => orc (.method "panic") #[v] w c
    | none => False
  | _ => False

/-- 'pick', of Bools -/
def evPick (e : Env) (x a b : Operand) : Option Value :=
  match x, e.op x with
  | .tmp g, some (.bool cb) =>
    match (match e.op a with | some v => some v | none => e.under g true a), (match e.op b with | some v => some v | none => e.under g false b) with
    | some (.bool va), some (.bool vb) =>
      match a, b with
      | .const (.bool true), _ => some (.bool (cb || vb))
      | _, .const (.bool false) => some (.bool (cb && va))
      | _, _ => some (.bool (if cb then va else vb))
    | _, _ => none
  | _, _ => none
/-- .. where one of both alone is known -/
def evPick1 (e : Env) (x a b : Operand) (c : Value → Prop) : Prop :=
  match e.op x with
  | some (.bool cb) => iteB cb (ofOpt (e.op a) c) (ofOpt (e.op b) c)
  | _ => False

def gslot (ops : Array Oper) (g : Option (Nat × Bool)) : Option (Nat × Bool) :=
  match g with
  | some (j, want) => match ops[j]? with | some o => (match o.dst with | some d => some (d, want) | none => none) | none => none
  | none => none

def isPick : Op → Option (Operand × Operand × Operand) | .pick x a b => some (x, a, b) | _ => none
def isLoad : Op → Option (TypeId × Operand) | .load t x => some (t, x) | _ => none

/-- an operation, whatever it is; what has been loaded is told to the continuation, too -/
def evOp (P : Program) (orc : Oracle) (o : Oper) (ρ : Operand → Option Value) (w : World) (c : Value → World → Prop) : Prop :=
  if pureOK P o.op then ofOpt (evPure P o.op ρ) fun v => c v w
  else if freeOK P o.op then evFree P o.op ρ fun v => c v w
  else match isLoad o.op with
    | some (t, x) => evRead P t (ρ x) w fun v => c v w
    | none => evAct P orc o ρ w c

/-- the slot on which slot g hangs, in the end -/
def rootOf (e : Env) : Nat → Nat → Nat
  | 0, g => g
  | n + 1, g => match e.find g with | some (.gd h _ _) => rootOf e n h | _ => g

/-- whether slot g has that Bool: both ways -/
def withG (g : Nat) (want : Bool) (yes no : Env → Prop) : Nat → Env → Prop
  | 0, _ => False
  | n + 1, e =>
    match e.find g with
    | some (.val (.bool b)) =>
      match want with
      | true => iteB b (forceE (e.refine g true) yes) (forceE (e.refine g false) no)
      | false => iteB b (forceE (e.refine g true) no) (forceE (e.refine g false) yes)
    | some (.val (.tuple _)) => no e
    | some (.gd _ _ _) =>
      match e.find (rootOf e 9 g) with
      | some (.val (.bool b)) => iteB b (forceE (e.refine (rootOf e 9 g) true) fun e => withG g want yes no n e) (forceE (e.refine (rootOf e 9 g) false) fun e => withG g want yes no n e)
      | _ => False
    | _ => False

/-- one operation, carried out -/
def evExec (P : Program) (orc : Oracle) (o : Oper) (e : Env) (w : World) (c : Env → World → Prop) : Prop :=
  match isPick o.op with
  | some (x, a, b) =>
    match evPick e x a b with
    | some v => c (e.put? o.dst v) w
    | none => evPick1 e x a b fun v => c (e.put? o.dst v) w
  | none => evOp P orc o e.op w fun v w => c (e.put? o.dst v) w

/-- a guarded operation's value, if it is a pure one -/
def evPureG (P : Program) (o : Op) (e : Env) (g : Nat) (want : Bool) : Option Value :=
  match isPick o with
  | some (x, a, b) => evPick (e.refine g want) x a b
  | none => if pureOK P o then evPure P o (e.opG g want) else none

/-- one operation of a region, its guard looked at -/
def evStep (P : Program) (orc : Oracle) (ops : Array Oper) (o : Oper) (e : Env) (w : World) (c : Env → World → Prop) : Prop :=
  match o.guard with
  | none => evExec P orc o e w c
  | some _ =>
    match gslot ops o.guard with
    | none => False
    | some (g, want) =>
      match evPureG P o.op e g want, o.dst with
      | some v, some d => if Nat.beq d g then False else c (e.putG d g want v) w
      | _, _ => withG g want (fun e => evExec P orc o e w c) (fun e => c (e.put? o.dst undef) w) 9 e

/-- operations, one behind the other -/
def evOps (P : Program) (orc : Oracle) (ops : Array Oper) : List Oper → Env → World → (Env → World → Prop) → Prop
  | [], e, w, c => c e w
  | o :: rest, e, w, c => evStep P orc ops o e w fun e w => forceE e fun e => evOps P orc ops rest e w c

/-! ### regions that draw their order: what does not turn memory is done as soon as it can be; all else in every order -/

/-- an operation that does not look at memory -/
def Blind (P : Program) (o : Op) : Bool := (isPick o).isSome || pureOK P o || freeOK P o
/-- how many cells a load looks at -/
def loadN (P : Program) (t : TypeId) : Nat := match kOf P t with | .ag => szOf P t | _ => 1

/-- what stays as it was: n cells from a on -/
def samec (n : Nat) (a : Addr) (w w' : World) (c : Prop) : Prop := (∀ k, k < n → w'.cell? (a.add k) = w.cell? (a.add k)) ∧ c

/-- a load that was done: its number, how many cells, where -/
structure Held where
  i : Nat
  n : Nat
  a : Addr
  w : World

def depMask (o : Oper) : Nat := o.after.foldl (fun s e => if Region.binds .any e then s ||| 2 ^ e.on else s) 0

/-- the first operation that is ready and is not one that turns memory -/
def pickStill (P : Program) (ops : Array Oper) (m : Nat) : Nat → Nat → Option Nat
  | 0, _ => none
  | n + 1, i => match ops[i]? with
    | some o => if !m.testBit i && (depMask o &&& m == depMask o) && (Blind P o.op || (isLoad o.op).isSome) then some i else pickStill P ops m n (i + 1)
    | none => none
def readyAll (ops : Array Oper) (m : Nat) : List Nat :=
  (List.range ops.size).filter fun i => match ops[i]? with | some o => !m.testBit i && (depMask o &&& m == depMask o) | none => false

/-- what was loaded ahead, and might as well have been behind operation j, is there yet -/
def heldOK (anc : Nat) (hs : List Held) (w : World) (c : Prop) : Prop :=
  match hs with
  | [] => c
  | h :: hs => if anc.testBit h.i then heldOK anc hs w c else samec h.n h.a h.w w (heldOK anc hs w c)

/-- both -/
def both (x y : Prop) : Prop := x ∧ y
def allOf (l : List Nat) (c : Nat → Prop) : Prop :=
  match l with
  | [] => True
  | [i] => c i
  | i :: l => both (c i) (allOf l c)

def heldOf (P : Program) (i : Nat) (t : TypeId) (v : Option Value) (w : World) (hs : List Held) : List Held :=
  match v with
  | some (.pointer (some a)) => ⟨i, loadN P t, a, w⟩ :: hs
  | _ => hs

/-- a load, its guard looked at; what it looked at is held -/
def evLoadStep (P : Program) (ops : Array Oper) (i : Nat) (o : Oper) (t : TypeId) (x : Operand) (e : Env) (w : World) (hs : List Held) (c : Env → List Held → Prop) : Prop :=
  match o.guard with
  | none => evRead P t (e.op x) w fun v => c (e.put? o.dst v) (heldOf P i t (e.op x) w hs)
  | some _ =>
    match gslot ops o.guard with
    | none => False
    | some (g, want) => withG g want (fun e => evRead P t (e.op x) w fun v => c (e.put? o.dst v) (heldOf P i t (e.op x) w hs)) (fun e => c (e.put? o.dst undef) hs) 9 e

def evDraw (P : Program) (orc : Oracle) (ops : Array Oper) (anc : Array Nat) : Nat → Nat → List Held → Env → World → (Env → World → Prop) → Prop
  | 0, _, _, _, _, _ => False
  | fuel + 1, m, hs, e, w, c =>
    match pickStill P ops m ops.size 0 with
    | some i => match ops[i]? with
      | some o => match isLoad o.op with
        | some (t, x) => evLoadStep P ops i o t x e w hs fun e hs => forceE e fun e => evDraw P orc ops anc fuel (m ||| 2 ^ i) hs e w c
        | none => evStep P orc ops o e w fun e w => forceE e fun e => evDraw P orc ops anc fuel (m ||| 2 ^ i) hs e w c
      | none => False
    | none => match readyAll ops m with
      | [] => if (List.range ops.size).all (fun i => m.testBit i) then c e w else False
      | l => allOf l fun i => match ops[i]? with
        | some o => evStep P orc ops o e w fun e w => heldOK (anc.getD i 0) hs w (forceE e fun e => evDraw P orc ops anc fuel (m ||| 2 ^ i) hs e w c)
        | none => False

/-- an operation that is not blind, and the others that are not ordered against it: their slots are apart -/
def pairsOK (ops : Array Oper) (anc : Array Nat) : Bool :=
  (List.range ops.size).all fun j => (List.range j).all fun i => (anc.getD j 0).testBit i || match ops[i]?, ops[j]? with | some x, some y => Oper.apart ops x y && Oper.apart ops y x | _, _ => false
/-- what an operation waits for, and what these wait for -/
def ancOf (acc : Array Nat) (o : Oper) : Nat := o.after.foldl (fun s e => if Region.binds .any e then s ||| 2 ^ e.on ||| acc.getD e.on 0 else s) 0
def ancL : List Oper → Array Nat → Array Nat
  | [], acc => acc
  | o :: l, acc => ancL l (acc.push (ancOf acc o))
def ancs (ops : Array Oper) : Array Nat := ancL ops.toList #[]
/-- every edge leads back -/
def backOK (ops : Array Oper) : Bool :=
  (List.range ops.size).all fun j => match ops[j]? with | some o => o.after.all fun e => !Region.binds .any e || Nat.blt e.on j | none => false
def noSelect (ops : Array Oper) : Bool := ops.toList.all fun o => match o.op with | .select _ _ => false | _ => true
def drawOK (ops : Array Oper) : Bool := backOK ops && pairsOK ops (ancs ops) && noSelect ops
end

/-! ### code -/

inductive Ex where
  | normal | exit (id : Nat) | ret

inductive AC where
  | skip
  | region (id : Nat) (ops : Array Oper) (draw : Bool)
  | seq (a b : AC)
  | cond (c : Operand) (a b : AC)
  | block (id : Nat) (a : AC)
  | loop (ks : List (Nat × K)) (a : AC)
  | exit (id : Nat)
  | label (l : Nat)
  | ret
  | join (ks : List (Nat × K)) (a : AC)
  | scope (a : AC)
  | bad (c : Code)

def AC.code : AC → Code
  | .skip => .skip
  | .region id ops d => .region id ops d
  | .seq a b => .seq a.code b.code
  | .cond c a b => .cond c a.code b.code
  | .block id a => .block id a.code
  | .loop _ a => .loop a.code
  | .exit id => .exit id
  | .label l => .label l
  | .ret => .ret
  | .join _ a => a.code
  | .scope a => .scope a.code
  | .bad c => c

abbrev Hints := List (Nat × List (Nat × K))
def Hints.at : Hints → Nat → Option (List (Nat × K))
  | [], _ => none
  | (m, k) :: h, n => if Nat.beq m n then some k else Hints.at h n
def joined (h : Hints) (n : Nat) (a : AC) : AC := match h.at n with | some ks => .join ks a | none => a

def annot (h : Hints) : Code → Nat → AC × Nat
  | .skip, n => (.skip, n)
  | .region id ops d, n => (joined h n (.region id ops d), n + 1)
  | .seq a b, n => match annot h a n with | (x, n) => match annot h b n with | (y, n) => (.seq x y, n)
  | .cond c a b, n => match annot h a (n + 1) with | (x, m) => match annot h b m with | (y, m) => (joined h n (.cond c x y), m)
  | .block id a, n => match annot h a (n + 1) with | (x, m) => (joined h n (.block id x), m)
  | .loop a, n => match annot h a (n + 1) with | (x, m) => (.loop ((h.at n).getD []) x, m)
  | .exit id, n => (.exit id, n)
  | .label l, n => (.label l, n)
  | .ret, n => (.ret, n)
  | .scope a, n => match annot h a n with | (x, m) => (.scope x, m)
  | c, n => (.bad c, n)

theorem joined_code (h : Hints) (n : Nat) (a : AC) : (joined h n a).code = a.code := by
  unfold joined; split <;> rfl
theorem annot_code (h : Hints) (c : Code) : ∀ n, (annot h c n).1.code = c := by
  induction c with
  | skip => intro n; rfl
  | region id ops d => intro n; simp [annot, joined_code, AC.code]
  | seq a b iha ihb => intro n; simp [annot, AC.code, iha, ihb]
  | cond c a b iha ihb => intro n; simp [annot, joined_code, AC.code, iha, ihb]
  | block id a ih => intro n; simp [annot, joined_code, AC.code, ih]
  | loop a ih => intro n; simp [annot, AC.code, ih]
  | scope a ih => intro n; simp [annot, AC.code, ih]
  | _ => intros; rfl

/-- the slots that it may write -/
def AC.writes : AC → Nat → Bool
  | .region _ ops _, s => ops.toList.any fun o => match o.dst with | some d => Nat.beq d s | none => false
  | .seq a b, s => a.writes s || b.writes s
  | .cond _ a b, s => a.writes s || b.writes s
  | .block _ a, s => a.writes s
  | .loop _ a, s => a.writes s
  | .join _ a, s => a.writes s
  | .scope a, s => a.writes s
  | _, _ => false
/-- all of them are slots -/
def AC.fits (n : Nat) : AC → Bool
  | .region _ ops _ => ops.toList.all fun o => match o.dst with | some d => Nat.blt d n | none => true
  | .seq a b => a.fits n && b.fits n
  | .cond _ a b => a.fits n && b.fits n
  | .block _ a => a.fits n
  | .loop _ a => a.fits n
  | .join _ a => a.fits n
  | .scope a => a.fits n
  | _ => true

def HT : List (Nat × K) → Type
  | [] => Unit
  | [(_, k)] => k.T
  | (_, k) :: (x :: r) => k.T × HT (x :: r)
def envOf : (ks : List (Nat × K)) → HT ks → Env
  | [], _ => []
  | [(s, k)], x => [(s, .val (k.v x))]
  | (s, k) :: (y :: r), x => (s, .val (k.v x.1)) :: envOf (y :: r) x.2
def restr : (ks : List (Nat × K)) → Env → (HT ks → Prop) → Prop
  | [], _, c => c ()
  | [(s, k)], e, c => match e.find s with | some (.val v) => unV k v c | _ => False
  | (s, k) :: (y :: r), e, c => match e.find s with | some (.val v) => unV k v fun x => restr (y :: r) e fun xs => c (x, xs) | _ => False

def Env.keep (e : Env) (mask : Nat) : Env := e.filter fun (s, x) => mask.testBit s && (match x with | .val _ => true | _ => false)
def Env.unw (e : Env) (a : AC) : Env := e.filter fun (s, x) => !(a.writes s) && (match x with | .val _ => true | _ => false)

def ev (P : Program) (orc : Oracle) (mask : Nat) : AC → Env → World → (Ex → Env → World → Prop) → Prop
  | .skip, e, w, k => k .normal e w
  | .label _, e, w, k => k .normal e w
  | .region _ ops draw, e, w, k =>
    if draw then (if drawOK ops then drew w fun w => evDraw P orc ops (ancs ops) (ops.size + 1) 0 [] e w fun e w => forceE (e.keep mask) fun e => k .normal e w else False)
    else evOps P orc ops ops.toList e w fun e w => forceE (e.keep mask) fun e => k .normal e w
  | .seq a b, e, w, k => ev P orc mask a e w fun x e w => match x with | .normal => ev P orc mask b e w k | x => k x e w
  | .cond c a b, e, w, k => match e.op c with | some (.bool t) => iteB t (ev P orc mask a e w k) (ev P orc mask b e w k) | _ => False
  | .block id a, e, w, k => ev P orc mask a e w fun x e w => match x with | .exit i => if Nat.beq i id then k .normal e w else k (.exit i) e w | x => k x e w
  | .loop ks a, e, w, k =>
    restr ks e fun x => loopP (fun C x w => forceE (envOf ks x ++ e.unw a) fun e => ev P orc mask a e w fun y e w => match y with | .normal => restr ks e fun x => C x w | y => k y e w) x w
  | .exit id, e, w, k => k (.exit id) e w
  | .ret, e, w, k => k .ret e w
  | .join ks a, e, w, k =>
    joinP (fun J => ev P orc mask a e w fun x e w => match x with | .normal => restr ks e fun x => J x w | x => k x e w) fun x w => forceE (envOf ks x ++ e.unw a) fun e => k .normal e w
  | .scope a, e, w, k => ev P orc mask a e w k
  | .bad _, _, _, _ => False

/-! ### functions -/
def resV (P : Program) (r : ResultVar) (e : Env) (w : World) (c : Value → Prop) : Prop :=
  match r with
  | .tmp t => ofOpt (e.op (.tmp t)) c
  | .cell a t => evRead P t (e.op (.tmp a)) w c
def resL (P : Program) : List ResultVar → Env → World → (List Value → Prop) → Prop
  | [], _, _, c => c []
  | r :: rs, e, w, c => resV P r e w fun v => resL P rs e w fun l => c (v :: l)
def retK (P : Program) (rs : List ResultVar) (c : List Value → World → Prop) (x : Ex) (e : Env) (w : World) : Prop :=
  match x with
  | .exit _ => False
  | _ => resL P rs e w fun l => c l w

def argEnv : Nat → List Value → Env
  | _, [] => []
  | n, v :: l => (n, .val v) :: argEnv (n + 1) l

/-- a function's body on arguments: what it hands back, of the shapes ks -/
def evFn (P : Program) (orc : Oracle) (mask : Nat) (h : Hints) (fn : Func) (ks : List K) (args : List Value) (w : World) (c : KT ks → World → Prop) : Prop :=
  match fn.body with
  | some b => ev P orc mask (annot h b 0).1 (argEnv 0 args) w (retK P fn.results.toList fun l w => unL ks l fun x => c x w)
  | none => False
/-- a closed fact on a function: what it has is a body whose slots there are -/
def fnOK (h : Hints) (fn : Func) (n : Nat) : Bool :=
  match fn.body with
  | some b => (annot h b 0).1.fits fn.ntmps && Nat.ble n fn.ntmps && !(fn.name == "runtime.NumGoroutine")
  | none => false

/-! ### a function that defers a call of a closure of its own, and that closure, if it recovers -/
def evSpine (P : Program) (orc : Oracle) (mask : Nat) : List AC → Env → World → (Ex → Env → World → Prop) → Prop
  | [], e, w, k => k .normal e w
  | a :: l, e, w, k => ev P orc mask a e w fun x e w => match x with | .normal => evSpine P orc mask l e w k | x => k x e w
def spine : List AC → Code → Code
  | [], c => c
  | a :: l, c => .seq a.code (spine l c)
/-- pre; then slot d is the closure, and it is deferred; then post -/
def evFnX (P : Program) (orc : Oracle) (orcq : (Value → World → Prop) → Oracle) (dR : List Value → World → (World → Prop) → Prop) (dP : List Value → Value → World → (World → Prop) → Prop)
    (mask : Nat) (pre : List AC) (d : Nat) (g : FuncId) (caps : List Operand) (post : AC) (fn : Func) (ks : List K) (args : List Value) (w : World) (c : KT ks → World → Prop) : Prop :=
  evSpine P orc mask pre (argEnv 0 args) w fun x e w => match x with
    | .normal => match opsL e.op caps with
      | some l => forceE (e.put d (.func (.func g) #[] l.toArray)) fun e =>
        ev P (orcq fun v w => dP l v w fun w => resL P fn.results.toList (e.unw post) w fun l => unL ks l fun x => c x w) mask post e w fun x e w => match x with
          | .exit _ => False
          | _ => dR l w fun w => resL P fn.results.toList e w fun l => unL ks l fun x => c x w
      | none => False
    | x => retK P fn.results.toList (fun l w => unL ks l fun x => c x w) x e w
/-- a deferred closure: what it recovers goes into slot r, and then s -/
def evRecv (P : Program) (orc : Oracle) (mask r s : Nat) (rest : AC) (args : List Value) (rv : Value) (w : World) (k : World → Prop) : Prop :=
  forceE (((argEnv 0 args).put r rv).put s rv) fun e => ev P orc mask rest e w fun x _ w => match x with | .exit _ => False | _ => k w
/-- a deferred closure that does not recover -/
def evDfr (P : Program) (orc : Oracle) (mask : Nat) (c : AC) (args : List Value) (w : World) (k : World → Prop) : Prop :=
  ev P orc mask c (argEnv 0 args) w fun x _ w => match x with | .exit _ => False | _ => k w

/-- a function's parts about the region that defers -/
def isDfr : Array Oper → Bool := fun ops => match ops.toList.reverse with | o :: _ => (match o.op with | .defer _ => true | _ => false) | [] => false
def splitD : Code → Option (List Code × Nat × Array Oper × Code)
  | .seq (.region id ops d) c => match isDfr ops with
    | true => some ([], id, ops, c)
    | false => match splitD c with | some (l, r) => some (.region id ops d :: l, r) | none => none
  | .seq x c => match splitD c with | some (l, r) => some (x :: l, r) | none => none
  | _ => none
def xParts (fn : Func) : List Code × Nat × Array Oper × Code := match fn.body with | some b => (match splitD b with | some r => r | none => ([], 0, #[], .skip)) | none => ([], 0, #[], .skip)
def acOf (c : Code) : AC := (annot [] c 0).1
def xPre (fn : Func) : List AC := (xParts fn).1.map acOf
def xRid (fn : Func) : Nat := (xParts fn).2.1
def xOps (fn : Func) : List Oper := (xParts fn).2.2.1.toList
def xPost (fn : Func) : AC := acOf (xParts fn).2.2.2
def xMk (fn : Func) : Oper := (xOps fn).headD default
def xDf (fn : Func) : Oper := (xOps fn).getLastD default
def xD (fn : Func) : Nat := match (xMk fn).dst with | some d => d | none => 0
def xG (fn : Func) : FuncId := match (xMk fn).op with | .makeFunc (.func g) _ _ => g | _ => 0
def xCaps (fn : Func) : List Operand := match (xMk fn).op with | .makeFunc _ _ c => c.toList | _ => []
/-- .. and a closure's that recovers -/
def rParts (fn : Func) : Nat × List Oper × Code := match fn.body with | some (.seq (.region id ops _) c) => (id, ops.toList, c) | _ => (0, [], .skip)
def rRc (fn : Func) : Oper := (rParts fn).2.1.headD default
def rAs (fn : Func) : Oper := (rParts fn).2.1.getLastD default
def rRest (fn : Func) : AC := acOf (rParts fn).2.2
def dOf (o : Oper) : Nat := match o.dst with | some d => d | none => 0

/-- functions, as what they come to -/
abbrev Dec := List Value → World → (Value → World → Prop) → Prop
def lookD : List (Nat × Dec) → FuncId → Dec
  | [], _, _, _, _ => False
  | (n, d) :: l, f, args, w, c => match Nat.beq n f with | true => d args w c | false => lookD l f args w c
def orcOf (l : List (Nat × Dec)) : Oracle := fun fn args w c => match fn with | .func f => lookD l f args.toList w c | _ => False
/-- .. and what a range over a function hands in -/
def orcY (l : List (Nat × Dec)) (Y : Nat → Dec) : Oracle := fun fn args w c => match fn with | .func f => lookD l f args.toList w c | .yield n => Y n args.toList w c | _ => False

end Go.Ev
