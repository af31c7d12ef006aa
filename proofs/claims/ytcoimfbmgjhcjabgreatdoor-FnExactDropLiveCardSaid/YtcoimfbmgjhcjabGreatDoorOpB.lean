/-
  A deterministic abstract interpreter over the model's own code (definitions only): abstract blocks by position, values with abstract block numbers. And what stood behind it in 6 texts.
  Conditions: said at the theorems.
-/
import Derived.Calls
import Derived.Orders
import Derived.Laws.StructEq
import Derived.Laws.Tables
import Derived.Laws.IdiomCopy
import Derived.Laws.Entries
import Derived.Laws.Small
import Derived.Laws.Strings
set_option linter.unusedVariables false
namespace Go.Ev
set_option linter.defProp false
def Z0 {α : Type _} {l : List α} {i : Nat} {a : α}:=(List.getElem?_eq_some_iff (l:=l) (i:=i) (a:=a)).1
def Z1 {α : Type _} {l : List α}:=(List.length_eq_zero_iff (l:=l)).1
def Z2 {α : Type _} {a b : α} {l : List α}:=(List.mem_cons (a:=a) (b:=b) (l:=l)).1
def Z3 {α : Type _} {l : List α} {p : α -> Bool}:=(List.all_eq_true (l:=l) (p:=p)).1
def Z4:=@decide_eq_false
def Z5:=@decide_eq_true
def Z6:=@List.getElem?_eq_getElem
def Z7:=@Nat.eq_of_beq_eq_true
def Z8:=@Bool.and_eq_true
def Z9:=@List.length_cons
def Za:=@ByteArray.size_append
def Zb:=@List.length_nil
def Zc:=@List.mem_of_getElem?
def Zd:=@Nat.le_refl
def Ze:=@List.flatten_cons
def Zf:=@List.length_append
def Zg:=@Bool.true_and
def Zh:=@List.mem_append
def Zi:=@Nat.le_of_ble_eq_true
def Zj:=@decide_eq_true_eq
def Zk:=@Nat.mul_le_mul_right
def Zl:=@Bool.not_true
def Zm:=@Nat.lt_of_lt_of_le
def Zn:=@List.nodup_append
def Zo:=@Nat.zero_add
def Zp:=@List.getElem?_drop
def Zq:=@List.getElem?_append_right
def Zr:=@List.getD_eq_getElem?_getD
def Zs:=@List.take_of_length_le
structure bz where
 cells:List Value
 ro:Bool
 mp:Option (List (Int×Int))
abbrev Env:=List (Nat×Value)
abbrev af:=List (Option bz)
def Q1 {α β:Type} (x:Option α) (f:α->Option β):Option β :=
 match x with
 | some a=>f a
 | none=>none
def aa {β:Type} (b:Bool) (x y:Option β):Option β:=match b with | true=>x | false=>y
def cS:Env->Nat->Option Value
 | [],_=>none
 | (s,v)::r,t=>match Nat.beq s t with | true=>some v | false=>cS r t
def Qt:Value->Bool
 | .bool _ | .int _ _ | .string _ | .nilFunc | .nilIface | .pointer none=>true
 | .slice none 0 0=>true
 | _=>false
def JJ:Value->Bool
 | .agg cs=>cs.toList.all Qt
 | .tuple cs=>cs.toList.all Qt
 | v=>Qt v
def az:Value->Bool
 | .agg _ | .tuple _=>false
 | _=>true
def ah (H:af) (b:Nat):Option bz:=match H[b]? with | some (some k)=>some k | _=>none
def gQ (H:af) (a:Addr):Option Value:=Q1 (ah H a.block) fun k=>k.cells[a.off]?
def Qv (H:af) (a:Addr) (n:Nat):Option (List Value) :=
 Q1 (ah H a.block) fun k=>match Nat.ble (a.off+n) k.cells.length with | true=>some ((k.cells.drop a.off).take n) | false=>none
def fQ (H:af) (a:Addr) (n:Nat):Option (List Value):=match n with | 0=>some [] | m+1=>Qv H a (m+1)
def qV (l:List Value) (off:Nat) (vs:List Value):List Value:=l.take off++vs++l.drop (off+vs.length)
def kZ (H:af) (ai:Nat) (a:Addr) (vs:List Value):Option af :=
 Q1 (ah H a.block) fun k =>
  match k.ro,vs.all az,vs.all Qt || Nat.ble ai a.block,Nat.ble (a.off+vs.length) k.cells.length with
  | false,true,true,true=>some (H.set a.block (some { k with cells:=qV k.cells a.off vs }))
  | _,_,_,_=>none
def dn (H:af) (cells:List Value):af:=H++[some ⟨cells,false,none⟩]
def gN:Nat:=2
def gTabs:List (Nat×List Value):=[(0,[.string ⟨#[113,100,105,115,99]⟩,.string ⟨#[100,101,102,97,117,108,116]⟩,.string ⟨#[99,108,97,115,115]⟩,.string ⟨#[114,97,116,101]⟩,.string ⟨#[99,101,105,108]⟩,.string ⟨#[98,117,114,115,116]⟩,.string ⟨#[99,98,117,114,115,116]⟩,.string ⟨#[112,114,105,111]⟩,.string ⟨#[108,105,109,105,116]⟩,.string ⟨#[102,105,108,116,101,114]⟩,.string ⟨#[115,111,117,114,99,101]⟩,.string ⟨#[100,101,115,116]⟩,.string ⟨#[112,111,114,116]⟩,.string ⟨#[109,97,114,107]⟩]),(1,[.int .u64 1,.int .u64 10,.int .u64 100,.int .u64 1000,.int .u64 10000,.int .u64 100000,.int .u64 1000000,.int .u64 10000000,.int .u64 100000000,.int .u64 1000000000,.int .u64 10000000000,.int .u64 100000000000,.int .u64 1000000000000,.int .u64 10000000000000,.int .u64 100000000000000,.int .u64 1000000000000000,.int .u64 10000000000000000,.int .u64 100000000000000000,.int .u64 1000000000000000000,.int .u64 10000000000000000000])]
def HC:List (Nat×List Value)->Nat->Option (List Value)
 | [],_=>none
 | (a,l)::r,g=>match Nat.beq a g with | true=>some l | false=>HC r g
def A8 (P:Program) (t:TypeId) (x:Operand):Option Value:=match x with
 | .global g=>Q1 (HC gTabs g) fun l=>Q1 (P.info? t) fun i=>match P.underlying t with
  | some (.array _ _)=>match Nat.beq l.length i.size,l.all Qt with
   | true,true=>some (.agg l.toArray)
   | _,_=>none
  | _=>none
 | _=>none
theorem YZ {P:Program} {t:TypeId} {x:Operand} {v:Value} (h:A8 P t x=some v):∃ g l i n e,x=.global g/\HC gTabs g=some l/\P.info? t=some i/\P.underlying t=some (.array n e)/\l.length=i.size/\l.all Qt=true/\v=.agg l.toArray:=by
 have os:∀ {α γ:Type} {x:Option α} {f:α->Option γ} {r:γ},Q1 x f=some r->∃ a,x=some a/\f a=some r:=by
  intro α γ x f r h
  cases x with
  | none=>simp [Q1] at h
  | some a=>exact ⟨a,rfl,h⟩
 unfold A8 at h
 split at h
 .rename_i g
  replace h:=os h;obtain ⟨l,hl,h⟩:=h
  replace h:=os h;obtain ⟨i,hi,h⟩:=h
  split at h
  .rename_i n e hu
   split at h
   .rename_i h1 h2
    injection h with h
    exact ⟨g,l,i,n,e,rfl,hl,hi,hu,Z7 h1,h2,h.symm⟩
   .simp at h
  .simp at h
 .simp at h
section view
variable {β:Type}
def HD (k:IntKind) (v:Value) (K:Int->Option β):Option β :=
 match v with
 | .int k' n=>if k'=k then K n else none
 | _=>none
def wT (v:Value) (K:Bool->Option β):Option β:=match v with | .bool b=>K b | _=>none
def Af (v:Value) (K:ByteArray->Option β):Option β:=match v with | .string b=>K b | _=>none
def gK (v:Value) (K:Option Addr->Nat->Nat->Option β):Option β:=match v with | .slice a n c=>K a n c | _=>none
def Ag (v:Value) (K:Option Addr->Option β):Option β:=match v with | .pointer a=>K a | _=>none
def Ah (v:Value) (K:List Value->Option β):Option β:=match v with | .agg cs=>K cs.toList | _=>none
def Ai (v:Value) (K:List Value->Option β):Option β:=match v with | .tuple cs=>K cs.toList | _=>none
def Aj (l:List Value) (K:Value->List Value->Option β):Option β:=match l with | v::r=>K v r | []=>none
def JK (l:List Value) (K:Option β):Option β:=match l with | []=>K | _::_=>none
def Mu (v:Value) (K:FuncId->Array Value->Array Value->Option β):Option β:=match v with | .func (.func f) a b=>K f a b | _=>none
def fj (v:Value) (K:Addr->Option β):Option β:=match v with | .pointer (some p)=>K p | _=>none
def wo (v:Value) (K:Addr->Nat->Nat->Option β):Option β:=match v with | .slice (some p) n c=>K p n c | _=>none
def wq (tm v:Value) (K:Value->Option β):Option β :=
 match tm with
 | .int k _=>HD k v fun n=>K (.int k n)
 | .bool _=>wT v fun b=>K (.bool b)
 | .string _=>Af v fun s=>K (.string s)
 | .slice _ _ _=>gK v fun a n c=>K (.slice a n c)
 | .pointer none=>Ag v fun a=>K (.pointer a)
 | .pointer (some _)=>fj v fun p=>K (.pointer (some p))
 | .nilFunc=>Mu v fun f a b=>K (.func (.func f) a b)
 | _=>K v
def HE (HF vs:List Value) (K:List Value->Option β):Option β :=
 match HF with
 | []=>JK vs (K [])
 | t::ts=>Aj vs fun v r=>wq t v fun v'=>HE ts r fun l=>K (v'::l)
def wu (tm v:Value) (K:Value->Option β):Option β :=
 match tm with
 | .agg cs=>Ah v fun vs=>HE cs.toList vs fun l=>K (.agg l.toArray)
 | t=>wq t v K
def HG (HF vs:List Value) (K:List Value->Option β):Option β :=
 match HF with
 | []=>JK vs (K [])
 | t::ts=>Aj vs fun v r=>wu t v fun v'=>HG ts r fun l=>K (v'::l)
def EL (tm v:Value) (K:Value->Option β):Option β :=
 match tm with
 | .tuple ts=>Ai v fun vs=>HG ts.toList vs fun l=>K (.tuple l.toArray)
 | t=>wu t v K
end view
def A7 (P:Program) (t:TypeId):Option Value:=Q1 (P.info? t) fun i=>i.zero
def Qq5 (P:Program):List TypeId->Option (List Value)
 | []=>some []
 | t::ts=>Q1 (A7 P t) fun z=>Q1 (Qq5 P ts) fun l=>some (z::l)
def PN (P:Program) (t:TypeId):Option Value :=
 Q1 (P.info? t) fun i=>match i.desc with
  | .tuple ts=>Q1 (Qq5 P ts.toList) fun l=>some (.tuple l.toArray)
  | _=>i.zero
structure Cx where
 P:Program
 call:FuncId->List Value->Nat->af->Option (Value×af)
 ai:Nat
 nt:Nat
 fuel:Nat
 cT:Nat->List (Nat×Value)
def ev (env:Env):Operand->Option Value
 | .tmp t=>cS env t
 | .const v=>match JJ v with | true=>some v | false=>none
 | .func f=>some (.func (.func f) #[] #[])
 | .global _=>none
def e_ (env:Env):List Operand->Option (List Value)
 | []=>some []
 | x::r=>Q1 (ev env x) fun v=>Q1 (e_ env r) fun l=>some (v::l)
def oH (env:Env):List (Nat×Operand)->Option (List (Nat×Value))
 | []=>some []
 | (i,x)::r=>Q1 (ev env x) fun v=>Q1 (oH env r) fun l=>some ((i,v)::l)
def gL (P:Program) (t:TypeId) (cs:Array Value) (off:Nat):Option Value :=
 Q1 (P.info? t) fun i=>match P.underlying t with
  | some (.struct _) | some (.array _ _)=>some (.agg (cs.extract off (off+i.size)))
  | some _=>cs[off]?
  | none=>none
def JL (eq:TypeId->Value->Value->Option Bool) (P:Program) (xs ys:Array Value):List Field->Option Bool
 | []=>some true
 | f::fs =>
  if f.name = "_" then none else
  Q1 (gL P f.type xs f.offset) fun a=>Q1 (gL P f.type ys f.offset) fun b =>
   Q1 (eq f.type a b) fun r=>Q1 (JL eq P xs ys fs) fun q=>some (r&&q)
def sP (P:Program):Nat->TypeId->Value->Value->Option Bool
 | 0,_,_,_=>none
 | d+1,t,x,y=>match P.underlying t,x,y with
  | some .bool,.bool a,.bool b=>some (a==b)
  | some (.int _),.int k a,.int k' b=>if k=k' then some (a==b) else none
  | some .string,.string a,.string b=>some (a.toList==b.toList)
  | some (.struct fs),.agg xs,.agg ys=>match P.stoodInHeld t with
   | false=>JL (sP P d) P xs ys fs.toList
   | true=>none
  | _,_,_=>none
section ops
variable {β:Type}
def Mv (op:BinOp) (k:IntKind) (a b:Int) (K:Value->Option β):Option β :=
 match op with
 | .add=>K (.int k (k.wrap (a+b)))
 | .sub=>K (.int k (k.wrap (a - b)))
 | .mul=>K (.int k (k.wrap (a*b)))
 | .quo=>aa (b==0) none (K (.int k (k.wrap (a.tdiv b))))
 | .rem=>aa (b==0) none (K (.int k (a.tmod b)))
 | .and=>K (.int k (k.wrap (BitVec.ofInt k.bits a &&& BitVec.ofInt k.bits b).toNat))
 | .or=>K (.int k (k.wrap (BitVec.ofInt k.bits a ||| BitVec.ofInt k.bits b).toNat))
 | .xor=>K (.int k (k.wrap (BitVec.ofInt k.bits a ^^^ BitVec.ofInt k.bits b).toNat))
 | .andNot=>K (.int k (k.wrap (BitVec.ofInt k.bits a &&& ~~~BitVec.ofInt k.bits b).toNat))
 | .eql=>K (.bool (a==b))
 | .neq=>K (.bool (a != b))
 | .lss=>K (.bool (decide (a < b)))
 | .leq=>K (.bool (decide (a<=b)))
 | .gtr=>K (.bool (decide (a > b)))
 | .geq=>K (.bool (decide (a>=b)))
 | _=>none
def JM (op:BinOp) (k:IntKind) (a b:Int) (K:Value->Option β):Option β :=
 aa (decide (b < 0)) none (match op with
  | .shl=>K (.int k (k.wrap (a*2 ^ (min b.toNat k.bits))))
  | .shr=>K (.int k (a.fdiv (2 ^ (min b.toNat k.bits))))
  | _=>none)
def Mw (op:BinOp) (a b:ByteArray) (K:Value->Option β):Option β :=
 match op with
 | .add=>aa (Nat.ble (a.size+b.size) 9223372036854775807) (K (.string (a++b))) none
 | .eql=>K (.bool (a.toList==b.toList))
 | .neq=>K (.bool !(a.toList==b.toList))
 | .lss=>K (.bool (Op.bytesLess a.toList b.toList))
 | .leq=>K (.bool (Op.bytesLess a.toList b.toList || a.toList==b.toList))
 | .gtr=>K (.bool !(Op.bytesLess a.toList b.toList || a.toList==b.toList))
 | .geq=>K (.bool !(Op.bytesLess a.toList b.toList))
 | _=>none
def vm (op:BinOp) (r:Bool) (K:Value->Option β):Option β :=
 match op with
 | .eql=>K (.bool r)
 | .neq=>K (.bool !r)
 | _=>none
def Ak (P:Program) (op:BinOp) (t:TypeId) (x y:Value) (K:Value->Option β):Option β :=
 match x,y with
 | .int k a,.int k' b=>match op with
  | .shl=>JM .shl k a b K
  | .shr=>JM .shr k a b K
  | op=>if k=k' then Mv op k a b K else none
 | .string a,.string b=>Mw op a b K
 | .bool a,.bool b=>match P.underlying t with
  | some .bool=>vm op (a==b) K
  | _=>none
 | .agg xs,.agg ys=>match P.eqGuardType P.depth t with
  | false=>Q1 (sP P 20 t (.agg xs) (.agg ys)) fun r=>vm op r K
  | true=>none
 | .slice a _ _,.slice none _ _=>match P.underlying t with
  | some (.slice _)=>vm op a.isNone K
  | _=>none
 | .pointer a,.pointer none=>match P.underlying t with
  | some (.pointer _)=>vm op a.isNone K
  | _=>none
 | _,_=>none
def wz (op:UnOp) (x:Value) (K:Value->Option β):Option β :=
 match op,x with
 | .not,.bool b=>K (.bool !b)
 | .neg,.int k n=>K (.int k (k.wrap (0 - n)))
 | _,_=>none
def DA:List Value->Option (List UInt8)
 | []=>some []
 | .int .u8 n::r=>Q1 (DA r) fun l=>some (UInt8.ofNat n.toNat::l)
 | _=>none
def Qf (H:af) (size:Nat) (v:Value):Option (List Value) :=
 match v with
 | .slice none 0 0=>some []
 | .slice (some a) n _=>fQ H a (n*size)
 | _=>none
def I2 (P:Program) (src dst:TypeId) (x:Value) (H:af) (K:Value->af->Option β):Option β :=
 match P.underlying src,P.underlying dst,x with
 | some (.int _),some (.int k),.int _ n=>K (.int k (k.wrap n)) H
 | some .string,some .string,.string s=>K (.string s) H
 | some (.slice e),some .string,.slice a n c=>match P.underlying e with
  | some (.int .u8)=>Q1 (Qf H 1 (.slice a n c)) fun l=>Q1 (DA l) fun bs=>K (.string ⟨bs.toArray⟩) H
  | _=>none
 | some .string,some (.slice e),.string s=>match P.underlying e with
  | some (.int .u8)=>K (.slice (some ⟨H.length,0,none⟩) s.size 1) (dn H (s.data.toList.map fun b=>.int .u8 b.toNat))
  | _=>none
 | _,_,_=>none
def oZ (P:Program) (t:TypeId):Option (TypeId×Nat×Nat×Value) :=
 match P.underlying t with
 | some (.slice e)=>Q1 (P.info? e) fun i=>Q1 i.zero fun z=>match z.cells.toList.all Qt,Nat.beq z.cells.size i.size,Nat.ble 1 i.bytes with
  | true,true,true=>some (e,i.size,i.bytes,z)
  | _,_,_=>none
 | _=>none
def Fx (P:Program) (t:TypeId) (parts:List (Nat×Value)):Option (Array Value) :=
 Q1 (A7 P t) fun z=>match z.cells.toList.all Qt with
  | true=>P.built t parts
  | false=>none
def Q7:Nat:=140737488355328
def rO (size bytes:Nat) (s:Value) (news:List Value) (n:Nat) (H:af):Option (Value×af) :=
 match s with
 | .slice none 0 0=>match n with
  | 0=>some (.slice none 0 0,H)
  | m+1=>aa (Nat.ble ((m+1)*bytes) Q7) (some (.slice (some ⟨H.length,0,none⟩) (m+1) size,dn H news)) none
 | .slice (some a) len c=>Q1 (ah H a.block) fun k =>
  aa (!k.ro&&Nat.beq c size&&Nat.ble (a.off+len*size) k.cells.length&&Nat.ble ((len+n)*bytes) Q7)
   (some (.slice (some ⟨H.length,0,none⟩) (len+n) size,dn (H.set a.block none) ((k.cells.take (a.off+len*size)).drop a.off++news))) none
 | _=>none
def BS (size bytes:Nat) (s:Value) (news:List Value) (n:Nat) (H:af) (K:Value->af->Option β):Option β :=
 Q1 (rO size bytes s news n H) fun r=>gK r.1 fun a n c=>K (.slice a n c) r.2
def FF (ai size:Nat) (a:Addr) (n:Nat) (src:Value) (H:af):Option (Nat×af) :=
 match src with
 | .slice none 0 0=>Q1 (kZ H ai a []) fun H'=>some (0,H')
 | .slice (some b) m _=>Q1 (fQ H b (min m n*size)) fun l=>Q1 (kZ H ai a l) fun H'=>some (min m n,H')
 | .string q=>match size with
  | 1=>Q1 (kZ H ai a ((q.data.toList.map fun b=>.int .u8 b.toNat).take n)) fun H'=>some (min q.size n,H')
  | _=>none
 | _=>none
def iU (a:Option Addr) (n c l h size:Nat):Option Value :=
 match a with
 | none=>aa (Nat.ble l h&&Nat.ble h 0&&Nat.beq n 0&&Nat.beq c 0) (some (.slice none 0 0)) none
 | some p=>aa (Nat.ble l h&&Nat.ble h n&&Nat.beq c size) (some (.slice (some ⟨p.block,p.off+l*size,none⟩) (h - l) c)) none
def o_ (P:Program) (ai:Nat) (b:Builtin) (ts:List TypeId) (vs:List Value) (H:af) (K:Value->af->Option β):Option β :=
 match b,ts,vs with
 | .len,[t],[.slice _ n _]=>match P.underlying t with
  | some (.slice _)=>K (.int .i64 n) H
  | _=>none
 | .len,[t],[.string s]=>match P.underlying t with
  | some .string=>K (.int .i64 s.size) H
  | _=>none
 | .cap,[t],[.slice none 0 0]=>match P.underlying t with
  | some (.slice _)=>K (.int .i64 0) H
  | _=>none
 | .min,_,[.int k x,.int k' y]=>if k=k' then K (.int k (if y < x then y else x)) H else none
 | .max,_,[.int k x,.int k' y]=>if k=k' then K (.int k (if y > x then y else x)) H else none
 | .append,[t,u],[s,x]=>Q1 (oZ P t) fun (_,size,bytes,z)=>match P.underlying u,x with
  | some (.slice _),.slice a n c=>Q1 (Qf H size (.slice a n c)) fun news=>BS size bytes s news n H K
  | some .string,.string q=>match size with
   | 1=>BS 1 bytes s (q.data.toList.map fun b=>.int .u8 b.toNat) q.size H K
   | _=>none
  | some (.int _),.int _ l=>aa (decide (0<=l)&&decide (l*bytes<=Q7)) (BS size bytes s ((List.replicate l.toNat z.cells.toList).flatten) l.toNat H K) none
  | _,_=>none
 | .copy,[t,_],[.slice none 0 0,.slice _ _ _]=>Q1 (oZ P t) fun _=>K (.int .i64 0) H
 | .copy,[t,_],[.slice none 0 0,.string _]=>Q1 (oZ P t) fun _=>K (.int .i64 0) H
 | .copy,[t,_],[d,src]=>Q1 (oZ P t) fun (_,size,_,_)=>wo d fun a n _=>Q1 (FF ai size a n src H) fun r=>K (.int .i64 r.1) r.2
 | _,_,_=>none
def wF (v:Value) (K:Nat->Option β):Option β:=match v with | .int .i64 n=>aa (decide (0<=n)) (K n.toNat) none | _=>none
def EM (v:Value) (K:Nat->Option β):Option β:=match v with | .int _ n=>aa (decide (0<=n)) (K n.toNat) none | _=>none
def mN (env:Env) (x:Option Operand) (d:Nat) (K:Nat->Option β):Option β :=
 match x with
 | none=>K d
 | some y=>Q1 (ev env y) fun v=>wF v K
def dx (X:Cx) (o:Oper) (env:Env) (H:af) (K:Value->af->Option β):Option β :=
 match o.op with
 | .move x=>Q1 (ev env x) fun v=>K v H
 | .assign x=>Q1 (ev env x) fun v=>K v H
 | .pick c a b=>Q1 (ev env c) fun v=>wT v fun t=>aa t (Q1 (ev env a) fun v=>K v H) (Q1 (ev env b) fun v=>K v H)
 | .alloc t=>Q1 (A7 X.P t) fun z=>match z.cells.toList.all Qt with
  | true=>K (.pointer (some ⟨H.length,0,none⟩)) (dn H z.cells.toList)
  | false=>none
 | .box _ x=>Q1 (ev env x) fun v=>match v.cells.toList.all az with
  | true=>K (.pointer (some ⟨H.length,0,none⟩)) (dn H v.cells.toList)
  | false=>none
 | .build t parts=>Q1 (oH env parts.toList) fun ps=>Q1 (Fx X.P t ps) fun cs=>K (.agg cs) H
 | .buildSlice t len parts=>Q1 (oH env parts.toList) fun ps=>Q1 (oZ X.P t) fun (_,size,_,z) =>
  match Nat.ble (len*size) 16777216 with
  | true=>Q1 (Instr.fill (fun i=>some (i*size,size)) ((List.replicate len z.cells.toList).flatten.toArray) ps) fun cs =>
   match cs.toList.all az,Nat.beq cs.size (len*size) with
   | true,true=>K (.slice (some ⟨H.length,0,none⟩) len size) (dn H cs.toList)
   | _,_=>none
  | false=>none
 | .load t a=>match A8 X.P t a with
  | some v=>K v H
  | none=>Q1 (ev env a) fun v=>fj v fun p=>Q1 (X.P.info? t) fun i=>match X.P.underlying t with
   | some (.struct _) | some (.array _ _)=>Q1 (Qv H p i.size) fun l=>match i.zero with
    | some z=>wu z (.agg l.toArray) fun u=>K u H
    | none=>none
   | some _=>Q1 (gQ H p) fun u=>match i.zero with
    | some z=>wq z u fun u=>K u H
    | none=>none
   | none=>none
 | .store t a x=>Q1 (ev env a) fun v=>Q1 (ev env x) fun u=>fj v fun p=>Q1 (X.P.info? t) fun i=>match Nat.beq u.cells.size i.size with
  | true=>Q1 (kZ H X.ai p u.cells.toList) fun H'=>K undef H'
  | false=>none
 | .nilCheck x=>Q1 (ev env x) fun v=>match v with
  | .func (.func f) a b=>K (.func (.func f) a b) H
  | v=>fj v fun p=>K (.pointer (some p)) H
 | .binOp op t x y _=>Q1 (ev env x) fun v=>Q1 (ev env y) fun u=>Ak X.P op t v u fun r=>K r H
 | .unOp op _ x=>Q1 (ev env x) fun v=>wz op v fun r=>K r H
 | .convert src dst x=>Q1 (ev env x) fun v=>I2 X.P src dst v H K
 | .makeFunc (.func f) first cap=>Q1 (e_ env first.toList) fun fs=>Q1 (e_ env cap.toList) fun cs=>K (.func (.func f) fs.toArray cs.toArray) H
 | .makeSlice t l c=>Q1 (ev env l) fun v=>Q1 (ev env c) fun u=>wF v fun n=>wF u fun m =>
  Q1 (oZ X.P t) fun (_,size,bytes,z)=>aa (Nat.ble n m&&Nat.ble (m*bytes) Q7)
   (K (.slice (some ⟨H.length,0,none⟩) n size) (dn H ((List.replicate n z.cells.toList).flatten))) none
 | .slice t x lo hi none=>Q1 (ev env x) fun v=>match v with
  | .slice a n c=>match X.P.underlying t with
   | some (.slice e)=>Q1 (X.P.info? e) fun i=>mN env hi n fun h=>mN env lo 0 fun l =>
    Q1 (iU a n c l h i.size) fun u=>gK u fun a n c=>K (.slice a n c) H
   | _=>none
  | .string s=>match X.P.underlying t with
   | some .string=>mN env hi s.size fun h=>mN env lo 0 fun l=>aa (Nat.ble l h&&Nat.ble h s.size) (K (.string (s.extract l h)) H) none
   | _=>none
  | _=>none
 | .fieldAddr s x f=>Q1 (ev env x) fun v=>fj v fun p=>match X.P.underlying s with
  | some (.struct fs)=>Q1 fs[f]? fun fd=>Q1 (X.P.info? fd.type) fun i=>match Nat.beq i.size 0 with
   | false=>K (.pointer (some ⟨p.block,p.off+fd.offset,none⟩)) H
   | true=>none
  | _=>none
 | .field t x f=>Q1 (ev env x) fun v=>match v with
  | .agg cs=>match X.P.underlying t with
   | some (.struct fs)=>Q1 fs[f]? fun fd=>Q1 (gL X.P fd.type cs fd.offset) fun u=>K u H
   | _=>none
  | _=>none
 | .indexAddr t x ix=>Q1 (ev env x) fun v=>Q1 (ev env ix) fun j=>match X.P.underlying t with
  | some (.slice e)=>wo v fun p n _=>Q1 (X.P.info? e) fun i=>EM j fun k=>aa (Nat.blt k n) (K (.pointer (some ⟨p.block,p.off+k*i.size,none⟩)) H) none
  | some (.array n e)=>fj v fun p=>Q1 (X.P.info? e) fun i=>EM j fun k=>aa (Nat.blt k n) (K (.pointer (some ⟨p.block,p.off+k*i.size,none⟩)) H) none
  | _=>none
 | .index t x ix=>Q1 (ev env x) fun v=>Q1 (ev env ix) fun j=>match v with
  | .string s=>match X.P.underlying t with
   | some .string=>EM j fun k=>Q1 s.data.toList[k]? fun b=>K (.int .u8 b.toNat) H
   | _=>none
  | .agg cs=>match X.P.underlying t with
   | some (.array n e)=>Q1 (X.P.info? e) fun i=>EM j fun k=>aa (Nat.blt k n) (Q1 (gL X.P e cs (k*i.size)) fun u=>K u H) none
   | _=>none
  | _=>none
 | .extract x i=>Q1 (ev env x) fun v=>match v with
  | .tuple vs=>Q1 vs[i]? fun u=>K u H
  | _=>none
 | .call c=>match c.callee with
  | .builtin b=>Q1 (e_ env c.args.toList) fun vs=>o_ X.P X.ai b c.argTypes.toList vs H K
  | .value f=>Q1 (ev env f) fun g=>Q1 (e_ env c.args.toList) fun vs=>match g with
   | .func (.func n) first cap=>Q1 (X.call n (first.toList++vs++cap.toList) X.ai H) fun r =>
    match PN X.P o.type with
    | some tm=>EL tm r.1 fun u=>K u r.2
    | none=>K r.1 r.2
   | _=>none
  | _=>none
 | _=>none
end ops
def vn (env:Env):List (Nat×Value)->Option (List Value)
 | []=>some []
 | (s,_)::r=>Q1 (cS env s) fun v=>Q1 (vn env r) fun l=>some (v::l)
def Bt {β:Type} (ks:List (Nat×Value)) (vs:List Value) (K:Env->Option β):Option β :=
 match ks with
 | []=>JK vs (K [])
 | (s,t)::r=>Aj vs fun v l=>wu t v fun v'=>Bt r l fun env=>K ((s,v')::env)
def CN {β:Type} (F:(List Value->af->Option β)->List Value->af->Option β):Nat->List Value->af->Option β
 | 0=>fun _ _=>none
 | n+1=>F (CN F n)
def Qa:Value->Value->Bool
 | .bool a,.bool b=>a==b
 | .int k a,.int k' b=>decide (k=k')&&(a==b)
 | .string a,.string b=>a.toList==b.toList
 | .pointer a,.pointer b=>decide (a=b)
 | .slice a n c,.slice b m e=>decide (a=b)&&(n==m)&&(c==e)
 | .nilFunc,.nilFunc=>true
 | .nilIface,.nilIface=>true
 | .map a,.map b=>decide (a=b)
 | _,_=>false
def Bu:List Value->List Value->Bool
 | [],[]=>true
 | x::r,y::q=>Qa x y&&Bu r q
 | _,_=>false
def jY:Option Value->Option Value->Bool
 | none,none=>true
 | some (.agg xs),some (.agg ys)=>Bu xs.toList ys.toList
 | some x,some y=>Qa x y
 | _,_=>false
def gB (P:Program):Op->Nat
 | .call { callee:=.builtin .append,.. } | .call { callee:=.builtin .copy,.. }=>3
 | .call { callee:=.builtin _,.. }=>0
 | .call _ | .store .. => 3
 | .alloc _ | .box .. | .buildSlice .. | .makeSlice .. => 2
 | .load .. => 1
 | .convert src dst _=>match P.underlying src,P.underlying dst with
  | some (.slice _),_=>1
  | _,some (.slice _)=>2
  | _,_=>0
 | _=>0
def cN (P:Program) (ops:Array Oper) (i:Nat):Nat:=match ops[i]? with | some o=>gB P o.op | none=>0
def iN (b:Array Nat) (j i:Nat):Bool:=(b.getD j 0).testBit i
def Qvl (P:Program) (ops:Array Oper) (b:Array Nat) (i j:Nat):Bool :=
 iN b j i || (!(Nat.beq (cN P ops j) 3&&Nat.ble 2 (cN P ops i)) &&
  match ops[i]?,ops[j]? with
  | some x,some y=>x.apart ops y
  | _,_=>false)
def Qq9 (ops:Array Oper) (j:Nat):Bool:=match ops[j]? with
 | some o=>o.after.toList.all fun e => !Region.binds .any e || Nat.blt e.on j
 | none=>false
def Mx (P:Program) (ops:Array Oper):Bool :=
 let b:=Region.before ops
 (List.range ops.size).all fun j=>Qq9 ops j&&(List.range j).all fun i=>Qvl P ops b i j
def HH (P:Program) (ops:Array Oper) (i:Nat):List Nat :=
 let b:=Region.before ops
 let es:=(List.range ops.size).filter fun e=>Nat.beq (cN P ops e) 3
 let Bv:=es.filter fun e=>iN b i e
 let m0:=match Bv.reverse with | e::_=>e+1 | []=>0
 m0::(es.filter fun e => !iN b i e && !iN b e i && !Nat.beq e i).map (· + 1)
def JN (P:Program) (ops:Array Oper) (m i:Nat):Bool :=
 (List.range ops.size).all fun k => !(Nat.ble (min m i) k&&Nat.blt k (max m i)) || Nat.blt (cN P ops k) 2
def c_ (P:Program) (o:Op) (env:Env) (H:af):Option Value :=
 match o with
 | .load t a=>match A8 P t a with
  | some v=>some v
  | none=>Q1 (ev env a) fun v=>fj v fun p=>Q1 (P.info? t) fun i=>match P.underlying t with
   | some (.struct _) | some (.array _ _)=>Q1 (Qv H p i.size) fun l=>some (.agg l.toArray)
   | some _=>gQ H p
   | none=>none
 | .convert _ _ x=>Q1 (ev env x) fun v=>Q1 (Qf H 1 v) fun l=>some (.agg l.toArray)
 | _=>none
def IY:Value->Option Nat
 | .pointer (some p)=>some p.block
 | .slice (some p) _ _=>some p.block
 | _=>none
theorem KC {P:Program} {t:TypeId} {x:Operand} {env:Env} {v:Value} (h:ev env x=some v):A8 P t x=none:=by
 cases x<;>first | rfl | simp [ev] at h
def PO:Op->Option Tmp
 | .load _ (.tmp t)=>some t
 | .convert _ _ (.tmp t)=>some t
 | _=>none
def JO (P:Program) (ops:Array Oper) (i:Nat) (o:Oper) (m:Nat):Bool :=
 match PO o.op with
 | some t=>(List.range i).any fun a=>Nat.ble m a&&iN (Region.before ops) i a&&Nat.beq (cN P ops a) 2&&(match ops[a]? with
   | some q=>q.guard.isNone&&(match q.dst with | some d=>Nat.beq d t | none=>false)
   | none=>false)&&(List.range i).all fun k=>Nat.ble k a || (!Nat.beq (cN P ops k) 3&&match (ops[k]?).bind (·.dst) with | some d => !Nat.beq d t | none=>true)
 | none=>false
section code
variable {β:Type}
def DJ (nt:Nat) (dst:Option Tmp) (v:Value) (env:Env) (K:Env->Option β):Option β :=
 match dst with
 | none=>K env
 | some d=>match Nat.blt d nt with | true=>K ((d,v)::env) | false=>none
def DK (ops:Array Oper) (o:Oper) (env:Env) (K:Bool->Env->Option β):Option β :=
 match o.guard with
 | none=>K true env
 | some (j,want)=>match (ops[j]?).bind (·.dst) with
  | some d=>Q1 (cS env d) fun v=>match v with
   | .bool b=>aa b (K want ((d,.bool true)::env)) (K (!want) ((d,.bool false)::env))
   | _=>K false env
  | none=>none
def DH (P:Program) (t:TypeId):Bool:=match P.underlying t with
 | some (.map k e)=>match P.underlying k,P.underlying e,Q1 (P.info? e) fun i=>i.zero with
  | some (.int .i64),some (.int .i64),some (.int .i64 z)=>z==0
  | _,_,_=>false
 | _=>false
def eG:List (Int×Int)->Int->Option Int
 | [],_=>none
 | (a,v)::r,k=>match k==a with | true=>some v | false=>eG r k
def gZ:List (Int×Int)->Int->Int->List (Int×Int)
 | [],k,v=>[(k,v)]
 | (a,u)::r,k,v=>match k==a with | true=>(a,v)::r | false=>(a,u)::gZ r k v
def FK (H:af) (b:Nat):Option (List (Int×Int)):=Q1 (ah H b) fun k=>match k.ro with | false=>k.mp | true=>none
def rQ (H:af):af:=H++[some ⟨[],false,some []⟩]
def I4 (v:Value) (K:Nat->Option β):Option β:=match v with | .map (some b)=>K b | _=>none
def FL (v:Value) (K:Int->Option β):Option β:=match v with | .int .i64 n=>K n | _=>none
def FN (ok:Bool) (x:Option Int):Value:=match ok with
 | true=>.tuple #[.int .i64 (x.getD 0),.bool x.isSome]
 | false=>.int .i64 (x.getD 0)
def BX (X:Cx) (o:Oper) (env:Env) (H:af) (K:Value->af->Option β):Option β :=
 match o.op with
 | .makeMap _ none=>K (.map (some H.length)) (rQ H)
 | .mapUpdate t m k v=>match DH X.P t with
  | true=>Q1 (ev env m) fun mv=>Q1 (ev env k) fun kv=>Q1 (ev env v) fun vv=>I4 mv fun b=>FL kv fun a=>FL vv fun u=>Q1 (FK H b) fun es=>K undef (H.set b (some ⟨[],false,some (gZ es a u)⟩))
  | false=>none
 | .lookup t m k ok=>match DH X.P t with
  | true=>Q1 (ev env m) fun mv=>Q1 (ev env k) fun kv=>I4 mv fun b=>FL kv fun a=>Q1 (FK H b) fun es=>K (FN ok (eG es a)) H
  | false=>none
 | _=>dx X o env H K
def BY (X:Cx) (ops:Array Oper):List Oper->Env->af->(Env->af->Option β)->Option β
 | [],env,H,K=>K env H
 | o::r,env,H,K=>DK ops o env fun t env=>match t with
  | true=>BX X o env H fun v H'=>DJ X.nt o.dst v env fun env=>BY X ops r env H' K
  | false=>DJ X.nt o.dst undef env fun env=>BY X ops r env H K
def Al (X:Cx) (ops:Array Oper):List Oper->Env->af->List (Env×af)->(List (Env×af)->Env->af->Option β)->Option β
 | [],env,H,tr,K=>K ((env,H)::tr) env H
 | o::r,env,H,tr,K=>DK ops o env fun t env=>match t with
  | true=>dx X o env H fun v H'=>DJ X.nt o.dst v env fun ak=>Al X ops r ak H' ((env,H)::tr) K
  | false=>DJ X.nt o.dst undef env fun ak=>Al X ops r ak H ((env,H)::tr) K
def HJ (P:Program) (ops:Array Oper) (jH:List (Env×af)) (i:Nat) (o:Oper):List Nat->Option β->Option β
 | [],x=>x
 | m::ms,x=>match JN P ops m i || JO P ops i o m with
  | true=>HJ P ops jH i o ms x
  | false=>match jH[i]?,jH[m]? with
   | some s,some q=>aa (jY (c_ P o.op s.1 q.2) (c_ P o.op s.1 s.2)) (HJ P ops jH i o ms x) none
   | _,_=>none
def cv (P:Program) (ops:Array Oper) (jH:List (Env×af)):List Nat->Option β->Option β
 | [],x=>x
 | i::r,x=>match Nat.beq (cN P ops i) 1,ops[i]? with
  | true,some o=>HJ P ops jH i o (HH P ops i) (cv P ops jH r x)
  | _,_=>cv P ops jH r x
def HK (X:Cx) (ops:Array Oper) (env:Env) (H:af) (K:Env->af->Option β):Option β :=
 match Mx X.P ops with
 | true=>Al X ops ops.toList env H [] fun tr ak H'=>cv X.P ops tr.reverse (List.range ops.size) (K ak H')
 | false=>none
inductive eK where
 | normal
 | exit (id:Nat)
 | ret
def Bw:Code->Nat
 | .seq a b=>Bw a+Bw b
 | .cond _ a b=>Bw a+Bw b
 | .block _ c=>Bw c
 | .loop c=>Bw c+1
 | _=>0
def EN (c:Operand) (b:Bool) (env:Env):Env:=match c with | .tmp d=>(d,.bool b)::env | _=>env
def ff (X:Cx):Code->Nat->Env->af->(eK->Env->af->Option β)->Option β
 | .skip,_,env,H,K=>K .normal env H
 | .label _,_,env,H,K=>K .normal env H
 | .region _ ops d,_,env,H,K=>match d with
  | false=>BY X ops ops.toList env H (K .normal)
  | true=>HK X ops env H (K .normal)
 | .seq a b,n,env,H,K=>ff X a n env H fun ex env H=>match ex with
  | .normal=>ff X b (n+Bw a) env H K
  | .exit id=>K (.exit id) env H
  | .ret=>K .ret env H
 | .cond c a b,n,env,H,K=>Q1 (ev env c) fun v=>wT v fun t=>aa t (ff X a n (EN c true env) H K) (ff X b (n+Bw a) (EN c false env) H K)
 | .block id c,n,env,H,K=>ff X c n env H fun ex env H=>match ex with
  | .normal=>K .normal env H
  | .exit Am=>match Nat.beq Am id with | true=>K .normal env H | false=>K (.exit Am) env H
  | .ret=>K .ret env H
 | .loop c,n,env,H,K=>Q1 (vn env (X.cT n)) fun vs =>
  CN (fun again vs H=>Bt (X.cT n) vs fun env=>ff X c (n+1) env H fun ex ak H'=>match ex with
   | .normal=>Q1 (vn ak (X.cT n)) fun cB=>again cB H'
   | .exit id=>K (.exit id) ak H'
   | .ret=>K .ret ak H') X.fuel vs H
 | .exit id,_,env,H,K=>K (.exit id) env H
 | .ret,_,env,H,K=>K .ret env H
 | _,_,_,_,_=>none
end code
inductive Mode where
 | keep
 | drop
def PR (n:Nat) (v:Value):Bool :=
 Qt v || match v with
  | .pointer (some a)=>decide (a.block < n)
  | .slice (some a) _ _=>decide (a.block < n)
  | _=>false
def EO:List Nat->Nat->Option Nat
 | [],_=>none
 | x::r,b=>if x=b then some 0 else Q1 (EO r b) fun i=>some (i+1)
def JP (base:Nat) (H:af) (olds:List Nat) (b:Nat):Option (Nat×List Nat) :=
 if b < base then some (b,olds) else
 match EO olds b with
 | some j=>some (base+j,olds)
 | none=>Q1 (ah H b) fun k=>match k.cells.all (PR base) with
  | true=>some (base+olds.length,olds++[b])
  | false=>none
def CO (base:Nat) (H:af) (olds:List Nat) (v:Value):Option (Value×List Nat) :=
 match v with
 | .pointer (some a)=>Q1 (JP base H olds a.block) fun r=>some (.pointer (some ⟨r.1,a.off,none⟩),r.2)
 | .slice (some a) n c=>Q1 (JP base H olds a.block) fun r=>some (.slice (some ⟨r.1,a.off,none⟩) n c,r.2)
 | v=>match Qt v with | true=>some (v,olds) | false=>none
def Bx (base:Nat) (H:af):List Nat->List Value->Option (List Value×List Nat)
 | olds,[]=>some ([],olds)
 | olds,v::r=>Q1 (CO base H olds v) fun x=>Q1 (Bx base H x.2 r) fun y=>some (x.1::y.1,y.2)
def JQ (base:Nat) (H:af) (olds:List Nat) (v:Value):Option (Value×List Nat) :=
 match v with
 | .agg cs=>Q1 (Bx base H olds cs.toList) fun x=>some (.agg x.1.toArray,x.2)
 | v=>CO base H olds v
def wG (base:Nat) (H:af):List Nat->List Value->Option (List Value×List Nat)
 | olds,[]=>some ([],olds)
 | olds,v::r=>Q1 (JQ base H olds v) fun x=>Q1 (wG base H x.2 r) fun y=>some (x.1::y.1,y.2)
def vo (m:Mode) (base:Nat) (vs:List Value) (H:af):Option (List Value×af) :=
 match m with
 | .keep=>some (vs,H)
 | .drop=>Q1 (wG base H [] vs) fun x=>some (x.1,H.take base++x.2.map (ah H))
def iO (P:Program) (env:Env) (H:af):List ResultVar->Option (List Value)
 | []=>some []
 | .tmp t::r=>Q1 (cS env t) fun v=>Q1 (iO P env H r) fun l=>some (v::l)
 | .cell a t::r=>Q1 (cS env a) fun v=>match v with
  | .pointer (some p)=>Q1 (P.info? t) fun i=>match P.underlying t with
   | some (.struct _) | some (.array _ _)=>Q1 (Qv H p i.size) fun c=>Q1 (iO P env H r) fun l=>some (.agg c.toArray::l)
   | some _=>Q1 (gQ H p) fun u=>Q1 (iO P env H r) fun l=>some (u::l)
   | none=>none
  | _=>none
def iP (vs:List Value):Value:=match vs with | [v]=>v | vs=>.tuple vs.toArray
def qW:Nat->List Value->Env
 | _,[]=>[]
 | i,v::r=>(i,v)::qW (i+1) r
structure CP where
 fuel:Nat
 loops:FuncId->Nat->List (Nat×Value)
 mode:FuncId->Mode
 ext:FuncId->Option (List Value->Nat->af->Option (Value×af))
def V9 (m:Mode) (ai n:Nat):Nat:=match m with | .keep=>ai | .drop=>n
def EP (P:Program) (A:CP) (call:FuncId->List Value->Nat->af->Option (Value×af)) (f:FuncId) (args:List Value) (ai:Nat) (H:af):Option (Value×af) :=
 match P.funcs[f]? with
 | none=>none
 | some fn=>match fn.body,Nat.ble args.length fn.ntmps,fn.name == "runtime.NumGoroutine" with
  | some c,true,false=>ff ⟨P,call,V9 (A.mode f) ai H.length,fn.ntmps,A.fuel,A.loops f⟩ c 0 (qW 0 args) H fun ex env H'=>match ex with
   | .exit _=>none
   | _=>Q1 (iO P env H' fn.results.toList) fun vs=>Q1 (vo (A.mode f) H.length vs H') fun r=>some (iP r.1,r.2)
  | _,_,_=>none
def run (P:Program) (A:CP):Nat->FuncId->List Value->Nat->af->Option (Value×af)
 | 0=>fun _ _ _ _=>none
 | d+1=>fun f args ai H=>match A.ext f with
  | some e=>e args ai H
  | none=>EP P A (run P A d) f args ai H
def GW (w:World):Prop:=gN<=w.heap.size/\∀ p∈gTabs,p.1 < gN/\∃ t f,w.heap[p.1]? = some (.cells p.2.toArray t f)
theorem GW.cv {w w':World} (h:GW w) (hs:w.heap.size<=w'.heap.size) (hb:∀ k,k < gN->w'.heap[k]? = w.heap[k]?):GW w' :=
 ⟨by have:=h.1;omega,fun p hp=>by obtain ⟨h1,t,f,h2⟩:=h.2 p hp;exact ⟨h1,t,f,by rw [hb _ h1];exact h2⟩⟩
theorem GW.heap {w w':World} (h:GW w) (e:w'.heap=w.heap):GW w':=h.cv (by rw [e];exact Zd _) (fun _ _=>by rw [e])
theorem Qhx {g:Nat} {l:List Value}:∀ {t:List (Nat×List Value)},HC t g=some l->(g,l)∈t
 | [],h=>by simp [HC] at h
 | (a,k)::r,h=>by
  unfold HC at h
  split at h
  .rename_i e
   have e:=Z7 e
   injection h with h
   subst e h;exact List.mem_cons_self
  .exact List.mem_cons_of_mem _ (Qhx h)
theorem GW.cells {w:World} (h:GW w) {g:Nat} {l:List Value} (hf:HC gTabs g=some l) (j:Nat) (v:Value) (hv:l[j]? = some v):w.cell? ((⟨g,0,none⟩:Addr).add j)=some v:=by
 obtain ⟨_,t,f,hb⟩:=h.2 _ (Qhx hf)
 have e:((⟨g,0,none⟩:Addr).add j)=⟨g,j,none⟩:=by
  unfold Addr.add
  by_cases h:j=0
  .subst h;simp
  .simp [h]
 rw [e]
 simp only at hb
 simp [World.cell?,hb,hv]
structure Loc where
 aH:Nat
 off:Nat
 size:Nat
abbrev Io:=Nat->Loc
def aJ (n:Nat):Nat->Prop:=fun b=>b < n
def Io.addr (ι:Io) (a:Addr):Addr:=⟨(ι a.block).aH,(ι a.block).off+a.off,none⟩
inductive ay (ι:Io) (D:Nat->Prop):Value->Value->Prop
 | bool (b:Bool):ay ι D (.bool b) (.bool b)
 | int (k:IntKind) (m:Int):ay ι D (.int k m) (.int k m)
 | str (s:ByteArray):ay ι D (.string s) (.string s)
 | nilFunc:ay ι D .nilFunc .nilFunc
 | nilIface:ay ι D .nilIface .nilIface
 | fD:ay ι D (.pointer none) (.pointer none)
 | ptr (a:Addr) (h:D a.block):ay ι D (.pointer (some a)) (.pointer (some (ι.addr a)))
 | dL:ay ι D (.slice none 0 0) (.slice none 0 0)
 | map (b:Nat) (h:D b):ay ι D (.map (some b)) (.map (some (ι b).aH))
 | eP (a:Addr) (len c cap:Nat) (h:D a.block) (hl:len<=cap) (hc:(ι a.block).off+a.off+cap*c<=(ι a.block).size) :
   ay ι D (.slice (some a) len c) (.slice (some (ι.addr a)) len cap)
 | bC (a b:Addr) (c:Nat) (h:D a.block):ay ι D (.slice (some a) 0 c) (.slice (some b) 0 0)
 | agg (xs ys:List Value) (hl:xs.length=ys.length) (h:∀ i (h1:i < xs.length) (h2:i < ys.length),ay ι D xs[i] ys[i]):ay ι D (.agg ⟨xs⟩) (.agg ⟨ys⟩)
 | tuple (xs ys:List Value) (hl:xs.length=ys.length) (h:∀ i (h1:i < xs.length) (h2:i < ys.length),ay ι D xs[i] ys[i]):ay ι D (.tuple ⟨xs⟩) (.tuple ⟨ys⟩)
 | func (f:FuncId) (xs ys xs' oh:List Value) (hl:xs.length=ys.length) (h:∀ i (h1:i < xs.length) (h2:i < ys.length),ay ι D xs[i] ys[i])
   (jR:xs'.length=oh.length) (h':∀ i (h1:i < xs'.length) (h2:i < oh.length),ay ι D xs'[i] oh[i]):ay ι D (.func (.func f) ⟨xs⟩ ⟨xs'⟩) (.func (.func f) ⟨ys⟩ ⟨oh⟩)
def aZ (ι:Io) (D:Nat->Prop) (xs ys:List Value):Prop:=xs.length=ys.length/\∀ i (h1:i < xs.length) (h2:i < ys.length),ay ι D xs[i] ys[i]
inductive bO (D:Nat->Prop):Value->Prop
 | bool (b:Bool):bO D (.bool b)
 | int (k:IntKind) (m:Int):bO D (.int k m)
 | str (s:ByteArray):bO D (.string s)
 | nilFunc:bO D .nilFunc
 | nilIface:bO D .nilIface
 | fD:bO D (.pointer none)
 | ptr (a:Addr) (h:D a.block):bO D (.pointer (some a))
 | dL:bO D (.slice none 0 0)
 | map (b:Nat) (h:D b):bO D (.map (some b))
 | sl (a:Addr) (len c:Nat) (h:D a.block):bO D (.slice (some a) len c)
 | agg (xs:List Value) (h:∀ i (h1:i < xs.length),bO D xs[i]):bO D (.agg ⟨xs⟩)
 | tuple (xs:List Value) (h:∀ i (h1:i < xs.length),bO D xs[i]):bO D (.tuple ⟨xs⟩)
 | func (f:FuncId) (xs xs':List Value) (h:∀ i (h1:i < xs.length),bO D xs[i]) (h':∀ i (h1:i < xs'.length),bO D xs'[i]):bO D (.func (.func f) ⟨xs⟩ ⟨xs'⟩)
theorem ay.lt {ι:Io} {D:Nat->Prop} {v c:Value} (h:ay ι D v c):bO D v:=by
 induction h with
 | bool b=>exact .bool b
 | int k m=>exact .int k m
 | str s=>exact .str s
 | nilFunc=>exact .nilFunc
 | nilIface=>exact .nilIface
 | fD=>exact .fD
 | ptr a h=>exact .ptr a h
 | dL=>exact .dL
 | map b h=>exact .map b h
 | eP a len c cap h _ _=>exact .sl a len c h
 | bC a b c h=>exact .sl a 0 c h
 | agg xs ys hl h ih=>exact .agg xs fun i h1=>ih i h1 (hl▸h1)
 | tuple xs ys hl h ih=>exact .tuple xs fun i h1=>ih i h1 (hl▸h1)
 | func f xs ys xs' oh hl h jR h' ih HL=>exact .func f xs xs' (fun i h1=>ih i h1 (hl▸h1)) (fun i h1=>HL i h1 (jR▸h1))
theorem ay.re {ι ι':Io} {D E:Nat->Prop} {v c:Value} (h:ay ι D v c) (hv:bO E v) (ha:∀ b,D b->E b->ι' b=ι b):ay ι' E v c:=by
 induction h with
 | bool b=>exact .bool b
 | int k m=>exact .int k m
 | str s=>exact .str s
 | nilFunc=>exact .nilFunc
 | nilIface=>exact .nilIface
 | fD=>exact .fD
 | ptr a h =>
  cases hv with
  | ptr _ h' =>
   have e:ι.addr a=ι'.addr a:=by unfold Io.addr;rw [ha _ h h']
   rw [e];exact .ptr a h'
 | dL=>exact .dL
 | map b h =>
  cases hv with
  | map _ h'=>rw [<- ha _ h h'];exact .map b h'
 | eP a len c cap h hl hc =>
  cases hv with
  | sl _ _ _ h' =>
   have e:ι.addr a=ι'.addr a:=by unfold Io.addr;rw [ha _ h h']
   rw [e];exact .eP a len c cap h' hl (by rw [ha _ h h'];exact hc)
 | bC a b c h =>
  cases hv with
  | sl _ _ _ h'=>exact .bC a b c h'
 | agg xs ys hl h ih =>
  cases hv with
  | agg _ hv=>exact .agg xs ys hl fun i h1 h2=>ih i h1 h2 (hv i h1)
 | tuple xs ys hl h ih =>
  cases hv with
  | tuple _ hv=>exact .tuple xs ys hl fun i h1 h2=>ih i h1 h2 (hv i h1)
 | func f xs ys xs' oh hl h jR h' ih HL =>
  cases hv with
  | func _ _ _ hv gY=>exact .func f xs ys xs' oh hl (fun i h1 h2=>ih i h1 h2 (hv i h1)) jR (fun i h1 h2=>HL i h1 h2 (gY i h1))
theorem bO.mono {D E:Nat->Prop} {v:Value} (h:bO D v) (hm:∀ b,D b->E b):bO E v:=by
 induction h with
 | bool b=>exact .bool b
 | int k m=>exact .int k m
 | str s=>exact .str s
 | nilFunc=>exact .nilFunc
 | nilIface=>exact .nilIface
 | fD=>exact .fD
 | ptr a h=>exact .ptr a (hm _ h)
 | dL=>exact .dL
 | map b h=>exact .map b (hm _ h)
 | sl a len c h=>exact .sl a len c (hm _ h)
 | agg xs h ih=>exact .agg xs ih
 | tuple xs h ih=>exact .tuple xs ih
 | func f xs xs' h h' ih HL=>exact .func f xs xs' ih HL
theorem ay.mono {ι ι':Io} {D E:Nat->Prop} {v c:Value} (h:ay ι D v c) (hm:∀ b,D b->E b) (ha:∀ b,D b->ι' b=ι b):ay ι' E v c :=
 h.re (h.lt.mono hm) fun b hb _=>ha b hb
theorem JR {v:Value} (h:Qt v=true) (ι:Io) (D:Nat->Prop):ay ι D v v:=by
 unfold Qt at h
 split at h<;>first | exact .bool _ | exact .int _ _ | exact .str _ | exact .nilFunc | exact .nilIface | exact .fD | exact .dL | simp at h
theorem rJ {v:Value} (h:Qt v=true) (D:Nat->Prop):bO D v:=(JR h (fun _=>⟨0,0,0⟩) D).lt
theorem Qhy {n:Nat} {v:Value} (h:PR n v=true):bO (aJ n) v:=by
 unfold PR at h
 cases hl:Qt v with
 | true=>exact rJ hl _
 | false =>
  rw [hl,Bool.false_or] at h
  split at h
  .exact .ptr _ (by have:=of_decide_eq_true h;exact this)
  .exact .sl _ _ _ (by have:=of_decide_eq_true h;exact this)
  .simp at h
theorem Qhz {v:Value} (h:JJ v=true) (ι:Io) (D:Nat->Prop):ay ι D v v:=by
 unfold JJ at h
 split at h
 .rename_i cs
  obtain ⟨l⟩:=cs
  exact .agg l l rfl fun i h1 _=>JR (Z3 h _ (List.getElem_mem h1)) ι D
 .rename_i cs
  obtain ⟨l⟩:=cs
  exact .tuple l l rfl fun i h1 _=>JR (Z3 h _ (List.getElem_mem h1)) ι D
 .exact JR h ι D
theorem Fy {v:Value} (h:Qt v=true):az v=true:=by
 unfold Qt at h
 split at h<;>first | rfl | simp at h
theorem ay.az {ι:Io} {D:Nat->Prop} {v c:Value} (h:ay ι D v c):az c=az v:=by cases h<;>rfl
theorem aZ.cr {xs:List Value} (h:xs.all Qt=true) (ι:Io) (D:Nat->Prop):aZ ι D xs xs :=
 ⟨rfl,fun i h1 _=>JR (Z3 h _ (List.getElem_mem h1)) ι D⟩
theorem aZ.nil (ι:Io) (D:Nat->Prop):aZ ι D [] []:=⟨rfl,fun _ h1 _=>absurd h1 (by simp)⟩
theorem aZ.cons {ι:Io} {D:Nat->Prop} {x y:Value} {xs ys:List Value} (h:ay ι D x y) (hs:aZ ι D xs ys):aZ ι D (x::xs) (y::ys):=by
 refine ⟨by simp [hs.1],fun i h1 h2=>?_⟩
 cases i with
 | zero=>exact h
 | succ i=>exact hs.2 i (by simpa using h1) (by simpa using h2)
theorem aZ.head {ι:Io} {D:Nat->Prop} {x y:Value} {xs ys:List Value} (h:aZ ι D (x::xs) (y::ys)):ay ι D x y:=h.2 0 (by simp) (by simp)
theorem aZ.tail {ι:Io} {D:Nat->Prop} {x y:Value} {xs ys:List Value} (h:aZ ι D (x::xs) (y::ys)):aZ ι D xs ys :=
 ⟨by have:=h.1;simpa using this,fun i h1 h2=>h.2 (i+1) (by simpa using h1) (by simpa using h2)⟩
theorem aZ.append {ι:Io} {D:Nat->Prop} {xs ys as bs:List Value} (h:aZ ι D xs ys) (h':aZ ι D as bs):aZ ι D (xs++as) (ys++bs):=by
 induction xs generalizing ys with
 | nil =>
  have:ys=[]:=Z1 (by have:=h.1;simpa using this.symm)
  subst this;exact h'
 | cons x xs ih =>
  cases ys with
  | nil=>exact absurd h.1 (by simp)
  | cons y ys=>exact aZ.cons h.head (ih h.tail)
theorem aZ.mono {ι ι':Io} {D E:Nat->Prop} {xs ys:List Value} (h:aZ ι D xs ys) (hm:∀ b,D b->E b) (ha:∀ b,D b->ι' b=ι b):aZ ι' E xs ys :=
 ⟨h.1,fun i h1 h2=>(h.2 i h1 h2).mono hm ha⟩
def BW (w:World) (r:Nat) (es:List (Int×Int)):Prop :=
 ∃ lg clock,w.heap[r]? = some (.map lg clock)/\lg.toList.map (fun e=>(e.key,e.val))=es.map fun p=>(Value.int .i64 p.1,Value.int .i64 p.2)
structure qX (ι:Io) (D:Nat->Prop) (w:World) (b:Nat) (k:bz):Prop where
 lt:(ι b).aH < w.heap.size
 shape:0 < (ι b).size->∃ eN,w.shape? (ι b).aH=some (eN,(ι b).size)
 map:∀ es,k.mp=some es->k.cells=[]/\(ι b).size=0/\BW w (ι b).aH es
 fit:(ι b).off+k.cells.length<=(ι b).size
 cell:∀ i (h:i < k.cells.length),∃ c,w.cell? ⟨(ι b).aH,(ι b).off+i,none⟩=some c/\ay ι D k.cells[i] c/\az k.cells[i]=true
 o9:k.ro=false->∀ i,(ι b).off<=i->i < (ι b).size->w.frozen? ⟨(ι b).aH,i,none⟩=false
structure Rel (ι:Io) (D:Nat->Prop) (H:af) (w:World):Prop where
 aH:∀ b k,ah H b=some k->qX ι D w b k
 inj:∀ b b' k k',ah H b=some k->ah H b'=some k'->b≠b'->(k.ro=false\/k'.ro=false)->(ι b).aH≠(ι b').aH
 iA:∀ b k,ah H b=some k->k.ro=false->gN<=(ι b).aH
 gw:GW w
def Ql (m:Nat) (H:af):Prop:=∀ b,b < m->∀ k,ah H b=some k->∀ v∈k.cells,bO (aJ m) v
structure Fr (ι:Io) (H:af) (w:World) (ι':Io) (H':af) (w':World):Prop where
 len:H.length<=H'.length
 io:∀ b,b < H.length->ι' b=ι b
 os:w'.os=w.os
 tape:w'.tape=w.tape
 output:w'.output=w.output
 size:w.heap.size<=w'.heap.size
 frame:∀ k,k < w.heap.size->(∀ b aH,ah H b=some aH->aH.ro=false->(ι b).aH≠k)->w'.heap[k]? = w.heap[k]?
 new:∀ b aH,ah H' b=some aH->aH.ro=false->w.heap.size<=(ι' b).aH\/∃ b0 My,ah H b0=some My/\My.ro=false/\(ι b0).aH=(ι' b).aH
 ro:∀ b aH,ah H' b=some aH->aH.ro=true->ah H b=some aH
structure Ab (ai:Nat) (H H':af):Prop where
 len:H.length<=H'.length
 all:Ql H.length H->Ql H'.length H'
 closed:∀ m,m<=ai->m<=H.length->Ql m H->Ql m H'
theorem Ab.refl (ai:Nat) (H:af):Ab ai H H:=⟨Zd _,fun h=>h,fun _ _ _ h=>h⟩
theorem Ab.trans {ai:Nat} {H H' Mz:af} (h:Ab ai H H') (g:Ab ai H' Mz):Ab ai H Mz :=
 ⟨Nat.le_trans h.len g.len,fun x=>g.all (h.all x),fun m hm hl x=>g.closed m hm (Nat.le_trans hl h.len) (h.closed m hm hl x)⟩
def dM (D:Nat->Prop) (env:Env):Prop:=∀ s v,cS env s=some v->bO D v
theorem Qq {H:af} {b:Nat} {k:bz} (h:ah H b=some k):b < H.length:=by
 unfold ah at h
 by_cases hb:b < H.length
 .exact hb
 .rw [List.getElem?_eq_none (by omega)] at h;simp at h
theorem Fr.refl (ι:Io) (H:af) (w:World):Fr ι H w ι H w :=
 ⟨Zd _,fun _ _=>rfl,rfl,rfl,rfl,Zd _,fun _ _ _=>rfl,fun b aH h hr=>.inr ⟨b,aH,h,hr,rfl⟩,fun _ _ h _=>h⟩
theorem Fr.trans {ι ι' ι'':Io} {H H' Mz:af} {w w' w'':World} (h:Fr ι H w ι' H' w') (g:Fr ι' H' w' ι'' Mz w''):Fr ι H w ι'' Mz w'':=by
 refine ⟨Nat.le_trans h.len g.len,fun b hb=>?_,g.os.trans h.os,g.tape.trans h.tape,g.output.trans h.output,Nat.le_trans h.size g.size,fun k hk hn=>?_,fun b aH hb hr=>?_,fun b aH hb hr=>h.ro b aH (g.ro b aH hb hr) hr⟩
 .rw [g.io b (Zm hb h.len),h.io b hb]
 .rw [g.frame k (Zm hk h.size),h.frame k hk hn]
  intro b aH hb hr he
  rcases h.new b aH hb hr with h1 | ⟨b0,k0,h0,gC,e0⟩
  .omega
  .exact hn b0 k0 h0 gC (e0.trans he)
 .rcases g.new b aH hb hr with h1 | ⟨b0,k0,h0,gC,e0⟩
  .exact .inl (Nat.le_trans h.size h1)
  .rcases h.new b0 k0 h0 gC with h2 | ⟨b1,k1,h1,ef,e1⟩
   .exact .inl (e0▸h2)
   .exact .inr ⟨b1,k1,h1,ef,e1.trans e0⟩
structure bw (ι:Io) (D:Nat->Prop) (nt:Nat) (env:Env) (a:Act):Prop where
 size:a.tmps.size=nt
 get:∀ s v,cS env s=some v->ay ι D v (a.tmps.getD s undef)
theorem bw.mono {ι ι':Io} {D E:Nat->Prop} {nt:Nat} {env:Env} {a:Act} (h:bw ι D nt env a) (hm:∀ b,D b->E b) (ha:∀ b,D b->ι' b=ι b):bw ι' E nt env a :=
 ⟨h.size,fun s v hs=>(h.get s v hs).mono hm ha⟩
theorem bw.lt {ι:Io} {D:Nat->Prop} {nt:Nat} {env:Env} {a:Act} (h:bw ι D nt env a):dM D env:=fun s v hs=>(h.get s v hs).lt
theorem vp (s:Nat) (v:Value) (env:Env) (t:Nat):cS ((s,v)::env) t=if s=t then some v else cS env t:=by
 rw [cS]
 cases hb:Nat.beq s t with
 | true=>rw [if_pos (Z7 hb)]
 | false=>rw [if_neg (Nat.ne_of_beq_eq_false hb)]
theorem Qm5 {a:Array Value} {d:Nat} {v:Value} (hd:d < a.size) (s:Nat):(a.setIfInBounds d v).getD s undef=if d=s then v else a.getD s undef:=by
 simp only [Array.getD_eq_getD_getElem?,Array.getElem?_setIfInBounds]
 by_cases h:d=s
 .subst h;simp [hd]
 .simp [h]
theorem bw.put {ι:Io} {D:Nat->Prop} {nt:Nat} {env:Env} {a:Act} {d:Nat} {v c:Value} (h:bw ι D nt env a) (hd:d < nt) (hv:ay ι D v c):bw ι D nt ((d,v)::env) (a.put (some d) c):=by
 refine ⟨by simp [Act.put,h.size],fun s u hs=>?_⟩
 rw [vp] at hs
 simp only [Act.put]
 rw [Qm5 (h.size▸hd)]
 by_cases e:d=s
 .subst e;simp at hs ⊢;subst hs;exact hv
 .simp [e] at hs ⊢;simpa using h.get s u hs
theorem bw.lit {ι:Io} {D:Nat->Prop} {nt:Nat} {env:Env} {a:Act} {d:Nat} {b:Bool} (h:bw ι D nt env a) (hv:cS env d=some (.bool b)):bw ι D nt ((d,.bool b)::env) a:=by
 refine ⟨h.size,fun s u hs=>?_⟩
 rw [vp] at hs
 by_cases e:d=s
 .subst e;simp at hs;subst hs;exact h.get d _ hv
 .simp [e] at hs;exact h.get s u hs
theorem Qe {ι:Io} {D:Nat->Prop} {nt:Nat} {env:Env} {a:Act} (h:bw ι D nt env a) {x:Operand} {v:Value} (hx:ev env x=some v):ay ι D v (a.eval x):=by
 cases x with
 | tmp t=>exact h.get t v hx
 | const u =>
  simp only [ev] at hx
  split at hx
  .rename_i hr;simp at hx;subst hx;exact Qhz hr ι D
  .simp at hx
 | global g=>simp [ev] at hx
 | func f =>
  simp [ev] at hx;subst hx
  exact .func f [] [] [] [] rfl (fun i h1=>absurd h1 (by simp)) rfl (fun i h1=>absurd h1 (by simp))
theorem OG {ι:Io} {D:Nat->Prop} {nt:Nat} {env:Env} {a:Act} (h:bw ι D nt env a):∀ {xs:List Operand} {vs:List Value},e_ env xs=some vs->aZ ι D vs (xs.map a.eval)
 | [],vs,hx=>by simp [e_] at hx;subst hx;exact aZ.nil ι D
 | x::r,vs,hx=>by
  simp only [e_] at hx
  cases h1:ev env x with
  | none=>simp [h1,Q1] at hx
  | some v =>
   cases h2:e_ env r with
   | none=>simp [h1,h2,Q1] at hx
   | some l =>
    simp [h1,h2,Q1] at hx;subst hx
    exact aZ.cons (Qe h h1) (OG h h2)
theorem Q2 {α β:Type} {x:Option α} {f:α->Option β} {r:β} (h:Q1 x f=some r):∃ a,x=some a/\f a=some r:=by
 cases x with
 | none=>simp [Q1] at h
 | some a=>exact ⟨a,rfl,h⟩
theorem jg {β:Type} {b:Bool} {x y:Option β} {r:β} (h:aa b x y=some r):(b=true/\x=some r)\/(b=false/\y=some r):=by
 cases b with
 | true=>exact .inl ⟨rfl,h⟩
 | false=>exact .inr ⟨rfl,h⟩
theorem Qtj {v:Value} (h:JJ v=true) (D:Nat->Prop):bO D v:=(Qhz h (fun _=>⟨0,0,0⟩) D).lt
theorem nC {D:Nat->Prop} {env:Env} (h:dM D env) {x:Operand} {v:Value} (hx:ev env x=some v):bO D v:=by
 cases x with
 | tmp t=>exact h t v hx
 | const u =>
  simp only [ev] at hx
  split at hx
  .rename_i hr;simp at hx;subst hx;exact Qtj hr D
  .simp at hx
 | global g=>simp [ev] at hx
 | func f =>
  simp [ev] at hx;subst hx
  exact .func f [] [] (fun i h1=>absurd h1 (by simp)) (fun i h1=>absurd h1 (by simp))
def gP (D:Nat->Prop) (xs:List Value):Prop:=∀ v∈xs,bO D v
theorem OF {D:Nat->Prop} {env:Env} (h:dM D env):∀ {xs:List Operand} {vs:List Value},e_ env xs=some vs->gP D vs
 | [],vs,hx=>by simp [e_] at hx;subst hx;intro v hv;simp at hv
 | x::r,vs,hx=>by
  obtain ⟨v,h1,hx⟩:=Q2 hx
  obtain ⟨l,h2,hx⟩:=Q2 hx
  simp at hx;subst hx
  intro u hu
  rcases Z2 hu with rfl | hu
  .exact nC h h1
  .exact OF h h2 u hu
theorem dM.put {D:Nat->Prop} {env:Env} (h:dM D env) {d:Nat} {v:Value} (hv:bO D v):dM D ((d,v)::env):=by
 intro s u hs
 rw [vp] at hs
 by_cases e:d=s
 .simp [e] at hs;subst hs;exact hv
 .simp [e] at hs;exact h s u hs
theorem dM.mono {D E:Nat->Prop} {env:Env} (h:dM D env) (hm:∀ b,D b->E b):dM E env:=fun s v hs=>(h s v hs).mono hm
theorem aJ.mono {n m:Nat} (h:n<=m):∀ b,aJ n b->aJ m b:=fun b hb=>Zm hb h
theorem OH (v:Value):v.oneCell'=az v:=by cases v<;>rfl
theorem cA {w:World} {b eN n i:Nat} (h:w.shape? b=some (eN,n)) (hi:i < n):(w.cell? ⟨b,i,none⟩).isSome=true:=by
 unfold World.shape? at h
 unfold World.cell?
 split at h
 .rename_i c e fz hb
  simp at h
  simp [hb];omega
 .simp at h
theorem Qke {w:World} {b:Nat} {x:TypeId×Nat} (h:w.shape? b=some x):b < w.heap.size:=by
 unfold World.shape? at h
 by_cases hb:b < w.heap.size
 .exact hb
 .rw [Array.getElem?_eq_none (by omega)] at h;simp at h
theorem Qcy {w w':World} {b:Nat} (h:w'.heap[b]? = w.heap[b]?):w'.shape? b=w.shape? b:=by unfold World.shape?;rw [h]
theorem Qfe {w w':World} {a:Addr} (h:w'.heap[a.block]? = w.heap[a.block]?):w'.cell? a=w.cell? a:=by unfold World.cell?;rw [h]
theorem Qbm {w w':World} {a:Addr} (h:w'.heap[a.block]? = w.heap[a.block]?):w'.frozen? a=w.frozen? a:=by unfold World.frozen?;rw [h]
theorem qX.bx {ι ι':Io} {D E:Nat->Prop} {w w':World} {b b':Nat} {k:bz} (h:qX ι D w b k) (hb:w'.heap[(ι b).aH]? = w.heap[(ι b).aH]?) (he:ι' b'=ι b)
  (hv:∀ i (h:i < k.cells.length) c,ay ι D k.cells[i] c->ay ι' E k.cells[i] c):qX ι' E w' b' k:=by
 refine ⟨?_,fun h0=>?_,fun es om=>?_,by rw [he];exact h.fit,fun i hi=>?_,fun hr i h1 h2=>?_⟩
 .rw [he]
  have:=h.lt
  rw [Array.getElem?_eq_getElem this] at hb
  exact (Array.getElem?_eq_some_iff.1 hb).1
 .rw [he] at h0
  obtain ⟨e,hs⟩:=h.shape h0
  exact ⟨e,by rw [he,Qcy hb];exact hs⟩
 .obtain ⟨h1,h2,h3⟩:=h.map es om
  rw [he]
  exact ⟨h1,h2,by unfold BW;rw [hb];exact h3⟩
 .obtain ⟨c,h1,h2,h3⟩:=h.cell i hi
  exact ⟨c,by rw [he,Qfe hb];exact h1,hv i hi c h2,h3⟩
 .rw [he] at h1 h2 ⊢
  rw [Qbm hb];exact h.o9 hr i h1 h2
theorem Rel.lt {ι:Io} {D:Nat->Prop} {H:af} {w:World} (h:Rel ι D H w) {b:Nat} {k:bz} (hb:ah H b=some k):(ι b).aH < w.heap.size:=(h.aH b k hb).lt
theorem Rel.load {ι:Io} {D:Nat->Prop} {H:af} {w:World} (h:Rel ι D H w) {a:Addr} {v:Value} (hl:gQ H a=some v) :
  ∃ c,w.cell? (ι.addr a)=some c/\ay ι D v c/\az v=true:=by
 obtain ⟨k,hk,hv⟩:=Q2 hl
 obtain ⟨hi,e⟩:=Z0 hv
 obtain ⟨c,h1,h2,h3⟩:=(h.aH _ _ hk).cell a.off hi
 subst e
 exact ⟨c,h1,h2,h3⟩
theorem IW (ι:Io) (a:Addr) (j:Nat):(ι.addr a).add j=⟨(ι a.block).aH,(ι a.block).off+a.off+j,none⟩:=by
 unfold Addr.add Io.addr
 by_cases h:j=0
 .subst h;simp
 .simp [h]
theorem Rel.rK {ι:Io} {D:Nat->Prop} {H:af} {w:World} (h:Rel ι D H w) {a:Addr} {n:Nat} {l:List Value} (hl:Qv H a n=some l) :
  ∃ cs:List Value,cs.length=n/\aZ ι D l cs/\(∀ j v,cs[j]? = some v->w.cell? ((ι.addr a).add j)=some v)/\(∀ v∈l,az v=true):=by
 obtain ⟨k,hk,hv⟩:=Q2 hl
 have hb:=h.aH _ _ hk
 split at hv
 .rename_i hle
  have hle:=Zi hle
  simp at hv
  subst hv
  have hlen:((k.cells.drop a.off).take n).length=n:=by simp;omega
  have ah:∀ j (hj:j < n),((k.cells.drop a.off).take n)[j]'(by omega)=k.cells[a.off+j]'(by omega):=by
   intro j hj;simp
  have hex:∀ j,j < n->∃ c,w.cell? ⟨(ι a.block).aH,(ι a.block).off+(a.off+j),none⟩=some c/\ay ι D (((k.cells.drop a.off).take n).getD j undef) c/\az (((k.cells.drop a.off).take n).getD j undef)=true:=by
   intro j hj
   obtain ⟨c,h1,h2,h3⟩:=hb.cell (a.off+j) (by omega)
   have e:((k.cells.drop a.off).take n).getD j undef=k.cells[a.off+j]'(by omega):=by
    rw [Zr,Z6 (by omega),ah j hj];rfl
   exact ⟨c,h1,by rw [e];exact h2,by rw [e];exact h3⟩
  let f:Nat->Value:=fun j=>((w.cell? ⟨(ι a.block).aH,(ι a.block).off+(a.off+j),none⟩).getD undef)
  refine ⟨(List.range n).map f,by simp,⟨by simp [hlen],fun i h1 h2=>?_⟩,fun j v hj=>?_,fun v hv=>?_⟩
  .obtain ⟨c,g1,g2,g3⟩:=hex i (by omega)
   simp only [List.getElem_map,List.getElem_range,f,g1,Option.getD_some]
   rw [Zr,Z6 h1] at g2
   exact g2
  .have PS:j < n:=by
    have:=(Z0 hj).1
    simpa using this
   obtain ⟨c,g1,g2,g3⟩:=hex j PS
   simp only [List.getElem?_map,List.getElem?_range PS,Option.map_some,f,g1,Option.getD_some,Option.some.injEq] at hj
   subst hj
   rw [IW,Nat.add_assoc];exact g1
  .obtain ⟨i,hi,e⟩:=List.getElem_of_mem hv
   obtain ⟨c,g1,g2,g3⟩:=hex i (by omega)
   rw [Zr,Z6 hi] at g3
   rw [<- e];exact g3
 .simp at hv
theorem Rel.Dz {ι:Io} {D:Nat->Prop} {H:af} {w:World} (h:Rel ι D H w) {a:Addr} {n:Nat} {l:List Value} (hl:fQ H a n=some l) :
  ∃ cs:List Value,cs.length=n/\aZ ι D l cs/\(∀ j v,cs[j]? = some v->w.cell? ((ι.addr a).add j)=some v)/\(∀ v∈l,az v=true):=by
 cases n with
 | zero =>
  simp only [fQ,Option.some.injEq] at hl;subst hl
  exact ⟨[],rfl,aZ.nil ι D,by simp,by simp⟩
 | succ m=>exact h.rK hl
theorem tG {H:af} {b:Nat} {x:Option bz} (hb:b < H.length):ah (H.set b x) b=x:=by
 unfold ah;rw [List.getElem?_set_self hb];cases x<;>rfl
theorem Qm {H:af} {b c:Nat} {x:Option bz} (hb:b≠c):ah (H.set b x) c=ah H c:=by
 unfold ah;rw [List.getElem?_set_ne hb]
theorem FG {H G:af} {b:Nat} (hb:b < H.length):ah (H++G) b=ah H b:=by
 unfold ah;rw [List.getElem?_append_left hb]
theorem R6 (H:af) (k:Option bz):ah (H++[k]) H.length=k:=by
 unfold ah;rw [Zq (Zd _)];simp;cases k<;>rfl
theorem Qqa {H:af} {n b:Nat} (hb:b < n):ah (H.take n) b=ah H b:=by
 unfold ah;rw [List.getElem?_take_of_lt hb]
theorem HM (b:Nat):∀ (vs:List Value) (o:Nat) (w:World) (k:Nat),k≠b->(w.setCells b o vs).heap[k]? = w.heap[k]?
 | [],_,_,_,_=>rfl
 | v::r,o,w,k,h=>by
  rw [World.setCells,HM b r (o+1) _ k h]
  simp only [World.setCell,Array.getElem?_modify]
  rw [if_neg (Ne.symm h)]
theorem HN (b:Nat):∀ (vs:List Value) (o:Nat) (w:World),(w.setCells b o vs).heap.size=w.heap.size
 | [],_,_=>rfl
 | v::r,o,w=>by rw [World.setCells,HN b r (o+1)];simp
theorem Qff (w:World) (a:Addr) (v:Value) (b:Nat):(w.setCell a v).shape? b=w.shape? b:=by
 simp only [World.setCell,World.shape?,Array.getElem?_modify]
 by_cases hb:a.block=b
 .subst hb
  simp only [if_true]
  cases hh:w.heap[a.block]? with
  | none=>simp
  | some x=>cases x<;>simp;split<;>simp
 .simp [hb]
theorem cK (b:Nat):∀ (vs:List Value) (o:Nat) (w:World) (k:Nat),(w.setCells b o vs).shape? k=w.shape? k
 | [],_,_,_=>rfl
 | v::r,o,w,k=>by rw [World.setCells,cK b r (o+1),Qff]
theorem V_ (b:Nat):∀ (vs:List Value) (o:Nat) (w:World),(w.setCells b o vs).os=w.os/\(w.setCells b o vs).tape=w.tape/\(w.setCells b o vs).output=w.output
 | [],_,_=>⟨rfl,rfl,rfl⟩
 | v::r,o,w=>by rw [World.setCells];exact V_ b r (o+1) _
theorem JS {l vs:List Value} {off:Nat} (h:off+vs.length<=l.length):(qV l off vs).length=l.length:=by
 unfold qV;simp;omega
theorem Qno {l vs:List Value} {off:Nat} (h:off+vs.length<=l.length) (i:Nat) :
  (qV l off vs)[i]? = if off<=i/\i < off+vs.length then vs[i - off]? else l[i]?:=by
 unfold qV
 rw [List.append_assoc,List.getElem?_append]
 simp only [List.length_take,Nat.min_eq_left (show off<=l.length by omega)]
 by_cases h1:i < off
 .rw [if_pos h1,if_neg (by omega),List.getElem?_take_of_lt h1]
 .rw [if_neg h1,List.getElem?_append]
  by_cases h2:i < off+vs.length
  .rw [if_pos (by omega),if_pos ⟨by omega,h2⟩]
  .rw [if_neg (by omega),if_neg (by omega),Zp]
   congr 1;omega
theorem Qqb {ι:Io} {D:Nat->Prop} {w:World} {b off:Nat} {k:bz} (hb:qX ι D w b k) {es:List (Int×Int)} {vs cs:List Value} {o:Nat} (om:k.mp=some es) (b_:off+vs.length<=k.cells.length) (hlen:cs.length=vs.length) :
  qV k.cells off vs=[]/\(ι b).size=0/\BW (w.setCells (ι b).aH o cs) (ι b).aH es:=by
 obtain ⟨h1,h2,h3⟩:=hb.map es om
 rw [h1] at b_ ⊢
 simp only [Zb] at b_
 have hv:vs=[]:=Z1 (by omega)
 have hc:cs=[]:=Z1 (by rw [hlen,hv];rfl)
 subst hv hc
 exact ⟨by simp [qV],h2,h3⟩
theorem Rel.store {P:Program} {ι:Io} {D:Nat->Prop} {H H':af} {w:World} {ai:Nat} (h:Rel ι D H w) {a:Addr} {vs cs:List Value} (hs:kZ H ai a vs=some H') (hv:aZ ι D vs cs) :
  (storeCells (ι.addr a) cs).run P w=.ok () (w.setCells (ι a.block).aH ((ι a.block).off+a.off) cs) /\
  Rel ι D H' (w.setCells (ι a.block).aH ((ι a.block).off+a.off) cs)/\Fr ι H w ι H' (w.setCells (ι a.block).aH ((ι a.block).off+a.off) cs):=by
 obtain ⟨k,hk,hx⟩:=Q2 hs
 have hb:=h.aH _ _ hk
 have au:=Qq hk
 split at hx
 case h_2=>simp at hx
 case h_1 bh bF aI b_ =>
 simp at hx;subst hx
 have b_:=Zi b_
 have hlen:cs.length=vs.length:=hv.1.symm
 have MA:=hb.fit
 have cx:∀ v∈cs,v.oneCell'=true:=by
  intro v hm
  obtain ⟨i,hi,e⟩:=List.getElem_of_mem hm
  have:=(hv.2 i (by omega) hi).az
  rw [<- e,OH,this]
  exact Z3 bF _ (List.getElem_mem _)
 have mO:∀ j,j < cs.length->(w.cell? ⟨(ι a.block).aH,(ι a.block).off+a.off+j,none⟩).isSome=true:=fun j hj=>by
  obtain ⟨eN,fZ⟩:=hb.shape (by omega)
  exact cA fZ (by omega)
 have MC:∀ j,j < cs.length->w.frozen? ⟨(ι a.block).aH,(ι a.block).off+a.off+j,none⟩=false:=fun j hj=>hb.o9 bh _ (by omega) (by omega)
 have aT:=run_storeCells_cells (P:=P) (ι a.block).aH ((ι a.block).off+a.off) cs 0 w (by simpa using mO) (by simpa using MC) cx
 refine ⟨by rw [Nat.add_zero] at aT;exact aT,?_,?_⟩
 .refine ⟨fun b k' de=>?_,fun b b' k1 k2 h1 h2 aV hr=>?_,fun b k' de hr=>(by
   by_cases e:a.block=b
   .subst e;exact h.iA _ k hk bh
   .rw [Qm e] at de;exact h.iA b k' de hr),h.gw.cv (Nat.le_of_eq (HN _ _ _ _).symm) (fun q hq=>HM _ _ _ _ _ (by have:=h.iA _ k hk bh;omega))⟩
  .by_cases e:a.block=b
   .subst e
    rw [tG au] at de
    simp at de;subst de
    refine ⟨by rw [HN];exact hb.lt,fun h0=>by rw [cK];exact hb.shape h0,fun es om=>Qqb hb om b_ hlen,by simp [JS b_];exact MA,fun i hi=>?_,fun hr i h1 h2=>by rw [World.frozen?_setCells];exact hb.o9 bh i h1 h2⟩
    simp only [JS b_] at hi
    have hg:=Qno b_ i
    by_cases nX:a.off<=i/\i < a.off+vs.length
    .rw [if_pos nX] at hg
     have eZ:i - a.off < vs.length:=by omega
     have e1:(qV k.cells a.off vs)[i]'(by rw [JS b_];exact hi)=vs[i - a.off]:=by
      have:=Z6 (l:=qV k.cells a.off vs) (i:=i) (by rw [JS b_];exact hi)
      rw [this,Z6 eZ] at hg
      simpa using hg
     refine ⟨cs[i - a.off]'(by omega),?_,?_,?_⟩
     .have:=World.cell?_setCells_in (ι a.block).aH cs ((ι a.block).off+a.off) w mO (i - a.off) (by omega)
      rw [show (ι a.block).off+i=(ι a.block).off+a.off+(i - a.off) by omega];exact this
     .simp only [e1];exact hv.2 _ eZ (by omega)
     .simp only [e1];exact Z3 bF _ (List.getElem_mem _)
    .rw [if_neg nX] at hg
     have e1:(qV k.cells a.off vs)[i]'(by rw [JS b_];exact hi)=k.cells[i]:=by
      have:=Z6 (l:=qV k.cells a.off vs) (i:=i) (by rw [JS b_];exact hi)
      rw [this,Z6 hi] at hg
      simpa using hg
     obtain ⟨c,g1,g2,g3⟩:=hb.cell i hi
     refine ⟨c,?_,by simp only [e1];exact g2,by simp only [e1];exact g3⟩
     rw [World.cell?_setCells_out]
     .exact g1
     .intro _ _;simp only;omega
   .rw [Qm e] at de
    refine (h.aH b k' de).bx ?_ rfl (fun _ _ _ x=>x)
    refine HM _ _ _ _ _ ?_
    exact h.inj b a.block k' k de hk (Ne.symm e) (.inr bh)
  .by_cases e1:a.block=b
   .subst e1
    rw [Qm aV] at h2
    rw [tG au] at h1
    exact h.inj a.block b' k k2 hk h2 aV (.inl bh)
   .rw [Qm e1] at h1
    by_cases e2:a.block=b'
    .subst e2
     exact h.inj b a.block k1 k h1 hk aV (.inr bh)
    .rw [Qm e2] at h2
     exact h.inj b b' k1 k2 h1 h2 aV hr
 .obtain ⟨o1,o2,o3⟩:=V_ (ι a.block).aH cs ((ι a.block).off+a.off) w
  refine ⟨by simp,fun _ _=>rfl,o1,o2,o3,Nat.le_of_eq (HN _ _ _ _).symm,fun q hq hn=>?_,fun b aH gX hr=>?_,fun b aH gX hr=>?_⟩
  .exact HM _ _ _ _ _ (Ne.symm (hn a.block k hk bh))
  .by_cases e:a.block=b
   .subst e;exact .inr ⟨a.block,k,hk,bh,rfl⟩
   .rw [Qm e] at gX;exact .inr ⟨b,aH,gX,hr,rfl⟩
  .by_cases e:a.block=b
   .subst e
    rw [tG au] at gX
    simp at gX;subst gX
    simp [bh] at hr
   .rw [Qm e] at gX;exact gX
theorem OE {H H':af} {ai:Nat} {a:Addr} {vs:List Value} (hs:kZ H ai a vs=some H') (hv:gP (aJ H.length) vs):Ab ai H H':=by
 obtain ⟨k,hk,hx⟩:=Q2 hs
 have au:=Qq hk
 split at hx
 case h_2=>simp at hx
 case h_1 bh bF aI b_ =>
 simp at hx;subst hx
 have key:∀ m,(∀ v∈vs,bO (aJ m) v\/m<=a.block)->Ql m H->Ql m (H.set a.block (some { k with cells:=qV k.cells a.off vs })):=by
  intro m hm hc b Wa k' de v gY
  by_cases e:a.block=b
  .subst e
   rw [tG au] at de
   simp at de;subst de
   simp only [qV,Zh] at gY
   rcases gY with (h1 | h1) | h1
   .exact hc _ Wa k hk v (List.mem_of_mem_take h1)
   .rcases hm v h1 with h2 | h2
    .exact h2
    .omega
   .exact hc _ Wa k hk v (List.mem_of_mem_drop h1)
  .rw [Qm e] at de;exact hc b Wa k' de v gY
 refine ⟨by simp,fun h=>?_,fun m hm OY hc=>key m (fun v h1=>?_) hc⟩
 .rw [List.length_set];exact key _ (fun v h1=>.inl (hv v h1)) h
 .rcases Bool.or_eq_true_iff.1 aI with h2 | h2
  .exact .inl (rJ (Z3 h2 v h1) _)
  .have:=Zi h2;exact .inr (by omega)
def Io.set (ι:Io) (b:Nat) (l:Loc):Io:=fun c=>if c=b then l else ι c
theorem Io.aC (ι:Io) (b:Nat) (l:Loc):ι.set b l b=l:=by simp [Io.set]
theorem Io.aS (ι:Io) {b c:Nat} (l:Loc) (h:c≠b):ι.set b l c=ι c:=by simp [Io.set,h]
theorem FJ (w:World) (o:Obj) {k:Nat} (h:k < w.heap.size):(w.alloc o).heap[k]? = w.heap[k]?:=by
 show (w.heap.push o)[k]? = _
 rw [Array.getElem?_push,if_neg (by omega)]
theorem Rel.bq {ι:Io} {D:Nat->Prop} {H:af} {w w':World} (h:Rel ι D H w) (e:w'.heap=w.heap):Rel ι D H w' :=
 ⟨fun b k hk=>(h.aH b k hk).bx (by rw [e]) rfl (fun _ _ _ x=>x),h.inj,h.iA,h.gw.heap e⟩
theorem Fr.bq {ι ι':Io} {H H':af} {w w' w'':World} (h:Fr ι H w ι' H' w') (e:w''.heap=w'.heap) (e1:w''.os=w'.os) (e2:w''.tape=w'.tape) (e3:w''.output=w'.output) :
  Fr ι H w ι' H' w'' :=
 ⟨h.len,h.io,e1.trans h.os,e2.trans h.tape,e3.trans h.output,e▸h.size,fun k hk hn=>by rw [e];exact h.frame k hk hn,h.new,h.ro⟩
theorem ON (w:World) (o:Obj):(w.alloc o).heap[w.heap.size]? = some o:=by
 show (w.heap.push _)[w.heap.size]? = _
 rw [Array.getElem?_push,if_pos rfl]
theorem Y8 (w:World) (arr:Array Value) (eN:TypeId) (fz:Nat×Nat):(w.alloc (.cells arr eN fz)).shape? w.heap.size=some (eN,arr.size):=by
 unfold World.shape?;rw [ON]
theorem Qcz (w:World) (arr:Array Value) (eN:TypeId) (fz:Nat×Nat) (i:Nat):(w.alloc (.cells arr eN fz)).cell? ⟨w.heap.size,i,none⟩=arr[i]?:=by
 unfold World.cell?;simp only;rw [ON];simp
theorem Qaj (w:World) (arr:Array Value) (eN:TypeId) (fz:Nat×Nat) (i:Nat):(w.alloc (.cells arr eN fz)).frozen? ⟨w.heap.size,i,none⟩=(decide (fz.1<=i)&&decide (i < fz.2)):=by
 unfold World.frozen?;simp only;rw [ON]
def oY (fz:Nat×Nat) (n:Nat):Prop:=∀ i,i < n->¬ (fz.1<=i/\i < fz.2)
theorem oY.zero (n:Nat):oY (0,0) n:=fun i _ h=>by simp at h
theorem oY.behind (n m:Nat):oY (n,m) n:=fun i hi h=>by have:=h.1;simp at this;omega
theorem Rel.fill {ι:Io} {D:Nat->Prop} {H:af} {w:World} (h:Rel ι D H w) {id:Nat} (hid:H[id]? = some none) (hD:¬ D id) {vs cs:List Value} (hv:aZ ι D vs cs) (hc:∀ v∈vs,az v=true)
  (rest:List Value) (eN:TypeId) (fz:Nat×Nat) (hfz:oY fz (cs++rest).length) :
  Rel (ι.set id ⟨w.heap.size,0,(cs++rest).length⟩) (fun b=>D b\/b=id) (H.set id (some ⟨vs,false,none⟩)) (w.alloc (.cells (cs++rest).toArray eN fz)):=by
 have au:id < H.length:=(Z0 hid).1
 have ES:ah H id=none:=by unfold ah;rw [hid]
 have pe:∀ {v c:Value},ay ι D v c->ay (ι.set id ⟨w.heap.size,0,(cs++rest).length⟩) (fun b=>D b\/b=id) v c :=
  fun hr=>hr.mono (fun _ hb=>.inl hb) fun b hb=>Io.aS _ _ (fun e=>hD (e▸hb))
 refine ⟨fun b k hk=>?_,fun b b' k k' h1 h2 aV hr=>?_,fun b k hk hr=>(by
  by_cases e:id=b
  .subst e;rw [Io.aC];exact h.gw.1
  .rw [Qm e] at hk;rw [Io.aS _ _ (Ne.symm e)];exact h.iA b k hk hr),h.gw.cv (by simp) (fun q hq=>FJ _ _ (by have:=h.gw.1;omega))⟩
 .by_cases e:id=b
  .subst e
   rw [tG au] at hk
   simp at hk;subst hk
   refine ⟨by rw [Io.aC];simp,fun _=>⟨eN,?_⟩,fun es om=>by simp at om,?_,fun i hi=>?_,fun _ i _ hi=>?_⟩
   .rw [Io.aC,Y8];simp
   .rw [Io.aC];simp [hv.1]
   .rw [Io.aC]
    simp only at hi
    have eZ:i < cs.length:=by have:=hv.1;omega
    refine ⟨cs[i],?_,pe (hv.2 i hi eZ),hc _ (List.getElem_mem _)⟩
    rw [Zo,Qcz]
    simp [List.getElem?_append_left eZ,Z6 eZ]
   .rw [Io.aC] at hi ⊢
    rw [Qaj]
    have:=hfz i hi
    simp;omega
  .rw [Qm e] at hk
   exact (h.aH b k hk).bx (FJ _ _ (h.lt hk)) (Io.aS _ _ (Ne.symm e)) (fun i hi c hr=>pe hr)
 .by_cases e1:id=b
  .subst e1
   have e2:id≠b':=aV
   rw [Qm e2] at h2
   rw [Io.aC,Io.aS _ _ (Ne.symm e2)]
   have:=h.lt h2
   simp only;omega
  .rw [Qm e1] at h1
   by_cases e2:id=b'
   .subst e2
    rw [Io.aC,Io.aS _ _ (Ne.symm e1)]
    have:=h.lt h1
    simp only;omega
   .rw [Qm e2] at h2
    rw [Io.aS _ _ (Ne.symm e1),Io.aS _ _ (Ne.symm e2)]
    exact h.inj b b' k k' h1 h2 aV hr
theorem PT (H:af) (b:Nat):ah (H++[none]) b=ah H b:=by
 by_cases hb:b < H.length
 .exact FG hb
 .have h1:ah H b=none:=by unfold ah;rw [List.getElem?_eq_none (by omega)]
  rw [h1]
  by_cases e:b=H.length
  .subst e;exact R6 H none
  .unfold ah;rw [List.getElem?_eq_none (by simp;omega)]
theorem Rel.vq {ι:Io} {D:Nat->Prop} {H:af} {w:World} (h:Rel ι D H w):Rel ι D (H++[none]) w :=
 ⟨fun b k hk=>h.aH b k (by rw [PT] at hk;exact hk),fun b b' k k' h1 h2=>h.inj b b' k k' (by rw [PT] at h1;exact h1) (by rw [PT] at h2;exact h2),fun b k hk hr=>h.iA b k (by rw [PT] at hk;exact hk) hr,h.gw⟩
theorem Rel.domain {ι:Io} {D E:Nat->Prop} {H:af} {w:World} (h:Rel ι D H w) (hDE:∀ b,D b->E b):Rel ι E H w :=
 ⟨fun b k hk=>(h.aH b k hk).bx rfl rfl (fun _ _ _ hr=>hr.mono hDE fun _ _=>rfl),h.inj,h.iA,h.gw⟩
theorem Wb {H:af} {cells:List Value} {b:Nat} (hb:b < H.length):ah (dn H cells) b=ah H b:=FG hb
theorem MD (H:af) (cells:List Value):ah (dn H cells) H.length=some ⟨cells,false,none⟩:=R6 H _
theorem Qy (H:af) (cells:List Value):(dn H cells).length=H.length+1:=by simp [dn]
theorem ME {H:af} {cells:List Value} {b:Nat} {k:bz} (h:ah (dn H cells) b=some k):(b < H.length/\ah H b=some k)\/(b=H.length/\k=⟨cells,false,none⟩):=by
 have au:=Qq h
 rw [Qy] at au
 by_cases e:b=H.length
 .subst e;rw [MD] at h;exact .inr ⟨rfl,(Option.some.inj h).symm⟩
 .rw [Wb (by omega)] at h;exact .inl ⟨by omega,h⟩
theorem Rel.push {ι:Io} {H:af} {w:World} (h:Rel ι (aJ H.length) H w) {vs cs:List Value} (hv:aZ ι (aJ H.length) vs cs) (hc:∀ v∈vs,az v=true)
  (rest:List Value) (eN:TypeId) (fz:Nat×Nat) (hfz:oY fz (cs++rest).length) :
  Rel (ι.set H.length ⟨w.heap.size,0,(cs++rest).length⟩) (aJ (dn H vs).length) (dn H vs) (w.alloc (.cells (cs++rest).toArray eN fz)) /\
  Fr ι H w (ι.set H.length ⟨w.heap.size,0,(cs++rest).length⟩) (dn H vs) (w.alloc (.cells (cs++rest).toArray eN fz)):=by
 constructor
 .have h1:=(h.vq).fill (id:=H.length) (by simp) (by simp [aJ]) hv hc rest eN fz hfz
  have e:(H++[none]).set H.length (some ⟨vs,false,none⟩)=dn H vs:=by simp [dn]
  rw [e] at h1
  exact h1.domain (by intro b hb;rw [Qy];simp [aJ] at hb ⊢;omega)
 .refine ⟨by rw [Qy];omega,fun b hb=>Io.aS _ _ (by omega),rfl,rfl,rfl,by simp,fun k hk _=>FJ _ _ hk,fun b aH hb hr=>?_,fun b aH hb hr=>?_⟩
  .rcases ME hb with ⟨au,h1⟩ | ⟨rfl,rfl⟩
   .exact .inr ⟨b,aH,h1,hr,by rw [Io.aS _ _ (by omega)]⟩
   .exact .inl (by rw [Io.aC];exact Zd _)
  .rcases ME hb with ⟨au,h1⟩ | ⟨rfl,rfl⟩
   .exact h1
   .simp at hr
theorem RP (ai:Nat) {H:af} {vs:List Value} (hv:gP (aJ H.length) vs):Ab ai H (dn H vs):=by
 have key:∀ m,m<=H.length->Ql m H->Ql m (dn H vs):=by
  intro m hm hc b hb k hk v gY
  rcases ME hk with ⟨au,h1⟩ | ⟨rfl,rfl⟩
  .exact hc b hb k h1 v gY
  .omega
 refine ⟨by rw [Qy];omega,fun h=>?_,fun m _ hm hc=>key m hm hc⟩
 rw [Qy]
 intro b hb k hk v gY
 rcases ME hk with ⟨au,h1⟩ | ⟨rfl,rfl⟩
 .exact (h b au k h1 v gY).mono (aJ.mono (by omega))
 .exact (hv v gY).mono (aJ.mono (by omega))
theorem KO {H:af} {b c:Nat} {k:bz} (h:ah (H.set b none) c=some k):ah H c=some k:=by
 by_cases e:b=c
 .subst e
  have au:=Qq h
  rw [List.length_set] at au
  rw [tG au] at h;simp at h
 .rw [Qm e] at h;exact h
theorem Qxc (ai:Nat) (H:af) (b:Nat):Ab ai H (H.set b none) :=
 ⟨by simp,fun h=>by rw [List.length_set];exact fun c hc k hk=>h c hc k (KO hk),fun m _ _ h c hc k hk=>h c hc k (KO hk)⟩
theorem Rel.KM {ι:Io} {D:Nat->Prop} {H:af} {w:World} (h:Rel ι D H w) {b:Nat} {k:bz} (hk:ah H b=some k) (bh:k.ro=false) (m:Nat) :
  ah (H.set b (some ⟨k.cells.take m,false,none⟩)) b=some ⟨k.cells.take m,false,none⟩/\Rel ι D (H.set b (some ⟨k.cells.take m,false,none⟩)) w/\Fr ι H w ι (H.set b (some ⟨k.cells.take m,false,none⟩)) w:=by
 have au:=Qq hk
 have ET:ah (H.set b (some ⟨k.cells.take m,false,none⟩)) b=some ⟨k.cells.take m,false,none⟩:=tG au
 have bg:∀ {c:Nat} {q:bz},ah (H.set b (some ⟨k.cells.take m,false,none⟩)) c=some q->(c=b/\q=⟨k.cells.take m,false,none⟩)\/(c≠b/\ah H c=some q):=by
  intro c q hq
  by_cases e:b=c
  .subst e;rw [ET] at hq;injection hq with hq;exact .inl ⟨rfl,hq.symm⟩
  .rw [Qm e] at hq;exact .inr ⟨fun x=>e x.symm,hq⟩
 have hb:=h.aH b k hk
 refine ⟨ET,⟨fun c q hq=>?_,fun c c' q q' h1 h2 aV hr=>?_,fun c q hq hr=>(by
  rcases bg hq with ⟨rfl,rfl⟩ | ⟨_,g2⟩
  .exact h.iA _ k hk bh
  .exact h.iA c q g2 hr),h.gw⟩,⟨by simp,fun _ _=>rfl,rfl,rfl,rfl,Zd _,fun _ _ _=>rfl,fun c q hq hr=>?_,fun c q hq hr=>?_⟩⟩
 .rcases bg hq with ⟨rfl,rfl⟩ | ⟨g1,g2⟩
  .refine ⟨hb.lt,hb.shape,fun es om=>by simp at om,?_,fun i hi=>?_,fun _=>hb.o9 bh⟩
   .have:=hb.fit;simp only [List.length_take];omega
   .simp only [List.length_take] at hi
    obtain ⟨c',e1,e2,e3⟩:=hb.cell i (by omega)
    exact ⟨c',e1,by simp only [List.getElem_take];exact e2,by simp only [List.getElem_take];exact e3⟩
  .exact h.aH c q g2
 .rcases bg h1 with ⟨rfl,rfl⟩ | ⟨g1,g2⟩<;>rcases bg h2 with ⟨rfl,rfl⟩ | ⟨k1,k2⟩
  .exact absurd rfl aV
  .exact h.inj c c' k q' hk k2 aV (.inl bh)
  .exact h.inj c c' q k g2 hk aV (.inr bh)
  .exact h.inj c c' q q' g2 k2 aV hr
 .rcases bg hq with ⟨rfl,rfl⟩ | ⟨g1,g2⟩
  .exact .inr ⟨c,k,hk,bh,rfl⟩
  .exact .inr ⟨c,q,g2,hr,rfl⟩
 .rcases bg hq with ⟨rfl,rfl⟩ | ⟨g1,g2⟩
  .simp at hr
  .exact g2
theorem Rel.kill {ι:Io} {D:Nat->Prop} {H:af} {w:World} (h:Rel ι D H w) (b:Nat):Rel ι D (H.set b none) w:=by
 have hk:∀ c k,ah (H.set b none) c=some k->ah H c=some k:=by
  intro c k hc
  by_cases e:b=c
  .subst e
   have au:=Qq hc
   rw [List.length_set] at au
   rw [tG au] at hc;simp at hc
  .rw [Qm e] at hc;exact hc
 exact ⟨fun c k hc=>h.aH c k (hk c k hc),fun c c' k k' h1 h2=>h.inj c c' k k' (hk c k h1) (hk c' k' h2),fun c k hc hr=>h.iA c k (hk c k hc) hr,h.gw⟩
theorem Rel.alias {ι:Io} {H:af} {w:World} (h:Rel ι (aJ H.length) H w) {b:Nat} {k:bz} (hk:ah H b=some k) (bh:k.ro=false) {off:Nat} (MF:off<=k.cells.length) {news cs:List Value} (hv:aZ ι (aJ H.length) news cs)
  (hc:∀ v∈news,az v=true) (b_:(ι b).off+k.cells.length+cs.length<=(ι b).size) :
  Rel (ι.set H.length ⟨(ι b).aH,(ι b).off+off,(ι b).size⟩) (aJ (H.length+1)) (dn (H.set b none) (k.cells.drop off++news)) (w.setCells (ι b).aH ((ι b).off+k.cells.length) cs) /\
  Fr ι H w (ι.set H.length ⟨(ι b).aH,(ι b).off+off,(ι b).size⟩) (dn (H.set b none) (k.cells.drop off++news)) (w.setCells (ι b).aH ((ι b).off+k.cells.length) cs):=by
 have hb:=h.aH b k hk
 have au:=Qq hk
 have hlen:(H.set b none).length=H.length:=by simp
 have pe:∀ {v c:Value},ay ι (aJ H.length) v c->ay (ι.set H.length ⟨(ι b).aH,(ι b).off+off,(ι b).size⟩) (aJ (H.length+1)) v c :=
  fun hr=>hr.mono (aJ.mono (by omega)) fun c hc=>Io.aS _ _ (by simp [aJ] at hc;omega)
 have mO:∀ j,j < cs.length->(w.cell? ⟨(ι b).aH,(ι b).off+k.cells.length+j,none⟩).isSome=true:=fun j hj=>by
  obtain ⟨eN,fZ⟩:=hb.shape (by omega)
  exact cA fZ (by omega)
 have bg:∀ {c:Nat} {q:bz},ah (dn (H.set b none) (k.cells.drop off++news)) c=some q->(c < H.length/\c≠b/\ah H c=some q)\/(c=H.length/\q=⟨k.cells.drop off++news,false,none⟩):=by
  intro c q hq
  rcases ME hq with ⟨h1,h2⟩ | ⟨h1,h2⟩
  .rw [hlen] at h1
   refine .inl ⟨h1,fun e=>?_,KO h2⟩
   subst e;rw [tG au] at h2;simp at h2
  .rw [hlen] at h1;exact .inr ⟨h1,h2⟩
 constructor
 .refine ⟨fun c q hq=>?_,fun c c' q q' h1 h2 aV hr=>?_,fun c q hq hr=>(by
   rcases bg hq with ⟨g1,g2,g3⟩ | ⟨rfl,rfl⟩
   .rw [Io.aS _ _ (by omega)];exact h.iA c q g3 hr
   .rw [Io.aC];exact h.iA b k hk bh),h.gw.cv (Nat.le_of_eq (HN _ _ _ _).symm) (fun q hq=>HM _ _ _ _ _ (by have:=h.iA b k hk bh;omega))⟩
  .rcases bg hq with ⟨g1,g2,g3⟩ | ⟨rfl,rfl⟩
   .refine (h.aH c q g3).bx (HM _ _ _ _ _ (h.inj c b q k g3 hk g2 (.inr bh))) (Io.aS _ _ (by omega)) (fun _ _ _ hr=>pe hr)
   .refine ⟨by rw [Io.aC,HN];exact hb.lt,fun h0=>by rw [Io.aC] at h0;rw [Io.aC,cK];exact hb.shape h0,fun es om=>by simp at om,?_,fun i hi=>?_,fun _ i h1 h2=>?_⟩
    .rw [Io.aC];simp [hv.1];omega
    .rw [Io.aC]
     simp only [Zf,List.length_drop] at hi
     by_cases eZ:i < k.cells.length - off
     .obtain ⟨c,g1,g2,g3⟩:=hb.cell (off+i) (by omega)
      have e:(k.cells.drop off++news)[i]'(by simp;omega)=k.cells[off+i]'(by omega):=by
       rw [List.getElem_append_left (by simp;omega)];simp
      refine ⟨c,?_,by simp only [e];exact pe g2,by simp only [e];exact g3⟩
      rw [World.cell?_setCells_out]
      .rw [Nat.add_assoc];exact g1
      .intro _ _;left;simp only;omega
     .have hj:i - (k.cells.length - off) < news.length:=by omega
      have e:(k.cells.drop off++news)[i]'(by simp;omega)=news[i - (k.cells.length - off)]:=by
       rw [List.getElem_append_right (by simp;omega)];simp
      refine ⟨cs[i - (k.cells.length - off)]'(by have:=hv.1;omega),?_,by simp only [e];exact pe (hv.2 _ _ _),by simp only [e];exact hc _ (List.getElem_mem _)⟩
      have:=World.cell?_setCells_in (ι b).aH cs ((ι b).off+k.cells.length) w mO (i - (k.cells.length - off)) (by have:=hv.1;omega)
      rw [show (ι b).off+off+i=(ι b).off+k.cells.length+(i - (k.cells.length - off)) by omega]
      exact this
    .rw [Io.aC] at h1 h2 ⊢
     rw [World.frozen?_setCells]
     exact hb.o9 bh i (by simp only at h1;omega) h2
  .rcases bg h1 with ⟨g1,g2,g3⟩ | ⟨rfl,rfl⟩
   .rcases bg h2 with ⟨k1,k2,k3⟩ | ⟨rfl,rfl⟩
    .rw [Io.aS _ _ (by omega),Io.aS _ _ (by omega)];exact h.inj c c' q q' g3 k3 aV hr
    .rw [Io.aS _ _ (by omega),Io.aC];exact h.inj c b q k g3 hk g2 (.inr bh)
   .rcases bg h2 with ⟨k1,k2,k3⟩ | ⟨rfl,rfl⟩
    .rw [Io.aC,Io.aS _ _ (by omega)];exact h.inj b c' k q' hk k3 (Ne.symm k2) (.inl bh)
    .exact absurd rfl aV
 .obtain ⟨o1,o2,o3⟩:=V_ (ι b).aH cs ((ι b).off+k.cells.length) w
  refine ⟨by rw [Qy,hlen];omega,fun c hc=>Io.aS _ _ (by omega),o1,o2,o3,Nat.le_of_eq (HN _ _ _ _).symm,fun q hq hn=>HM _ _ _ _ _ (Ne.symm (hn b k hk bh)),fun c q hq hr=>?_,fun c q hq hr=>?_⟩
  .rcases bg hq with ⟨g1,g2,g3⟩ | ⟨rfl,rfl⟩
   .exact .inr ⟨c,q,g3,hr,by rw [Io.aS _ _ (by omega)]⟩
   .exact .inr ⟨b,k,hk,bh,by rw [Io.aC]⟩
  .rcases bg hq with ⟨g1,g2,g3⟩ | ⟨rfl,rfl⟩
   .exact g3
   .simp at hr
section
variable {α β γ:Type}
theorem qY (f:α->Option β):Q1 none f=none:=rfl
theorem R0 {tm v:Value} {K:Value->Option β} {r:β} (h:wq tm v K=some r):K v=some r:=by
 unfold wq at h
 split at h
 .unfold HD at h;split at h
  .split at h
   .rename_i hk;subst hk;exact h
   .simp at h
  .simp at h
 .unfold wT at h;split at h
  .exact h
  .simp at h
 .unfold Af at h;split at h
  .exact h
  .simp at h
 .unfold gK at h;split at h
  .exact h
  .simp at h
 .unfold Ag at h;split at h
  .exact h
  .simp at h
 .unfold fj at h;split at h
  .exact h
  .simp at h
 .unfold Mu at h;split at h
  .exact h
  .simp at h
 .exact h
theorem Qi0 {r:β}:∀ {HF vs:List Value} {K:List Value->Option β},HE HF vs K=some r->K vs=some r
 | [],vs,K,h=>by
  unfold HE JK at h
  split at h
  .exact h
  .simp at h
 | t::ts,vs,K,h=>by
  unfold HE Aj at h
  split at h
  .have h1:=R0 h
   exact Qi0 (K:=fun l=>K (_::l)) h1
  .simp at h
theorem KS {tm v:Value} {K:Value->Option β} {r:β} (h:wu tm v K=some r):K v=some r:=by
 unfold wu at h
 split at h
 .unfold Ah at h
  split at h
  .rename_i cs;exact Qi0 (K:=fun l=>K (.agg l.toArray)) h
  .simp at h
 .exact R0 h
theorem Qi1 {r:β}:∀ {HF vs:List Value} {K:List Value->Option β},HG HF vs K=some r->K vs=some r
 | [],vs,K,h=>by
  unfold HG JK at h
  split at h
  .exact h
  .simp at h
 | t::ts,vs,K,h=>by
  unfold HG Aj at h
  split at h
  .have h1:=KS h
   exact Qi1 (K:=fun l=>K (_::l)) h1
  .simp at h
theorem Qtk {tm v:Value} {K:Value->Option β} {r:β} (h:EL tm v K=some r):K v=some r:=by
 unfold EL at h
 split at h
 .unfold Ai at h
  split at h
  .rename_i cs;exact Qi1 (K:=fun l=>K (.tuple l.toArray)) h
  .simp at h
 .exact KS h
end
structure bJ (P:Program) (nt:Nat) (o:Oper) (env:Env) (v:Value):Prop where
 run:∀ (ι:Io) (D:Nat->Prop) (a:Act) (w:World),bw ι D nt env a->∃ c,(execOp a.eval o).run P w=.ok (.value c) w/\ay ι D v c
 lt:∀ D:Nat->Prop,dM D env->bO D v
section inv
variable {ι:Io} {D:Nat->Prop} {c:Value}
theorem ay.cO {b:Bool} (h:ay ι D (.bool b) c):c=.bool b:=by cases h;rfl
theorem ay.aM {k:IntKind} {n:Int} (h:ay ι D (.int k n) c):c=.int k n:=by cases h;rfl
theorem ay.bR {s:ByteArray} (h:ay ι D (.string s) c):c=.string s:=by cases h;rfl
theorem ay.dG {a:Addr} (h:ay ι D (.pointer (some a)) c):c=.pointer (some (ι.addr a))/\D a.block:=by cases h;exact ⟨rfl,by assumption⟩
theorem ay.eV {xs:Array Value} (h:ay ι D (.agg xs) c):∃ ys:Array Value,c=.agg ys/\aZ ι D xs.toList ys.toList:=by
 cases h with
 | agg xs ys hl h=>exact ⟨⟨ys⟩,rfl,hl,h⟩
theorem ay.vr {xs:Array Value} (h:ay ι D (.tuple xs) c):∃ ys:Array Value,c=.tuple ys/\aZ ι D xs.toList ys.toList:=by
 cases h with
 | tuple xs ys hl h=>exact ⟨⟨ys⟩,rfl,hl,h⟩
theorem ay.nE {f:FuncId} {xs ys:Array Value} (h:ay ι D (.func (.func f) xs ys) c):∃ xs' oh:Array Value,c=.func (.func f) xs' oh/\aZ ι D xs.toList xs'.toList/\aZ ι D ys.toList oh.toList:=by
 cases h with
 | func f xs ys xs' oh hl h jR h'=>exact ⟨⟨ys⟩,⟨oh⟩,rfl,⟨hl,h⟩,⟨jR,h'⟩⟩
theorem ay.oX {a:Option Addr} {n m:Nat} (h:ay ι D (.slice a n m) c):∃ a' cap,c=.slice a' n cap/\a'.isNone=a.isNone/\n<=cap:=by
 cases h with
 | dL=>exact ⟨none,0,rfl,rfl,Zd _⟩
 | eP a len c cap h hl hc=>exact ⟨_,cap,rfl,rfl,hl⟩
 | bC a b c h=>exact ⟨_,0,rfl,rfl,Zd _⟩
end inv
theorem aZ.bZ {ι:Io} {D:Nat->Prop} {xs ys:Array Value} (h:aZ ι D xs.toList ys.toList):ay ι D (.agg xs) (.agg ys):=.agg xs.toList ys.toList h.1 h.2
theorem aZ.get {ι:Io} {D:Nat->Prop} {xs ys:List Value} (h:aZ ι D xs ys) {i:Nat} {v:Value} (hv:xs[i]? = some v):∃ c,ys[i]? = some c/\ay ι D v c:=by
 obtain ⟨hi,e⟩:=Z0 hv
 have hj:i < ys.length:=by have:=h.1;omega
 exact ⟨ys[i],Z6 hj,e▸h.2 i hi hj⟩
theorem bO.kX {D:Nat->Prop} {xs:Array Value} (h:bO D (.agg xs)):∀ v∈xs.toList,bO D v:=by
 cases h with
 | agg xs h=>intro v hv;obtain ⟨i,hi,e⟩:=List.getElem_of_mem hv;exact e▸h i hi
theorem bO.vt {D:Nat->Prop} {xs:Array Value} (h:bO D (.tuple xs)):∀ v∈xs.toList,bO D v:=by
 cases h with
 | tuple xs h=>intro v hv;obtain ⟨i,hi,e⟩:=List.getElem_of_mem hv;exact e▸h i hi
theorem bO.wQ {D:Nat->Prop} {f:FuncId} {xs ys:Array Value} (h:bO D (.func (.func f) xs ys)):gP D xs.toList/\gP D ys.toList:=by
 cases h with
 | func f xs ys h h'=>exact ⟨fun v hv=>by obtain ⟨i,hi,e⟩:=List.getElem_of_mem hv;exact e▸h i hi,fun v hv=>by obtain ⟨i,hi,e⟩:=List.getElem_of_mem hv;exact e▸h' i hi⟩
theorem bO.bZ {D:Nat->Prop} {xs:Array Value} (h:∀ v∈xs.toList,bO D v):bO D (.agg xs):=.agg xs.toList fun i hi=>h _ (List.getElem_mem hi)
theorem bO.sQ {D:Nat->Prop} {a:Addr} (h:bO D (.pointer (some a))):D a.block:=by cases h;assumption
theorem bO.wM {D:Nat->Prop} {a:Addr} {n m:Nat} (h:bO D (.slice (some a) n m)):D a.block:=by cases h;assumption
section
variable {P:Program} {nt:Nat} {o:Oper} {env:Env} {H:af} {X:Cx} {β:Type} {K:Value->af->Option β} {r:β}
theorem Qqc {x:Operand} {v:Value} (ho:o.op=.move x) (hx:ev env x=some v):bJ P nt o env v :=
 ⟨fun ι D a w h=>⟨a.eval x,by simp [execOp,ho],Qe h hx⟩,fun D h=>nC h hx⟩
theorem Qkg {x:Operand} {v:Value} (ho:o.op=.assign x) (hx:ev env x=some v):bJ P nt o env v :=
 ⟨fun ι D a w h=>⟨a.eval x,by simp [execOp,ho],Qe h hx⟩,fun D h=>nC h hx⟩
theorem Zv {c x y:Operand} {t:Bool} {v:Value} (ho:o.op=.pick c x y) (hc:ev env c=some (.bool t)) (hv:ev env (if t then x else y)=some v):bJ P nt o env v:=by
 refine ⟨fun ι D a w h=>⟨a.eval (if t then x else y),?_,Qe h hv⟩,fun D h=>nC h hv⟩
 have:=(Qe h hc).cO
 cases t<;>simp [execOp,ho,this,asBool]
theorem Q9h {x:Operand} {p:Addr} (ho:o.op=.nilCheck x) (hx:ev env x=some (.pointer (some p))):bJ P nt o env (.pointer (some p)):=by
 refine ⟨fun ι D a w h=>⟨a.eval x,?_,Qe h hx⟩,fun D h=>nC h hx⟩
 have:=(Qe h hx).dG.1
 simp [execOp,ho,this]
theorem Q8g {x:Operand} {f:FuncId} {xs ys:Array Value} (ho:o.op=.nilCheck x) (hx:ev env x=some (.func (.func f) xs ys)):bJ P nt o env (.func (.func f) xs ys):=by
 refine ⟨fun ι D a w h=>⟨a.eval x,?_,Qe h hx⟩,fun D h=>nC h hx⟩
 obtain ⟨xs',oh,e,_⟩:=(Qe h hx).nE
 simp [execOp,ho,e]
theorem Qi3 {x:Operand} {i:Nat} {vs:Array Value} {u:Value} (ho:o.op=.extract x i) (hx:ev env x=some (.tuple vs)) (hu:vs[i]? = some u):bJ P nt o env u:=by
 refine ⟨fun ι D a w h=>?_,fun D h=>(nC h hx).vt u (by rw [<- Array.getElem?_toList] at hu;exact Zc hu)⟩
 obtain ⟨ys,e,hl⟩:=(Qe h hx).vr
 rw [<- Array.getElem?_toList] at hu
 obtain ⟨c,h1,h2⟩:=hl.get hu
 rw [Array.getElem?_toList] at h1
 exact ⟨c,by simp [execOp,ho,e,Instr.extract,h1],h2⟩
theorem aZ.toArray {ι:Io} {D:Nat->Prop} {xs ys:List Value} (h:aZ ι D xs ys):aZ ι D xs.toArray.toList ys.toArray.toList:=h
theorem Qfi {f:FuncId} {first cap:Array Operand} {fs cs:List Value} (ho:o.op=.makeFunc (.func f) first cap) (h1:e_ env first.toList=some fs) (h2:e_ env cap.toList=some cs) :
  bJ P nt o env (.func (.func f) fs.toArray cs.toArray):=by
 refine ⟨fun ι D a w h=>⟨.func (.func f) (first.map a.eval) (cap.map a.eval),by simp [execOp,ho,Instr.makeFunc],?_⟩,fun D h=>?_⟩
 .have e1:=OG h h1
  have e2:=OG h h2
  have:=ay.func (ι:=ι) (D:=D) f fs (first.toList.map a.eval) cs (cap.toList.map a.eval) e1.1 e1.2 e2.1 e2.2
  rw [<- Array.toList_map,<- Array.toList_map] at this
  exact this
 .exact .func f fs cs (fun i hi=>OF h h1 _ (List.getElem_mem hi)) (fun i hi=>OF h h2 _ (List.getElem_mem hi))
theorem Qqd {op:UnOp} {t:TypeId} {x:Operand} {u v:Value} (ho:o.op=.unOp op t x) (hx:ev env x=some u) (hu:wz op u some=some v):bJ P nt o env v:=by
 unfold wz at hu
 split at hu
 .simp at hu;subst hu
  exact ⟨fun ι D a w h=>⟨_,by simp [execOp,ho,(Qe h hx).cO,Op.unary],.bool _⟩,fun D h=>.bool _⟩
 .simp at hu;subst hu
  exact ⟨fun ι D a w h=>⟨_,by simp [execOp,ho,(Qe h hx).aM,Op.unary,Op.intArith],.int _ _⟩,fun D h=>.int _ _⟩
 .simp at hu
theorem OI {op:UnOp} {u:Value} {K:Value->Option β} {r:β} (h:wz op u K=some r):∃ v,wz op u some=some v/\K v=some r:=by
 unfold wz at h ⊢
 split at h
 .exact ⟨_,rfl,h⟩
 .exact ⟨_,rfl,h⟩
 .simp at h
end
section
variable {P:Program} {nt:Nat} {o:Oper} {env:Env} {H:af} {X:Cx} {β:Type} {K:Value->af->Option β} {r:β}
def Qqe:Value->Value->Bool
 | .nilIface,.nilIface=>false
 | .agg _,.agg _=>false
 | _,_=>true
theorem MG (op:BinOp) (t:TypeId) (x y:Operand) (a b:Value) (w:World) (h:Qqe a b=true):(eqGuard op t x y a b).run P w=.ok () w:=by
 unfold eqGuard
 cases op<;>simp<;>(split<;>simp_all [Qqe])
theorem Qqf {op:BinOp} {k:IntKind} {a b:Int} {K:Value->Option β} {r:β} (h:Mv op k a b K=some r) :
  ∃ v,K v=some r/\(∀ D,bO D v)/\(∀ ι D,ay ι D v v)/\∀ (t:TypeId) (w:World),(op≠.shl/\op≠.shr)->(binOp op t (.int k a) (.int k b)).run P w=.ok v w:=by
 unfold Mv at h
 cases op<;>simp only at h
 case add=>exact ⟨_,h,fun _=>.int _ _,fun _ _=>.int _ _,fun t w _=>by simp [binOp,Op.intArith]⟩
 case sub=>exact ⟨_,h,fun _=>.int _ _,fun _ _=>.int _ _,fun t w _=>by simp [binOp,Op.intArith]⟩
 case mul=>exact ⟨_,h,fun _=>.int _ _,fun _ _=>.int _ _,fun t w _=>by simp [binOp,Op.intArith]⟩
 case quo =>
  rcases jg h with ⟨_,h⟩ | ⟨hb,h⟩
  .simp at h
  .have hb:¬ b=0:=by simpa using hb
   exact ⟨_,h,fun _=>.int _ _,fun _ _=>.int _ _,fun t w _=>by simp [binOp,Op.intDiv,hb]⟩
 case rem =>
  rcases jg h with ⟨_,h⟩ | ⟨hb,h⟩
  .simp at h
  .have hb:¬ b=0:=by simpa using hb
   exact ⟨_,h,fun _=>.int _ _,fun _ _=>.int _ _,fun t w _=>by simp [binOp,Op.intDiv,hb]⟩
 case and=>exact ⟨_,h,fun _=>.int _ _,fun _ _=>.int _ _,fun t w _=>by simp [binOp,Op.intBits]⟩
 case or=>exact ⟨_,h,fun _=>.int _ _,fun _ _=>.int _ _,fun t w _=>by simp [binOp,Op.intBits]⟩
 case xor=>exact ⟨_,h,fun _=>.int _ _,fun _ _=>.int _ _,fun t w _=>by simp [binOp,Op.intBits]⟩
 case shl=>simp at h
 case shr=>simp at h
 case andNot=>exact ⟨_,h,fun _=>.int _ _,fun _ _=>.int _ _,fun t w _=>by simp [binOp,Op.intBits]⟩
 case eql=>exact ⟨_,h,fun _=>.bool _,fun _ _=>.bool _,fun t w _=>by simp [binOp,Op.intCmp]⟩
 case neq=>exact ⟨_,h,fun _=>.bool _,fun _ _=>.bool _,fun t w _=>by simp [binOp,Op.intCmp]⟩
 case lss=>exact ⟨_,h,fun _=>.bool _,fun _ _=>.bool _,fun t w _=>by simp [binOp,Op.intCmp]⟩
 case leq=>exact ⟨_,h,fun _=>.bool _,fun _ _=>.bool _,fun t w _=>by simp [binOp,Op.intCmp]⟩
 case gtr=>exact ⟨_,h,fun _=>.bool _,fun _ _=>.bool _,fun t w _=>by simp [binOp,Op.intCmp]⟩
 case geq=>exact ⟨_,h,fun _=>.bool _,fun _ _=>.bool _,fun t w _=>by simp [binOp,Op.intCmp]⟩
theorem Qbn {op:BinOp} {k k':IntKind} {a b:Int} {K:Value->Option β} {r:β} (h:JM op k a b K=some r) :
  ∃ v,K v=some r/\(∀ D,bO D v)/\(∀ ι D,ay ι D v v)/\∀ (t:TypeId) (w:World),(binOp op t (.int k a) (.int k' b)).run P w=.ok v w:=by
 unfold JM at h
 rcases jg h with ⟨_,h⟩ | ⟨hb,h⟩
 .simp at h
 .have hb:¬ b < 0:=by simpa using hb
  cases op<;>simp only at h<;>try (simp at h;done)
  case shl=>exact ⟨_,h,fun _=>.int _ _,fun _ _=>.int _ _,fun t w=>by simp [binOp,Op.shift,hb]⟩
  case shr=>exact ⟨_,h,fun _=>.int _ _,fun _ _=>.int _ _,fun t w=>by simp [binOp,Op.shift,hb]⟩
theorem Qqg {op:BinOp} {a b:ByteArray} {K:Value->Option β} {r:β} (h:Mw op a b K=some r) :
  ∃ v,K v=some r/\(∀ D,bO D v)/\(∀ ι D,ay ι D v v)/\∀ (t:TypeId) (w:World),(binOp op t (.string a) (.string b)).run P w=.ok v w:=by
 unfold Mw at h
 cases op<;>simp only at h<;>try (simp at h;done)
 case add =>
  rcases jg h with ⟨hb,h⟩ | ⟨_,h⟩
  .have hb:=Zi hb
   refine ⟨_,h,fun _=>.str _,fun _ _=>.str _,fun t w=>?_⟩
   simp [binOp,Op.stringOp]
   omega
  .simp at h
 case eql=>exact ⟨_,h,fun _=>.bool _,fun _ _=>.bool _,fun t w=>by simp [binOp,Op.stringOp]⟩
 case neq=>exact ⟨_,h,fun _=>.bool _,fun _ _=>.bool _,fun t w=>by simp [binOp,Op.stringOp]⟩
 case lss=>exact ⟨_,h,fun _=>.bool _,fun _ _=>.bool _,fun t w=>by simp [binOp,Op.stringOp]⟩
 case leq=>exact ⟨_,h,fun _=>.bool _,fun _ _=>.bool _,fun t w=>by simp [binOp,Op.stringOp]⟩
 case gtr=>exact ⟨_,h,fun _=>.bool _,fun _ _=>.bool _,fun t w=>by simp [binOp,Op.stringOp]⟩
 case geq=>exact ⟨_,h,fun _=>.bool _,fun _ _=>.bool _,fun t w=>by simp [binOp,Op.stringOp]⟩
theorem PU {op:BinOp} {q:Bool} {K:Value->Option β} {r:β} (h:vm op q K=some r) :
  ∃ b,K (.bool b)=some r/\((op=.eql/\b=q)\/(op=.neq/\b = !q)):=by
 unfold vm at h
 cases op<;>simp only at h<;>try (simp at h;done)
 case eql=>exact ⟨_,h,.inl ⟨rfl,rfl⟩⟩
 case neq=>exact ⟨_,h,.inr ⟨rfl,rfl⟩⟩
theorem EU {t:TypeId} {cs:Array Value} {off:Nat} {v:Value} (h:gL P t cs off=some v) (w:World):(part t cs off).run P w=.ok v w:=by
 unfold gL at h
 obtain ⟨i,hi,h⟩:=Q2 h
 split at h
 .rename_i hu;simp at h;subst h
  simp [part,isAgg,run_underlying hu,sizeOf,typeInfo,hi]
 .rename_i hu;simp at h;subst h
  simp [part,isAgg,run_underlying hu,sizeOf,typeInfo,hi]
 .rename_i d h1 h2 hu
  have:(isAgg t).run P w=.ok false w:=by
   simp only [isAgg,Sem.run_bind,run_underlying hu,Result.andThen_ok]
   cases d<;>simp_all
  simp [part,this,h]
 .simp at h
inductive Flat:Value->Prop
 | bool (b:Bool):Flat (.bool b)
 | int (k:IntKind) (n:Int):Flat (.int k n)
 | str (s:ByteArray):Flat (.string s)
theorem Qqh:∀ (d e:Nat) {t:TypeId} {x y:Value} {q:Bool},sP P d t x y=some q->∀ w:World,(Op.equalIn (d+e) t x y).run P w=.ok q w
 | 0,e,t,x,y,q,h,w=>by simp [sP] at h
 | d+1,e,t,x,y,q,h,w=>by
  rw [show d+1+e=(d+e)+1 by omega]
  unfold sP at h
  split at h
  .rename_i hu;simp at h;subst h;exact run_equalIn_bool w _ t _ _ hu
  .rename_i hu
   split at h
   .rename_i hk;subst hk;simp at h;subst h;exact run_equalIn_int w _ t _ _ _ _ hu
   .simp at h
  .rename_i hu;simp at h;subst h;exact run_equalIn_string w _ t _ _ hu
  .rename_i fs xs ys hu
   split at h
   .rename_i eF
    have hf:P.fieldsOf t=fs:=by simp [Program.fieldsOf,hu]
    rw [run_equalIn_struct w (d+e) t xs ys (by rw [hf];exact hu) eF,hf]
    generalize fs.toList=l at h
    clear hu hf
    induction l generalizing q with
    | nil=>simp [JL] at h;subst h;simp [Op.eqFields]
    | cons f fs ih =>
     unfold JL at h
     split at h
     .simp at h
     .rename_i hn
      obtain ⟨a,ha,h⟩:=Q2 h
      obtain ⟨b,hb,h⟩:=Q2 h
      obtain ⟨c,hc,h⟩:=Q2 h
      obtain ⟨s,hs,h⟩:=Q2 h
      simp at h;subst h
      have HL:=ih _ hs
      have he:=Qqh d e hc w
      simp only [Op.eqFields,ne_eq,hn,not_false_eq_true,if_true,Sem.run_bind,EU ha,EU hb,Result.andThen_ok,he]
      cases c
      .simp
      .simp [HL]
   .simp at h
  .simp at h
theorem Qm7:∀ (d:Nat) {t:TypeId} {x y:Value} {q:Bool},sP P d t x y=some q->∀ {ι:Io} {D:Nat->Prop} {x' y':Value},ay ι D x x'->ay ι D y y'->sP P d t x' y'=some q
 | 0,t,x,y,q,h,_,_,_,_,_,_=>by simp [sP] at h
 | d+1,t,x,y,q,h,ι,D,x',y',hx,hy=>by
  unfold sP at h
  split at h
  .rename_i hu;rw [hx.cO,hy.cO];simp [sP,hu];simpa using h
  .rename_i hu;rw [hx.aM,hy.aM];simp only [sP,hu];exact h
  .rename_i hu;rw [hx.bR,hy.bR];simp only [sP,hu];exact h
  .rename_i fs xs ys hu
   obtain ⟨xs',rfl,PW⟩:=hx.eV
   obtain ⟨oh,rfl,hys⟩:=hy.eV
   unfold sP
   simp only [hu]
   cases eF:P.stoodInHeld t with
   | true=>rw [eF] at h;simp at h
   | false =>
    rw [eF] at h
    simp only at h ⊢
    have EV:∀ (f:Field) (zs PX:Array Value) (v:Value),aZ ι D zs.toList PX.toList->gL P f.type zs f.offset=some v->∃ v',gL P f.type PX f.offset=some v'/\ay ι D v v':=by
     intro f zs PX v hz hp
     unfold gL at hp ⊢
     obtain ⟨i,hi,hp⟩:=Q2 hp
     rw [hi];simp only [Q1]
     have hex:aZ ι D (zs.extract f.offset (f.offset+i.size)).toList (PX.extract f.offset (f.offset+i.size)).toList:=by
      simp only [Array.toList_extract,List.extract]
      refine ⟨by simp [hz.1],fun j h1 h2=>?_⟩
      simp only [List.getElem_take,List.getElem_drop]
      exact hz.2 _ _ _
     split at hp
     .simp at hp;subst hp;exact ⟨_,rfl,hex.bZ⟩
     .simp at hp;subst hp;exact ⟨_,rfl,hex.bZ⟩
     .rw [<- Array.getElem?_toList] at hp ⊢
      exact hz.get hp
     .simp at hp
    generalize fs.toList=l at h
    induction l generalizing q with
    | nil=>simpa [JL] using h
    | cons f fs ih =>
     unfold JL at h ⊢
     split at h
     .simp at h
     .rename_i hn
      rw [if_neg hn]
      obtain ⟨a,ha,h⟩:=Q2 h
      obtain ⟨b,hb,h⟩:=Q2 h
      obtain ⟨c,hc,h⟩:=Q2 h
      obtain ⟨s,hs,h⟩:=Q2 h
      obtain ⟨a',ha',ra⟩:=EV f xs xs' a PW ha
      obtain ⟨b',gX,rb⟩:=EV f ys oh b hys hb
      rw [ha',gX];simp only [Q1]
      rw [Qm7 d hc ra rb,ih _ hs]
      exact h
  .simp at h
theorem Q9i (w:World) (d:Nat) {t e:TypeId} (hu:P.underlying t=some (.slice e)) (a:Option Addr) (n m n' m':Nat):(Op.equalIn (d+1) t (.slice a n m) (.slice none n' m')).run P w=.ok a.isNone w:=by
 cases a<;>simp [Op.equalIn,run_underlying hu]
theorem Q8h (w:World) (d:Nat) {t e:TypeId} (hu:P.underlying t=some (.pointer e)) (a:Option Addr):(Op.equalIn (d+1) t (.pointer a) (.pointer none)).run P w=.ok a.isNone w:=by
 cases a<;>simp [Op.equalIn,run_underlying hu]
theorem Qqi {op:BinOp} {t t':TypeId} {x y:Operand} {u v:Value} {K:Value->Option β} {r:β} (ho:o.op=.binOp op t x y t') (hx:ev env x=some u) (hy:ev env y=some v) (h:Ak P op t u v K=some r) :
  ∃ z,K z=some r/\bJ P nt o env z:=by
 have hex:∀ (a:Act) (w:World) (z:Value),(eqGuard op t x y (a.eval x) (a.eval y)).run P w=.ok () w->(binOp op t (a.eval x) (a.eval y)).run P w=.ok z w->(execOp a.eval o).run P w=.ok (.value z) w:=by
  intro a w z h1 h2;simp [execOp,ho,h1,h2]
 unfold Ak at h
 split at h
 .rename_i k a k' b
  have hg:∀ (c:Act) (w:World),c.eval x=.int k a->c.eval y=.int k' b->(eqGuard op t x y (c.eval x) (c.eval y)).run P w=.ok () w:=fun c w e1 e2=>by rw [e1,e2];exact MG _ _ _ _ _ _ _ rfl
  split at h
  .obtain ⟨z,h1,h2,h3,h4⟩:=Qbn (P:=P) (k':=k') h
   exact ⟨z,h1,fun ι D c w he=>⟨z,hex c w z (hg c w (Qe he hx).aM (Qe he hy).aM) (by rw [(Qe he hx).aM,(Qe he hy).aM];exact h4 t w),h3 ι D⟩,fun D _=>h2 D⟩
  .obtain ⟨z,h1,h2,h3,h4⟩:=Qbn (P:=P) (k':=k') h
   exact ⟨z,h1,fun ι D c w he=>⟨z,hex c w z (hg c w (Qe he hx).aM (Qe he hy).aM) (by rw [(Qe he hx).aM,(Qe he hy).aM];exact h4 t w),h3 ι D⟩,fun D _=>h2 D⟩
  .rename_i n1 n2
   split at h
   .rename_i hk;subst hk
    obtain ⟨z,h1,h2,h3,h4⟩:=Qqf (P:=P) h
    exact ⟨z,h1,fun ι D c w he=>⟨z,hex c w z (hg c w (Qe he hx).aM (Qe he hy).aM) (by rw [(Qe he hx).aM,(Qe he hy).aM];exact h4 t w ⟨fun e=>n1 e,fun e=>n2 e⟩),h3 ι D⟩,fun D _=>h2 D⟩
   .simp at h
 .obtain ⟨z,h1,h2,h3,h4⟩:=Qqg (P:=P) h
  exact ⟨z,h1,fun ι D c w he=>⟨z,hex c w z (by rw [(Qe he hx).bR,(Qe he hy).bR];exact MG _ _ _ _ _ _ _ rfl) (by rw [(Qe he hx).bR,(Qe he hy).bR];exact h4 t w),h3 ι D⟩,fun D _=>h2 D⟩
 .split at h
  .rename_i hu
   obtain ⟨b,h1,h2⟩:=PU h
   refine ⟨_,h1,fun ι D c w he=>⟨_,hex c w _ (by rw [(Qe he hx).cO,(Qe he hy).cO];exact MG _ _ _ _ _ _ _ rfl) ?_,.bool _⟩,fun D _=>.bool _⟩
   rw [(Qe he hx).cO,(Qe he hy).cO]
   rcases h2 with ⟨rfl,rfl⟩ | ⟨rfl,rfl⟩
   .exact run_eql_bool w t _ _ hu
   .exact run_neq_bool w t _ _ hu
  .simp at h
 .rename_i xs ys
  split at h
  .rename_i PY
   obtain ⟨q,hq,h⟩:=Q2 h
   obtain ⟨b,h1,h2⟩:=PU h
   refine ⟨_,h1,fun ι D c w he=>?_,fun D _=>.bool _⟩
   have EH:=Qm7 20 hq (Qe he hx) (Qe he hy)
   obtain ⟨xs',e1,_⟩:=(Qe he hx).eV
   obtain ⟨oh,e2,_⟩:=(Qe he hy).eV
   have hr:=Qqh (P:=P) 20 9980 EH w
   refine ⟨_,hex c w _ (by rw [e1,e2];exact run_eqGuard_agg w op t x y xs' oh PY) ?_,.bool _⟩
   rw [e1,e2] at hr ⊢
   rcases h2 with ⟨rfl,rfl⟩ | ⟨rfl,rfl⟩
   .rw [run_eql_struct,hr];rfl
   .rw [run_neq_struct,hr];rfl
  .simp at h
 .rename_i a n m n' m'
  split at h
  .rename_i e hu
   obtain ⟨b,h1,h2⟩:=PU h
   refine ⟨_,h1,fun ι D c w he=>?_,fun D _=>.bool _⟩
   obtain ⟨a1,c1,e1,i1,_⟩:=(Qe he hx).oX
   obtain ⟨a2,c2,e2,i2,_⟩:=(Qe he hy).oX
   have i2':a2=none:=by simpa using i2
   subst i2'
   refine ⟨_,hex c w _ (by rw [e1,e2];exact MG _ _ _ _ _ _ _ rfl) ?_,.bool _⟩
   have hq:(Op.equal t (.slice a1 n c1) (.slice none n' c2)).run P w=.ok a1.isNone w:=Q9i w 9999 hu a1 n c1 n' c2
   rw [e1,e2]
   rcases h2 with ⟨rfl,rfl⟩ | ⟨rfl,rfl⟩<;>simp only [binOp]<;>simp [hq,i1]
  .simp at h
 .rename_i a
  split at h
  .rename_i e hu
   obtain ⟨b,h1,h2⟩:=PU h
   refine ⟨_,h1,fun ι D c w he=>?_,fun D _=>.bool _⟩
   have e2:c.eval y=.pointer none:=by
    have:=Qe he hy
    cases hq:c.eval y<;>rw [hq] at this<;>cases this;rfl
   have e1:∃ a',c.eval x=.pointer a'/\a'.isNone=a.isNone:=by
    have:=Qe he hx
    cases a with
    | none=>cases hq:c.eval x<;>rw [hq] at this<;>cases this;exact ⟨none,rfl,rfl⟩
    | some p=>exact ⟨_,this.dG.1,rfl⟩
   obtain ⟨a',e1,i1⟩:=e1
   refine ⟨_,hex c w _ (by rw [e1,e2];exact MG _ _ _ _ _ _ _ rfl) ?_,.bool _⟩
   have hq:(Op.equal t (.pointer a') (.pointer none)).run P w=.ok a'.isNone w:=Q8h w 9999 hu a'
   rw [e1,e2]
   rcases h2 with ⟨rfl,rfl⟩ | ⟨rfl,rfl⟩<;>simp only [binOp]<;>simp [hq,i1]
  .simp at h
 .simp at h
theorem R3 {v:Value} {K:Nat->Option β} {r:β} (h:wF v K=some r):∃ n:Nat,v=.int .i64 (n:Int)/\K n=some r:=by
 unfold wF at h
 split at h
 .rename_i n
  rcases jg h with ⟨hn,h⟩ | ⟨_,h⟩
  .have hn:0<=n:=by simpa using hn
   exact ⟨n.toNat,by rw [Int.toNat_of_nonneg hn],h⟩
  .simp at h
 .simp at h
theorem OM {v:Value} {K:Nat->Option β} {r:β} (h:EM v K=some r):∃ (kd:IntKind) (n:Nat),v=.int kd (n:Int)/\K n=some r:=by
 unfold EM at h
 split at h
 .rename_i kd n
  rcases jg h with ⟨hn,h⟩ | ⟨_,h⟩
  .have hn:0<=n:=by simpa using hn
   exact ⟨kd,n.toNat,by rw [Int.toNat_of_nonneg hn],h⟩
  .simp at h
 .simp at h
theorem I1 {v:Value} {K:Addr->Option β} {r:β} (h:fj v K=some r):∃ p,v=.pointer (some p)/\K p=some r:=by
 unfold fj at h;split at h
 .exact ⟨_,rfl,h⟩
 .simp at h
theorem Zu {v:Value} {K:Addr->Nat->Nat->Option β} {r:β} (h:wo v K=some r):∃ p n c,v=.slice (some p) n c/\K p n c=some r:=by
 unfold wo at h;split at h
 .exact ⟨_,_,_,rfl,h⟩
 .simp at h
theorem Y9 {v:Value} {K:Option Addr->Nat->Nat->Option β} {r:β} (h:gK v K=some r):∃ a n c,v=.slice a n c/\K a n c=some r:=by
 unfold gK at h;split at h
 .exact ⟨_,_,_,rfl,h⟩
 .simp at h
theorem OJ {x:Option Operand} {d:Nat} {K:Nat->Option β} {r:β} (h:mN env x d K=some r) :
  ∃ n,K n=some r/\((x=none/\n=d)\/∃ y,x=some y/\ev env y=some (.int .i64 (n:Int))):=by
 unfold mN at h
 split at h
 .exact ⟨d,h,.inl ⟨rfl,rfl⟩⟩
 .rename_i y
  obtain ⟨v,hv,h⟩:=Q2 h
  obtain ⟨n,rfl,h⟩:=R3 h
  exact ⟨n,h,.inr ⟨y,rfl,hv⟩⟩
theorem Qd0 {s:TypeId} {x:Operand} {f:Nat} {p:Addr} {fs:Array Field} {fd:Field} {i:TypeInfo} (ho:o.op=.fieldAddr s x f) (hx:ev env x=some (.pointer (some p))) (hs:P.underlying s=some (.struct fs)) (hf:fs[f]? = some fd)
  (hi:P.info? fd.type=some i) (hz:Nat.beq i.size 0=false):bJ P nt o env (.pointer (some ⟨p.block,p.off+fd.offset,none⟩)):=by
 refine ⟨fun ι D a w h=>?_,fun D h=>.ptr _ (nC h hx).sQ⟩
 obtain ⟨e,hD⟩:=(Qe h hx).dG
 refine ⟨.pointer (some (ι.addr ⟨p.block,p.off+fd.offset,none⟩)),?_,.ptr _ hD⟩
 have aX:i.size≠0:=Nat.ne_of_beq_eq_false hz
 have ha:(ι.addr p).add fd.offset=ι.addr ⟨p.block,p.off+fd.offset,none⟩:=by
  rw [IW];simp only [Io.addr,Nat.add_assoc]
 simp [execOp,ho,e,Instr.fieldAt,Instr.sureAddr,run_underlying hs,hf,fieldPlace,sizeOf,typeInfo,hi,aX,ha]
theorem Qnp {t:TypeId} {x:Operand} {f:Nat} {cs:Array Value} {fs:Array Field} {fd:Field} {u:Value} (ho:o.op=.field t x f) (hx:ev env x=some (.agg cs)) (hs:P.underlying t=some (.struct fs)) (hf:fs[f]? = some fd)
  (hu:gL P fd.type cs fd.offset=some u):bJ P nt o env u:=by
 have key:∀ (R:Value->Prop) (Q:Array Value->Prop),True:=fun _ _=>trivial
 unfold gL at hu
 obtain ⟨i,hi,hu⟩:=Q2 hu
 refine ⟨fun ι D a w h=>?_,fun D h=>?_⟩
 .obtain ⟨ys,e,hl⟩:=(Qe h hx).eV
  have hex:aZ ι D (cs.extract fd.offset (fd.offset+i.size)).toList (ys.extract fd.offset (fd.offset+i.size)).toList:=by
   simp only [Array.toList_extract,List.extract]
   refine ⟨by simp [hl.1],fun j h1 h2=>?_⟩
   simp only [List.getElem_take,List.getElem_drop]
   exact hl.2 _ _ _
  have aT:∀ c,(part fd.type ys fd.offset).run P w=.ok c w->(execOp a.eval o).run P w=.ok (.value c) w:=by
   intro c hc;simp [execOp,ho,e,Instr.field,run_underlying hs,hf,asAgg,hc]
  split at hu
  .rename_i dA;simp at hu;subst hu
   exact ⟨_,aT _ (EU (by unfold gL;rw [hi];simp only [Q1,dA]) w),hex.bZ⟩
  .rename_i dA;simp at hu;subst hu
   exact ⟨_,aT _ (EU (by unfold gL;rw [hi];simp only [Q1,dA]) w),hex.bZ⟩
  .rename_i d n1 n2 dA
   rw [<- Array.getElem?_toList] at hu
   obtain ⟨c,h1,h2⟩:=hl.get hu
   refine ⟨c,aT _ (EU ?_ w),h2⟩
   unfold gL;rw [hi];simp only [Q1,dA]
   rw [Array.getElem?_toList] at h1
   exact h1
  .simp at hu
 .have hm:=(nC h hx).kX
  have hex:∀ v∈(cs.extract fd.offset (fd.offset+i.size)).toList,bO D v:=by
   intro v hv
   simp only [Array.toList_extract,List.extract] at hv
   exact hm v (List.mem_of_mem_drop (List.mem_of_mem_take hv))
  split at hu
  .simp at hu;subst hu;exact bO.bZ hex
  .simp at hu;subst hu;exact bO.bZ hex
  .rw [<- Array.getElem?_toList] at hu;exact hm u (Zc hu)
  .simp at hu
theorem ay.CQ {ι:Io} {D:Nat->Prop} {p:Addr} {n m:Nat} {c:Value} (h:ay ι D (.slice (some p) n m) c) (hn:0 < n) :
  ∃ cap,c=.slice (some (ι.addr p)) n cap/\D p.block/\n<=cap/\(ι p.block).off+p.off+cap*m<=(ι p.block).size:=by
 cases h with
 | eP a len c cap h hl hc=>exact ⟨cap,rfl,h,hl,hc⟩
 | bC a b c h=>omega
theorem Qd1 {t e:TypeId} {x ix:Operand} {p:Addr} {n m k:Nat} {kd:IntKind} {i:TypeInfo} (ho:o.op=.indexAddr t x ix) (hx:ev env x=some (.slice (some p) n m)) (By:ev env ix=some (.int kd (k:Int))) (hu:P.underlying t=some (.slice e))
  (hi:P.info? e=some i) (hk:k < n):bJ P nt o env (.pointer (some ⟨p.block,p.off+k*i.size,none⟩)):=by
 refine ⟨fun ι D a w h=>?_,fun D h=>.ptr _ (nC h hx).wM⟩
 obtain ⟨cap,ex,hD,hl,hc⟩:=(Qe h hx).CQ (by omega)
 have HO:=(Qe h By).aM
 refine ⟨.pointer (some (ι.addr ⟨p.block,p.off+k*i.size,none⟩)),?_,.ptr _ hD⟩
 have ha:(ι.addr p).add (k*i.size)=ι.addr ⟨p.block,p.off+k*i.size,none⟩:=by
  rw [IW];simp only [Io.addr,Nat.add_assoc]
 have h0:(0:Int)<=(k:Int)/\(k:Int) < (n:Int):=⟨by omega,by omega⟩
 have aT:(Instr.indexAt t (.slice (some (ι.addr p)) n cap) (.int kd (k:Int))).run P w=.ok (.pointer (some ((ι.addr p).add (k*i.size)))) w:=by
  simp only [Instr.indexAt,asIntOf,Sem.run_bind,Sem.run_pure,Result.andThen_ok,run_underlying hu,Bool.and_false]
  rw [if_pos h0]
  simp [sizeOf,typeInfo,hi]
 rw [ha] at aT
 simp only [execOp,ho,ex,HO,Sem.run_bind,aT,Result.andThen_ok,Sem.run_pure]
theorem Qfk {t e:TypeId} {x ix:Operand} {p:Addr} {n k:Nat} {kd:IntKind} {i:TypeInfo} (ho:o.op=.indexAddr t x ix) (hx:ev env x=some (.pointer (some p))) (By:ev env ix=some (.int kd (k:Int))) (hu:P.underlying t=some (.array n e))
  (hi:P.info? e=some i) (hk:k < n):bJ P nt o env (.pointer (some ⟨p.block,p.off+k*i.size,none⟩)):=by
 refine ⟨fun ι D a w h=>?_,fun D h=>.ptr _ (nC h hx).sQ⟩
 obtain ⟨ex,hD⟩:=(Qe h hx).dG
 have HO:=(Qe h By).aM
 refine ⟨.pointer (some (ι.addr ⟨p.block,p.off+k*i.size,none⟩)),?_,.ptr _ hD⟩
 have ha:(ι.addr p).add (k*i.size)=ι.addr ⟨p.block,p.off+k*i.size,none⟩:=by
  rw [IW];simp only [Io.addr,Nat.add_assoc]
 have h0:(0:Int)<=(k:Int)/\(k:Int) < (n:Int):=⟨by omega,by omega⟩
 have aT:(Instr.indexAt t (.pointer (some (ι.addr p))) (.int kd (k:Int))).run P w=.ok (.pointer (some ((ι.addr p).add (k*i.size)))) w:=by
  simp only [Instr.indexAt,asIntOf,Instr.sureAddr,Sem.run_bind,Sem.run_pure,Result.andThen_ok,run_underlying hu]
  rw [if_pos h0]
  simp [sizeOf,typeInfo,hi]
 rw [ha] at aT
 simp only [execOp,ho,ex,HO,Sem.run_bind,aT,Result.andThen_ok,Sem.run_pure]
theorem Qfl {t e:TypeId} {x ix:Operand} {cs:Array Value} {n k:Nat} {kd:IntKind} {i:TypeInfo} {u:Value} (ho:o.op=.index t x ix) (hx:ev env x=some (.agg cs)) (By:ev env ix=some (.int kd (k:Int))) (hs:P.underlying t=some (.array n e))
  (eZ:P.info? e=some i) (hk:k < n) (hu:gL P e cs (k*i.size)=some u):bJ P nt o env u:=by
 unfold gL at hu
 obtain ⟨i2,hi,hu⟩:=Q2 hu
 rw [eZ] at hi;injection hi with hi;subst hi
 refine ⟨fun ι D a w h=>?_,fun D h=>?_⟩
 .obtain ⟨ys,ex,hl⟩:=(Qe h hx).eV
  have HO:=(Qe h By).aM
  have hex:aZ ι D (cs.extract (k*i.size) (k*i.size+i.size)).toList (ys.extract (k*i.size) (k*i.size+i.size)).toList:=by
   simp only [Array.toList_extract,List.extract]
   refine ⟨by simp [hl.1],fun j h1 h2=>?_⟩
   simp only [List.getElem_take,List.getElem_drop]
   exact hl.2 _ _ _
  have h0:(0:Int)<=(k:Int)/\(k:Int) < (n:Int):=⟨by omega,by omega⟩
  have aT:∀ c,(part e ys (k*i.size)).run P w=.ok c w->(execOp a.eval o).run P w=.ok (.value c) w:=by
   intro c hc
   have dU:(Instr.index t (.agg ys) (.int kd (k:Int))).run P w=.ok c w:=by
    simp only [Instr.index,asIntOf,Sem.run_bind,Sem.run_pure,Result.andThen_ok,run_underlying hs]
    rw [if_pos h0]
    simp [sizeOf,typeInfo,eZ,hc]
   simp only [execOp,ho,ex,HO,Sem.run_bind,dU,Result.andThen_ok,Sem.run_pure]
  split at hu
  .rename_i dA;simp at hu;subst hu
   exact ⟨_,aT _ (EU (by unfold gL;rw [eZ];simp only [Q1,dA]) w),hex.bZ⟩
  .rename_i dA;simp at hu;subst hu
   exact ⟨_,aT _ (EU (by unfold gL;rw [eZ];simp only [Q1,dA]) w),hex.bZ⟩
  .rename_i d n1 n2 dA
   rw [<- Array.getElem?_toList] at hu
   obtain ⟨c,h1,h2⟩:=hl.get hu
   refine ⟨c,aT _ (EU ?_ w),h2⟩
   unfold gL;rw [eZ];simp only [Q1,dA]
   rw [Array.getElem?_toList] at h1
   exact h1
  .simp at hu
 .have hm:=(nC h hx).kX
  have hex:∀ v∈(cs.extract (k*i.size) (k*i.size+i.size)).toList,bO D v:=by
   intro v hv
   simp only [Array.toList_extract,List.extract] at hv
   exact hm v (List.mem_of_mem_drop (List.mem_of_mem_take hv))
  split at hu
  .simp at hu;subst hu;exact bO.bZ hex
  .simp at hu;subst hu;exact bO.bZ hex
  .rw [<- Array.getElem?_toList] at hu;exact hm u (Zc hu)
  .simp at hu
theorem Qnq {t:TypeId} {x ix:Operand} {s:ByteArray} {k:Nat} {kd:IntKind} {b:UInt8} (ho:o.op=.index t x ix) (hx:ev env x=some (.string s)) (By:ev env ix=some (.int kd (k:Int))) (hu:P.underlying t=some .string)
  (hb:s.data.toList[k]? = some b):bJ P nt o env (.int .u8 b.toNat):=by
 refine ⟨fun ι D a w h=>⟨_,?_,.int _ _⟩,fun D h=>.int _ _⟩
 have ex:=(Qe h hx).bR
 have HO:=(Qe h By).aM
 have gX:s[k]? = some b:=by
  rw [Array.getElem?_toList] at hb
  obtain ⟨h1,h2⟩:=Array.getElem?_eq_some_iff.1 hb
  rw [getElem?_pos s k (show k < s.data.size from h1)]
  simp only [Option.some.injEq]
  exact h2
 simp [execOp,ho,ex,HO,Instr.index,asIntOf,run_underlying hu,gX]
end
end Go.Ev
