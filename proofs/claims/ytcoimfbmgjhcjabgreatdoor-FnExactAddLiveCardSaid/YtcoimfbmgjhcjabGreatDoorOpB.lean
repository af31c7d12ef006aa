/-
  A deterministic abstract interpreter over the model's own code (definitions only): abstract blocks by position, values with abstract block numbers. And what stood behind it in 6 texts.
  Conditions: said at the theorems.
-/
import Derived.Calls
import Derived.Orders
import Derived.Laws.StructEq
import Derived.Laws.Tables
import Derived.Laws.IdiomCopy
import Derived.Laws.Entries
import Derived.Laws.Small
import Derived.Laws.Strings
set_option linter.unusedVariables false
namespace Go.Ev
set_option linter.defProp false
def Z0 {α : Type _} {l : List α} {i : Nat} {a : α}:=(List.getElem?_eq_some_iff (l:=l) (i:=i) (a:=a)).1
def Z1 {α : Type _} {l : List α}:=(List.length_eq_zero_iff (l:=l)).1
def Z2 {α : Type _} {a b : α} {l : List α}:=(List.mem_cons (a:=a) (b:=b) (l:=l)).1
def Z3 {α : Type _} {l : List α} {p : α -> Bool}:=(List.all_eq_true (l:=l) (p:=p)).1
def Z4:=@decide_eq_false
def Z5:=@decide_eq_true
def Z6:=@List.getElem?_eq_getElem
def Z7:=@Nat.eq_of_beq_eq_true
def Z8:=@Bool.and_eq_true
def Z9:=@List.length_cons
def Za:=@ByteArray.size_append
def Zb:=@List.length_nil
def Zc:=@List.mem_of_getElem?
def Zd:=@Nat.le_refl
def Ze:=@List.flatten_cons
def Zf:=@List.length_append
def Zg:=@Bool.true_and
def Zh:=@List.mem_append
def Zi:=@Nat.le_of_ble_eq_true
def Zj:=@decide_eq_true_eq
def Zk:=@Nat.mul_le_mul_right
def Zl:=@Bool.not_true
def Zm:=@Nat.lt_of_lt_of_le
def Zn:=@List.nodup_append
def Zo:=@Nat.zero_add
def Zp:=@List.getElem?_drop
def Zq:=@List.getElem?_append_right
def Zr:=@List.getD_eq_getElem?_getD
def Zs:=@List.take_of_length_le
structure bx where
 cells:List Value
 ro:Bool
 mp:Option (List (Int×Int))
abbrev Env:=List (Nat×Value)
abbrev af:=List (Option bx)
def Q1 {α β:Type} (x:Option α) (f:α->Option β):Option β :=
 match x with
 | some a=>f a
 | none=>none
def aa {β:Type} (b:Bool) (x y:Option β):Option β:=match b with | true=>x | false=>y
def cU:Env->Nat->Option Value
 | [],_=>none
 | (s,v)::r,t=>match Nat.beq s t with | true=>some v | false=>cU r t
def Qu:Value->Bool
 | .bool _ | .int _ _ | .string _ | .nilFunc | .nilIface | .pointer none=>true
 | .slice none 0 0=>true
 | _=>false
def JK:Value->Bool
 | .agg cs=>cs.toList.all Qu
 | .tuple cs=>cs.toList.all Qu
 | v=>Qu v
def az:Value->Bool
 | .agg _ | .tuple _=>false
 | _=>true
def ah (H:af) (b:Nat):Option bx:=match H[b]? with | some (some k)=>some k | _=>none
def gL (H:af) (a:Addr):Option Value:=Q1 (ah H a.block) fun k=>k.cells[a.off]?
def Qx (H:af) (a:Addr) (n:Nat):Option (List Value) :=
 Q1 (ah H a.block) fun k=>match Nat.ble (a.off+n) k.cells.length with | true=>some ((k.cells.drop a.off).take n) | false=>none
def fN (H:af) (a:Addr) (n:Nat):Option (List Value):=match n with | 0=>some [] | m+1=>Qx H a (m+1)
def qU (l:List Value) (off:Nat) (vs:List Value):List Value:=l.take off++vs++l.drop (off+vs.length)
def oZ (H:af) (ai:Nat) (a:Addr) (vs:List Value):Option af :=
 Q1 (ah H a.block) fun k =>
  match k.ro,vs.all az,vs.all Qu || Nat.ble ai a.block,Nat.ble (a.off+vs.length) k.cells.length with
  | false,true,true,true=>some (H.set a.block (some { k with cells:=qU k.cells a.off vs }))
  | _,_,_,_=>none
def dr (H:af) (cells:List Value):af:=H++[some ⟨cells,false,none⟩]
def gN:Nat:=2
def gTabs:List (Nat×List Value):=[(0,[.string ⟨#[113,100,105,115,99]⟩,.string ⟨#[100,101,102,97,117,108,116]⟩,.string ⟨#[99,108,97,115,115]⟩,.string ⟨#[114,97,116,101]⟩,.string ⟨#[99,101,105,108]⟩,.string ⟨#[98,117,114,115,116]⟩,.string ⟨#[99,98,117,114,115,116]⟩,.string ⟨#[112,114,105,111]⟩,.string ⟨#[108,105,109,105,116]⟩,.string ⟨#[102,105,108,116,101,114]⟩,.string ⟨#[115,111,117,114,99,101]⟩,.string ⟨#[100,101,115,116]⟩,.string ⟨#[112,111,114,116]⟩,.string ⟨#[109,97,114,107]⟩]),(1,[.int .u64 1,.int .u64 10,.int .u64 100,.int .u64 1000,.int .u64 10000,.int .u64 100000,.int .u64 1000000,.int .u64 10000000,.int .u64 100000000,.int .u64 1000000000,.int .u64 10000000000,.int .u64 100000000000,.int .u64 1000000000000,.int .u64 10000000000000,.int .u64 100000000000000,.int .u64 1000000000000000,.int .u64 10000000000000000,.int .u64 100000000000000000,.int .u64 1000000000000000000,.int .u64 10000000000000000000])]
def HC:List (Nat×List Value)->Nat->Option (List Value)
 | [],_=>none
 | (a,l)::r,g=>match Nat.beq a g with | true=>some l | false=>HC r g
def Bf (P:Program) (t:TypeId) (x:Operand):Option Value:=match x with
 | .global g=>Q1 (HC gTabs g) fun l=>Q1 (P.info? t) fun i=>match P.underlying t with
  | some (.array _ _)=>match Nat.beq l.length i.size,l.all Qu with
   | true,true=>some (.agg l.toArray)
   | _,_=>none
  | _=>none
 | _=>none
theorem Y4 {P:Program} {t:TypeId} {x:Operand} {v:Value} (h:Bf P t x=some v):∃ g l i n e,x=.global g/\HC gTabs g=some l/\P.info? t=some i/\P.underlying t=some (.array n e)/\l.length=i.size/\l.all Qu=true/\v=.agg l.toArray:=by
 have os:∀ {α γ:Type} {x:Option α} {f:α->Option γ} {r:γ},Q1 x f=some r->∃ a,x=some a/\f a=some r:=by
  intro α γ x f r h
  cases x with
  | none=>simp [Q1] at h
  | some a=>exact ⟨a,rfl,h⟩
 unfold Bf at h
 split at h
 .rename_i g
  replace h:=os h;obtain ⟨l,hl,h⟩:=h
  replace h:=os h;obtain ⟨i,hi,h⟩:=h
  split at h
  .rename_i n e hu
   split at h
   .rename_i h1 h2
    injection h with h
    exact ⟨g,l,i,n,e,rfl,hl,hi,hu,Z7 h1,h2,h.symm⟩
   .simp at h
  .simp at h
 .simp at h
section view
variable {β:Type}
def HD (k:IntKind) (v:Value) (K:Int->Option β):Option β :=
 match v with
 | .int k' n=>if k'=k then K n else none
 | _=>none
def wZ (v:Value) (K:Bool->Option β):Option β:=match v with | .bool b=>K b | _=>none
def Mr (v:Value) (K:ByteArray->Option β):Option β:=match v with | .string b=>K b | _=>none
def gH (v:Value) (K:Option Addr->Nat->Nat->Option β):Option β:=match v with | .slice a n c=>K a n c | _=>none
def Aq (v:Value) (K:Option Addr->Option β):Option β:=match v with | .pointer a=>K a | _=>none
def Ar (v:Value) (K:List Value->Option β):Option β:=match v with | .agg cs=>K cs.toList | _=>none
def As (v:Value) (K:List Value->Option β):Option β:=match v with | .tuple cs=>K cs.toList | _=>none
def Au (l:List Value) (K:Value->List Value->Option β):Option β:=match l with | v::r=>K v r | []=>none
def JL (l:List Value) (K:Option β):Option β:=match l with | []=>K | _::_=>none
def Ms (v:Value) (K:FuncId->Array Value->Array Value->Option β):Option β:=match v with | .func (.func f) a b=>K f a b | _=>none
def e_ (v:Value) (K:Addr->Option β):Option β:=match v with | .pointer (some p)=>K p | _=>none
def wF (v:Value) (K:Addr->Nat->Nat->Option β):Option β:=match v with | .slice (some p) n c=>K p n c | _=>none
def wG (tm v:Value) (K:Value->Option β):Option β :=
 match tm with
 | .int k _=>HD k v fun n=>K (.int k n)
 | .bool _=>wZ v fun b=>K (.bool b)
 | .string _=>Mr v fun s=>K (.string s)
 | .slice _ _ _=>gH v fun a n c=>K (.slice a n c)
 | .pointer none=>Aq v fun a=>K (.pointer a)
 | .pointer (some _)=>e_ v fun p=>K (.pointer (some p))
 | .nilFunc=>Ms v fun f a b=>K (.func (.func f) a b)
 | _=>K v
def HE (HF vs:List Value) (K:List Value->Option β):Option β :=
 match HF with
 | []=>JL vs (K [])
 | t::ts=>Au vs fun v r=>wG t v fun v'=>HE ts r fun l=>K (v'::l)
def wH (tm v:Value) (K:Value->Option β):Option β :=
 match tm with
 | .agg cs=>Ar v fun vs=>HE cs.toList vs fun l=>K (.agg l.toArray)
 | t=>wG t v K
def HG (HF vs:List Value) (K:List Value->Option β):Option β :=
 match HF with
 | []=>JL vs (K [])
 | t::ts=>Au vs fun v r=>wH t v fun v'=>HG ts r fun l=>K (v'::l)
def EI (tm v:Value) (K:Value->Option β):Option β :=
 match tm with
 | .tuple ts=>As v fun vs=>HG ts.toList vs fun l=>K (.tuple l.toArray)
 | t=>wH t v K
end view
def Be (P:Program) (t:TypeId):Option Value:=Q1 (P.info? t) fun i=>i.zero
def Qq4 (P:Program):List TypeId->Option (List Value)
 | []=>some []
 | t::ts=>Q1 (Be P t) fun z=>Q1 (Qq4 P ts) fun l=>some (z::l)
def PI (P:Program) (t:TypeId):Option Value :=
 Q1 (P.info? t) fun i=>match i.desc with
  | .tuple ts=>Q1 (Qq4 P ts.toList) fun l=>some (.tuple l.toArray)
  | _=>i.zero
structure Cx where
 P:Program
 call:FuncId->List Value->Nat->af->Option (Value×af)
 ai:Nat
 nt:Nat
 fuel:Nat
 cV:Nat->List (Nat×Value)
def kB:FuncId->FuncId:=fun f=>match f with | 127=>115 | f=>f
def ev (env:Env):Operand->Option Value
 | .tmp t=>cU env t
 | .const v=>match JK v with | true=>some v | false=>none
 | .func f=>some (.func (.func (kB f)) #[] #[])
 | .global _=>none
def eX (env:Env):List Operand->Option (List Value)
 | []=>some []
 | x::r=>Q1 (ev env x) fun v=>Q1 (eX env r) fun l=>some (v::l)
def oD (env:Env):List (Nat×Operand)->Option (List (Nat×Value))
 | []=>some []
 | (i,x)::r=>Q1 (ev env x) fun v=>Q1 (oD env r) fun l=>some ((i,v)::l)
def gI (P:Program) (t:TypeId) (cs:Array Value) (off:Nat):Option Value :=
 Q1 (P.info? t) fun i=>match P.underlying t with
  | some (.struct _) | some (.array _ _)=>some (.agg (cs.extract off (off+i.size)))
  | some _=>cs[off]?
  | none=>none
def JM (eq:TypeId->Value->Value->Option Bool) (P:Program) (xs ys:Array Value):List Field->Option Bool
 | []=>some true
 | f::fs =>
  if f.name = "_" then none else
  Q1 (gI P f.type xs f.offset) fun a=>Q1 (gI P f.type ys f.offset) fun b =>
   Q1 (eq f.type a b) fun r=>Q1 (JM eq P xs ys fs) fun q=>some (r&&q)
def sM (P:Program):Nat->TypeId->Value->Value->Option Bool
 | 0,_,_,_=>none
 | d+1,t,x,y=>match P.underlying t,x,y with
  | some .bool,.bool a,.bool b=>some (a==b)
  | some (.int _),.int k a,.int k' b=>if k=k' then some (a==b) else none
  | some .string,.string a,.string b=>some (a.toList==b.toList)
  | some (.struct fs),.agg xs,.agg ys=>match P.stoodInHeld t with
   | false=>JM (sM P d) P xs ys fs.toList
   | true=>none
  | _,_,_=>none
section ops
variable {β:Type}
def Mt (op:BinOp) (k:IntKind) (a b:Int) (K:Value->Option β):Option β :=
 match op with
 | .add=>K (.int k (k.wrap (a+b)))
 | .sub=>K (.int k (k.wrap (a - b)))
 | .mul=>K (.int k (k.wrap (a*b)))
 | .quo=>aa (b==0) none (K (.int k (k.wrap (a.tdiv b))))
 | .rem=>aa (b==0) none (K (.int k (a.tmod b)))
 | .and=>K (.int k (k.wrap (BitVec.ofInt k.bits a &&& BitVec.ofInt k.bits b).toNat))
 | .or=>K (.int k (k.wrap (BitVec.ofInt k.bits a ||| BitVec.ofInt k.bits b).toNat))
 | .xor=>K (.int k (k.wrap (BitVec.ofInt k.bits a ^^^ BitVec.ofInt k.bits b).toNat))
 | .andNot=>K (.int k (k.wrap (BitVec.ofInt k.bits a &&& ~~~BitVec.ofInt k.bits b).toNat))
 | .eql=>K (.bool (a==b))
 | .neq=>K (.bool (a != b))
 | .lss=>K (.bool (decide (a < b)))
 | .leq=>K (.bool (decide (a<=b)))
 | .gtr=>K (.bool (decide (a > b)))
 | .geq=>K (.bool (decide (a>=b)))
 | _=>none
def JN (op:BinOp) (k:IntKind) (a b:Int) (K:Value->Option β):Option β :=
 aa (decide (b < 0)) none (match op with
  | .shl=>K (.int k (k.wrap (a*2 ^ (min b.toNat k.bits))))
  | .shr=>K (.int k (a.fdiv (2 ^ (min b.toNat k.bits))))
  | _=>none)
def Mu (op:BinOp) (a b:ByteArray) (K:Value->Option β):Option β :=
 match op with
 | .add=>aa (Nat.ble (a.size+b.size) 9223372036854775807) (K (.string (a++b))) none
 | .eql=>K (.bool (a.toList==b.toList))
 | .neq=>K (.bool !(a.toList==b.toList))
 | .lss=>K (.bool (Op.bytesLess a.toList b.toList))
 | .leq=>K (.bool (Op.bytesLess a.toList b.toList || a.toList==b.toList))
 | .gtr=>K (.bool !(Op.bytesLess a.toList b.toList || a.toList==b.toList))
 | .geq=>K (.bool !(Op.bytesLess a.toList b.toList))
 | _=>none
def vq (op:BinOp) (r:Bool) (K:Value->Option β):Option β :=
 match op with
 | .eql=>K (.bool r)
 | .neq=>K (.bool !r)
 | _=>none
def Av (P:Program) (op:BinOp) (t:TypeId) (x y:Value) (K:Value->Option β):Option β :=
 match x,y with
 | .int k a,.int k' b=>match op with
  | .shl=>JN .shl k a b K
  | .shr=>JN .shr k a b K
  | op=>if k=k' then Mt op k a b K else none
 | .string a,.string b=>Mu op a b K
 | .bool a,.bool b=>match P.underlying t with
  | some .bool=>vq op (a==b) K
  | _=>none
 | .agg xs,.agg ys=>match P.eqGuardType P.depth t with
  | false=>Q1 (sM P 20 t (.agg xs) (.agg ys)) fun r=>vq op r K
  | true=>none
 | .slice a _ _,.slice none _ _=>match P.underlying t with
  | some (.slice _)=>vq op a.isNone K
  | _=>none
 | .pointer a,.pointer none=>match P.underlying t with
  | some (.pointer _)=>vq op a.isNone K
  | _=>none
 | _,_=>none
def wI (op:UnOp) (x:Value) (K:Value->Option β):Option β :=
 match op,x with
 | .not,.bool b=>K (.bool !b)
 | .neg,.int k n=>K (.int k (k.wrap (0 - n)))
 | _,_=>none
def DF:List Value->Option (List UInt8)
 | []=>some []
 | .int .u8 n::r=>Q1 (DF r) fun l=>some (UInt8.ofNat n.toNat::l)
 | _=>none
def Qf (H:af) (size:Nat) (v:Value):Option (List Value) :=
 match v with
 | .slice none 0 0=>some []
 | .slice (some a) n _=>fN H a (n*size)
 | _=>none
def I4 (P:Program) (src dst:TypeId) (x:Value) (H:af) (K:Value->af->Option β):Option β :=
 match P.underlying src,P.underlying dst,x with
 | some (.int _),some (.int k),.int _ n=>K (.int k (k.wrap n)) H
 | some .string,some .string,.string s=>K (.string s) H
 | some (.slice e),some .string,.slice a n c=>match P.underlying e with
  | some (.int .u8)=>Q1 (Qf H 1 (.slice a n c)) fun l=>Q1 (DF l) fun bs=>K (.string ⟨bs.toArray⟩) H
  | _=>none
 | some .string,some (.slice e),.string s=>match P.underlying e with
  | some (.int .u8)=>K (.slice (some ⟨H.length,0,none⟩) s.size 1) (dr H (s.data.toList.map fun b=>.int .u8 b.toNat))
  | _=>none
 | _,_,_=>none
def oW (P:Program) (t:TypeId):Option (TypeId×Nat×Nat×Value) :=
 match P.underlying t with
 | some (.slice e)=>Q1 (P.info? e) fun i=>Q1 i.zero fun z=>match z.cells.toList.all Qu,Nat.beq z.cells.size i.size,Nat.ble 1 i.bytes with
  | true,true,true=>some (e,i.size,i.bytes,z)
  | _,_,_=>none
 | _=>none
def Ft (P:Program) (t:TypeId) (parts:List (Nat×Value)):Option (Array Value) :=
 Q1 (Be P t) fun z=>match z.cells.toList.all Qu with
  | true=>P.built t parts
  | false=>none
def Q7:Nat:=140737488355328
def rL (size bytes:Nat) (s:Value) (news:List Value) (n:Nat) (H:af):Option (Value×af) :=
 match s with
 | .slice none 0 0=>match n with
  | 0=>some (.slice none 0 0,H)
  | m+1=>aa (Nat.ble ((m+1)*bytes) Q7) (some (.slice (some ⟨H.length,0,none⟩) (m+1) size,dr H news)) none
 | .slice (some a) len c=>Q1 (ah H a.block) fun k =>
  aa (!k.ro&&Nat.beq c size&&Nat.ble (a.off+len*size) k.cells.length&&Nat.ble ((len+n)*bytes) Q7)
   (some (.slice (some ⟨H.length,0,none⟩) (len+n) size,dr (H.set a.block none) ((k.cells.take (a.off+len*size)).drop a.off++news))) none
 | _=>none
def B5 (size bytes:Nat) (s:Value) (news:List Value) (n:Nat) (H:af) (K:Value->af->Option β):Option β :=
 Q1 (rL size bytes s news n H) fun r=>gH r.1 fun a n c=>K (.slice a n c) r.2
def FA (ai size:Nat) (a:Addr) (n:Nat) (src:Value) (H:af):Option (Nat×af) :=
 match src with
 | .slice none 0 0=>Q1 (oZ H ai a []) fun H'=>some (0,H')
 | .slice (some b) m _=>Q1 (fN H b (min m n*size)) fun l=>Q1 (oZ H ai a l) fun H'=>some (min m n,H')
 | .string q=>match size with
  | 1=>Q1 (oZ H ai a ((q.data.toList.map fun b=>.int .u8 b.toNat).take n)) fun H'=>some (min q.size n,H')
  | _=>none
 | _=>none
def iP (a:Option Addr) (n c l h size:Nat):Option Value :=
 match a with
 | none=>aa (Nat.ble l h&&Nat.ble h 0&&Nat.beq n 0&&Nat.beq c 0) (some (.slice none 0 0)) none
 | some p=>aa (Nat.ble l h&&Nat.ble h n&&Nat.beq c size) (some (.slice (some ⟨p.block,p.off+l*size,none⟩) (h - l) c)) none
def o6 (P:Program) (ai:Nat) (b:Builtin) (ts:List TypeId) (vs:List Value) (H:af) (K:Value->af->Option β):Option β :=
 match b,ts,vs with
 | .len,[t],[.slice _ n _]=>match P.underlying t with
  | some (.slice _)=>K (.int .i64 n) H
  | _=>none
 | .len,[t],[.string s]=>match P.underlying t with
  | some .string=>K (.int .i64 s.size) H
  | _=>none
 | .cap,[t],[.slice none 0 0]=>match P.underlying t with
  | some (.slice _)=>K (.int .i64 0) H
  | _=>none
 | .min,_,[.int k x,.int k' y]=>if k=k' then K (.int k (if y < x then y else x)) H else none
 | .max,_,[.int k x,.int k' y]=>if k=k' then K (.int k (if y > x then y else x)) H else none
 | .append,[t,u],[s,x]=>Q1 (oW P t) fun (_,size,bytes,z)=>match P.underlying u,x with
  | some (.slice _),.slice a n c=>Q1 (Qf H size (.slice a n c)) fun news=>B5 size bytes s news n H K
  | some .string,.string q=>match size with
   | 1=>B5 1 bytes s (q.data.toList.map fun b=>.int .u8 b.toNat) q.size H K
   | _=>none
  | some (.int _),.int _ l=>aa (decide (0<=l)&&decide (l*bytes<=Q7)) (B5 size bytes s ((List.replicate l.toNat z.cells.toList).flatten) l.toNat H K) none
  | _,_=>none
 | .copy,[t,_],[.slice none 0 0,.slice _ _ _]=>Q1 (oW P t) fun _=>K (.int .i64 0) H
 | .copy,[t,_],[.slice none 0 0,.string _]=>Q1 (oW P t) fun _=>K (.int .i64 0) H
 | .copy,[t,_],[d,src]=>Q1 (oW P t) fun (_,size,_,_)=>wF d fun a n _=>Q1 (FA ai size a n src H) fun r=>K (.int .i64 r.1) r.2
 | _,_,_=>none
def wJ (v:Value) (K:Nat->Option β):Option β:=match v with | .int .i64 n=>aa (decide (0<=n)) (K n.toNat) none | _=>none
def EJ (v:Value) (K:Nat->Option β):Option β:=match v with | .int _ n=>aa (decide (0<=n)) (K n.toNat) none | _=>none
def mL (env:Env) (x:Option Operand) (d:Nat) (K:Nat->Option β):Option β :=
 match x with
 | none=>K d
 | some y=>Q1 (ev env y) fun v=>wJ v K
def dx (X:Cx) (o:Oper) (env:Env) (H:af) (K:Value->af->Option β):Option β :=
 match o.op with
 | .move x=>Q1 (ev env x) fun v=>K v H
 | .assign x=>Q1 (ev env x) fun v=>K v H
 | .pick c a b=>Q1 (ev env c) fun v=>wZ v fun t=>aa t (Q1 (ev env a) fun v=>K v H) (Q1 (ev env b) fun v=>K v H)
 | .alloc t=>Q1 (Be X.P t) fun z=>match z.cells.toList.all Qu with
  | true=>K (.pointer (some ⟨H.length,0,none⟩)) (dr H z.cells.toList)
  | false=>none
 | .box _ x=>Q1 (ev env x) fun v=>match v.cells.toList.all az with
  | true=>K (.pointer (some ⟨H.length,0,none⟩)) (dr H v.cells.toList)
  | false=>none
 | .build t parts=>Q1 (oD env parts.toList) fun ps=>Q1 (Ft X.P t ps) fun cs=>K (.agg cs) H
 | .buildSlice t len parts=>Q1 (oD env parts.toList) fun ps=>Q1 (oW X.P t) fun (_,size,_,z) =>
  match Nat.ble (len*size) 16777216 with
  | true=>Q1 (Instr.fill (fun i=>some (i*size,size)) ((List.replicate len z.cells.toList).flatten.toArray) ps) fun cs =>
   match cs.toList.all az,Nat.beq cs.size (len*size) with
   | true,true=>K (.slice (some ⟨H.length,0,none⟩) len size) (dr H cs.toList)
   | _,_=>none
  | false=>none
 | .load t a=>match Bf X.P t a with
  | some v=>K v H
  | none=>Q1 (ev env a) fun v=>e_ v fun p=>Q1 (X.P.info? t) fun i=>match X.P.underlying t with
   | some (.struct _) | some (.array _ _)=>Q1 (Qx H p i.size) fun l=>match i.zero with
    | some z=>wH z (.agg l.toArray) fun u=>K u H
    | none=>none
   | some _=>Q1 (gL H p) fun u=>match i.zero with
    | some z=>wG z u fun u=>K u H
    | none=>none
   | none=>none
 | .store t a x=>Q1 (ev env a) fun v=>Q1 (ev env x) fun u=>e_ v fun p=>Q1 (X.P.info? t) fun i=>match Nat.beq u.cells.size i.size with
  | true=>Q1 (oZ H X.ai p u.cells.toList) fun H'=>K undef H'
  | false=>none
 | .nilCheck x=>Q1 (ev env x) fun v=>match v with
  | .func (.func f) a b=>K (.func (.func f) a b) H
  | v=>e_ v fun p=>K (.pointer (some p)) H
 | .binOp op t x y _=>Q1 (ev env x) fun v=>Q1 (ev env y) fun u=>Av X.P op t v u fun r=>K r H
 | .unOp op _ x=>Q1 (ev env x) fun v=>wI op v fun r=>K r H
 | .convert src dst x=>Q1 (ev env x) fun v=>I4 X.P src dst v H K
 | .makeFunc (.func f) first cap=>Q1 (eX env first.toList) fun fs=>Q1 (eX env cap.toList) fun cs=>K (.func (.func (kB f)) fs.toArray cs.toArray) H
 | .makeSlice t l c=>Q1 (ev env l) fun v=>Q1 (ev env c) fun u=>wJ v fun n=>wJ u fun m =>
  Q1 (oW X.P t) fun (_,size,bytes,z)=>aa (Nat.ble n m&&Nat.ble (m*bytes) Q7)
   (K (.slice (some ⟨H.length,0,none⟩) n size) (dr H ((List.replicate n z.cells.toList).flatten))) none
 | .slice t x lo hi none=>Q1 (ev env x) fun v=>match v with
  | .slice a n c=>match X.P.underlying t with
   | some (.slice e)=>Q1 (X.P.info? e) fun i=>mL env hi n fun h=>mL env lo 0 fun l =>
    Q1 (iP a n c l h i.size) fun u=>gH u fun a n c=>K (.slice a n c) H
   | _=>none
  | .string s=>match X.P.underlying t with
   | some .string=>mL env hi s.size fun h=>mL env lo 0 fun l=>aa (Nat.ble l h&&Nat.ble h s.size) (K (.string (s.extract l h)) H) none
   | _=>none
  | _=>none
 | .fieldAddr s x f=>Q1 (ev env x) fun v=>e_ v fun p=>match X.P.underlying s with
  | some (.struct fs)=>Q1 fs[f]? fun fd=>Q1 (X.P.info? fd.type) fun i=>match Nat.beq i.size 0 with
   | false=>K (.pointer (some ⟨p.block,p.off+fd.offset,none⟩)) H
   | true=>none
  | _=>none
 | .field t x f=>Q1 (ev env x) fun v=>match v with
  | .agg cs=>match X.P.underlying t with
   | some (.struct fs)=>Q1 fs[f]? fun fd=>Q1 (gI X.P fd.type cs fd.offset) fun u=>K u H
   | _=>none
  | _=>none
 | .indexAddr t x ix=>Q1 (ev env x) fun v=>Q1 (ev env ix) fun j=>match X.P.underlying t with
  | some (.slice e)=>wF v fun p n _=>Q1 (X.P.info? e) fun i=>EJ j fun k=>aa (Nat.blt k n) (K (.pointer (some ⟨p.block,p.off+k*i.size,none⟩)) H) none
  | some (.array n e)=>e_ v fun p=>Q1 (X.P.info? e) fun i=>EJ j fun k=>aa (Nat.blt k n) (K (.pointer (some ⟨p.block,p.off+k*i.size,none⟩)) H) none
  | _=>none
 | .index t x ix=>Q1 (ev env x) fun v=>Q1 (ev env ix) fun j=>match v with
  | .string s=>match X.P.underlying t with
   | some .string=>EJ j fun k=>Q1 s.data.toList[k]? fun b=>K (.int .u8 b.toNat) H
   | _=>none
  | .agg cs=>match X.P.underlying t with
   | some (.array n e)=>Q1 (X.P.info? e) fun i=>EJ j fun k=>aa (Nat.blt k n) (Q1 (gI X.P e cs (k*i.size)) fun u=>K u H) none
   | _=>none
  | _=>none
 | .extract x i=>Q1 (ev env x) fun v=>match v with
  | .tuple vs=>Q1 vs[i]? fun u=>K u H
  | _=>none
 | .call c=>match c.callee with
  | .builtin b=>Q1 (eX env c.args.toList) fun vs=>o6 X.P X.ai b c.argTypes.toList vs H K
  | .value f=>Q1 (ev env f) fun g=>Q1 (eX env c.args.toList) fun vs=>match g with
   | .func (.func n) first cap=>Q1 (X.call n (first.toList++vs++cap.toList) X.ai H) fun r =>
    match PI X.P o.type with
    | some tm=>EI tm r.1 fun u=>K u r.2
    | none=>K r.1 r.2
   | _=>none
  | _=>none
 | _=>none
end ops
def vr (env:Env):List (Nat×Value)->Option (List Value)
 | []=>some []
 | (s,_)::r=>Q1 (cU env s) fun v=>Q1 (vr env r) fun l=>some (v::l)
def BC {β:Type} (ks:List (Nat×Value)) (vs:List Value) (K:Env->Option β):Option β :=
 match ks with
 | []=>JL vs (K [])
 | (s,t)::r=>Au vs fun v l=>wH t v fun v'=>BC r l fun env=>K ((s,v')::env)
def CS {β:Type} (F:(List Value->af->Option β)->List Value->af->Option β):Nat->List Value->af->Option β
 | 0=>fun _ _=>none
 | n+1=>F (CS F n)
def Qa:Value->Value->Bool
 | .bool a,.bool b=>a==b
 | .int k a,.int k' b=>decide (k=k')&&(a==b)
 | .string a,.string b=>a.toList==b.toList
 | .pointer a,.pointer b=>decide (a=b)
 | .slice a n c,.slice b m e=>decide (a=b)&&(n==m)&&(c==e)
 | .nilFunc,.nilFunc=>true
 | .nilIface,.nilIface=>true
 | .map a,.map b=>decide (a=b)
 | _,_=>false
def BD:List Value->List Value->Bool
 | [],[]=>true
 | x::r,y::q=>Qa x y&&BD r q
 | _,_=>false
def jS:Option Value->Option Value->Bool
 | none,none=>true
 | some (.agg xs),some (.agg ys)=>BD xs.toList ys.toList
 | some x,some y=>Qa x y
 | _,_=>false
def gq (P:Program):Op->Nat
 | .call { callee:=.builtin .append,.. } | .call { callee:=.builtin .copy,.. }=>3
 | .call { callee:=.builtin _,.. }=>0
 | .call _ | .store .. => 3
 | .alloc _ | .box .. | .buildSlice .. | .makeSlice .. => 2
 | .load .. => 1
 | .convert src dst _=>match P.underlying src,P.underlying dst with
  | some (.slice _),_=>1
  | _,some (.slice _)=>2
  | _,_=>0
 | _=>0
def cM (P:Program) (ops:Array Oper) (i:Nat):Nat:=match ops[i]? with | some o=>gq P o.op | none=>0
def iI (b:Array Nat) (j i:Nat):Bool:=(b.getD j 0).testBit i
def Qvg (P:Program) (ops:Array Oper) (b:Array Nat) (i j:Nat):Bool :=
 iI b j i || (!(Nat.beq (cM P ops j) 3&&Nat.ble 2 (cM P ops i)) &&
  match ops[i]?,ops[j]? with
  | some x,some y=>x.apart ops y
  | _,_=>false)
def Qq8 (ops:Array Oper) (j:Nat):Bool:=match ops[j]? with
 | some o=>o.after.toList.all fun e => !Region.binds .any e || Nat.blt e.on j
 | none=>false
def Mv (P:Program) (ops:Array Oper):Bool :=
 let b:=Region.before ops
 (List.range ops.size).all fun j=>Qq8 ops j&&(List.range j).all fun i=>Qvg P ops b i j
def HH (P:Program) (ops:Array Oper) (i:Nat):List Nat :=
 let b:=Region.before ops
 let es:=(List.range ops.size).filter fun e=>Nat.beq (cM P ops e) 3
 let BE:=es.filter fun e=>iI b i e
 let m0:=match BE.reverse with | e::_=>e+1 | []=>0
 m0::(es.filter fun e => !iI b i e && !iI b e i && !Nat.beq e i).map (· + 1)
def JO (P:Program) (ops:Array Oper) (m i:Nat):Bool :=
 (List.range ops.size).all fun k => !(Nat.ble (min m i) k&&Nat.blt k (max m i)) || Nat.blt (cM P ops k) 2
def c_ (P:Program) (o:Op) (env:Env) (H:af):Option Value :=
 match o with
 | .load t a=>match Bf P t a with
  | some v=>some v
  | none=>Q1 (ev env a) fun v=>e_ v fun p=>Q1 (P.info? t) fun i=>match P.underlying t with
   | some (.struct _) | some (.array _ _)=>Q1 (Qx H p i.size) fun l=>some (.agg l.toArray)
   | some _=>gL H p
   | none=>none
 | .convert _ _ x=>Q1 (ev env x) fun v=>Q1 (Qf H 1 v) fun l=>some (.agg l.toArray)
 | _=>none
def IZ:Value->Option Nat
 | .pointer (some p)=>some p.block
 | .slice (some p) _ _=>some p.block
 | _=>none
theorem KC {P:Program} {t:TypeId} {x:Operand} {env:Env} {v:Value} (h:ev env x=some v):Bf P t x=none:=by
 cases x<;>first | rfl | simp [ev] at h
def PJ:Op->Option Tmp
 | .load _ (.tmp t)=>some t
 | .convert _ _ (.tmp t)=>some t
 | _=>none
def JP (P:Program) (ops:Array Oper) (i:Nat) (o:Oper) (m:Nat):Bool :=
 match PJ o.op with
 | some t=>(List.range i).any fun a=>Nat.ble m a&&iI (Region.before ops) i a&&Nat.beq (cM P ops a) 2&&(match ops[a]? with
   | some q=>q.guard.isNone&&(match q.dst with | some d=>Nat.beq d t | none=>false)
   | none=>false)&&(List.range i).all fun k=>Nat.ble k a || (!Nat.beq (cM P ops k) 3&&match (ops[k]?).bind (·.dst) with | some d => !Nat.beq d t | none=>true)
 | none=>false
section code
variable {β:Type}
def DO (nt:Nat) (dst:Option Tmp) (v:Value) (env:Env) (K:Env->Option β):Option β :=
 match dst with
 | none=>K env
 | some d=>match Nat.blt d nt with | true=>K ((d,v)::env) | false=>none
def DP (ops:Array Oper) (o:Oper) (env:Env) (K:Bool->Env->Option β):Option β :=
 match o.guard with
 | none=>K true env
 | some (j,want)=>match (ops[j]?).bind (·.dst) with
  | some d=>Q1 (cU env d) fun v=>match v with
   | .bool b=>aa b (K want ((d,.bool true)::env)) (K (!want) ((d,.bool false)::env))
   | _=>K false env
  | none=>none
def DM (P:Program) (t:TypeId):Bool:=match P.underlying t with
 | some (.map k e)=>match P.underlying k,P.underlying e,Q1 (P.info? e) fun i=>i.zero with
  | some (.int .i64),some (.int .i64),some (.int .i64 z)=>z==0
  | _,_,_=>false
 | _=>false
def eD:List (Int×Int)->Int->Option Int
 | [],_=>none
 | (a,v)::r,k=>match k==a with | true=>some v | false=>eD r k
def gW:List (Int×Int)->Int->Int->List (Int×Int)
 | [],k,v=>[(k,v)]
 | (a,u)::r,k,v=>match k==a with | true=>(a,v)::r | false=>(a,u)::gW r k v
def FF (H:af) (b:Nat):Option (List (Int×Int)):=Q1 (ah H b) fun k=>match k.ro with | false=>k.mp | true=>none
def rM (H:af):af:=H++[some ⟨[],false,some []⟩]
def I6 (v:Value) (K:Nat->Option β):Option β:=match v with | .map (some b)=>K b | _=>none
def FG (v:Value) (K:Int->Option β):Option β:=match v with | .int .i64 n=>K n | _=>none
def FI (ok:Bool) (x:Option Int):Value:=match ok with
 | true=>.tuple #[.int .i64 (x.getD 0),.bool x.isSome]
 | false=>.int .i64 (x.getD 0)
def B9 (X:Cx) (o:Oper) (env:Env) (H:af) (K:Value->af->Option β):Option β :=
 match o.op with
 | .makeMap _ none=>K (.map (some H.length)) (rM H)
 | .mapUpdate t m k v=>match DM X.P t with
  | true=>Q1 (ev env m) fun mv=>Q1 (ev env k) fun kv=>Q1 (ev env v) fun vv=>I6 mv fun b=>FG kv fun a=>FG vv fun u=>Q1 (FF H b) fun es=>K undef (H.set b (some ⟨[],false,some (gW es a u)⟩))
  | false=>none
 | .lookup t m k ok=>match DM X.P t with
  | true=>Q1 (ev env m) fun mv=>Q1 (ev env k) fun kv=>I6 mv fun b=>FG kv fun a=>Q1 (FF H b) fun es=>K (FI ok (eD es a)) H
  | false=>none
 | _=>dx X o env H K
def B_ (X:Cx) (ops:Array Oper):List Oper->Env->af->(Env->af->Option β)->Option β
 | [],env,H,K=>K env H
 | o::r,env,H,K=>DP ops o env fun t env=>match t with
  | true=>B9 X o env H fun v H'=>DO X.nt o.dst v env fun env=>B_ X ops r env H' K
  | false=>DO X.nt o.dst undef env fun env=>B_ X ops r env H K
def Aw (X:Cx) (ops:Array Oper):List Oper->Env->af->List (Env×af)->(List (Env×af)->Env->af->Option β)->Option β
 | [],env,H,tr,K=>K ((env,H)::tr) env H
 | o::r,env,H,tr,K=>DP ops o env fun t env=>match t with
  | true=>dx X o env H fun v H'=>DO X.nt o.dst v env fun ak=>Aw X ops r ak H' ((env,H)::tr) K
  | false=>DO X.nt o.dst undef env fun ak=>Aw X ops r ak H ((env,H)::tr) K
def HJ (P:Program) (ops:Array Oper) (jy:List (Env×af)) (i:Nat) (o:Oper):List Nat->Option β->Option β
 | [],x=>x
 | m::ms,x=>match JO P ops m i || JP P ops i o m with
  | true=>HJ P ops jy i o ms x
  | false=>match jy[i]?,jy[m]? with
   | some s,some q=>aa (jS (c_ P o.op s.1 q.2) (c_ P o.op s.1 s.2)) (HJ P ops jy i o ms x) none
   | _,_=>none
def cv (P:Program) (ops:Array Oper) (jy:List (Env×af)):List Nat->Option β->Option β
 | [],x=>x
 | i::r,x=>match Nat.beq (cM P ops i) 1,ops[i]? with
  | true,some o=>HJ P ops jy i o (HH P ops i) (cv P ops jy r x)
  | _,_=>cv P ops jy r x
def HK (X:Cx) (ops:Array Oper) (env:Env) (H:af) (K:Env->af->Option β):Option β :=
 match Mv X.P ops with
 | true=>Aw X ops ops.toList env H [] fun tr ak H'=>cv X.P ops tr.reverse (List.range ops.size) (K ak H')
 | false=>none
inductive eF where
 | normal
 | exit (id:Nat)
 | ret
def BF:Code->Nat
 | .seq a b=>BF a+BF b
 | .cond _ a b=>BF a+BF b
 | .block _ c=>BF c
 | .loop c=>BF c+1
 | _=>0
def EK (c:Operand) (b:Bool) (env:Env):Env:=match c with | .tmp d=>(d,.bool b)::env | _=>env
def eY (X:Cx):Code->Nat->Env->af->(eF->Env->af->Option β)->Option β
 | .skip,_,env,H,K=>K .normal env H
 | .label _,_,env,H,K=>K .normal env H
 | .region _ ops d,_,env,H,K=>match d with
  | false=>B_ X ops ops.toList env H (K .normal)
  | true=>HK X ops env H (K .normal)
 | .seq a b,n,env,H,K=>eY X a n env H fun ex env H=>match ex with
  | .normal=>eY X b (n+BF a) env H K
  | .exit id=>K (.exit id) env H
  | .ret=>K .ret env H
 | .cond c a b,n,env,H,K=>Q1 (ev env c) fun v=>wZ v fun t=>aa t (eY X a n (EK c true env) H K) (eY X b (n+BF a) (EK c false env) H K)
 | .block id c,n,env,H,K=>eY X c n env H fun ex env H=>match ex with
  | .normal=>K .normal env H
  | .exit Ax=>match Nat.beq Ax id with | true=>K .normal env H | false=>K (.exit Ax) env H
  | .ret=>K .ret env H
 | .loop c,n,env,H,K=>Q1 (vr env (X.cV n)) fun vs =>
  CS (fun again vs H=>BC (X.cV n) vs fun env=>eY X c (n+1) env H fun ex ak H'=>match ex with
   | .normal=>Q1 (vr ak (X.cV n)) fun cy=>again cy H'
   | .exit id=>K (.exit id) ak H'
   | .ret=>K .ret ak H') X.fuel vs H
 | .exit id,_,env,H,K=>K (.exit id) env H
 | .ret,_,env,H,K=>K .ret env H
 | _,_,_,_,_=>none
end code
inductive Mode where
 | keep
 | drop
def PK (n:Nat) (v:Value):Bool :=
 Qu v || match v with
  | .pointer (some a)=>decide (a.block < n)
  | .slice (some a) _ _=>decide (a.block < n)
  | _=>false
def EL:List Nat->Nat->Option Nat
 | [],_=>none
 | x::r,b=>if x=b then some 0 else Q1 (EL r b) fun i=>some (i+1)
def JQ (base:Nat) (H:af) (olds:List Nat) (b:Nat):Option (Nat×List Nat) :=
 if b < base then some (b,olds) else
 match EL olds b with
 | some j=>some (base+j,olds)
 | none=>Q1 (ah H b) fun k=>match k.cells.all (PK base) with
  | true=>some (base+olds.length,olds++[b])
  | false=>none
def CT (base:Nat) (H:af) (olds:List Nat) (v:Value):Option (Value×List Nat) :=
 match v with
 | .pointer (some a)=>Q1 (JQ base H olds a.block) fun r=>some (.pointer (some ⟨r.1,a.off,none⟩),r.2)
 | .slice (some a) n c=>Q1 (JQ base H olds a.block) fun r=>some (.slice (some ⟨r.1,a.off,none⟩) n c,r.2)
 | v=>match Qu v with | true=>some (v,olds) | false=>none
def BG (base:Nat) (H:af):List Nat->List Value->Option (List Value×List Nat)
 | olds,[]=>some ([],olds)
 | olds,v::r=>Q1 (CT base H olds v) fun x=>Q1 (BG base H x.2 r) fun y=>some (x.1::y.1,y.2)
def JR (base:Nat) (H:af) (olds:List Nat) (v:Value):Option (Value×List Nat) :=
 match v with
 | .agg cs=>Q1 (BG base H olds cs.toList) fun x=>some (.agg x.1.toArray,x.2)
 | v=>CT base H olds v
def wK (base:Nat) (H:af):List Nat->List Value->Option (List Value×List Nat)
 | olds,[]=>some ([],olds)
 | olds,v::r=>Q1 (JR base H olds v) fun x=>Q1 (wK base H x.2 r) fun y=>some (x.1::y.1,y.2)
def vt (m:Mode) (base:Nat) (vs:List Value) (H:af):Option (List Value×af) :=
 match m with
 | .keep=>some (vs,H)
 | .drop=>Q1 (wK base H [] vs) fun x=>some (x.1,H.take base++x.2.map (ah H))
def iJ (P:Program) (env:Env) (H:af):List ResultVar->Option (List Value)
 | []=>some []
 | .tmp t::r=>Q1 (cU env t) fun v=>Q1 (iJ P env H r) fun l=>some (v::l)
 | .cell a t::r=>Q1 (cU env a) fun v=>match v with
  | .pointer (some p)=>Q1 (P.info? t) fun i=>match P.underlying t with
   | some (.struct _) | some (.array _ _)=>Q1 (Qx H p i.size) fun c=>Q1 (iJ P env H r) fun l=>some (.agg c.toArray::l)
   | some _=>Q1 (gL H p) fun u=>Q1 (iJ P env H r) fun l=>some (u::l)
   | none=>none
  | _=>none
def iK (vs:List Value):Value:=match vs with | [v]=>v | vs=>.tuple vs.toArray
def qV:Nat->List Value->Env
 | _,[]=>[]
 | i,v::r=>(i,v)::qV (i+1) r
structure BH where
 fuel:Nat
 loops:FuncId->Nat->List (Nat×Value)
 mode:FuncId->Mode
 ext:FuncId->Option (List Value->Nat->af->Option (Value×af))
def Wc (m:Mode) (ai n:Nat):Nat:=match m with | .keep=>ai | .drop=>n
def vg (P:Program) (A:BH) (call:FuncId->List Value->Nat->af->Option (Value×af)) (f:FuncId) (args:List Value) (ai:Nat) (H:af):Option (Value×af) :=
 match P.funcs[f]? with
 | none=>none
 | some fn=>match fn.body,Nat.ble args.length fn.ntmps,fn.name == "runtime.NumGoroutine" with
  | some c,true,false=>eY ⟨P,call,Wc (A.mode f) ai H.length,fn.ntmps,A.fuel,A.loops f⟩ c 0 (qV 0 args) H fun ex env H'=>match ex with
   | .exit _=>none
   | _=>Q1 (iJ P env H' fn.results.toList) fun vs=>Q1 (vt (A.mode f) H.length vs H') fun r=>some (iK r.1,r.2)
  | _,_,_=>none
def run (P:Program) (A:BH):Nat->FuncId->List Value->Nat->af->Option (Value×af)
 | 0=>fun _ _ _ _=>none
 | d+1=>fun f args ai H=>match A.ext f with
  | some e=>e args ai H
  | none=>vg P A (run P A d) f args ai H
def GW (w:World):Prop:=gN<=w.heap.size/\∀ p∈gTabs,p.1 < gN/\∃ t f,w.heap[p.1]? = some (.cells p.2.toArray t f)
theorem GW.cv {w w':World} (h:GW w) (hs:w.heap.size<=w'.heap.size) (hb:∀ k,k < gN->w'.heap[k]? = w.heap[k]?):GW w' :=
 ⟨by have:=h.1;omega,fun p hp=>by obtain ⟨h1,t,f,h2⟩:=h.2 p hp;exact ⟨h1,t,f,by rw [hb _ h1];exact h2⟩⟩
theorem GW.heap {w w':World} (h:GW w) (e:w'.heap=w.heap):GW w':=h.cv (by rw [e];exact Zd _) (fun _ _=>by rw [e])
theorem Qhu {g:Nat} {l:List Value}:∀ {t:List (Nat×List Value)},HC t g=some l->(g,l)∈t
 | [],h=>by simp [HC] at h
 | (a,k)::r,h=>by
  unfold HC at h
  split at h
  .rename_i e
   have e:=Z7 e
   injection h with h
   subst e h;exact List.mem_cons_self
  .exact List.mem_cons_of_mem _ (Qhu h)
theorem GW.cells {w:World} (h:GW w) {g:Nat} {l:List Value} (hf:HC gTabs g=some l) (j:Nat) (v:Value) (hv:l[j]? = some v):w.cell? ((⟨g,0,none⟩:Addr).add j)=some v:=by
 obtain ⟨_,t,f,hb⟩:=h.2 _ (Qhu hf)
 have e:((⟨g,0,none⟩:Addr).add j)=⟨g,j,none⟩:=by
  unfold Addr.add
  by_cases h:j=0
  .subst h;simp
  .simp [h]
 rw [e]
 simp only at hb
 simp [World.cell?,hb,hv]
structure Loc where
 aJ:Nat
 off:Nat
 size:Nat
abbrev Io:=Nat->Loc
def aL (n:Nat):Nat->Prop:=fun b=>b < n
def Io.addr (ι:Io) (a:Addr):Addr:=⟨(ι a.block).aJ,(ι a.block).off+a.off,none⟩
inductive ay (ι:Io) (D:Nat->Prop):Value->Value->Prop
 | bool (b:Bool):ay ι D (.bool b) (.bool b)
 | int (k:IntKind) (m:Int):ay ι D (.int k m) (.int k m)
 | str (s:ByteArray):ay ι D (.string s) (.string s)
 | nilFunc:ay ι D .nilFunc .nilFunc
 | nilIface:ay ι D .nilIface .nilIface
 | fB:ay ι D (.pointer none) (.pointer none)
 | ptr (a:Addr) (h:D a.block):ay ι D (.pointer (some a)) (.pointer (some (ι.addr a)))
 | dL:ay ι D (.slice none 0 0) (.slice none 0 0)
 | map (b:Nat) (h:D b):ay ι D (.map (some b)) (.map (some (ι b).aJ))
 | fj (a:Addr) (len c cap:Nat) (h:D a.block) (hl:len<=cap) (hc:(ι a.block).off+a.off+cap*c<=(ι a.block).size) :
   ay ι D (.slice (some a) len c) (.slice (some (ι.addr a)) len cap)
 | bD (a b:Addr) (c:Nat) (h:D a.block):ay ι D (.slice (some a) 0 c) (.slice (some b) 0 0)
 | agg (xs ys:List Value) (hl:xs.length=ys.length) (h:∀ i (h1:i < xs.length) (h2:i < ys.length),ay ι D xs[i] ys[i]):ay ι D (.agg ⟨xs⟩) (.agg ⟨ys⟩)
 | tuple (xs ys:List Value) (hl:xs.length=ys.length) (h:∀ i (h1:i < xs.length) (h2:i < ys.length),ay ι D xs[i] ys[i]):ay ι D (.tuple ⟨xs⟩) (.tuple ⟨ys⟩)
 | func (f g:FuncId) (hn:g=f\/kB g=f) (xs ys xs' oc:List Value) (hl:xs.length=ys.length) (h:∀ i (h1:i < xs.length) (h2:i < ys.length),ay ι D xs[i] ys[i])
   (jH:xs'.length=oc.length) (h':∀ i (h1:i < xs'.length) (h2:i < oc.length),ay ι D xs'[i] oc[i]):ay ι D (.func (.func f) ⟨xs⟩ ⟨xs'⟩) (.func (.func g) ⟨ys⟩ ⟨oc⟩)
def aZ (ι:Io) (D:Nat->Prop) (xs ys:List Value):Prop:=xs.length=ys.length/\∀ i (h1:i < xs.length) (h2:i < ys.length),ay ι D xs[i] ys[i]
inductive bK (D:Nat->Prop):Value->Prop
 | bool (b:Bool):bK D (.bool b)
 | int (k:IntKind) (m:Int):bK D (.int k m)
 | str (s:ByteArray):bK D (.string s)
 | nilFunc:bK D .nilFunc
 | nilIface:bK D .nilIface
 | fB:bK D (.pointer none)
 | ptr (a:Addr) (h:D a.block):bK D (.pointer (some a))
 | dL:bK D (.slice none 0 0)
 | map (b:Nat) (h:D b):bK D (.map (some b))
 | sl (a:Addr) (len c:Nat) (h:D a.block):bK D (.slice (some a) len c)
 | agg (xs:List Value) (h:∀ i (h1:i < xs.length),bK D xs[i]):bK D (.agg ⟨xs⟩)
 | tuple (xs:List Value) (h:∀ i (h1:i < xs.length),bK D xs[i]):bK D (.tuple ⟨xs⟩)
 | func (f:FuncId) (xs xs':List Value) (h:∀ i (h1:i < xs.length),bK D xs[i]) (h':∀ i (h1:i < xs'.length),bK D xs'[i]):bK D (.func (.func f) ⟨xs⟩ ⟨xs'⟩)
theorem ay.lt {ι:Io} {D:Nat->Prop} {v c:Value} (h:ay ι D v c):bK D v:=by
 induction h with
 | bool b=>exact .bool b
 | int k m=>exact .int k m
 | str s=>exact .str s
 | nilFunc=>exact .nilFunc
 | nilIface=>exact .nilIface
 | fB=>exact .fB
 | ptr a h=>exact .ptr a h
 | dL=>exact .dL
 | map b h=>exact .map b h
 | fj a len c cap h _ _=>exact .sl a len c h
 | bD a b c h=>exact .sl a 0 c h
 | agg xs ys hl h ih=>exact .agg xs fun i h1=>ih i h1 (hl▸h1)
 | tuple xs ys hl h ih=>exact .tuple xs fun i h1=>ih i h1 (hl▸h1)
 | func f g hn xs ys xs' oc hl h jH h' ih HL=>exact .func f xs xs' (fun i h1=>ih i h1 (hl▸h1)) (fun i h1=>HL i h1 (jH▸h1))
theorem ay.re {ι ι':Io} {D E:Nat->Prop} {v c:Value} (h:ay ι D v c) (hv:bK E v) (ha:∀ b,D b->E b->ι' b=ι b):ay ι' E v c:=by
 induction h with
 | bool b=>exact .bool b
 | int k m=>exact .int k m
 | str s=>exact .str s
 | nilFunc=>exact .nilFunc
 | nilIface=>exact .nilIface
 | fB=>exact .fB
 | ptr a h =>
  cases hv with
  | ptr _ h' =>
   have e:ι.addr a=ι'.addr a:=by unfold Io.addr;rw [ha _ h h']
   rw [e];exact .ptr a h'
 | dL=>exact .dL
 | map b h =>
  cases hv with
  | map _ h'=>rw [<- ha _ h h'];exact .map b h'
 | fj a len c cap h hl hc =>
  cases hv with
  | sl _ _ _ h' =>
   have e:ι.addr a=ι'.addr a:=by unfold Io.addr;rw [ha _ h h']
   rw [e];exact .fj a len c cap h' hl (by rw [ha _ h h'];exact hc)
 | bD a b c h =>
  cases hv with
  | sl _ _ _ h'=>exact .bD a b c h'
 | agg xs ys hl h ih =>
  cases hv with
  | agg _ hv=>exact .agg xs ys hl fun i h1 h2=>ih i h1 h2 (hv i h1)
 | tuple xs ys hl h ih =>
  cases hv with
  | tuple _ hv=>exact .tuple xs ys hl fun i h1 h2=>ih i h1 h2 (hv i h1)
 | func f g hn xs ys xs' oc hl h jH h' ih HL =>
  cases hv with
  | func _ _ _ hv gV=>exact .func f g hn xs ys xs' oc hl (fun i h1 h2=>ih i h1 h2 (hv i h1)) jH (fun i h1 h2=>HL i h1 h2 (gV i h1))
theorem bK.mono {D E:Nat->Prop} {v:Value} (h:bK D v) (hm:∀ b,D b->E b):bK E v:=by
 induction h with
 | bool b=>exact .bool b
 | int k m=>exact .int k m
 | str s=>exact .str s
 | nilFunc=>exact .nilFunc
 | nilIface=>exact .nilIface
 | fB=>exact .fB
 | ptr a h=>exact .ptr a (hm _ h)
 | dL=>exact .dL
 | map b h=>exact .map b (hm _ h)
 | sl a len c h=>exact .sl a len c (hm _ h)
 | agg xs h ih=>exact .agg xs ih
 | tuple xs h ih=>exact .tuple xs ih
 | func f xs xs' h h' ih HL=>exact .func f xs xs' ih HL
theorem ay.mono {ι ι':Io} {D E:Nat->Prop} {v c:Value} (h:ay ι D v c) (hm:∀ b,D b->E b) (ha:∀ b,D b->ι' b=ι b):ay ι' E v c :=
 h.re (h.lt.mono hm) fun b hb _=>ha b hb
theorem Mw {v:Value} (h:Qu v=true) (ι:Io) (D:Nat->Prop):ay ι D v v:=by
 unfold Qu at h
 split at h<;>first | exact .bool _ | exact .int _ _ | exact .str _ | exact .nilFunc | exact .nilIface | exact .fB | exact .dL | simp at h
theorem tw {v:Value} (h:Qu v=true) (D:Nat->Prop):bK D v:=(Mw h (fun _=>⟨0,0,0⟩) D).lt
theorem Qhv {n:Nat} {v:Value} (h:PK n v=true):bK (aL n) v:=by
 unfold PK at h
 cases hl:Qu v with
 | true=>exact tw hl _
 | false =>
  rw [hl,Bool.false_or] at h
  split at h
  .exact .ptr _ (by have:=of_decide_eq_true h;exact this)
  .exact .sl _ _ _ (by have:=of_decide_eq_true h;exact this)
  .simp at h
theorem Qhw {v:Value} (h:JK v=true) (ι:Io) (D:Nat->Prop):ay ι D v v:=by
 unfold JK at h
 split at h
 .rename_i cs
  obtain ⟨l⟩:=cs
  exact .agg l l rfl fun i h1 _=>Mw (Z3 h _ (List.getElem_mem h1)) ι D
 .rename_i cs
  obtain ⟨l⟩:=cs
  exact .tuple l l rfl fun i h1 _=>Mw (Z3 h _ (List.getElem_mem h1)) ι D
 .exact Mw h ι D
theorem I0 {v:Value} (h:Qu v=true):az v=true:=by
 unfold Qu at h
 split at h<;>first | rfl | simp at h
theorem ay.az {ι:Io} {D:Nat->Prop} {v c:Value} (h:ay ι D v c):az c=az v:=by cases h<;>rfl
theorem aZ.cr {xs:List Value} (h:xs.all Qu=true) (ι:Io) (D:Nat->Prop):aZ ι D xs xs :=
 ⟨rfl,fun i h1 _=>Mw (Z3 h _ (List.getElem_mem h1)) ι D⟩
theorem aZ.nil (ι:Io) (D:Nat->Prop):aZ ι D [] []:=⟨rfl,fun _ h1 _=>absurd h1 (by simp)⟩
theorem aZ.cons {ι:Io} {D:Nat->Prop} {x y:Value} {xs ys:List Value} (h:ay ι D x y) (hs:aZ ι D xs ys):aZ ι D (x::xs) (y::ys):=by
 refine ⟨by simp [hs.1],fun i h1 h2=>?_⟩
 cases i with
 | zero=>exact h
 | succ i=>exact hs.2 i (by simpa using h1) (by simpa using h2)
theorem aZ.head {ι:Io} {D:Nat->Prop} {x y:Value} {xs ys:List Value} (h:aZ ι D (x::xs) (y::ys)):ay ι D x y:=h.2 0 (by simp) (by simp)
theorem aZ.tail {ι:Io} {D:Nat->Prop} {x y:Value} {xs ys:List Value} (h:aZ ι D (x::xs) (y::ys)):aZ ι D xs ys :=
 ⟨by have:=h.1;simpa using this,fun i h1 h2=>h.2 (i+1) (by simpa using h1) (by simpa using h2)⟩
theorem aZ.append {ι:Io} {D:Nat->Prop} {xs ys as bs:List Value} (h:aZ ι D xs ys) (h':aZ ι D as bs):aZ ι D (xs++as) (ys++bs):=by
 induction xs generalizing ys with
 | nil =>
  have:ys=[]:=Z1 (by have:=h.1;simpa using this.symm)
  subst this;exact h'
 | cons x xs ih =>
  cases ys with
  | nil=>exact absurd h.1 (by simp)
  | cons y ys=>exact aZ.cons h.head (ih h.tail)
theorem aZ.mono {ι ι':Io} {D E:Nat->Prop} {xs ys:List Value} (h:aZ ι D xs ys) (hm:∀ b,D b->E b) (ha:∀ b,D b->ι' b=ι b):aZ ι' E xs ys :=
 ⟨h.1,fun i h1 h2=>(h.2 i h1 h2).mono hm ha⟩
def B8 (w:World) (r:Nat) (es:List (Int×Int)):Prop :=
 ∃ kZ clock,w.heap[r]? = some (.map kZ clock)/\kZ.toList.map (fun e=>(e.key,e.val))=es.map fun p=>(Value.int .i64 p.1,Value.int .i64 p.2)
structure qW (ι:Io) (D:Nat->Prop) (w:World) (b:Nat) (k:bx):Prop where
 lt:(ι b).aJ < w.heap.size
 shape:0 < (ι b).size->∃ fm,w.shape? (ι b).aJ=some (fm,(ι b).size)
 map:∀ es,k.mp=some es->k.cells=[]/\(ι b).size=0/\B8 w (ι b).aJ es
 fit:(ι b).off+k.cells.length<=(ι b).size
 cell:∀ i (h:i < k.cells.length),∃ c,w.cell? ⟨(ι b).aJ,(ι b).off+i,none⟩=some c/\ay ι D k.cells[i] c/\az k.cells[i]=true
 tB:k.ro=false->∀ i,(ι b).off<=i->i < (ι b).size->w.frozen? ⟨(ι b).aJ,i,none⟩=false
structure Rel (ι:Io) (D:Nat->Prop) (H:af) (w:World):Prop where
 aJ:∀ b k,ah H b=some k->qW ι D w b k
 inj:∀ b b' k k',ah H b=some k->ah H b'=some k'->b≠b'->(k.ro=false\/k'.ro=false)->(ι b).aJ≠(ι b').aJ
 iy:∀ b k,ah H b=some k->k.ro=false->gN<=(ι b).aJ
 gw:GW w
def Qm (m:Nat) (H:af):Prop:=∀ b,b < m->∀ k,ah H b=some k->∀ v∈k.cells,bK (aL m) v
structure Fr (ι:Io) (H:af) (w:World) (ι':Io) (H':af) (w':World):Prop where
 len:H.length<=H'.length
 io:∀ b,b < H.length->ι' b=ι b
 os:w'.os=w.os
 tape:w'.tape=w.tape
 output:w'.output=w.output
 size:w.heap.size<=w'.heap.size
 frame:∀ k,k < w.heap.size->(∀ b aJ,ah H b=some aJ->aJ.ro=false->(ι b).aJ≠k)->w'.heap[k]? = w.heap[k]?
 new:∀ b aJ,ah H' b=some aJ->aJ.ro=false->w.heap.size<=(ι' b).aJ\/∃ b0 Mx,ah H b0=some Mx/\Mx.ro=false/\(ι b0).aJ=(ι' b).aJ
 ro:∀ b aJ,ah H' b=some aJ->aJ.ro=true->ah H b=some aJ
structure Ab (ai:Nat) (H H':af):Prop where
 len:H.length<=H'.length
 all:Qm H.length H->Qm H'.length H'
 closed:∀ m,m<=ai->m<=H.length->Qm m H->Qm m H'
theorem Ab.refl (ai:Nat) (H:af):Ab ai H H:=⟨Zd _,fun h=>h,fun _ _ _ h=>h⟩
theorem Ab.trans {ai:Nat} {H H' My:af} (h:Ab ai H H') (g:Ab ai H' My):Ab ai H My :=
 ⟨Nat.le_trans h.len g.len,fun x=>g.all (h.all x),fun m hm hl x=>g.closed m hm (Nat.le_trans hl h.len) (h.closed m hm hl x)⟩
def dM (D:Nat->Prop) (env:Env):Prop:=∀ s v,cU env s=some v->bK D v
theorem Qt {H:af} {b:Nat} {k:bx} (h:ah H b=some k):b < H.length:=by
 unfold ah at h
 by_cases hb:b < H.length
 .exact hb
 .rw [List.getElem?_eq_none (by omega)] at h;simp at h
theorem Fr.refl (ι:Io) (H:af) (w:World):Fr ι H w ι H w :=
 ⟨Zd _,fun _ _=>rfl,rfl,rfl,rfl,Zd _,fun _ _ _=>rfl,fun b aJ h hr=>.inr ⟨b,aJ,h,hr,rfl⟩,fun _ _ h _=>h⟩
theorem Fr.trans {ι ι' ι'':Io} {H H' My:af} {w w' w'':World} (h:Fr ι H w ι' H' w') (g:Fr ι' H' w' ι'' My w''):Fr ι H w ι'' My w'':=by
 refine ⟨Nat.le_trans h.len g.len,fun b hb=>?_,g.os.trans h.os,g.tape.trans h.tape,g.output.trans h.output,Nat.le_trans h.size g.size,fun k hk hn=>?_,fun b aJ hb hr=>?_,fun b aJ hb hr=>h.ro b aJ (g.ro b aJ hb hr) hr⟩
 .rw [g.io b (Zm hb h.len),h.io b hb]
 .rw [g.frame k (Zm hk h.size),h.frame k hk hn]
  intro b aJ hb hr he
  rcases h.new b aJ hb hr with h1 | ⟨b0,k0,h0,gu,e0⟩
  .omega
  .exact hn b0 k0 h0 gu (e0.trans he)
 .rcases g.new b aJ hb hr with h1 | ⟨b0,k0,h0,gu,e0⟩
  .exact .inl (Nat.le_trans h.size h1)
  .rcases h.new b0 k0 h0 gu with h2 | ⟨b1,k1,h1,dY,e1⟩
   .exact .inl (e0▸h2)
   .exact .inr ⟨b1,k1,h1,dY,e1.trans e0⟩
structure bt (ι:Io) (D:Nat->Prop) (nt:Nat) (env:Env) (a:Act):Prop where
 size:a.tmps.size=nt
 get:∀ s v,cU env s=some v->ay ι D v (a.tmps.getD s undef)
theorem bt.mono {ι ι':Io} {D E:Nat->Prop} {nt:Nat} {env:Env} {a:Act} (h:bt ι D nt env a) (hm:∀ b,D b->E b) (ha:∀ b,D b->ι' b=ι b):bt ι' E nt env a :=
 ⟨h.size,fun s v hs=>(h.get s v hs).mono hm ha⟩
theorem bt.lt {ι:Io} {D:Nat->Prop} {nt:Nat} {env:Env} {a:Act} (h:bt ι D nt env a):dM D env:=fun s v hs=>(h.get s v hs).lt
theorem vu (s:Nat) (v:Value) (env:Env) (t:Nat):cU ((s,v)::env) t=if s=t then some v else cU env t:=by
 rw [cU]
 cases hb:Nat.beq s t with
 | true=>rw [if_pos (Z7 hb)]
 | false=>rw [if_neg (Nat.ne_of_beq_eq_false hb)]
theorem Qm6 {a:Array Value} {d:Nat} {v:Value} (hd:d < a.size) (s:Nat):(a.setIfInBounds d v).getD s undef=if d=s then v else a.getD s undef:=by
 simp only [Array.getD_eq_getD_getElem?,Array.getElem?_setIfInBounds]
 by_cases h:d=s
 .subst h;simp [hd]
 .simp [h]
theorem bt.put {ι:Io} {D:Nat->Prop} {nt:Nat} {env:Env} {a:Act} {d:Nat} {v c:Value} (h:bt ι D nt env a) (hd:d < nt) (hv:ay ι D v c):bt ι D nt ((d,v)::env) (a.put (some d) c):=by
 refine ⟨by simp [Act.put,h.size],fun s u hs=>?_⟩
 rw [vu] at hs
 simp only [Act.put]
 rw [Qm6 (h.size▸hd)]
 by_cases e:d=s
 .subst e;simp at hs ⊢;subst hs;exact hv
 .simp [e] at hs ⊢;simpa using h.get s u hs
theorem bt.lit {ι:Io} {D:Nat->Prop} {nt:Nat} {env:Env} {a:Act} {d:Nat} {b:Bool} (h:bt ι D nt env a) (hv:cU env d=some (.bool b)):bt ι D nt ((d,.bool b)::env) a:=by
 refine ⟨h.size,fun s u hs=>?_⟩
 rw [vu] at hs
 by_cases e:d=s
 .subst e;simp at hs;subst hs;exact h.get d _ hv
 .simp [e] at hs;exact h.get s u hs
theorem Qe {ι:Io} {D:Nat->Prop} {nt:Nat} {env:Env} {a:Act} (h:bt ι D nt env a) {x:Operand} {v:Value} (hx:ev env x=some v):ay ι D v (a.eval x):=by
 cases x with
 | tmp t=>exact h.get t v hx
 | const u =>
  simp only [ev] at hx
  split at hx
  .rename_i hr;simp at hx;subst hx;exact Qhw hr ι D
  .simp at hx
 | global g=>simp [ev] at hx
 | func f =>
  simp [ev] at hx;subst hx
  exact .func (kB f) f (.inr rfl) [] [] [] [] rfl (fun i h1=>absurd h1 (by simp)) rfl (fun i h1=>absurd h1 (by simp))
theorem OC {ι:Io} {D:Nat->Prop} {nt:Nat} {env:Env} {a:Act} (h:bt ι D nt env a):∀ {xs:List Operand} {vs:List Value},eX env xs=some vs->aZ ι D vs (xs.map a.eval)
 | [],vs,hx=>by simp [eX] at hx;subst hx;exact aZ.nil ι D
 | x::r,vs,hx=>by
  simp only [eX] at hx
  cases h1:ev env x with
  | none=>simp [h1,Q1] at hx
  | some v =>
   cases h2:eX env r with
   | none=>simp [h1,h2,Q1] at hx
   | some l =>
    simp [h1,h2,Q1] at hx;subst hx
    exact aZ.cons (Qe h h1) (OC h h2)
theorem Q2 {α β:Type} {x:Option α} {f:α->Option β} {r:β} (h:Q1 x f=some r):∃ a,x=some a/\f a=some r:=by
 cases x with
 | none=>simp [Q1] at h
 | some a=>exact ⟨a,rfl,h⟩
theorem jI {β:Type} {b:Bool} {x y:Option β} {r:β} (h:aa b x y=some r):(b=true/\x=some r)\/(b=false/\y=some r):=by
 cases b with
 | true=>exact .inl ⟨rfl,h⟩
 | false=>exact .inr ⟨rfl,h⟩
theorem Qtc {v:Value} (h:JK v=true) (D:Nat->Prop):bK D v:=(Qhw h (fun _=>⟨0,0,0⟩) D).lt
theorem nA {D:Nat->Prop} {env:Env} (h:dM D env) {x:Operand} {v:Value} (hx:ev env x=some v):bK D v:=by
 cases x with
 | tmp t=>exact h t v hx
 | const u =>
  simp only [ev] at hx
  split at hx
  .rename_i hr;simp at hx;subst hx;exact Qtc hr D
  .simp at hx
 | global g=>simp [ev] at hx
 | func f =>
  simp [ev] at hx;subst hx
  exact .func (kB f) [] [] (fun i h1=>absurd h1 (by simp)) (fun i h1=>absurd h1 (by simp))
def gT (D:Nat->Prop) (xs:List Value):Prop:=∀ v∈xs,bK D v
theorem OB {D:Nat->Prop} {env:Env} (h:dM D env):∀ {xs:List Operand} {vs:List Value},eX env xs=some vs->gT D vs
 | [],vs,hx=>by simp [eX] at hx;subst hx;intro v hv;simp at hv
 | x::r,vs,hx=>by
  obtain ⟨v,h1,hx⟩:=Q2 hx
  obtain ⟨l,h2,hx⟩:=Q2 hx
  simp at hx;subst hx
  intro u hu
  rcases Z2 hu with rfl | hu
  .exact nA h h1
  .exact OB h h2 u hu
theorem dM.put {D:Nat->Prop} {env:Env} (h:dM D env) {d:Nat} {v:Value} (hv:bK D v):dM D ((d,v)::env):=by
 intro s u hs
 rw [vu] at hs
 by_cases e:d=s
 .simp [e] at hs;subst hs;exact hv
 .simp [e] at hs;exact h s u hs
theorem dM.mono {D E:Nat->Prop} {env:Env} (h:dM D env) (hm:∀ b,D b->E b):dM E env:=fun s v hs=>(h s v hs).mono hm
theorem aL.mono {n m:Nat} (h:n<=m):∀ b,aL n b->aL m b:=fun b hb=>Zm hb h
theorem RG (v:Value):v.oneCell'=az v:=by cases v<;>rfl
theorem RS {w:World} {b fm n i:Nat} (h:w.shape? b=some (fm,n)) (hi:i < n):(w.cell? ⟨b,i,none⟩).isSome=true:=by
 unfold World.shape? at h
 unfold World.cell?
 split at h
 .rename_i c e fz hb
  simp at h
  simp [hb];omega
 .simp at h
theorem Qkc {w:World} {b:Nat} {x:TypeId×Nat} (h:w.shape? b=some x):b < w.heap.size:=by
 unfold World.shape? at h
 by_cases hb:b < w.heap.size
 .exact hb
 .rw [Array.getElem?_eq_none (by omega)] at h;simp at h
theorem Qcz {w w':World} {b:Nat} (h:w'.heap[b]? = w.heap[b]?):w'.shape? b=w.shape? b:=by unfold World.shape?;rw [h]
theorem Qfe {w w':World} {a:Addr} (h:w'.heap[a.block]? = w.heap[a.block]?):w'.cell? a=w.cell? a:=by unfold World.cell?;rw [h]
theorem Qbm {w w':World} {a:Addr} (h:w'.heap[a.block]? = w.heap[a.block]?):w'.frozen? a=w.frozen? a:=by unfold World.frozen?;rw [h]
theorem qW.bw {ι ι':Io} {D E:Nat->Prop} {w w':World} {b b':Nat} {k:bx} (h:qW ι D w b k) (hb:w'.heap[(ι b).aJ]? = w.heap[(ι b).aJ]?) (he:ι' b'=ι b)
  (hv:∀ i (h:i < k.cells.length) c,ay ι D k.cells[i] c->ay ι' E k.cells[i] c):qW ι' E w' b' k:=by
 refine ⟨?_,fun h0=>?_,fun es od=>?_,by rw [he];exact h.fit,fun i hi=>?_,fun hr i h1 h2=>?_⟩
 .rw [he]
  have:=h.lt
  rw [Array.getElem?_eq_getElem this] at hb
  exact (Array.getElem?_eq_some_iff.1 hb).1
 .rw [he] at h0
  obtain ⟨e,hs⟩:=h.shape h0
  exact ⟨e,by rw [he,Qcz hb];exact hs⟩
 .obtain ⟨h1,h2,h3⟩:=h.map es od
  rw [he]
  exact ⟨h1,h2,by unfold B8;rw [hb];exact h3⟩
 .obtain ⟨c,h1,h2,h3⟩:=h.cell i hi
  exact ⟨c,by rw [he,Qfe hb];exact h1,hv i hi c h2,h3⟩
 .rw [he] at h1 h2 ⊢
  rw [Qbm hb];exact h.tB hr i h1 h2
theorem Rel.lt {ι:Io} {D:Nat->Prop} {H:af} {w:World} (h:Rel ι D H w) {b:Nat} {k:bx} (hb:ah H b=some k):(ι b).aJ < w.heap.size:=(h.aJ b k hb).lt
theorem Rel.load {ι:Io} {D:Nat->Prop} {H:af} {w:World} (h:Rel ι D H w) {a:Addr} {v:Value} (hl:gL H a=some v) :
  ∃ c,w.cell? (ι.addr a)=some c/\ay ι D v c/\az v=true:=by
 obtain ⟨k,hk,hv⟩:=Q2 hl
 obtain ⟨hi,e⟩:=Z0 hv
 obtain ⟨c,h1,h2,h3⟩:=(h.aJ _ _ hk).cell a.off hi
 subst e
 exact ⟨c,h1,h2,h3⟩
theorem KB (ι:Io) (a:Addr) (j:Nat):(ι.addr a).add j=⟨(ι a.block).aJ,(ι a.block).off+a.off+j,none⟩:=by
 unfold Addr.add Io.addr
 by_cases h:j=0
 .subst h;simp
 .simp [h]
theorem Rel.wS {ι:Io} {D:Nat->Prop} {H:af} {w:World} (h:Rel ι D H w) {a:Addr} {n:Nat} {l:List Value} (hl:Qx H a n=some l) :
  ∃ cs:List Value,cs.length=n/\aZ ι D l cs/\(∀ j v,cs[j]? = some v->w.cell? ((ι.addr a).add j)=some v)/\(∀ v∈l,az v=true):=by
 obtain ⟨k,hk,hv⟩:=Q2 hl
 have hb:=h.aJ _ _ hk
 split at hv
 .rename_i hle
  have hle:=Zi hle
  simp at hv
  subst hv
  have hlen:((k.cells.drop a.off).take n).length=n:=by simp;omega
  have ah:∀ j (hj:j < n),((k.cells.drop a.off).take n)[j]'(by omega)=k.cells[a.off+j]'(by omega):=by
   intro j hj;simp
  have hex:∀ j,j < n->∃ c,w.cell? ⟨(ι a.block).aJ,(ι a.block).off+(a.off+j),none⟩=some c/\ay ι D (((k.cells.drop a.off).take n).getD j undef) c/\az (((k.cells.drop a.off).take n).getD j undef)=true:=by
   intro j hj
   obtain ⟨c,h1,h2,h3⟩:=hb.cell (a.off+j) (by omega)
   have e:((k.cells.drop a.off).take n).getD j undef=k.cells[a.off+j]'(by omega):=by
    rw [Zr,Z6 (by omega),ah j hj];rfl
   exact ⟨c,h1,by rw [e];exact h2,by rw [e];exact h3⟩
  let f:Nat->Value:=fun j=>((w.cell? ⟨(ι a.block).aJ,(ι a.block).off+(a.off+j),none⟩).getD undef)
  refine ⟨(List.range n).map f,by simp,⟨by simp [hlen],fun i h1 h2=>?_⟩,fun j v hj=>?_,fun v hv=>?_⟩
  .obtain ⟨c,g1,g2,g3⟩:=hex i (by omega)
   simp only [List.getElem_map,List.getElem_range,f,g1,Option.getD_some]
   rw [Zr,Z6 h1] at g2
   exact g2
  .have PL:j < n:=by
    have:=(Z0 hj).1
    simpa using this
   obtain ⟨c,g1,g2,g3⟩:=hex j PL
   simp only [List.getElem?_map,List.getElem?_range PL,Option.map_some,f,g1,Option.getD_some,Option.some.injEq] at hj
   subst hj
   rw [KB,Nat.add_assoc];exact g1
  .obtain ⟨i,hi,e⟩:=List.getElem_of_mem hv
   obtain ⟨c,g1,g2,g3⟩:=hex i (by omega)
   rw [Zr,Z6 hi] at g3
   rw [<- e];exact g3
 .simp at hv
theorem Rel.DE {ι:Io} {D:Nat->Prop} {H:af} {w:World} (h:Rel ι D H w) {a:Addr} {n:Nat} {l:List Value} (hl:fN H a n=some l) :
  ∃ cs:List Value,cs.length=n/\aZ ι D l cs/\(∀ j v,cs[j]? = some v->w.cell? ((ι.addr a).add j)=some v)/\(∀ v∈l,az v=true):=by
 cases n with
 | zero =>
  simp only [fN,Option.some.injEq] at hl;subst hl
  exact ⟨[],rfl,aZ.nil ι D,by simp,by simp⟩
 | succ m=>exact h.wS hl
theorem tC {H:af} {b:Nat} {x:Option bx} (hb:b < H.length):ah (H.set b x) b=x:=by
 unfold ah;rw [List.getElem?_set_self hb];cases x<;>rfl
theorem Qn {H:af} {b c:Nat} {x:Option bx} (hb:b≠c):ah (H.set b x) c=ah H c:=by
 unfold ah;rw [List.getElem?_set_ne hb]
theorem FB {H G:af} {b:Nat} (hb:b < H.length):ah (H++G) b=ah H b:=by
 unfold ah;rw [List.getElem?_append_left hb]
theorem R4 (H:af) (k:Option bx):ah (H++[k]) H.length=k:=by
 unfold ah;rw [Zq (Zd _)];simp;cases k<;>rfl
theorem Qq9 {H:af} {n b:Nat} (hb:b < n):ah (H.take n) b=ah H b:=by
 unfold ah;rw [List.getElem?_take_of_lt hb]
theorem HM (b:Nat):∀ (vs:List Value) (o:Nat) (w:World) (k:Nat),k≠b->(w.setCells b o vs).heap[k]? = w.heap[k]?
 | [],_,_,_,_=>rfl
 | v::r,o,w,k,h=>by
  rw [World.setCells,HM b r (o+1) _ k h]
  simp only [World.setCell,Array.getElem?_modify]
  rw [if_neg (Ne.symm h)]
theorem HN (b:Nat):∀ (vs:List Value) (o:Nat) (w:World),(w.setCells b o vs).heap.size=w.heap.size
 | [],_,_=>rfl
 | v::r,o,w=>by rw [World.setCells,HN b r (o+1)];simp
theorem Qff (w:World) (a:Addr) (v:Value) (b:Nat):(w.setCell a v).shape? b=w.shape? b:=by
 simp only [World.setCell,World.shape?,Array.getElem?_modify]
 by_cases hb:a.block=b
 .subst hb
  simp only [if_true]
  cases hh:w.heap[a.block]? with
  | none=>simp
  | some x=>cases x<;>simp;split<;>simp
 .simp [hb]
theorem Wd (b:Nat):∀ (vs:List Value) (o:Nat) (w:World) (k:Nat),(w.setCells b o vs).shape? k=w.shape? k
 | [],_,_,_=>rfl
 | v::r,o,w,k=>by rw [World.setCells,Wd b r (o+1),Qff]
theorem We (b:Nat):∀ (vs:List Value) (o:Nat) (w:World),(w.setCells b o vs).os=w.os/\(w.setCells b o vs).tape=w.tape/\(w.setCells b o vs).output=w.output
 | [],_,_=>⟨rfl,rfl,rfl⟩
 | v::r,o,w=>by rw [World.setCells];exact We b r (o+1) _
theorem JS {l vs:List Value} {off:Nat} (h:off+vs.length<=l.length):(qU l off vs).length=l.length:=by
 unfold qU;simp;omega
theorem Qnq {l vs:List Value} {off:Nat} (h:off+vs.length<=l.length) (i:Nat) :
  (qU l off vs)[i]? = if off<=i/\i < off+vs.length then vs[i - off]? else l[i]?:=by
 unfold qU
 rw [List.append_assoc,List.getElem?_append]
 simp only [List.length_take,Nat.min_eq_left (show off<=l.length by omega)]
 by_cases h1:i < off
 .rw [if_pos h1,if_neg (by omega),List.getElem?_take_of_lt h1]
 .rw [if_neg h1,List.getElem?_append]
  by_cases h2:i < off+vs.length
  .rw [if_pos (by omega),if_pos ⟨by omega,h2⟩]
  .rw [if_neg (by omega),if_neg (by omega),Zp]
   congr 1;omega
theorem Qqa {ι:Io} {D:Nat->Prop} {w:World} {b off:Nat} {k:bx} (hb:qW ι D w b k) {es:List (Int×Int)} {vs cs:List Value} {o:Nat} (od:k.mp=some es) (ct:off+vs.length<=k.cells.length) (hlen:cs.length=vs.length) :
  qU k.cells off vs=[]/\(ι b).size=0/\B8 (w.setCells (ι b).aJ o cs) (ι b).aJ es:=by
 obtain ⟨h1,h2,h3⟩:=hb.map es od
 rw [h1] at ct ⊢
 simp only [Zb] at ct
 have hv:vs=[]:=Z1 (by omega)
 have hc:cs=[]:=Z1 (by rw [hlen,hv];rfl)
 subst hv hc
 exact ⟨by simp [qU],h2,h3⟩
theorem Rel.store {P:Program} {ι:Io} {D:Nat->Prop} {H H':af} {w:World} {ai:Nat} (h:Rel ι D H w) {a:Addr} {vs cs:List Value} (hs:oZ H ai a vs=some H') (hv:aZ ι D vs cs) :
  (storeCells (ι.addr a) cs).run P w=.ok () (w.setCells (ι a.block).aJ ((ι a.block).off+a.off) cs) /\
  Rel ι D H' (w.setCells (ι a.block).aJ ((ι a.block).off+a.off) cs)/\Fr ι H w ι H' (w.setCells (ι a.block).aJ ((ι a.block).off+a.off) cs):=by
 obtain ⟨k,hk,hx⟩:=Q2 hs
 have hb:=h.aJ _ _ hk
 have au:=Qt hk
 split at hx
 case h_2=>simp at hx
 case h_1 bn bL aI ct =>
 simp at hx;subst hx
 have ct:=Zi ct
 have hlen:cs.length=vs.length:=hv.1.symm
 have Mz:=hb.fit
 have cD:∀ v∈cs,v.oneCell'=true:=by
  intro v hm
  obtain ⟨i,hi,e⟩:=List.getElem_of_mem hm
  have:=(hv.2 i (by omega) hi).az
  rw [<- e,RG,this]
  exact Z3 bL _ (List.getElem_mem _)
 have mM:∀ j,j < cs.length->(w.cell? ⟨(ι a.block).aJ,(ι a.block).off+a.off+j,none⟩).isSome=true:=fun j hj=>by
  obtain ⟨fm,jb⟩:=hb.shape (by omega)
  exact RS jb (by omega)
 have MA:∀ j,j < cs.length->w.frozen? ⟨(ι a.block).aJ,(ι a.block).off+a.off+j,none⟩=false:=fun j hj=>hb.tB bn _ (by omega) (by omega)
 have aT:=run_storeCells_cells (P:=P) (ι a.block).aJ ((ι a.block).off+a.off) cs 0 w (by simpa using mM) (by simpa using MA) cD
 refine ⟨by rw [Nat.add_zero] at aT;exact aT,?_,?_⟩
 .refine ⟨fun b k' de=>?_,fun b b' k1 k2 h1 h2 aU hr=>?_,fun b k' de hr=>(by
   by_cases e:a.block=b
   .subst e;exact h.iy _ k hk bn
   .rw [Qn e] at de;exact h.iy b k' de hr),h.gw.cv (Nat.le_of_eq (HN _ _ _ _).symm) (fun q hq=>HM _ _ _ _ _ (by have:=h.iy _ k hk bn;omega))⟩
  .by_cases e:a.block=b
   .subst e
    rw [tC au] at de
    simp at de;subst de
    refine ⟨by rw [HN];exact hb.lt,fun h0=>by rw [Wd];exact hb.shape h0,fun es od=>Qqa hb od ct hlen,by simp [JS ct];exact Mz,fun i hi=>?_,fun hr i h1 h2=>by rw [World.frozen?_setCells];exact hb.tB bn i h1 h2⟩
    simp only [JS ct] at hi
    have hg:=Qnq ct i
    by_cases nV:a.off<=i/\i < a.off+vs.length
    .rw [if_pos nV] at hg
     have eW:i - a.off < vs.length:=by omega
     have e1:(qU k.cells a.off vs)[i]'(by rw [JS ct];exact hi)=vs[i - a.off]:=by
      have:=Z6 (l:=qU k.cells a.off vs) (i:=i) (by rw [JS ct];exact hi)
      rw [this,Z6 eW] at hg
      simpa using hg
     refine ⟨cs[i - a.off]'(by omega),?_,?_,?_⟩
     .have:=World.cell?_setCells_in (ι a.block).aJ cs ((ι a.block).off+a.off) w mM (i - a.off) (by omega)
      rw [show (ι a.block).off+i=(ι a.block).off+a.off+(i - a.off) by omega];exact this
     .simp only [e1];exact hv.2 _ eW (by omega)
     .simp only [e1];exact Z3 bL _ (List.getElem_mem _)
    .rw [if_neg nV] at hg
     have e1:(qU k.cells a.off vs)[i]'(by rw [JS ct];exact hi)=k.cells[i]:=by
      have:=Z6 (l:=qU k.cells a.off vs) (i:=i) (by rw [JS ct];exact hi)
      rw [this,Z6 hi] at hg
      simpa using hg
     obtain ⟨c,g1,g2,g3⟩:=hb.cell i hi
     refine ⟨c,?_,by simp only [e1];exact g2,by simp only [e1];exact g3⟩
     rw [World.cell?_setCells_out]
     .exact g1
     .intro _ _;simp only;omega
   .rw [Qn e] at de
    refine (h.aJ b k' de).bw ?_ rfl (fun _ _ _ x=>x)
    refine HM _ _ _ _ _ ?_
    exact h.inj b a.block k' k de hk (Ne.symm e) (.inr bn)
  .by_cases e1:a.block=b
   .subst e1
    rw [Qn aU] at h2
    rw [tC au] at h1
    exact h.inj a.block b' k k2 hk h2 aU (.inl bn)
   .rw [Qn e1] at h1
    by_cases e2:a.block=b'
    .subst e2
     exact h.inj b a.block k1 k h1 hk aU (.inr bn)
    .rw [Qn e2] at h2
     exact h.inj b b' k1 k2 h1 h2 aU hr
 .obtain ⟨o1,o2,o3⟩:=We (ι a.block).aJ cs ((ι a.block).off+a.off) w
  refine ⟨by simp,fun _ _=>rfl,o1,o2,o3,Nat.le_of_eq (HN _ _ _ _).symm,fun q hq hn=>?_,fun b aJ gU hr=>?_,fun b aJ gU hr=>?_⟩
  .exact HM _ _ _ _ _ (Ne.symm (hn a.block k hk bn))
  .by_cases e:a.block=b
   .subst e;exact .inr ⟨a.block,k,hk,bn,rfl⟩
   .rw [Qn e] at gU;exact .inr ⟨b,aJ,gU,hr,rfl⟩
  .by_cases e:a.block=b
   .subst e
    rw [tC au] at gU
    simp at gU;subst gU
    simp [bn] at hr
   .rw [Qn e] at gU;exact gU
theorem Zt {H H':af} {ai:Nat} {a:Addr} {vs:List Value} (hs:oZ H ai a vs=some H') (hv:gT (aL H.length) vs):Ab ai H H':=by
 obtain ⟨k,hk,hx⟩:=Q2 hs
 have au:=Qt hk
 split at hx
 case h_2=>simp at hx
 case h_1 bn bL aI ct =>
 simp at hx;subst hx
 have key:∀ m,(∀ v∈vs,bK (aL m) v\/m<=a.block)->Qm m H->Qm m (H.set a.block (some { k with cells:=qU k.cells a.off vs })):=by
  intro m hm hc b Wg k' de v gV
  by_cases e:a.block=b
  .subst e
   rw [tC au] at de
   simp at de;subst de
   simp only [qU,Zh] at gV
   rcases gV with (h1 | h1) | h1
   .exact hc _ Wg k hk v (List.mem_of_mem_take h1)
   .rcases hm v h1 with h2 | h2
    .exact h2
    .omega
   .exact hc _ Wg k hk v (List.mem_of_mem_drop h1)
  .rw [Qn e] at de;exact hc b Wg k' de v gV
 refine ⟨by simp,fun h=>?_,fun m hm OQ hc=>key m (fun v h1=>?_) hc⟩
 .rw [List.length_set];exact key _ (fun v h1=>.inl (hv v h1)) h
 .rcases Bool.or_eq_true_iff.1 aI with h2 | h2
  .exact .inl (tw (Z3 h2 v h1) _)
  .have:=Zi h2;exact .inr (by omega)
def Io.set (ι:Io) (b:Nat) (l:Loc):Io:=fun c=>if c=b then l else ι c
theorem Io.aC (ι:Io) (b:Nat) (l:Loc):ι.set b l b=l:=by simp [Io.set]
theorem Io.aS (ι:Io) {b c:Nat} (l:Loc) (h:c≠b):ι.set b l c=ι c:=by simp [Io.set,h]
theorem FE (w:World) (o:Obj) {k:Nat} (h:k < w.heap.size):(w.alloc o).heap[k]? = w.heap[k]?:=by
 show (w.heap.push o)[k]? = _
 rw [Array.getElem?_push,if_neg (by omega)]
theorem Rel.bz {ι:Io} {D:Nat->Prop} {H:af} {w w':World} (h:Rel ι D H w) (e:w'.heap=w.heap):Rel ι D H w' :=
 ⟨fun b k hk=>(h.aJ b k hk).bw (by rw [e]) rfl (fun _ _ _ x=>x),h.inj,h.iy,h.gw.heap e⟩
theorem Fr.bz {ι ι':Io} {H H':af} {w w' w'':World} (h:Fr ι H w ι' H' w') (e:w''.heap=w'.heap) (e1:w''.os=w'.os) (e2:w''.tape=w'.tape) (e3:w''.output=w'.output) :
  Fr ι H w ι' H' w'' :=
 ⟨h.len,h.io,e1.trans h.os,e2.trans h.tape,e3.trans h.output,e▸h.size,fun k hk hn=>by rw [e];exact h.frame k hk hn,h.new,h.ro⟩
theorem OI (w:World) (o:Obj):(w.alloc o).heap[w.heap.size]? = some o:=by
 show (w.heap.push _)[w.heap.size]? = _
 rw [Array.getElem?_push,if_pos rfl]
theorem Y_ (w:World) (arr:Array Value) (fm:TypeId) (fz:Nat×Nat):(w.alloc (.cells arr fm fz)).shape? w.heap.size=some (fm,arr.size):=by
 unfold World.shape?;rw [OI]
theorem Qd0 (w:World) (arr:Array Value) (fm:TypeId) (fz:Nat×Nat) (i:Nat):(w.alloc (.cells arr fm fz)).cell? ⟨w.heap.size,i,none⟩=arr[i]?:=by
 unfold World.cell?;simp only;rw [OI];simp
theorem Qah (w:World) (arr:Array Value) (fm:TypeId) (fz:Nat×Nat) (i:Nat):(w.alloc (.cells arr fm fz)).frozen? ⟨w.heap.size,i,none⟩=(decide (fz.1<=i)&&decide (i < fz.2)):=by
 unfold World.frozen?;simp only;rw [OI]
def oV (fz:Nat×Nat) (n:Nat):Prop:=∀ i,i < n->¬ (fz.1<=i/\i < fz.2)
theorem oV.zero (n:Nat):oV (0,0) n:=fun i _ h=>by simp at h
theorem oV.behind (n m:Nat):oV (n,m) n:=fun i hi h=>by have:=h.1;simp at this;omega
theorem Rel.fill {ι:Io} {D:Nat->Prop} {H:af} {w:World} (h:Rel ι D H w) {id:Nat} (hid:H[id]? = some none) (hD:¬ D id) {vs cs:List Value} (hv:aZ ι D vs cs) (hc:∀ v∈vs,az v=true)
  (rest:List Value) (fm:TypeId) (fz:Nat×Nat) (hfz:oV fz (cs++rest).length) :
  Rel (ι.set id ⟨w.heap.size,0,(cs++rest).length⟩) (fun b=>D b\/b=id) (H.set id (some ⟨vs,false,none⟩)) (w.alloc (.cells (cs++rest).toArray fm fz)):=by
 have au:id < H.length:=(Z0 hid).1
 have EM:ah H id=none:=by unfold ah;rw [hid]
 have o7:∀ {v c:Value},ay ι D v c->ay (ι.set id ⟨w.heap.size,0,(cs++rest).length⟩) (fun b=>D b\/b=id) v c :=
  fun hr=>hr.mono (fun _ hb=>.inl hb) fun b hb=>Io.aS _ _ (fun e=>hD (e▸hb))
 refine ⟨fun b k hk=>?_,fun b b' k k' h1 h2 aU hr=>?_,fun b k hk hr=>(by
  by_cases e:id=b
  .subst e;rw [Io.aC];exact h.gw.1
  .rw [Qn e] at hk;rw [Io.aS _ _ (Ne.symm e)];exact h.iy b k hk hr),h.gw.cv (by simp) (fun q hq=>FE _ _ (by have:=h.gw.1;omega))⟩
 .by_cases e:id=b
  .subst e
   rw [tC au] at hk
   simp at hk;subst hk
   refine ⟨by rw [Io.aC];simp,fun _=>⟨fm,?_⟩,fun es od=>by simp at od,?_,fun i hi=>?_,fun _ i _ hi=>?_⟩
   .rw [Io.aC,Y_];simp
   .rw [Io.aC];simp [hv.1]
   .rw [Io.aC]
    simp only at hi
    have eW:i < cs.length:=by have:=hv.1;omega
    refine ⟨cs[i],?_,o7 (hv.2 i hi eW),hc _ (List.getElem_mem _)⟩
    rw [Zo,Qd0]
    simp [List.getElem?_append_left eW,Z6 eW]
   .rw [Io.aC] at hi ⊢
    rw [Qah]
    have:=hfz i hi
    simp;omega
  .rw [Qn e] at hk
   exact (h.aJ b k hk).bw (FE _ _ (h.lt hk)) (Io.aS _ _ (Ne.symm e)) (fun i hi c hr=>o7 hr)
 .by_cases e1:id=b
  .subst e1
   have e2:id≠b':=aU
   rw [Qn e2] at h2
   rw [Io.aC,Io.aS _ _ (Ne.symm e2)]
   have:=h.lt h2
   simp only;omega
  .rw [Qn e1] at h1
   by_cases e2:id=b'
   .subst e2
    rw [Io.aC,Io.aS _ _ (Ne.symm e1)]
    have:=h.lt h1
    simp only;omega
   .rw [Qn e2] at h2
    rw [Io.aS _ _ (Ne.symm e1),Io.aS _ _ (Ne.symm e2)]
    exact h.inj b b' k k' h1 h2 aU hr
theorem PN (H:af) (b:Nat):ah (H++[none]) b=ah H b:=by
 by_cases hb:b < H.length
 .exact FB hb
 .have h1:ah H b=none:=by unfold ah;rw [List.getElem?_eq_none (by omega)]
  rw [h1]
  by_cases e:b=H.length
  .subst e;exact R4 H none
  .unfold ah;rw [List.getElem?_eq_none (by simp;omega)]
theorem Rel.vw {ι:Io} {D:Nat->Prop} {H:af} {w:World} (h:Rel ι D H w):Rel ι D (H++[none]) w :=
 ⟨fun b k hk=>h.aJ b k (by rw [PN] at hk;exact hk),fun b b' k k' h1 h2=>h.inj b b' k k' (by rw [PN] at h1;exact h1) (by rw [PN] at h2;exact h2),fun b k hk hr=>h.iy b k (by rw [PN] at hk;exact hk) hr,h.gw⟩
theorem Rel.domain {ι:Io} {D E:Nat->Prop} {H:af} {w:World} (h:Rel ι D H w) (hDE:∀ b,D b->E b):Rel ι E H w :=
 ⟨fun b k hk=>(h.aJ b k hk).bw rfl rfl (fun _ _ _ hr=>hr.mono hDE fun _ _=>rfl),h.inj,h.iy,h.gw⟩
theorem Wh {H:af} {cells:List Value} {b:Nat} (hb:b < H.length):ah (dr H cells) b=ah H b:=FB hb
theorem MC (H:af) (cells:List Value):ah (dr H cells) H.length=some ⟨cells,false,none⟩:=R4 H _
theorem Qy (H:af) (cells:List Value):(dr H cells).length=H.length+1:=by simp [dr]
theorem MD {H:af} {cells:List Value} {b:Nat} {k:bx} (h:ah (dr H cells) b=some k):(b < H.length/\ah H b=some k)\/(b=H.length/\k=⟨cells,false,none⟩):=by
 have au:=Qt h
 rw [Qy] at au
 by_cases e:b=H.length
 .subst e;rw [MC] at h;exact .inr ⟨rfl,(Option.some.inj h).symm⟩
 .rw [Wh (by omega)] at h;exact .inl ⟨by omega,h⟩
theorem Rel.push {ι:Io} {H:af} {w:World} (h:Rel ι (aL H.length) H w) {vs cs:List Value} (hv:aZ ι (aL H.length) vs cs) (hc:∀ v∈vs,az v=true)
  (rest:List Value) (fm:TypeId) (fz:Nat×Nat) (hfz:oV fz (cs++rest).length) :
  Rel (ι.set H.length ⟨w.heap.size,0,(cs++rest).length⟩) (aL (dr H vs).length) (dr H vs) (w.alloc (.cells (cs++rest).toArray fm fz)) /\
  Fr ι H w (ι.set H.length ⟨w.heap.size,0,(cs++rest).length⟩) (dr H vs) (w.alloc (.cells (cs++rest).toArray fm fz)):=by
 constructor
 .have h1:=(h.vw).fill (id:=H.length) (by simp) (by simp [aL]) hv hc rest fm fz hfz
  have e:(H++[none]).set H.length (some ⟨vs,false,none⟩)=dr H vs:=by simp [dr]
  rw [e] at h1
  exact h1.domain (by intro b hb;rw [Qy];simp [aL] at hb ⊢;omega)
 .refine ⟨by rw [Qy];omega,fun b hb=>Io.aS _ _ (by omega),rfl,rfl,rfl,by simp,fun k hk _=>FE _ _ hk,fun b aJ hb hr=>?_,fun b aJ hb hr=>?_⟩
  .rcases MD hb with ⟨au,h1⟩ | ⟨rfl,rfl⟩
   .exact .inr ⟨b,aJ,h1,hr,by rw [Io.aS _ _ (by omega)]⟩
   .exact .inl (by rw [Io.aC];exact Zd _)
  .rcases MD hb with ⟨au,h1⟩ | ⟨rfl,rfl⟩
   .exact h1
   .simp at hr
theorem RM (ai:Nat) {H:af} {vs:List Value} (hv:gT (aL H.length) vs):Ab ai H (dr H vs):=by
 have key:∀ m,m<=H.length->Qm m H->Qm m (dr H vs):=by
  intro m hm hc b hb k hk v gV
  rcases MD hk with ⟨au,h1⟩ | ⟨rfl,rfl⟩
  .exact hc b hb k h1 v gV
  .omega
 refine ⟨by rw [Qy];omega,fun h=>?_,fun m _ hm hc=>key m hm hc⟩
 rw [Qy]
 intro b hb k hk v gV
 rcases MD hk with ⟨au,h1⟩ | ⟨rfl,rfl⟩
 .exact (h b au k h1 v gV).mono (aL.mono (by omega))
 .exact (hv v gV).mono (aL.mono (by omega))
theorem KO {H:af} {b c:Nat} {k:bx} (h:ah (H.set b none) c=some k):ah H c=some k:=by
 by_cases e:b=c
 .subst e
  have au:=Qt h
  rw [List.length_set] at au
  rw [tC au] at h;simp at h
 .rw [Qn e] at h;exact h
theorem Qx8 (ai:Nat) (H:af) (b:Nat):Ab ai H (H.set b none) :=
 ⟨by simp,fun h=>by rw [List.length_set];exact fun c hc k hk=>h c hc k (KO hk),fun m _ _ h c hc k hk=>h c hc k (KO hk)⟩
theorem Rel.KM {ι:Io} {D:Nat->Prop} {H:af} {w:World} (h:Rel ι D H w) {b:Nat} {k:bx} (hk:ah H b=some k) (bn:k.ro=false) (m:Nat) :
  ah (H.set b (some ⟨k.cells.take m,false,none⟩)) b=some ⟨k.cells.take m,false,none⟩/\Rel ι D (H.set b (some ⟨k.cells.take m,false,none⟩)) w/\Fr ι H w ι (H.set b (some ⟨k.cells.take m,false,none⟩)) w:=by
 have au:=Qt hk
 have EN:ah (H.set b (some ⟨k.cells.take m,false,none⟩)) b=some ⟨k.cells.take m,false,none⟩:=tC au
 have bg:∀ {c:Nat} {q:bx},ah (H.set b (some ⟨k.cells.take m,false,none⟩)) c=some q->(c=b/\q=⟨k.cells.take m,false,none⟩)\/(c≠b/\ah H c=some q):=by
  intro c q hq
  by_cases e:b=c
  .subst e;rw [EN] at hq;injection hq with hq;exact .inl ⟨rfl,hq.symm⟩
  .rw [Qn e] at hq;exact .inr ⟨fun x=>e x.symm,hq⟩
 have hb:=h.aJ b k hk
 refine ⟨EN,⟨fun c q hq=>?_,fun c c' q q' h1 h2 aU hr=>?_,fun c q hq hr=>(by
  rcases bg hq with ⟨rfl,rfl⟩ | ⟨_,g2⟩
  .exact h.iy _ k hk bn
  .exact h.iy c q g2 hr),h.gw⟩,⟨by simp,fun _ _=>rfl,rfl,rfl,rfl,Zd _,fun _ _ _=>rfl,fun c q hq hr=>?_,fun c q hq hr=>?_⟩⟩
 .rcases bg hq with ⟨rfl,rfl⟩ | ⟨g1,g2⟩
  .refine ⟨hb.lt,hb.shape,fun es od=>by simp at od,?_,fun i hi=>?_,fun _=>hb.tB bn⟩
   .have:=hb.fit;simp only [List.length_take];omega
   .simp only [List.length_take] at hi
    obtain ⟨c',e1,e2,e3⟩:=hb.cell i (by omega)
    exact ⟨c',e1,by simp only [List.getElem_take];exact e2,by simp only [List.getElem_take];exact e3⟩
  .exact h.aJ c q g2
 .rcases bg h1 with ⟨rfl,rfl⟩ | ⟨g1,g2⟩<;>rcases bg h2 with ⟨rfl,rfl⟩ | ⟨k1,k2⟩
  .exact absurd rfl aU
  .exact h.inj c c' k q' hk k2 aU (.inl bn)
  .exact h.inj c c' q k g2 hk aU (.inr bn)
  .exact h.inj c c' q q' g2 k2 aU hr
 .rcases bg hq with ⟨rfl,rfl⟩ | ⟨g1,g2⟩
  .exact .inr ⟨c,k,hk,bn,rfl⟩
  .exact .inr ⟨c,q,g2,hr,rfl⟩
 .rcases bg hq with ⟨rfl,rfl⟩ | ⟨g1,g2⟩
  .simp at hr
  .exact g2
theorem Rel.kill {ι:Io} {D:Nat->Prop} {H:af} {w:World} (h:Rel ι D H w) (b:Nat):Rel ι D (H.set b none) w:=by
 have hk:∀ c k,ah (H.set b none) c=some k->ah H c=some k:=by
  intro c k hc
  by_cases e:b=c
  .subst e
   have au:=Qt hc
   rw [List.length_set] at au
   rw [tC au] at hc;simp at hc
  .rw [Qn e] at hc;exact hc
 exact ⟨fun c k hc=>h.aJ c k (hk c k hc),fun c c' k k' h1 h2=>h.inj c c' k k' (hk c k h1) (hk c' k' h2),fun c k hc hr=>h.iy c k (hk c k hc) hr,h.gw⟩
theorem Rel.alias {ι:Io} {H:af} {w:World} (h:Rel ι (aL H.length) H w) {b:Nat} {k:bx} (hk:ah H b=some k) (bn:k.ro=false) {off:Nat} (ME:off<=k.cells.length) {news cs:List Value} (hv:aZ ι (aL H.length) news cs)
  (hc:∀ v∈news,az v=true) (ct:(ι b).off+k.cells.length+cs.length<=(ι b).size) :
  Rel (ι.set H.length ⟨(ι b).aJ,(ι b).off+off,(ι b).size⟩) (aL (H.length+1)) (dr (H.set b none) (k.cells.drop off++news)) (w.setCells (ι b).aJ ((ι b).off+k.cells.length) cs) /\
  Fr ι H w (ι.set H.length ⟨(ι b).aJ,(ι b).off+off,(ι b).size⟩) (dr (H.set b none) (k.cells.drop off++news)) (w.setCells (ι b).aJ ((ι b).off+k.cells.length) cs):=by
 have hb:=h.aJ b k hk
 have au:=Qt hk
 have hlen:(H.set b none).length=H.length:=by simp
 have o7:∀ {v c:Value},ay ι (aL H.length) v c->ay (ι.set H.length ⟨(ι b).aJ,(ι b).off+off,(ι b).size⟩) (aL (H.length+1)) v c :=
  fun hr=>hr.mono (aL.mono (by omega)) fun c hc=>Io.aS _ _ (by simp [aL] at hc;omega)
 have mM:∀ j,j < cs.length->(w.cell? ⟨(ι b).aJ,(ι b).off+k.cells.length+j,none⟩).isSome=true:=fun j hj=>by
  obtain ⟨fm,jb⟩:=hb.shape (by omega)
  exact RS jb (by omega)
 have bg:∀ {c:Nat} {q:bx},ah (dr (H.set b none) (k.cells.drop off++news)) c=some q->(c < H.length/\c≠b/\ah H c=some q)\/(c=H.length/\q=⟨k.cells.drop off++news,false,none⟩):=by
  intro c q hq
  rcases MD hq with ⟨h1,h2⟩ | ⟨h1,h2⟩
  .rw [hlen] at h1
   refine .inl ⟨h1,fun e=>?_,KO h2⟩
   subst e;rw [tC au] at h2;simp at h2
  .rw [hlen] at h1;exact .inr ⟨h1,h2⟩
 constructor
 .refine ⟨fun c q hq=>?_,fun c c' q q' h1 h2 aU hr=>?_,fun c q hq hr=>(by
   rcases bg hq with ⟨g1,g2,g3⟩ | ⟨rfl,rfl⟩
   .rw [Io.aS _ _ (by omega)];exact h.iy c q g3 hr
   .rw [Io.aC];exact h.iy b k hk bn),h.gw.cv (Nat.le_of_eq (HN _ _ _ _).symm) (fun q hq=>HM _ _ _ _ _ (by have:=h.iy b k hk bn;omega))⟩
  .rcases bg hq with ⟨g1,g2,g3⟩ | ⟨rfl,rfl⟩
   .refine (h.aJ c q g3).bw (HM _ _ _ _ _ (h.inj c b q k g3 hk g2 (.inr bn))) (Io.aS _ _ (by omega)) (fun _ _ _ hr=>o7 hr)
   .refine ⟨by rw [Io.aC,HN];exact hb.lt,fun h0=>by rw [Io.aC] at h0;rw [Io.aC,Wd];exact hb.shape h0,fun es od=>by simp at od,?_,fun i hi=>?_,fun _ i h1 h2=>?_⟩
    .rw [Io.aC];simp [hv.1];omega
    .rw [Io.aC]
     simp only [Zf,List.length_drop] at hi
     by_cases eW:i < k.cells.length - off
     .obtain ⟨c,g1,g2,g3⟩:=hb.cell (off+i) (by omega)
      have e:(k.cells.drop off++news)[i]'(by simp;omega)=k.cells[off+i]'(by omega):=by
       rw [List.getElem_append_left (by simp;omega)];simp
      refine ⟨c,?_,by simp only [e];exact o7 g2,by simp only [e];exact g3⟩
      rw [World.cell?_setCells_out]
      .rw [Nat.add_assoc];exact g1
      .intro _ _;left;simp only;omega
     .have hj:i - (k.cells.length - off) < news.length:=by omega
      have e:(k.cells.drop off++news)[i]'(by simp;omega)=news[i - (k.cells.length - off)]:=by
       rw [List.getElem_append_right (by simp;omega)];simp
      refine ⟨cs[i - (k.cells.length - off)]'(by have:=hv.1;omega),?_,by simp only [e];exact o7 (hv.2 _ _ _),by simp only [e];exact hc _ (List.getElem_mem _)⟩
      have:=World.cell?_setCells_in (ι b).aJ cs ((ι b).off+k.cells.length) w mM (i - (k.cells.length - off)) (by have:=hv.1;omega)
      rw [show (ι b).off+off+i=(ι b).off+k.cells.length+(i - (k.cells.length - off)) by omega]
      exact this
    .rw [Io.aC] at h1 h2 ⊢
     rw [World.frozen?_setCells]
     exact hb.tB bn i (by simp only at h1;omega) h2
  .rcases bg h1 with ⟨g1,g2,g3⟩ | ⟨rfl,rfl⟩
   .rcases bg h2 with ⟨k1,k2,k3⟩ | ⟨rfl,rfl⟩
    .rw [Io.aS _ _ (by omega),Io.aS _ _ (by omega)];exact h.inj c c' q q' g3 k3 aU hr
    .rw [Io.aS _ _ (by omega),Io.aC];exact h.inj c b q k g3 hk g2 (.inr bn)
   .rcases bg h2 with ⟨k1,k2,k3⟩ | ⟨rfl,rfl⟩
    .rw [Io.aC,Io.aS _ _ (by omega)];exact h.inj b c' k q' hk k3 (Ne.symm k2) (.inl bn)
    .exact absurd rfl aU
 .obtain ⟨o1,o2,o3⟩:=We (ι b).aJ cs ((ι b).off+k.cells.length) w
  refine ⟨by rw [Qy,hlen];omega,fun c hc=>Io.aS _ _ (by omega),o1,o2,o3,Nat.le_of_eq (HN _ _ _ _).symm,fun q hq hn=>HM _ _ _ _ _ (Ne.symm (hn b k hk bn)),fun c q hq hr=>?_,fun c q hq hr=>?_⟩
  .rcases bg hq with ⟨g1,g2,g3⟩ | ⟨rfl,rfl⟩
   .exact .inr ⟨c,q,g3,hr,by rw [Io.aS _ _ (by omega)]⟩
   .exact .inr ⟨b,k,hk,bn,by rw [Io.aC]⟩
  .rcases bg hq with ⟨g1,g2,g3⟩ | ⟨rfl,rfl⟩
   .exact g3
   .simp at hr
section
variable {α β γ:Type}
theorem qX (f:α->Option β):Q1 none f=none:=rfl
theorem RY {tm v:Value} {K:Value->Option β} {r:β} (h:wG tm v K=some r):K v=some r:=by
 unfold wG at h
 split at h
 .unfold HD at h;split at h
  .split at h
   .rename_i hk;subst hk;exact h
   .simp at h
  .simp at h
 .unfold wZ at h;split at h
  .exact h
  .simp at h
 .unfold Mr at h;split at h
  .exact h
  .simp at h
 .unfold gH at h;split at h
  .exact h
  .simp at h
 .unfold Aq at h;split at h
  .exact h
  .simp at h
 .unfold e_ at h;split at h
  .exact h
  .simp at h
 .unfold Ms at h;split at h
  .exact h
  .simp at h
 .exact h
theorem Qhx {r:β}:∀ {HF vs:List Value} {K:List Value->Option β},HE HF vs K=some r->K vs=some r
 | [],vs,K,h=>by
  unfold HE JL at h
  split at h
  .exact h
  .simp at h
 | t::ts,vs,K,h=>by
  unfold HE Au at h
  split at h
  .have h1:=RY h
   exact Qhx (K:=fun l=>K (_::l)) h1
  .simp at h
theorem KS {tm v:Value} {K:Value->Option β} {r:β} (h:wH tm v K=some r):K v=some r:=by
 unfold wH at h
 split at h
 .unfold Ar at h
  split at h
  .rename_i cs;exact Qhx (K:=fun l=>K (.agg l.toArray)) h
  .simp at h
 .exact RY h
theorem Qhy {r:β}:∀ {HF vs:List Value} {K:List Value->Option β},HG HF vs K=some r->K vs=some r
 | [],vs,K,h=>by
  unfold HG JL at h
  split at h
  .exact h
  .simp at h
 | t::ts,vs,K,h=>by
  unfold HG Au at h
  split at h
  .have h1:=KS h
   exact Qhy (K:=fun l=>K (_::l)) h1
  .simp at h
theorem Qtd {tm v:Value} {K:Value->Option β} {r:β} (h:EI tm v K=some r):K v=some r:=by
 unfold EI at h
 split at h
 .unfold As at h
  split at h
  .rename_i cs;exact Qhy (K:=fun l=>K (.tuple l.toArray)) h
  .simp at h
 .exact KS h
end
structure bG (P:Program) (nt:Nat) (o:Oper) (env:Env) (v:Value):Prop where
 run:∀ (ι:Io) (D:Nat->Prop) (a:Act) (w:World),bt ι D nt env a->∃ c,(execOp a.eval o).run P w=.ok (.value c) w/\ay ι D v c
 lt:∀ D:Nat->Prop,dM D env->bK D v
section inv
variable {ι:Io} {D:Nat->Prop} {c:Value}
theorem ay.cN {b:Bool} (h:ay ι D (.bool b) c):c=.bool b:=by cases h;rfl
theorem ay.aM {k:IntKind} {n:Int} (h:ay ι D (.int k n) c):c=.int k n:=by cases h;rfl
theorem ay.bR {s:ByteArray} (h:ay ι D (.string s) c):c=.string s:=by cases h;rfl
theorem ay.dH {a:Addr} (h:ay ι D (.pointer (some a)) c):c=.pointer (some (ι.addr a))/\D a.block:=by cases h;exact ⟨rfl,by assumption⟩
theorem ay.eP {xs:Array Value} (h:ay ι D (.agg xs) c):∃ ys:Array Value,c=.agg ys/\aZ ι D xs.toList ys.toList:=by
 cases h with
 | agg xs ys hl h=>exact ⟨⟨ys⟩,rfl,hl,h⟩
theorem ay.vz {xs:Array Value} (h:ay ι D (.tuple xs) c):∃ ys:Array Value,c=.tuple ys/\aZ ι D xs.toList ys.toList:=by
 cases h with
 | tuple xs ys hl h=>exact ⟨⟨ys⟩,rfl,hl,h⟩
theorem ay.nC {f:FuncId} {xs ys:Array Value} (h:ay ι D (.func (.func f) xs ys) c):∃ (g:FuncId) (xs' oc:Array Value),(g=f\/kB g=f)/\c=.func (.func g) xs' oc/\aZ ι D xs.toList xs'.toList/\aZ ι D ys.toList oc.toList:=by
 cases h with
 | func f g hn xs ys xs' oc hl h jH h'=>exact ⟨g,⟨ys⟩,⟨oc⟩,hn,rfl,⟨hl,h⟩,⟨jH,h'⟩⟩
theorem ay.oU {a:Option Addr} {n m:Nat} (h:ay ι D (.slice a n m) c):∃ a' cap,c=.slice a' n cap/\a'.isNone=a.isNone/\n<=cap:=by
 cases h with
 | dL=>exact ⟨none,0,rfl,rfl,Zd _⟩
 | fj a len c cap h hl hc=>exact ⟨_,cap,rfl,rfl,hl⟩
 | bD a b c h=>exact ⟨_,0,rfl,rfl,Zd _⟩
end inv
theorem aZ.b_ {ι:Io} {D:Nat->Prop} {xs ys:Array Value} (h:aZ ι D xs.toList ys.toList):ay ι D (.agg xs) (.agg ys):=.agg xs.toList ys.toList h.1 h.2
theorem aZ.get {ι:Io} {D:Nat->Prop} {xs ys:List Value} (h:aZ ι D xs ys) {i:Nat} {v:Value} (hv:xs[i]? = some v):∃ c,ys[i]? = some c/\ay ι D v c:=by
 obtain ⟨hi,e⟩:=Z0 hv
 have hj:i < ys.length:=by have:=h.1;omega
 exact ⟨ys[i],Z6 hj,e▸h.2 i hi hj⟩
theorem bK.kW {D:Nat->Prop} {xs:Array Value} (h:bK D (.agg xs)):∀ v∈xs.toList,bK D v:=by
 cases h with
 | agg xs h=>intro v hv;obtain ⟨i,hi,e⟩:=List.getElem_of_mem hv;exact e▸h i hi
theorem bK.vA {D:Nat->Prop} {xs:Array Value} (h:bK D (.tuple xs)):∀ v∈xs.toList,bK D v:=by
 cases h with
 | tuple xs h=>intro v hv;obtain ⟨i,hi,e⟩:=List.getElem_of_mem hv;exact e▸h i hi
theorem bK.wV {D:Nat->Prop} {f:FuncId} {xs ys:Array Value} (h:bK D (.func (.func f) xs ys)):gT D xs.toList/\gT D ys.toList:=by
 cases h with
 | func f xs ys h h'=>exact ⟨fun v hv=>by obtain ⟨i,hi,e⟩:=List.getElem_of_mem hv;exact e▸h i hi,fun v hv=>by obtain ⟨i,hi,e⟩:=List.getElem_of_mem hv;exact e▸h' i hi⟩
theorem bK.b_ {D:Nat->Prop} {xs:Array Value} (h:∀ v∈xs.toList,bK D v):bK D (.agg xs):=.agg xs.toList fun i hi=>h _ (List.getElem_mem hi)
theorem bK.sN {D:Nat->Prop} {a:Addr} (h:bK D (.pointer (some a))):D a.block:=by cases h;assumption
theorem bK.wQ {D:Nat->Prop} {a:Addr} {n m:Nat} (h:bK D (.slice (some a) n m)):D a.block:=by cases h;assumption
section
variable {P:Program} {nt:Nat} {o:Oper} {env:Env} {H:af} {X:Cx} {β:Type} {K:Value->af->Option β} {r:β}
theorem Qqb {x:Operand} {v:Value} (ho:o.op=.move x) (hx:ev env x=some v):bG P nt o env v :=
 ⟨fun ι D a w h=>⟨a.eval x,by simp [execOp,ho],Qe h hx⟩,fun D h=>nA h hx⟩
theorem Qke {x:Operand} {v:Value} (ho:o.op=.assign x) (hx:ev env x=some v):bG P nt o env v :=
 ⟨fun ι D a w h=>⟨a.eval x,by simp [execOp,ho],Qe h hx⟩,fun D h=>nA h hx⟩
theorem ZA {c x y:Operand} {t:Bool} {v:Value} (ho:o.op=.pick c x y) (hc:ev env c=some (.bool t)) (hv:ev env (if t then x else y)=some v):bG P nt o env v:=by
 refine ⟨fun ι D a w h=>⟨a.eval (if t then x else y),?_,Qe h hv⟩,fun D h=>nA h hv⟩
 have:=(Qe h hc).cN
 cases t<;>simp [execOp,ho,this,asBool]
theorem Q9g {x:Operand} {p:Addr} (ho:o.op=.nilCheck x) (hx:ev env x=some (.pointer (some p))):bG P nt o env (.pointer (some p)):=by
 refine ⟨fun ι D a w h=>⟨a.eval x,?_,Qe h hx⟩,fun D h=>nA h hx⟩
 have:=(Qe h hx).dH.1
 simp [execOp,ho,this]
theorem Q8d {x:Operand} {f:FuncId} {xs ys:Array Value} (ho:o.op=.nilCheck x) (hx:ev env x=some (.func (.func f) xs ys)):bG P nt o env (.func (.func f) xs ys):=by
 refine ⟨fun ι D a w h=>⟨a.eval x,?_,Qe h hx⟩,fun D h=>nA h hx⟩
 obtain ⟨_,xs',oc,_,e,_⟩:=(Qe h hx).nC
 simp [execOp,ho,e]
theorem Qi0 {x:Operand} {i:Nat} {vs:Array Value} {u:Value} (ho:o.op=.extract x i) (hx:ev env x=some (.tuple vs)) (hu:vs[i]? = some u):bG P nt o env u:=by
 refine ⟨fun ι D a w h=>?_,fun D h=>(nA h hx).vA u (by rw [<- Array.getElem?_toList] at hu;exact Zc hu)⟩
 obtain ⟨ys,e,hl⟩:=(Qe h hx).vz
 rw [<- Array.getElem?_toList] at hu
 obtain ⟨c,h1,h2⟩:=hl.get hu
 rw [Array.getElem?_toList] at h1
 exact ⟨c,by simp [execOp,ho,e,Instr.extract,h1],h2⟩
theorem aZ.toArray {ι:Io} {D:Nat->Prop} {xs ys:List Value} (h:aZ ι D xs ys):aZ ι D xs.toArray.toList ys.toArray.toList:=h
theorem Qfi {f:FuncId} {first cap:Array Operand} {fs cs:List Value} (ho:o.op=.makeFunc (.func f) first cap) (h1:eX env first.toList=some fs) (h2:eX env cap.toList=some cs) :
  bG P nt o env (.func (.func (kB f)) fs.toArray cs.toArray):=by
 refine ⟨fun ι D a w h=>⟨.func (.func f) (first.map a.eval) (cap.map a.eval),by simp [execOp,ho,Instr.makeFunc],?_⟩,fun D h=>?_⟩
 .have e1:=OC h h1
  have e2:=OC h h2
  have:=ay.func (ι:=ι) (D:=D) (kB f) f (.inr rfl) fs (first.toList.map a.eval) cs (cap.toList.map a.eval) e1.1 e1.2 e2.1 e2.2
  rw [<- Array.toList_map,<- Array.toList_map] at this
  exact this
 .exact .func (kB f) fs cs (fun i hi=>OB h h1 _ (List.getElem_mem hi)) (fun i hi=>OB h h2 _ (List.getElem_mem hi))
theorem Qqc {op:UnOp} {t:TypeId} {x:Operand} {u v:Value} (ho:o.op=.unOp op t x) (hx:ev env x=some u) (hu:wI op u some=some v):bG P nt o env v:=by
 unfold wI at hu
 split at hu
 .simp at hu;subst hu
  exact ⟨fun ι D a w h=>⟨_,by simp [execOp,ho,(Qe h hx).cN,Op.unary],.bool _⟩,fun D h=>.bool _⟩
 .simp at hu;subst hu
  exact ⟨fun ι D a w h=>⟨_,by simp [execOp,ho,(Qe h hx).aM,Op.unary,Op.intArith],.int _ _⟩,fun D h=>.int _ _⟩
 .simp at hu
theorem OD {op:UnOp} {u:Value} {K:Value->Option β} {r:β} (h:wI op u K=some r):∃ v,wI op u some=some v/\K v=some r:=by
 unfold wI at h ⊢
 split at h
 .exact ⟨_,rfl,h⟩
 .exact ⟨_,rfl,h⟩
 .simp at h
end
section
variable {P:Program} {nt:Nat} {o:Oper} {env:Env} {H:af} {X:Cx} {β:Type} {K:Value->af->Option β} {r:β}
def Qqd:Value->Value->Bool
 | .nilIface,.nilIface=>false
 | .agg _,.agg _=>false
 | _,_=>true
theorem MF (op:BinOp) (t:TypeId) (x y:Operand) (a b:Value) (w:World) (h:Qqd a b=true):(eqGuard op t x y a b).run P w=.ok () w:=by
 unfold eqGuard
 cases op<;>simp<;>(split<;>simp_all [Qqd])
theorem Qqe {op:BinOp} {k:IntKind} {a b:Int} {K:Value->Option β} {r:β} (h:Mt op k a b K=some r) :
  ∃ v,K v=some r/\(∀ D,bK D v)/\(∀ ι D,ay ι D v v)/\∀ (t:TypeId) (w:World),(op≠.shl/\op≠.shr)->(binOp op t (.int k a) (.int k b)).run P w=.ok v w:=by
 unfold Mt at h
 cases op<;>simp only at h
 case add=>exact ⟨_,h,fun _=>.int _ _,fun _ _=>.int _ _,fun t w _=>by simp [binOp,Op.intArith]⟩
 case sub=>exact ⟨_,h,fun _=>.int _ _,fun _ _=>.int _ _,fun t w _=>by simp [binOp,Op.intArith]⟩
 case mul=>exact ⟨_,h,fun _=>.int _ _,fun _ _=>.int _ _,fun t w _=>by simp [binOp,Op.intArith]⟩
 case quo =>
  rcases jI h with ⟨_,h⟩ | ⟨hb,h⟩
  .simp at h
  .have hb:¬ b=0:=by simpa using hb
   exact ⟨_,h,fun _=>.int _ _,fun _ _=>.int _ _,fun t w _=>by simp [binOp,Op.intDiv,hb]⟩
 case rem =>
  rcases jI h with ⟨_,h⟩ | ⟨hb,h⟩
  .simp at h
  .have hb:¬ b=0:=by simpa using hb
   exact ⟨_,h,fun _=>.int _ _,fun _ _=>.int _ _,fun t w _=>by simp [binOp,Op.intDiv,hb]⟩
 case and=>exact ⟨_,h,fun _=>.int _ _,fun _ _=>.int _ _,fun t w _=>by simp [binOp,Op.intBits]⟩
 case or=>exact ⟨_,h,fun _=>.int _ _,fun _ _=>.int _ _,fun t w _=>by simp [binOp,Op.intBits]⟩
 case xor=>exact ⟨_,h,fun _=>.int _ _,fun _ _=>.int _ _,fun t w _=>by simp [binOp,Op.intBits]⟩
 case shl=>simp at h
 case shr=>simp at h
 case andNot=>exact ⟨_,h,fun _=>.int _ _,fun _ _=>.int _ _,fun t w _=>by simp [binOp,Op.intBits]⟩
 case eql=>exact ⟨_,h,fun _=>.bool _,fun _ _=>.bool _,fun t w _=>by simp [binOp,Op.intCmp]⟩
 case neq=>exact ⟨_,h,fun _=>.bool _,fun _ _=>.bool _,fun t w _=>by simp [binOp,Op.intCmp]⟩
 case lss=>exact ⟨_,h,fun _=>.bool _,fun _ _=>.bool _,fun t w _=>by simp [binOp,Op.intCmp]⟩
 case leq=>exact ⟨_,h,fun _=>.bool _,fun _ _=>.bool _,fun t w _=>by simp [binOp,Op.intCmp]⟩
 case gtr=>exact ⟨_,h,fun _=>.bool _,fun _ _=>.bool _,fun t w _=>by simp [binOp,Op.intCmp]⟩
 case geq=>exact ⟨_,h,fun _=>.bool _,fun _ _=>.bool _,fun t w _=>by simp [binOp,Op.intCmp]⟩
theorem Qbn {op:BinOp} {k k':IntKind} {a b:Int} {K:Value->Option β} {r:β} (h:JN op k a b K=some r) :
  ∃ v,K v=some r/\(∀ D,bK D v)/\(∀ ι D,ay ι D v v)/\∀ (t:TypeId) (w:World),(binOp op t (.int k a) (.int k' b)).run P w=.ok v w:=by
 unfold JN at h
 rcases jI h with ⟨_,h⟩ | ⟨hb,h⟩
 .simp at h
 .have hb:¬ b < 0:=by simpa using hb
  cases op<;>simp only at h<;>try (simp at h;done)
  case shl=>exact ⟨_,h,fun _=>.int _ _,fun _ _=>.int _ _,fun t w=>by simp [binOp,Op.shift,hb]⟩
  case shr=>exact ⟨_,h,fun _=>.int _ _,fun _ _=>.int _ _,fun t w=>by simp [binOp,Op.shift,hb]⟩
theorem Qqf {op:BinOp} {a b:ByteArray} {K:Value->Option β} {r:β} (h:Mu op a b K=some r) :
  ∃ v,K v=some r/\(∀ D,bK D v)/\(∀ ι D,ay ι D v v)/\∀ (t:TypeId) (w:World),(binOp op t (.string a) (.string b)).run P w=.ok v w:=by
 unfold Mu at h
 cases op<;>simp only at h<;>try (simp at h;done)
 case add =>
  rcases jI h with ⟨hb,h⟩ | ⟨_,h⟩
  .have hb:=Zi hb
   refine ⟨_,h,fun _=>.str _,fun _ _=>.str _,fun t w=>?_⟩
   simp [binOp,Op.stringOp]
   omega
  .simp at h
 case eql=>exact ⟨_,h,fun _=>.bool _,fun _ _=>.bool _,fun t w=>by simp [binOp,Op.stringOp]⟩
 case neq=>exact ⟨_,h,fun _=>.bool _,fun _ _=>.bool _,fun t w=>by simp [binOp,Op.stringOp]⟩
 case lss=>exact ⟨_,h,fun _=>.bool _,fun _ _=>.bool _,fun t w=>by simp [binOp,Op.stringOp]⟩
 case leq=>exact ⟨_,h,fun _=>.bool _,fun _ _=>.bool _,fun t w=>by simp [binOp,Op.stringOp]⟩
 case gtr=>exact ⟨_,h,fun _=>.bool _,fun _ _=>.bool _,fun t w=>by simp [binOp,Op.stringOp]⟩
 case geq=>exact ⟨_,h,fun _=>.bool _,fun _ _=>.bool _,fun t w=>by simp [binOp,Op.stringOp]⟩
theorem PO {op:BinOp} {q:Bool} {K:Value->Option β} {r:β} (h:vq op q K=some r) :
  ∃ b,K (.bool b)=some r/\((op=.eql/\b=q)\/(op=.neq/\b = !q)):=by
 unfold vq at h
 cases op<;>simp only at h<;>try (simp at h;done)
 case eql=>exact ⟨_,h,.inl ⟨rfl,rfl⟩⟩
 case neq=>exact ⟨_,h,.inr ⟨rfl,rfl⟩⟩
theorem EO {t:TypeId} {cs:Array Value} {off:Nat} {v:Value} (h:gI P t cs off=some v) (w:World):(part t cs off).run P w=.ok v w:=by
 unfold gI at h
 obtain ⟨i,hi,h⟩:=Q2 h
 split at h
 .rename_i hu;simp at h;subst h
  simp [part,isAgg,run_underlying hu,sizeOf,typeInfo,hi]
 .rename_i hu;simp at h;subst h
  simp [part,isAgg,run_underlying hu,sizeOf,typeInfo,hi]
 .rename_i d h1 h2 hu
  have:(isAgg t).run P w=.ok false w:=by
   simp only [isAgg,Sem.run_bind,run_underlying hu,Result.andThen_ok]
   cases d<;>simp_all
  simp [part,this,h]
 .simp at h
inductive Flat:Value->Prop
 | bool (b:Bool):Flat (.bool b)
 | int (k:IntKind) (n:Int):Flat (.int k n)
 | str (s:ByteArray):Flat (.string s)
theorem Qqg:∀ (d e:Nat) {t:TypeId} {x y:Value} {q:Bool},sM P d t x y=some q->∀ w:World,(Op.equalIn (d+e) t x y).run P w=.ok q w
 | 0,e,t,x,y,q,h,w=>by simp [sM] at h
 | d+1,e,t,x,y,q,h,w=>by
  rw [show d+1+e=(d+e)+1 by omega]
  unfold sM at h
  split at h
  .rename_i hu;simp at h;subst h;exact run_equalIn_bool w _ t _ _ hu
  .rename_i hu
   split at h
   .rename_i hk;subst hk;simp at h;subst h;exact run_equalIn_int w _ t _ _ _ _ hu
   .simp at h
  .rename_i hu;simp at h;subst h;exact run_equalIn_string w _ t _ _ hu
  .rename_i fs xs ys hu
   split at h
   .rename_i eR
    have hf:P.fieldsOf t=fs:=by simp [Program.fieldsOf,hu]
    rw [run_equalIn_struct w (d+e) t xs ys (by rw [hf];exact hu) eR,hf]
    generalize fs.toList=l at h
    clear hu hf
    induction l generalizing q with
    | nil=>simp [JM] at h;subst h;simp [Op.eqFields]
    | cons f fs ih =>
     unfold JM at h
     split at h
     .simp at h
     .rename_i hn
      obtain ⟨a,ha,h⟩:=Q2 h
      obtain ⟨b,hb,h⟩:=Q2 h
      obtain ⟨c,hc,h⟩:=Q2 h
      obtain ⟨s,hs,h⟩:=Q2 h
      simp at h;subst h
      have HL:=ih _ hs
      have he:=Qqg d e hc w
      simp only [Op.eqFields,ne_eq,hn,not_false_eq_true,if_true,Sem.run_bind,EO ha,EO hb,Result.andThen_ok,he]
      cases c
      .simp
      .simp [HL]
   .simp at h
  .simp at h
theorem Qm8:∀ (d:Nat) {t:TypeId} {x y:Value} {q:Bool},sM P d t x y=some q->∀ {ι:Io} {D:Nat->Prop} {x' y':Value},ay ι D x x'->ay ι D y y'->sM P d t x' y'=some q
 | 0,t,x,y,q,h,_,_,_,_,_,_=>by simp [sM] at h
 | d+1,t,x,y,q,h,ι,D,x',y',hx,hy=>by
  unfold sM at h
  split at h
  .rename_i hu;rw [hx.cN,hy.cN];simp [sM,hu];simpa using h
  .rename_i hu;rw [hx.aM,hy.aM];simp only [sM,hu];exact h
  .rename_i hu;rw [hx.bR,hy.bR];simp only [sM,hu];exact h
  .rename_i fs xs ys hu
   obtain ⟨xs',rfl,PR⟩:=hx.eP
   obtain ⟨oc,rfl,hys⟩:=hy.eP
   unfold sM
   simp only [hu]
   cases eR:P.stoodInHeld t with
   | true=>rw [eR] at h;simp at h
   | false =>
    rw [eR] at h
    simp only at h ⊢
    have EP:∀ (f:Field) (zs PS:Array Value) (v:Value),aZ ι D zs.toList PS.toList->gI P f.type zs f.offset=some v->∃ v',gI P f.type PS f.offset=some v'/\ay ι D v v':=by
     intro f zs PS v hz hp
     unfold gI at hp ⊢
     obtain ⟨i,hi,hp⟩:=Q2 hp
     rw [hi];simp only [Q1]
     have hex:aZ ι D (zs.extract f.offset (f.offset+i.size)).toList (PS.extract f.offset (f.offset+i.size)).toList:=by
      simp only [Array.toList_extract,List.extract]
      refine ⟨by simp [hz.1],fun j h1 h2=>?_⟩
      simp only [List.getElem_take,List.getElem_drop]
      exact hz.2 _ _ _
     split at hp
     .simp at hp;subst hp;exact ⟨_,rfl,hex.b_⟩
     .simp at hp;subst hp;exact ⟨_,rfl,hex.b_⟩
     .rw [<- Array.getElem?_toList] at hp ⊢
      exact hz.get hp
     .simp at hp
    generalize fs.toList=l at h
    induction l generalizing q with
    | nil=>simpa [JM] using h
    | cons f fs ih =>
     unfold JM at h ⊢
     split at h
     .simp at h
     .rename_i hn
      rw [if_neg hn]
      obtain ⟨a,ha,h⟩:=Q2 h
      obtain ⟨b,hb,h⟩:=Q2 h
      obtain ⟨c,hc,h⟩:=Q2 h
      obtain ⟨s,hs,h⟩:=Q2 h
      obtain ⟨a',ha',ra⟩:=EP f xs xs' a PR ha
      obtain ⟨b',gU,rb⟩:=EP f ys oc b hys hb
      rw [ha',gU];simp only [Q1]
      rw [Qm8 d hc ra rb,ih _ hs]
      exact h
  .simp at h
theorem Q9h (w:World) (d:Nat) {t e:TypeId} (hu:P.underlying t=some (.slice e)) (a:Option Addr) (n m n' m':Nat):(Op.equalIn (d+1) t (.slice a n m) (.slice none n' m')).run P w=.ok a.isNone w:=by
 cases a<;>simp [Op.equalIn,run_underlying hu]
theorem Q8e (w:World) (d:Nat) {t e:TypeId} (hu:P.underlying t=some (.pointer e)) (a:Option Addr):(Op.equalIn (d+1) t (.pointer a) (.pointer none)).run P w=.ok a.isNone w:=by
 cases a<;>simp [Op.equalIn,run_underlying hu]
theorem Qqh {op:BinOp} {t t':TypeId} {x y:Operand} {u v:Value} {K:Value->Option β} {r:β} (ho:o.op=.binOp op t x y t') (hx:ev env x=some u) (hy:ev env y=some v) (h:Av P op t u v K=some r) :
  ∃ z,K z=some r/\bG P nt o env z:=by
 have hex:∀ (a:Act) (w:World) (z:Value),(eqGuard op t x y (a.eval x) (a.eval y)).run P w=.ok () w->(binOp op t (a.eval x) (a.eval y)).run P w=.ok z w->(execOp a.eval o).run P w=.ok (.value z) w:=by
  intro a w z h1 h2;simp [execOp,ho,h1,h2]
 unfold Av at h
 split at h
 .rename_i k a k' b
  have hg:∀ (c:Act) (w:World),c.eval x=.int k a->c.eval y=.int k' b->(eqGuard op t x y (c.eval x) (c.eval y)).run P w=.ok () w:=fun c w e1 e2=>by rw [e1,e2];exact MF _ _ _ _ _ _ _ rfl
  split at h
  .obtain ⟨z,h1,h2,h3,h4⟩:=Qbn (P:=P) (k':=k') h
   exact ⟨z,h1,fun ι D c w he=>⟨z,hex c w z (hg c w (Qe he hx).aM (Qe he hy).aM) (by rw [(Qe he hx).aM,(Qe he hy).aM];exact h4 t w),h3 ι D⟩,fun D _=>h2 D⟩
  .obtain ⟨z,h1,h2,h3,h4⟩:=Qbn (P:=P) (k':=k') h
   exact ⟨z,h1,fun ι D c w he=>⟨z,hex c w z (hg c w (Qe he hx).aM (Qe he hy).aM) (by rw [(Qe he hx).aM,(Qe he hy).aM];exact h4 t w),h3 ι D⟩,fun D _=>h2 D⟩
  .rename_i n1 n2
   split at h
   .rename_i hk;subst hk
    obtain ⟨z,h1,h2,h3,h4⟩:=Qqe (P:=P) h
    exact ⟨z,h1,fun ι D c w he=>⟨z,hex c w z (hg c w (Qe he hx).aM (Qe he hy).aM) (by rw [(Qe he hx).aM,(Qe he hy).aM];exact h4 t w ⟨fun e=>n1 e,fun e=>n2 e⟩),h3 ι D⟩,fun D _=>h2 D⟩
   .simp at h
 .obtain ⟨z,h1,h2,h3,h4⟩:=Qqf (P:=P) h
  exact ⟨z,h1,fun ι D c w he=>⟨z,hex c w z (by rw [(Qe he hx).bR,(Qe he hy).bR];exact MF _ _ _ _ _ _ _ rfl) (by rw [(Qe he hx).bR,(Qe he hy).bR];exact h4 t w),h3 ι D⟩,fun D _=>h2 D⟩
 .split at h
  .rename_i hu
   obtain ⟨b,h1,h2⟩:=PO h
   refine ⟨_,h1,fun ι D c w he=>⟨_,hex c w _ (by rw [(Qe he hx).cN,(Qe he hy).cN];exact MF _ _ _ _ _ _ _ rfl) ?_,.bool _⟩,fun D _=>.bool _⟩
   rw [(Qe he hx).cN,(Qe he hy).cN]
   rcases h2 with ⟨rfl,rfl⟩ | ⟨rfl,rfl⟩
   .exact run_eql_bool w t _ _ hu
   .exact run_neq_bool w t _ _ hu
  .simp at h
 .rename_i xs ys
  split at h
  .rename_i PT
   obtain ⟨q,hq,h⟩:=Q2 h
   obtain ⟨b,h1,h2⟩:=PO h
   refine ⟨_,h1,fun ι D c w he=>?_,fun D _=>.bool _⟩
   have EE:=Qm8 20 hq (Qe he hx) (Qe he hy)
   obtain ⟨xs',e1,_⟩:=(Qe he hx).eP
   obtain ⟨oc,e2,_⟩:=(Qe he hy).eP
   have hr:=Qqg (P:=P) 20 9980 EE w
   refine ⟨_,hex c w _ (by rw [e1,e2];exact run_eqGuard_agg w op t x y xs' oc PT) ?_,.bool _⟩
   rw [e1,e2] at hr ⊢
   rcases h2 with ⟨rfl,rfl⟩ | ⟨rfl,rfl⟩
   .rw [run_eql_struct,hr];rfl
   .rw [run_neq_struct,hr];rfl
  .simp at h
 .rename_i a n m n' m'
  split at h
  .rename_i e hu
   obtain ⟨b,h1,h2⟩:=PO h
   refine ⟨_,h1,fun ι D c w he=>?_,fun D _=>.bool _⟩
   obtain ⟨a1,c1,e1,i1,_⟩:=(Qe he hx).oU
   obtain ⟨a2,c2,e2,i2,_⟩:=(Qe he hy).oU
   have i2':a2=none:=by simpa using i2
   subst i2'
   refine ⟨_,hex c w _ (by rw [e1,e2];exact MF _ _ _ _ _ _ _ rfl) ?_,.bool _⟩
   have hq:(Op.equal t (.slice a1 n c1) (.slice none n' c2)).run P w=.ok a1.isNone w:=Q9h w 9999 hu a1 n c1 n' c2
   rw [e1,e2]
   rcases h2 with ⟨rfl,rfl⟩ | ⟨rfl,rfl⟩<;>simp only [binOp]<;>simp [hq,i1]
  .simp at h
 .rename_i a
  split at h
  .rename_i e hu
   obtain ⟨b,h1,h2⟩:=PO h
   refine ⟨_,h1,fun ι D c w he=>?_,fun D _=>.bool _⟩
   have e2:c.eval y=.pointer none:=by
    have:=Qe he hy
    cases hq:c.eval y<;>rw [hq] at this<;>cases this;rfl
   have e1:∃ a',c.eval x=.pointer a'/\a'.isNone=a.isNone:=by
    have:=Qe he hx
    cases a with
    | none=>cases hq:c.eval x<;>rw [hq] at this<;>cases this;exact ⟨none,rfl,rfl⟩
    | some p=>exact ⟨_,this.dH.1,rfl⟩
   obtain ⟨a',e1,i1⟩:=e1
   refine ⟨_,hex c w _ (by rw [e1,e2];exact MF _ _ _ _ _ _ _ rfl) ?_,.bool _⟩
   have hq:(Op.equal t (.pointer a') (.pointer none)).run P w=.ok a'.isNone w:=Q8e w 9999 hu a'
   rw [e1,e2]
   rcases h2 with ⟨rfl,rfl⟩ | ⟨rfl,rfl⟩<;>simp only [binOp]<;>simp [hq,i1]
  .simp at h
 .simp at h
theorem RZ {v:Value} {K:Nat->Option β} {r:β} (h:wJ v K=some r):∃ n:Nat,v=.int .i64 (n:Int)/\K n=some r:=by
 unfold wJ at h
 split at h
 .rename_i n
  rcases jI h with ⟨hn,h⟩ | ⟨_,h⟩
  .have hn:0<=n:=by simpa using hn
   exact ⟨n.toNat,by rw [Int.toNat_of_nonneg hn],h⟩
  .simp at h
 .simp at h
theorem OH {v:Value} {K:Nat->Option β} {r:β} (h:EJ v K=some r):∃ (kd:IntKind) (n:Nat),v=.int kd (n:Int)/\K n=some r:=by
 unfold EJ at h
 split at h
 .rename_i kd n
  rcases jI h with ⟨hn,h⟩ | ⟨_,h⟩
  .have hn:0<=n:=by simpa using hn
   exact ⟨kd,n.toNat,by rw [Int.toNat_of_nonneg hn],h⟩
  .simp at h
 .simp at h
theorem I3 {v:Value} {K:Addr->Option β} {r:β} (h:e_ v K=some r):∃ p,v=.pointer (some p)/\K p=some r:=by
 unfold e_ at h;split at h
 .exact ⟨_,rfl,h⟩
 .simp at h
theorem Zz {v:Value} {K:Addr->Nat->Nat->Option β} {r:β} (h:wF v K=some r):∃ p n c,v=.slice (some p) n c/\K p n c=some r:=by
 unfold wF at h;split at h
 .exact ⟨_,_,_,rfl,h⟩
 .simp at h
theorem Zv {v:Value} {K:Option Addr->Nat->Nat->Option β} {r:β} (h:gH v K=some r):∃ a n c,v=.slice a n c/\K a n c=some r:=by
 unfold gH at h;split at h
 .exact ⟨_,_,_,rfl,h⟩
 .simp at h
theorem OE {x:Option Operand} {d:Nat} {K:Nat->Option β} {r:β} (h:mL env x d K=some r) :
  ∃ n,K n=some r/\((x=none/\n=d)\/∃ y,x=some y/\ev env y=some (.int .i64 (n:Int))):=by
 unfold mL at h
 split at h
 .exact ⟨d,h,.inl ⟨rfl,rfl⟩⟩
 .rename_i y
  obtain ⟨v,hv,h⟩:=Q2 h
  obtain ⟨n,rfl,h⟩:=RZ h
  exact ⟨n,h,.inr ⟨y,rfl,hv⟩⟩
theorem Qd1 {s:TypeId} {x:Operand} {f:Nat} {p:Addr} {fs:Array Field} {fd:Field} {i:TypeInfo} (ho:o.op=.fieldAddr s x f) (hx:ev env x=some (.pointer (some p))) (hs:P.underlying s=some (.struct fs)) (hf:fs[f]? = some fd)
  (hi:P.info? fd.type=some i) (hz:Nat.beq i.size 0=false):bG P nt o env (.pointer (some ⟨p.block,p.off+fd.offset,none⟩)):=by
 refine ⟨fun ι D a w h=>?_,fun D h=>.ptr _ (nA h hx).sN⟩
 obtain ⟨e,hD⟩:=(Qe h hx).dH
 refine ⟨.pointer (some (ι.addr ⟨p.block,p.off+fd.offset,none⟩)),?_,.ptr _ hD⟩
 have aX:i.size≠0:=Nat.ne_of_beq_eq_false hz
 have ha:(ι.addr p).add fd.offset=ι.addr ⟨p.block,p.off+fd.offset,none⟩:=by
  rw [KB];simp only [Io.addr,Nat.add_assoc]
 simp [execOp,ho,e,Instr.fieldAt,Instr.sureAddr,run_underlying hs,hf,fieldPlace,sizeOf,typeInfo,hi,aX,ha]
theorem Qnr {t:TypeId} {x:Operand} {f:Nat} {cs:Array Value} {fs:Array Field} {fd:Field} {u:Value} (ho:o.op=.field t x f) (hx:ev env x=some (.agg cs)) (hs:P.underlying t=some (.struct fs)) (hf:fs[f]? = some fd)
  (hu:gI P fd.type cs fd.offset=some u):bG P nt o env u:=by
 have key:∀ (R:Value->Prop) (Q:Array Value->Prop),True:=fun _ _=>trivial
 unfold gI at hu
 obtain ⟨i,hi,hu⟩:=Q2 hu
 refine ⟨fun ι D a w h=>?_,fun D h=>?_⟩
 .obtain ⟨ys,e,hl⟩:=(Qe h hx).eP
  have hex:aZ ι D (cs.extract fd.offset (fd.offset+i.size)).toList (ys.extract fd.offset (fd.offset+i.size)).toList:=by
   simp only [Array.toList_extract,List.extract]
   refine ⟨by simp [hl.1],fun j h1 h2=>?_⟩
   simp only [List.getElem_take,List.getElem_drop]
   exact hl.2 _ _ _
  have aT:∀ c,(part fd.type ys fd.offset).run P w=.ok c w->(execOp a.eval o).run P w=.ok (.value c) w:=by
   intro c hc;simp [execOp,ho,e,Instr.field,run_underlying hs,hf,asAgg,hc]
  split at hu
  .rename_i dB;simp at hu;subst hu
   exact ⟨_,aT _ (EO (by unfold gI;rw [hi];simp only [Q1,dB]) w),hex.b_⟩
  .rename_i dB;simp at hu;subst hu
   exact ⟨_,aT _ (EO (by unfold gI;rw [hi];simp only [Q1,dB]) w),hex.b_⟩
  .rename_i d n1 n2 dB
   rw [<- Array.getElem?_toList] at hu
   obtain ⟨c,h1,h2⟩:=hl.get hu
   refine ⟨c,aT _ (EO ?_ w),h2⟩
   unfold gI;rw [hi];simp only [Q1,dB]
   rw [Array.getElem?_toList] at h1
   exact h1
  .simp at hu
 .have hm:=(nA h hx).kW
  have hex:∀ v∈(cs.extract fd.offset (fd.offset+i.size)).toList,bK D v:=by
   intro v hv
   simp only [Array.toList_extract,List.extract] at hv
   exact hm v (List.mem_of_mem_drop (List.mem_of_mem_take hv))
  split at hu
  .simp at hu;subst hu;exact bK.b_ hex
  .simp at hu;subst hu;exact bK.b_ hex
  .rw [<- Array.getElem?_toList] at hu;exact hm u (Zc hu)
  .simp at hu
theorem ay.CU {ι:Io} {D:Nat->Prop} {p:Addr} {n m:Nat} {c:Value} (h:ay ι D (.slice (some p) n m) c) (hn:0 < n) :
  ∃ cap,c=.slice (some (ι.addr p)) n cap/\D p.block/\n<=cap/\(ι p.block).off+p.off+cap*m<=(ι p.block).size:=by
 cases h with
 | fj a len c cap h hl hc=>exact ⟨cap,rfl,h,hl,hc⟩
 | bD a b c h=>omega
theorem Qd2 {t e:TypeId} {x ix:Operand} {p:Addr} {n m k:Nat} {kd:IntKind} {i:TypeInfo} (ho:o.op=.indexAddr t x ix) (hx:ev env x=some (.slice (some p) n m)) (BI:ev env ix=some (.int kd (k:Int))) (hu:P.underlying t=some (.slice e))
  (hi:P.info? e=some i) (hk:k < n):bG P nt o env (.pointer (some ⟨p.block,p.off+k*i.size,none⟩)):=by
 refine ⟨fun ι D a w h=>?_,fun D h=>.ptr _ (nA h hx).wQ⟩
 obtain ⟨cap,ex,hD,hl,hc⟩:=(Qe h hx).CU (by omega)
 have HO:=(Qe h BI).aM
 refine ⟨.pointer (some (ι.addr ⟨p.block,p.off+k*i.size,none⟩)),?_,.ptr _ hD⟩
 have ha:(ι.addr p).add (k*i.size)=ι.addr ⟨p.block,p.off+k*i.size,none⟩:=by
  rw [KB];simp only [Io.addr,Nat.add_assoc]
 have h0:(0:Int)<=(k:Int)/\(k:Int) < (n:Int):=⟨by omega,by omega⟩
 have aT:(Instr.indexAt t (.slice (some (ι.addr p)) n cap) (.int kd (k:Int))).run P w=.ok (.pointer (some ((ι.addr p).add (k*i.size)))) w:=by
  simp only [Instr.indexAt,asIntOf,Sem.run_bind,Sem.run_pure,Result.andThen_ok,run_underlying hu,Bool.and_false]
  rw [if_pos h0]
  simp [sizeOf,typeInfo,hi]
 rw [ha] at aT
 simp only [execOp,ho,ex,HO,Sem.run_bind,aT,Result.andThen_ok,Sem.run_pure]
theorem Qfk {t e:TypeId} {x ix:Operand} {p:Addr} {n k:Nat} {kd:IntKind} {i:TypeInfo} (ho:o.op=.indexAddr t x ix) (hx:ev env x=some (.pointer (some p))) (BI:ev env ix=some (.int kd (k:Int))) (hu:P.underlying t=some (.array n e))
  (hi:P.info? e=some i) (hk:k < n):bG P nt o env (.pointer (some ⟨p.block,p.off+k*i.size,none⟩)):=by
 refine ⟨fun ι D a w h=>?_,fun D h=>.ptr _ (nA h hx).sN⟩
 obtain ⟨ex,hD⟩:=(Qe h hx).dH
 have HO:=(Qe h BI).aM
 refine ⟨.pointer (some (ι.addr ⟨p.block,p.off+k*i.size,none⟩)),?_,.ptr _ hD⟩
 have ha:(ι.addr p).add (k*i.size)=ι.addr ⟨p.block,p.off+k*i.size,none⟩:=by
  rw [KB];simp only [Io.addr,Nat.add_assoc]
 have h0:(0:Int)<=(k:Int)/\(k:Int) < (n:Int):=⟨by omega,by omega⟩
 have aT:(Instr.indexAt t (.pointer (some (ι.addr p))) (.int kd (k:Int))).run P w=.ok (.pointer (some ((ι.addr p).add (k*i.size)))) w:=by
  simp only [Instr.indexAt,asIntOf,Instr.sureAddr,Sem.run_bind,Sem.run_pure,Result.andThen_ok,run_underlying hu]
  rw [if_pos h0]
  simp [sizeOf,typeInfo,hi]
 rw [ha] at aT
 simp only [execOp,ho,ex,HO,Sem.run_bind,aT,Result.andThen_ok,Sem.run_pure]
theorem Qfl {t e:TypeId} {x ix:Operand} {cs:Array Value} {n k:Nat} {kd:IntKind} {i:TypeInfo} {u:Value} (ho:o.op=.index t x ix) (hx:ev env x=some (.agg cs)) (BI:ev env ix=some (.int kd (k:Int))) (hs:P.underlying t=some (.array n e))
  (eW:P.info? e=some i) (hk:k < n) (hu:gI P e cs (k*i.size)=some u):bG P nt o env u:=by
 unfold gI at hu
 obtain ⟨i2,hi,hu⟩:=Q2 hu
 rw [eW] at hi;injection hi with hi;subst hi
 refine ⟨fun ι D a w h=>?_,fun D h=>?_⟩
 .obtain ⟨ys,ex,hl⟩:=(Qe h hx).eP
  have HO:=(Qe h BI).aM
  have hex:aZ ι D (cs.extract (k*i.size) (k*i.size+i.size)).toList (ys.extract (k*i.size) (k*i.size+i.size)).toList:=by
   simp only [Array.toList_extract,List.extract]
   refine ⟨by simp [hl.1],fun j h1 h2=>?_⟩
   simp only [List.getElem_take,List.getElem_drop]
   exact hl.2 _ _ _
  have h0:(0:Int)<=(k:Int)/\(k:Int) < (n:Int):=⟨by omega,by omega⟩
  have aT:∀ c,(part e ys (k*i.size)).run P w=.ok c w->(execOp a.eval o).run P w=.ok (.value c) w:=by
   intro c hc
   have dR:(Instr.index t (.agg ys) (.int kd (k:Int))).run P w=.ok c w:=by
    simp only [Instr.index,asIntOf,Sem.run_bind,Sem.run_pure,Result.andThen_ok,run_underlying hs]
    rw [if_pos h0]
    simp [sizeOf,typeInfo,eW,hc]
   simp only [execOp,ho,ex,HO,Sem.run_bind,dR,Result.andThen_ok,Sem.run_pure]
  split at hu
  .rename_i dB;simp at hu;subst hu
   exact ⟨_,aT _ (EO (by unfold gI;rw [eW];simp only [Q1,dB]) w),hex.b_⟩
  .rename_i dB;simp at hu;subst hu
   exact ⟨_,aT _ (EO (by unfold gI;rw [eW];simp only [Q1,dB]) w),hex.b_⟩
  .rename_i d n1 n2 dB
   rw [<- Array.getElem?_toList] at hu
   obtain ⟨c,h1,h2⟩:=hl.get hu
   refine ⟨c,aT _ (EO ?_ w),h2⟩
   unfold gI;rw [eW];simp only [Q1,dB]
   rw [Array.getElem?_toList] at h1
   exact h1
  .simp at hu
 .have hm:=(nA h hx).kW
  have hex:∀ v∈(cs.extract (k*i.size) (k*i.size+i.size)).toList,bK D v:=by
   intro v hv
   simp only [Array.toList_extract,List.extract] at hv
   exact hm v (List.mem_of_mem_drop (List.mem_of_mem_take hv))
  split at hu
  .simp at hu;subst hu;exact bK.b_ hex
  .simp at hu;subst hu;exact bK.b_ hex
  .rw [<- Array.getElem?_toList] at hu;exact hm u (Zc hu)
  .simp at hu
theorem Qns {t:TypeId} {x ix:Operand} {s:ByteArray} {k:Nat} {kd:IntKind} {b:UInt8} (ho:o.op=.index t x ix) (hx:ev env x=some (.string s)) (BI:ev env ix=some (.int kd (k:Int))) (hu:P.underlying t=some .string)
  (hb:s.data.toList[k]? = some b):bG P nt o env (.int .u8 b.toNat):=by
 refine ⟨fun ι D a w h=>⟨_,?_,.int _ _⟩,fun D h=>.int _ _⟩
 have ex:=(Qe h hx).bR
 have HO:=(Qe h BI).aM
 have gU:s[k]? = some b:=by
  rw [Array.getElem?_toList] at hb
  obtain ⟨h1,h2⟩:=Array.getElem?_eq_some_iff.1 hb
  rw [getElem?_pos s k (show k < s.data.size from h1)]
  simp only [Option.some.injEq]
  exact h2
 simp [execOp,ho,ex,HO,Instr.index,asIntOf,run_underlying hu,gU]
end
end Go.Ev
