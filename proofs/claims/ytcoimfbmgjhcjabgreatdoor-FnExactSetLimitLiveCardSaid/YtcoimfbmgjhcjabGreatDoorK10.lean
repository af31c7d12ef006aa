/-
  What the cursor's functions and the small ones give by value. And what stood behind it in 9 texts.
  Conditions: said at the theorems.
-/
import Derived.Test.YtcoimfbmgjhcjabGreatDoorFnExactSetLimitLiveRes
import Derived.Test.YtcoimfbmgjhcjabGreatDoorRepW
import Derived.Laws.Strings
set_option linter.all false
namespace Go.Proofs.YtcoimfbmgjhcjabGreatDoor
open Go.Ev Go.Pv
theorem vQ {d:Nat} {x y z:Int}:je (d+1) x y z=some (decide (y<=x/\x<=z)):=by
 rw [e55];simp only [uQ];congr 1;rw [Bool.eq_iff_iff];simp
theorem Qos {d:Nat} {x y:Int}:BW (d+1) x y=some (min x y):=by
 rw [SW];simp only [uQ];congr 1;split<;>simp_all<;>omega
def bl (s:ByteArray):List UInt8:=s.data.toList
theorem ZK (s:ByteArray):s.size=(bl s).length:=rfl
theorem Qyu (l:List UInt8):bl ⟨l.toArray⟩=l:=by simp [bl]
theorem ON (a b:ByteArray):(a.toList==b.toList)=decide (bl a=bl b):=by
 rw [ByteArray.toList_eq,ByteArray.toList_eq]
 by_cases h:bl a=bl b
 .rw [Z5 h];simpa [bl] using h
 .rw [Z4 h];simpa [bl] using h
theorem Lj {a b:Nat} (h:a<=b):Nat.ble a b=true:=by rw [Nat.ble_eq];exact h
theorem Qw5 {α:Type} {a b n:Nat} {x y:Option α} (h1:a<=b) (h2:b<=n):aa (Nat.ble a b&&Nat.ble b n) x y=x:=by rw [Lj h1,Lj h2];rfl
theorem ZL {α:Type} {a b:Nat} {x y:Option α} (h:a+b<=9223372036854775807):aa (Nat.ble (a+b) 9223372036854775807) x y=x:=by rw [Lj h];rfl
theorem OO {α τ:Type} {p:α->Bool}:∀ (l:List α) (i:Nat) (t:τ),ef (fun x _ t k=>aa (p x) (some true) (k t)) (fun _=>some false) l i t=some (l.any p)
 | [],i,t=>rfl
 | x::r,i,t=>by
  simp only [ef,List.any_cons]
  cases p x with
  | true=>rfl
  | false=>exact OO r (i+1) t
def KW:List ByteArray:=[(⟨#[113,100,105,115,99]⟩:ByteArray),(⟨#[100,101,102,97,117,108,116]⟩:ByteArray),(⟨#[99,108,97,115,115]⟩:ByteArray),(⟨#[114,97,116,101]⟩:ByteArray),(⟨#[99,101,105,108]⟩:ByteArray),(⟨#[98,117,114,115,116]⟩:ByteArray),(⟨#[99,98,117,114,115,116]⟩:ByteArray),(⟨#[112,114,105,111]⟩:ByteArray),(⟨#[108,105,109,105,116]⟩:ByteArray),(⟨#[102,105,108,116,101,114]⟩:ByteArray),(⟨#[115,111,117,114,99,101]⟩:ByteArray),(⟨#[100,101,115,116]⟩:ByteArray),(⟨#[112,111,114,116]⟩:ByteArray),(⟨#[109,97,114,107]⟩:ByteArray)]
def sm (c:UInt8):Bool:=decide (97<=c.toNat/\c.toNat<=122)
theorem Qou {d:Nat} {c:UInt8}:FO (d+1) (c.toNat:Int)=some (sm c):=by
 rw [S8];unfold sm;simp only [uQ];congr 1;rw [Bool.eq_iff_iff];simp;omega
def Ll (s:ByteArray):Bool:=KW.any fun w=>decide (bl w=bl s)
theorem Qw6 {d:Nat} {s:ByteArray}:FQ (d+1) s=some (Ll s):=by
 rw [S9]
 refine (Qc (fun (t:Bool) (i:Int)=>(t,i)) KW (fun w _ t k=>aa (decide (bl w=bl s)) (some true) (k t)) (fun _=>some false) ?_ ?_ (by rw [Q6];decide) false).trans (OO KW 0 _)
 .intro ag t i x hx
  have hi:=(Z0 hx).1
  have h14:KW.length=14:=rfl
  simp only [pN]
  change aa (decide ((i:Int) < 14)) (aa (decide (0<=(i:Int))) (Q1 (KW[(i:Int).toNat]?) _) none) _=_
  rw [Z5 (show (i:Int) < 14 by omega),Q4,nn,Q4,Q3,hx,Q8,ON,aN (by omega)]
 .intro ag t
  simp only [pN]
  rw [Z4 (show ¬ ((KW.length:Nat):Int) < 14 by decide),Q5];rfl
theorem Qsc {d:Nat} {s:ByteArray}:Fw (d+2) s=some (Ll s):=by
 rw [Sx,Sw,Q8,Sv]
 have:∀ X:Option Bool,X=some (Ll s)->Q1 X (fun r3=>some r3)=some (Ll s):=fun X h=>by rw [h];rfl
 refine this _ ?_
 refine (Qc (fun (t:Bool) (i:Int)=>(t,i)) KW (fun w _ t k=>aa (decide (bl w=bl s)) (some true) (k t)) (fun _=>some false) ?_ ?_ (by rw [Q6];decide) false).trans (OO KW 0 _)
 .intro ag t i x hx
  have hi:=(Z0 hx).1
  have h14:KW.length=14:=rfl
  simp only [oZ]
  change aa (decide ((i:Int) < ((KW.length:Nat):Int))) (aa (decide (0<=(i:Int))) (Q1 (KW[(i:Int).toNat]?) _) none) _=_
  rw [Z5 (show (i:Int) < ((KW.length:Nat):Int) by omega),Q4,nn,Q4,Q3,hx,Q8,ON,aN (by omega)]
 .intro ag t
  simp only [oZ]
  change aa (decide (((KW.length:Nat):Int) < ((KW.length:Nat):Int))) _ _=_
  rw [bB,Q5];rfl
theorem OP {f:Nat} (h0:f≠190) (h1:f≠202):I0 f=none/\OM f=none:=by
 constructor
 .unfold I0;split<;>simp_all
 .unfold OM;split<;>simp_all
theorem extAll:mj Tryz.prog Qb:=by
 refine ⟨⟨fun f v h=>?_,fun f h=>?_,fun f h=>?_⟩,fun f e h=>?_⟩
 .by_cases zI:f=190
  .subst zI
   have h':I0 190=some v:=h
   have h2:some (fun (a:Int)=>B5 a)=some v:=h'
   injection h2 with h2
   subst h2
   exact ⟨_,rfl,Qx4⟩
  .by_cases uR:f=202
   .subst uR
    have h':I0 202=some v:=h
    have h2:some (fun (a:ByteArray×Int)=>B6 a.1 a.2)=some v:=h'
    injection h2 with h2
    subst h2
    exact ⟨_,rfl,Qzs⟩
   .have:I0 f=some v:=h
    rw [(OP zI uR).1] at this;simp at this
 .by_cases zI:f=190
  .subst zI
   have h2:some (fun (a:Int)=>B5 a)=none:=h
   simp at h2
  .by_cases uR:f=202
   .subst uR
    have h2:some (fun (a:ByteArray×Int)=>B6 a.1 a.2)=none:=h
    simp at h2
   .exact (OP zI uR).2
 .by_cases zI:f=190
  .subst zI
   have h2:false=true:=h
   simp at h2
  .by_cases uR:f=202
   .subst uR
    have h2:false=true:=h
    simp at h2
   .exact (OP zI uR).1
 .by_cases zI:f=190
  .subst zI
   have h2:some GG=some e:=h
   injection h2 with h2
   subst h2
   exact Qth
  .by_cases uR:f=202
   .subst uR
    have h2:some GH=some e:=h
    injection h2 with h2
    subst h2
    exact Qx6
   .have h2:OM f=some e:=h
    rw [(OP zI uR).2] at h2;simp at h2
abbrev aC:=Int×Int×Int×Int×Int×Int×Int×Int
abbrev dV:=Int×Int×Int×Int×Int
abbrev Cf:=ByteArray×List aC×List dV×Int
abbrev Ld:=ByteArray×List aC×List Int×List Int×List Int×List Int×List dV×List Int×Int
abbrev Tk:=List Int×List Int
def zC:Cf:=(⟨#[]⟩,[],[],0)
def fh {α:Type} (p:α->Bool):List α->Nat->Int
 | [],_=>-1
 | x::r,i=>if p x=true then (i:Int) else fh p r (i+1)
theorem DZ {α τ:Type} {p:α->Bool}:∀ (l:List α) (i:Nat) (t:τ),ef (fun x i t k=>aa (p x) (some ((i:Nat):Int)) (k t)) (fun _=>some (-1)) l i t=some (fh p l i)
 | [],i,t=>rfl
 | x::r,i,t=>by
  simp only [ef,fh]
  cases p x with
  | true=>rfl
  | false=>simp only [Q5,Bool.false_eq_true,if_false];exact DZ r (i+1) t
theorem KA {α:Type} {p:α->Bool}:∀ {l:List α} {i:Nat},fh p l i < 0↔∀ x∈l,p x=false
 | [],i=>by simp [fh]
 | x::r,i=>by
  simp only [fh,List.mem_cons,forall_eq_or_imp]
  cases p x with
  | true=>simp
  | false=>simp only [Bool.false_eq_true,if_false,true_and];exact KA
theorem I1 {α:Type} {p:α->Bool}:∀ {l:List α} {i:Nat},0<=fh p l i->∃ (k:Nat) (x:α),fh p l i=((i+k:Nat):Int)/\l[k]? = some x/\p x=true/\∀ j y,j < k->l[j]? = some y->p y=false
 | [],i,h=>by simp [fh] at h
 | x::r,i,h=>by
  simp only [fh] at h ⊢
  cases hp:p x with
  | true=>exact ⟨0,x,by simp,rfl,hp,fun j y hj=>by omega⟩
  | false =>
   simp only [hp,Bool.false_eq_true,if_false] at h ⊢
   obtain ⟨k,y,h1,h2,h3,h4⟩:=I1 h
   refine ⟨k+1,y,by rw [h1];congr 1;omega,h2,h3,fun j z hj hz=>?_⟩
   cases j with
   | zero=>simp at hz;subst hz;exact hp
   | succ j=>exact h4 j z (by omega) (by simpa using hz)
theorem ZM {α τ β:Type} {p:α->Bool} {b1 b2:Option β}:∀ (l:List α) (i:Nat) (t:τ),ef (fun x _ t k=>aa (p x) b1 (k t)) (fun _=>b2) l i t=aa (l.any p) b1 b2
 | [],i,t=>rfl
 | x::r,i,t=>by
  simp only [ef,List.any_cons]
  cases p x with
  | true=>rfl
  | false=>exact ZM r (i+1) t
def bP (l:List aC) (id:Int):Int:=fh (fun x=>x.1==id) l 0
def nM (l:List aC) (id:Int):List Int:=fL (fun x _=>x.2.1==id) (fun _ k=>((k:Nat):Int)) l 0
def gV (l:List aC) (id:Int):Bool := !(l.any fun x=>x.2.1==id)
theorem Lm {α γ:Type} {c:α->Bool} {e:α->Nat->γ}:∀ (l:List α) (i:Nat),((fL (fun x _=>c x) e l i).length==0) = !(l.any c)
 | [],i=>rfl
 | x::r,i=>by
  simp only [fL,List.any_cons]
  by_cases h:c x=true
  .rw [if_pos h,h];simp
  .rw [if_neg h,Bool.eq_false_iff.2 h,Bool.false_or];exact Lm r (i+1)
theorem ZN {l:List aC} {id:Int}:((((nM l id).length:Nat):Int)==0)=gV l id:=by
 have:=Lm (c:=fun x:aC=>x.2.1==id) (e:=fun _ k=>((k:Nat):Int)) l 0
 unfold nM gV
 rw [<- this,Bool.eq_iff_iff,beq_iff_eq,beq_iff_eq];omega
theorem OQ {l:List aC} {id:Int}:(nM l id).length<=l.length:=Uy _ _
theorem ZO {l:List aC} {id n:Int} (h:n∈nM l id):∃ (k:Nat) (x:aC),n=(k:Int)/\l[k]? = some x/\x.2.1=id:=by
 obtain ⟨j,x,h1,h2,h3⟩:=Uz _ _ h
 exact ⟨j,x,by simpa using h3,h1,by simpa using h2⟩
theorem wM {l:List aC} {id:Int} (h:0<=bP l id):∃ (k:Nat) (x:aC),bP l id=(k:Int)/\l[k]? = some x/\x.1=id:=by
 obtain ⟨k,x,h1,h2,h3,_⟩:=I1 h
 exact ⟨k,x,by unfold bP;simpa using h1,h2,by simpa using h3⟩
theorem UA {l:List aC} {id:Int}:bP l id < 0↔∀ x∈l,x.1≠id:=by
 unfold bP;rw [KA];simp
theorem Ot {d:Nat} {c:Cf} {id:Int} (hl:c.2.1.length < 4000000):IU (d+3) c id=some (bP c.2.1 id):=by
 rw [e74]
 refine (Qc (fun (t:Int) (i:Int)=>(t,i)) c.2.1 (fun x i t k=>aa (x.1==id) (some ((i:Nat):Int)) (k t)) (fun _=>some (-1)) ?_ ?_ (by rw [Q6];omega) 0).trans (DZ c.2.1 0 _)
 .intro ag t i x hx;have hi:=(Z0 hx).1;simp only [gZ,bW hx,nn,Q3,hx,Q8,Q4];rw [aN (by omega)]
 .intro ag t;simp only [gZ,bB,Q5];rfl
theorem IL {d:Nat} {c:Cf} {id:Int} (hl:c.2.1.length < 4000000):DC (d+1) c id=some (bP c.2.1 id):=by
 rw [e62]
 refine (Qc (fun (t:Int) (i:Int)=>(t,i)) c.2.1 (fun x i t k=>aa (x.1==id) (some ((i:Nat):Int)) (k t)) (fun _=>some (-1)) ?_ ?_ (by rw [Q6];omega) 0).trans (DZ c.2.1 0 _)
 .intro ag t i x hx;have hi:=(Z0 hx).1;simp only [w9,bW hx,nn,Q3,hx,Q8,Q4];rw [aN (by omega)]
 .intro ag t;simp only [w9,bB,Q5];rfl
theorem Ou {d:Nat} {c:Cf} {n:Nat} {y:aC} (hn:c.2.1[n]? = some y) (hl:c.2.1.length < 4000000):Ga (d+4) c (n:Int)=some (gV c.2.1 y.1):=by
 rw [e75]
 refine (Qc (fun (t:Int) (i:Int)=>(t,i)) c.2.1 (fun x i t k=>aa (x.2.1==y.1) (some false) (k t)) (fun _=>some true) ?_ ?_ (by rw [Q6];omega) 0).trans ?_
 .intro ag t i x hx;have hi:=(Z0 hx).1;simp only [eg,bW hx,nn,Q3,hx,Q8,Q4];rw [aN (by omega)]
  rw [hn,Q8];rfl
 .intro ag t;simp only [eg,bB,Q5];rfl
 .rw [ZM];unfold gV;cases c.2.1.any _<;>rfl
theorem ZP {d:Nat} {c:Cf} {n:Nat} {y:aC} (hn:c.2.1[n]? = some y) (hl:c.2.1.length<=1000):ye (d+1) c (n:Int)=some (nM c.2.1 y.1):=by
 rw [Tl]
 refine (Qc (fun (t:List Int) (i:Int)=>(t,i)) c.2.1 (fun x i t k=>aa (x.2.1==y.1) (aa (Nat.ble ((t.length+[((i:Nat):Int)].length)*8) Q7) (k (t++[((i:Nat):Int)])) none) (k t)) (fun t=>some t) ?_ ?_ (by rw [Q6];omega) []).trans ?_
 .intro ag t i x hx;have hi:=(Z0 hx).1;simp only [pZ,bW hx,nn,Q3,hx,Q8,Q4];rw [aN (by omega)]
  rw [hn,Q8]
 .intro ag t;simp only [pZ,bB,Q5];rfl
 .exact D4 (c:=fun x _=>x.2.1==y.1) (e:=fun (_:aC) (k:Nat)=>((k:Nat):Int)) (w:=8) c.2.1 0 [] (by simp;omega)
theorem OR {d:Nat} {c:Cf} {n:Nat} {y:aC} (hn:c.2.1[n]? = some y) (hl:c.2.1.length<=1000):kZ (d+1) c (n:Int)=some (nM c.2.1 y.1):=by
 rw [Su]
 refine (Qc (fun (t:List Int) (i:Int)=>(t,i)) c.2.1 (fun x i t k=>aa (x.2.1==y.1) (aa (Nat.ble ((t.length+[((i:Nat):Int)].length)*8) Q7) (k (t++[((i:Nat):Int)])) none) (k t)) (fun t=>some t) ?_ ?_ (by rw [Q6];omega) []).trans ?_
 .intro ag t i x hx;have hi:=(Z0 hx).1;simp only [oY,bW hx,nn,Q3,hx,Q8,Q4];rw [aN (by omega)]
  rw [hn,Q8]
 .intro ag t;simp only [oY,bB,Q5];rfl
 .exact D4 (c:=fun x _=>x.2.1==y.1) (e:=fun (_:aC) (k:Nat)=>((k:Nat):Int)) (w:=8) c.2.1 0 [] (by simp;omega)
theorem ZQ {d:Nat} {c:Cf} {n:Nat} {y:aC} (hn:c.2.1[n]? = some y) (hl:c.2.1.length<=1000):IM (d+2) c (n:Int)=some (gV c.2.1 y.1):=by
 rw [e87,OR hn hl,Q8,ZN]
def oB (l:List aC) (id:Int):Bool:=decide (0<=bP l id)&&gV l id
theorem UB {d:Nat} {c:Cf} {id:Int} (hl:c.2.1.length<=1000):yg (d+5) c id=some (oB c.2.1 id):=by
 rw [Tq,Ot (by omega),Q8]
 unfold oB
 by_cases h:0<=bP c.2.1 id
 .obtain ⟨k,x,h1,h2,h3⟩:=wM h
  rw [Z5 h,Q4,h1,Ou h2 (by omega),Q8,h3,Zg]
 .rw [Z4 h];rfl
theorem Ov {d:Nat} {c:Cf} {id:Int} (hl:c.2.1.length<=1000):IN (d+3) c id=some (oB c.2.1 id):=by
 rw [e60,IL (by omega),Q8]
 unfold oB
 by_cases h:0<=bP c.2.1 id
 .obtain ⟨k,x,h1,h2,h3⟩:=wM h
  rw [Z5 h,Q4,h1,ZQ h2 hl,Q8,h3,Zg]
 .rw [Z4 h];rfl
def A5 (s:ByteArray):Bool:=decide (1<=s.size/\s.size<=8)&&((bl s).all sm && !Ll s)
theorem Qsd {d:Nat} {s:ByteArray}:FR (d+2) s=some (A5 s):=by
 rw [S_]
 unfold A5 pQ
 by_cases h0:((s.size:Nat):Int) < 1
 .rw [Z5 h0,Q4,Q4,Z4 (by omega)];rfl
 rw [Z4 h0,Q5]
 by_cases h2:((s.size:Nat):Int) > 8
 .rw [Z5 h2,Q4,Z4 (by omega)];rfl
 rw [Z4 h2,Q5,Z5 (show 1<=s.size/\s.size<=8 by omega),Zg]
 have hs:(bl s).length < 4194304:=by rw [<- ZK];omega
 refine (Qc (fun (t:Bool) (i:Int)=>(t,i)) (bl s) (fun x _ t k=>aa (sm x) (k t) (some false)) (pO (d+1) s) ?_ ?_ (by rw [Q6];exact hs) false).trans ?_
 .intro ag t i x hx
  have hi:=(Z0 hx).1
  have sg:s.data.toList[i]? = some x:=hx
  have bf:s.size=(bl s).length:=rfl
  simp only [pP]
  rw [Z5 (show (i:Int) < ((s.size:Nat):Int) by omega),Q4,nn,Q4,Q3,sg,Q8,Qou,Q8,aN (by omega)]
  cases sm x<;>rfl
 .intro ag t
  simp only [pP]
  rw [show ((s.size:Nat):Int)=(((bl s).length:Nat):Int) from rfl,bB,Q5]
 .rw [Ce]
  cases (bl s).all sm with
  | false=>rfl
  | true =>
   rw [Q4,Zg]
   unfold pO
   rw [Qw6,Q8]
theorem Qse {d:Nat} {s:ByteArray} (hs:s.size < 4000000):Sy (d+3) s=some (A5 s):=by
 rw [e95]
 unfold A5
 have bf:s.size=(bl s).length:=rfl
 refine (Qc (fun (t:Bool) (i:Int)=>(t,i)) (bl s) (fun x _ t k=>aa (sm x) (k t) (some false)) (xd (d+2) s) ?_ ?_ (by rw [Q6];omega) false).trans ?_
 .intro ag t i x hx
  have hi:=(Z0 hx).1
  have sg:s.data.toList[i]? = some x:=hx
  simp only [xe]
  rw [Z5 (show (i:Int) < ((s.size:Nat):Int) by omega),Q4,nn,Q4,Q3,sg,Q8,Q4,Q8,aN (by omega)]
  unfold sm
  by_cases h1:(x.toNat:Int) < 97
  .rw [Z5 h1,Q4,Z4 (by omega)];rfl
  .rw [Z4 h1,Q5]
   by_cases h2:(x.toNat:Int) > 122
   .rw [Z5 h2,Q4,Z4 (by omega)];rfl
   .rw [Z4 h2,Q5,Z5 (by omega)];rfl
 .intro ag t
  simp only [xe]
  rw [show ((s.size:Nat):Int)=(((bl s).length:Nat):Int) from rfl,bB,Q5]
 .rw [Ce]
  cases (bl s).all sm with
  | false=>rw [Q5,Bool.false_and,Bool.and_false]
  | true =>
   rw [Q4,Zg]
   unfold xd
   rw [vQ,Q8]
   by_cases h:1<=s.size/\s.size<=8
   .rw [Z5 (show (1:Int)<=((s.size:Nat):Int)/\((s.size:Nat):Int)<=8 by omega),Q4,Qsc,Q8,Z5 h,Zg]
   .rw [Z4 (show ¬ ((1:Int)<=((s.size:Nat):Int)/\((s.size:Nat):Int)<=8) by omega),Q5,Z4 h];rfl
def zc8:aC:=(0,0,0,0,0,0,0,0)
def aU (l:List aC) (i:Int):aC:=l.getD i.toNat zc8
def eG {α:Type} (p:α->Nat->Bool):List α->Nat->Bool
 | [],_=>true
 | x::r,i=>p x i&&eG p r (i+1)
theorem qG {α τ β:Type} {p:α->Nat->Bool} {no:Option β} {fin:τ->Option β}:∀ (l:List α) (i:Nat) (t:τ),ef (fun x i t k=>aa (p x i) (k t) no) fin l i t=aa (eG p l i) (fin t) no
 | [],i,t=>rfl
 | x::r,i,t=>by
  simp only [ef,eG]
  cases p x i with
  | true=>simp only [Q4,Zg];exact qG r (i+1) t
  | false=>rfl
theorem sj {α:Type} {p:α->Nat->Bool}:∀ {l:List α} {i:Nat},eG p l i=true↔∀ j x,l[j]? = some x->p x (i+j)=true
 | [],i=>by simp [eG]
 | x::r,i=>by
  simp only [eG,Z8,sj (l:=r)]
  constructor
  .rintro ⟨h1,h2⟩ j y hy
   cases j with
   | zero=>simp at hy;subst hy;exact h1
   | succ j=>have:=h2 j y (by simpa using hy);rw [show i+(j+1)=i+1+j by omega];exact this
  .intro h
   exact ⟨h 0 x rfl,fun j y hy=>by have:=h (j+1) y (by simpa using hy);rw [show i+1+j=i+(j+1) by omega];exact this⟩
theorem ZR {α:Type} {p q:α->Nat->Bool} {l:List α} {i:Nat}:eG (fun x j=>p x j&&q x j) l i=(eG p l i&&eG q l i):=by
 rw [Bool.eq_iff_iff,Z8,sj,sj,sj]
 simp only [Z8]
 exact ⟨fun h=>⟨fun j x hx=>(h j x hx).1,fun j x hx=>(h j x hx).2⟩,fun h j x hx=>⟨h.1 j x hx,h.2 j x hx⟩⟩
theorem UC {α:Type} {p:α->Bool}:∀ {l:List α} {i:Nat},eG (fun x _=>p x) l i=l.all p
 | [],_=>rfl
 | x::r,i=>by simp only [eG,List.all_cons];rw [UC (l:=r)]
def zJ (l:List aC) (x:aC) (i:Nat):Bool:=decide (1<=x.1/\x.1<=999)&&(decide (i=0) || decide ((aU l ((i:Int) - 1)).1 < x.1))
def uS (l:List aC):Nat:=(l.filter fun x=>x.2.1==0).length
def D5 (l:List aC):Bool:=l.all fun x=>x.2.1==0 || decide (0<=bP l x.2.1)
def cP (l:List aC):Nat->Int->List Int
 | 0,_=>[]
 | f+1,i=>if i < 0 then [] else i::cP l f (bP l (aU l i).2.1)
def nN (u:List Int):Int:=u.getD (u.length - 1) 0
def vR (l:List aC) (i:Nat):Bool:=decide ((cP l 9 i).length<=8)&&((aU l (nN (cP l 9 i))).2.1==0)
theorem jU {l:List aC} {n:Nat} {x:aC} (h:l[n]? = some x):aU l (n:Int)=x:=by unfold aU;rw [Q3,Zr,h];rfl
theorem GI {l:List aC} {i:Int} (h0:0<=i) (h:i < ((l.length:Nat):Int)):l[i.toNat]? = some (aU l i):=by
 have:i.toNat < l.length:=by omega
 unfold aU;rw [Zr,Z6 this];rfl
theorem BL {l:List aC} {id:Int}:bP l id < ((l.length:Nat):Int):=by
 by_cases h:0<=bP l id
 .obtain ⟨k,x,h1,h2,_⟩:=wM h
  have:=(Z0 h2).1
  omega
 .omega
theorem Qyw {d:Nat} {n:Int}:FT (d+1) n=some (decide (1<=n/\n<=999)):=by
 rw [Ta]
 by_cases h:n>=1
 .rw [Z5 h,Q4];congr 1;rw [Bool.eq_iff_iff];simp;omega
 .rw [Z4 h,Q5];congr 1;symm;rw [decide_eq_false_iff_not];omega
def rH (l:List aC):Bool:=eG (zJ l) l 0
theorem I2 {i:Nat} (h:i < 9223372036854775807) (h0:0 < i):IntKind.i64.wrap ((i:Int) - 1)=((i - 1:Nat):Int):=by rw [wr (by omega) (by omega)];omega
theorem Qmw {d:Nat} {c:Cf} (hl:c.2.1.length < 4000000):FU (d+2) c=some (rH c.2.1&&decide (1<=c.2.1.length/\c.2.1.length<=24)):=by
 rw [Tb]
 refine (Qc (fun (t:Bool) (i:Int)=>(t,i)) c.2.1 (fun x i t k=>aa (zJ c.2.1 x i) (k t) (some false)) (fun _=>some (decide (1<=c.2.1.length/\c.2.1.length<=24))) ?_ ?_ (by rw [Q6];omega) false).trans ?_
 .intro ag t i x hx
  have hi:=(Z0 hx).1
  simp only [pR,bW hx,nn,Q3,hx,Q8,Q4]
  rw [Qyw,Q8,aN (by omega)]
  unfold zJ
  cases decide (1<=x.1/\x.1<=999) with
  | false=>rfl
  | true =>
   rw [Zl,Q5,Zg]
   by_cases h0:i=0
   .subst h0;rfl
   .rw [Z5 (show (i:Int) > 0 by omega),Q4,I2 (by omega) (by omega),nn,Q4,Q3,Z6 (show i - 1 < c.2.1.length by omega),Q8,Z4 h0,Bool.false_or]
    rw [show (i:Int) - 1=((i - 1:Nat):Int) by omega,jU (Z6 (show i - 1 < c.2.1.length by omega))]
    by_cases h:x.1<=(c.2.1[i - 1]).1
    .rw [Z5 h,Z4 (by omega)];rfl
    .rw [Z4 h,Z5 (by omega)];rfl
 .intro ag t
  simp only [pR,bB,Q5]
  unfold x_
  by_cases h:((c.2.1.length:Nat):Int)>=1
  .rw [Z5 h,Q4];congr 1;rw [Bool.eq_iff_iff];simp;omega
  .rw [Z4 h,Q5];congr 1;symm;rw [decide_eq_false_iff_not];omega
 .rw [qG];unfold rH;cases eG (zJ c.2.1) c.2.1 0<;>rfl
theorem OS {α:Type} {p:α->Bool}:∀ (l:List α) (i t:Nat),t+l.length < 4000000->cF (fun x _ (t:Int)=>if p x=true then IntKind.i64.wrap (t+1) else t) l i (t:Int)=((t+(l.filter p).length:Nat):Int)
 | [],i,t,_=>by simp [cF]
 | x::r,i,t,h=>by
  simp only [Z9] at h
  simp only [cF,List.filter_cons]
  cases p x with
  | true =>
   simp only [if_true]
   rw [aN (by omega),OS r (i+1) (t+1) (by omega)]
   simp;omega
  | false=>simp only [Bool.false_eq_true,if_false];exact OS r (i+1) t (by omega)
theorem Qgp {d:Nat} {c:Cf} (hl:c.2.1.length<=1000):Ok (FW (d+4) c) fun r=>((((r.length:Nat):Int))==0)=D5 c.2.1:=by
 rw [Tc]
 refine ⟨fL (fun x _ => !(x.2.1==0 || decide (0<=bP c.2.1 x.2.1))) (fun _ k=>((k:Nat):Int)) c.2.1 0,?_,?_⟩
 .refine (Qc (fun (t:List Int) (i:Int)=>(t,i)) c.2.1 (fun x i t k=>aa (!(x.2.1==0 || decide (0<=bP c.2.1 x.2.1))) (aa (Nat.ble ((t.length+[((i:Nat):Int)].length)*8) Q7) (k (t++[((i:Nat):Int)])) none) (k t)) (fun t=>some t) ?_ ?_ (by rw [Q6];omega) []).trans ?_
  .intro ag t i x hx;have hi:=(Z0 hx).1;simp only [pT,bW hx,nn,Q3,hx,Q8,Q4]
   unfold pS
   rw [aN (by omega)]
   by_cases h:x.2.1=0
   .rw [show (x.2.1 != 0)=false by simp [h],Q5,Q5,show (x.2.1==0)=true by simp [h],Bool.true_or];rfl
   .rw [show (x.2.1 != 0)=true by simp [h],Q4,Ot (by omega),Q8,show (x.2.1==0)=false by simp [h],Bool.false_or]
    by_cases h2:bP c.2.1 x.2.1 < 0
    .rw [Z5 h2,Q4,Z4 (by omega)];rfl
    .rw [Z4 h2,Q5,Z5 (by omega)];rfl
  .intro ag t;simp only [pT,bB,Q5];rfl
  .exact D4 (c:=fun x _ => !(x.2.1==0 || decide (0<=bP c.2.1 x.2.1))) (e:=fun (_:aC) (k:Nat)=>((k:Nat):Int)) (w:=8) c.2.1 0 [] (by simp;omega)
 .have:=Lm (c:=fun x:aC => !(x.2.1==0 || decide (0<=bP c.2.1 x.2.1))) (e:=fun _ k=>((k:Nat):Int)) c.2.1 0
  unfold D5
  rw [show (c.2.1.all fun x=>x.2.1==0 || decide (0<=bP c.2.1 x.2.1)) = !(c.2.1.any fun x => !(x.2.1==0 || decide (0<=bP c.2.1 x.2.1))) by simp [List.all_eq_not_any_not],<- this]
  simp only []
  rw [Bool.eq_iff_iff,beq_iff_eq,beq_iff_eq]
  omega
theorem Qct {d:Nat} {c:Cf} (hl:c.2.1.length<=1000):FX (d+5) c=some (decide (uS c.2.1=1)&&D5 c.2.1):=by
 rw [Td]
 refine (Qc (fun (t:Int) (i:Int)=>(t,i)) c.2.1 (fun x _ t k=>k (if (x.2.1==0)=true then IntKind.i64.wrap (t+1) else t)) (pU (d+4) c) ?_ ?_ (by rw [Q6];omega) 0).trans ?_
 .intro ag t i x hx;have hi:=(Z0 hx).1;simp only [pV,bW hx,nn,Q3,hx,Q8,Q4];rw [aN (by omega)]
  cases (x.2.1==0)<;>rfl
 .intro ag t;simp only [pV,bB,Q5]
 .rw [wS (f:=fun (x:aC) _ (t:Int)=>if (x.2.1==0)=true then IntKind.i64.wrap (t+1) else t)]
  have:=OS (p:=fun x:aC=>x.2.1==0) c.2.1 0 0 (by omega)
  rw [show ((0:Nat):Int)=0 from rfl] at this
  rw [this,Zo]
  unfold pU
  rw [show (c.2.1.filter fun x=>x.2.1==0).length=uS c.2.1 from rfl]
  by_cases h:uS c.2.1=1
  .rw [show (((uS c.2.1:Nat):Int)==1)=true by rw [beq_iff_eq];omega,Q4,Z5 h,Zg]
   obtain ⟨r,h1,h2⟩:=Qgp (d:=d) hl
   rw [h1,Q8,h2]
  .rw [show (((uS c.2.1:Nat):Int)==1)=false by rw [beq_eq_false_iff_ne];omega,Q5,Z4 h];rfl
theorem OT {l:List aC}:∀ (f g:Nat) (i:Int),(cP l f i).length < f->f<=g->cP l g i=cP l f i
 | 0,g,i,h,_=>by omega
 | f+1,0,i,h,hg=>by omega
 | f+1,g+1,i,h,hg=>by
  simp only [cP] at h ⊢
  by_cases hi:i < 0
  .rw [if_pos hi,if_pos hi]
  .rw [if_neg hi] at h ⊢
   rw [if_neg hi,OT f g _ (by simpa using h) (by omega)]
theorem UD {l:List aC} {f:Nat} {i:Int} (h:0<=i):cP l (f+1) i=i::cP l f (bP l (aU l i).2.1):=by
 simp only [cP];rw [if_neg (by omega)]
theorem OU {l:List aC} {i:Int} (h0:0<=i) (h:(cP l 9 i).length<=8):(cP l 9 i)=i::cP l 9 (bP l (aU l i).2.1):=by
 have e:cP l 9 i=i::cP l 8 (bP l (aU l i).2.1):=by
  conv=>lhs;unfold cP
  rw [if_neg (by omega)]
 rw [e] at h ⊢
 simp only [Z9] at h
 rw [OT 8 9 _ (by omega) (by omega)]
theorem UE {l:List aC}:∀ (f:Nat) (i:Int),i < ((l.length:Nat):Int)->∀ n∈cP l f i,0<=n/\n < ((l.length:Nat):Int)
 | 0,_,_,n,hn=>by simp [cP] at hn
 | f+1,i,h,n,hn=>by
  simp only [cP] at hn
  split at hn
  .simp at hn
  .rcases Z2 hn with rfl | hn
   .exact ⟨by omega,h⟩
   .exact UE f _ BL n hn
theorem ZS {l:List Int} {n:Int} (h:fh (fun x=>x==n) l 0 < 0):n∉l:=by
 rw [KA] at h
 intro hm
 have:=h n hm
 simp at this
theorem ZT {d:Nat} {l:List Int} {n:Int} (hl:l.length < 4000000):ya (d+1) l n=some (fh (fun x=>x==n) l 0):=by
 rw [Te]
 refine (Qc (fun (t:Int) (i:Int)=>(t,i)) l (fun x i t k=>aa (n==x) (some ((i:Nat):Int)) (k t)) (fun _=>some (-1)) ?_ ?_ (by rw [Q6];omega) 0).trans ?_
 .intro ag t i x hx;have hi:=(Z0 hx).1;simp only [pX,bW hx,nn,Q3,hx,Q8,Q4];rw [aN (by omega)]
 .intro ag t;simp only [pX,bB,Q5];rfl
 .rw [show (fun (x:Int) (i:Nat) (t:Int) (k:Int->Option Int)=>aa (n==x) (some ((i:Nat):Int)) (k t))=fun x i t k=>aa (x==n) (some ((i:Nat):Int)) (k t) by funext x i t k;rw [BEq.comm]]
  exact DZ l 0 _
theorem Qmx {d:Nat} {l:List Int} {n:Int} (hl:l.length < 4000000):FZ (d+2) l n=some (decide (0<=fh (fun x=>x==n) l 0)):=by
 rw [Tf,ZT hl,Q8]
theorem OV {l:List Int} {n:Nat} (h:l.Nodup) (h2:∀ x∈l,0<=x/\x < (n:Int)):l.length<=n:=by
 have:=List.Nodup.length_le_of_subset (l₂:=(List.range n).map fun (k:Nat)=>(k:Int)) h (fun x hx=>by
  obtain ⟨h3,h4⟩:=h2 x hx
  exact List.mem_map.2 ⟨x.toNat,List.mem_range.2 (by omega),by omega⟩)
 simpa using this
theorem Qsf {d:Nat} {c:Cf} {i:Nat} (hi:i < c.2.1.length) (hl:c.2.1.length<=24):Ok (F0 (d+4) c (i:Int)) fun r=>(r.2=true->cP c.2.1 (r.1.length+1) (i:Int)=r.1/\0 < r.1.length)/\(r.2=false->8 < (cP c.2.1 9 (i:Int)).length):=by
 rw [Tg]
 refine mo (fun m (st:Int×List Int×Bool×List Int)=>m=24 - st.2.2.2.length/\st.1 < ((c.2.1.length:Nat):Int)/\st.2.2.2.Nodup/\(∀ x∈st.2.2.2,0<=x/\x < ((c.2.1.length:Nat):Int))/\(∀ f,cP c.2.1 (st.2.2.2.length+f) (i:Int)=st.2.2.2++cP c.2.1 f st.1)/\(st.2.2.2=[]->st.1=(i:Int)) /\
  ((cP c.2.1 9 (i:Int)).length<=8->(cP c.2.1 9 st.1).length<=8/\∀ y∈st.2.2.2,(cP c.2.1 9 st.1).length < (cP c.2.1 9 y).length)) ?_ _ 24 _ (by rw [Q6];omega) ⟨rfl,by simp only;omega,by simp,by simp,fun f=>by simp,fun _=>rfl,fun h=>⟨h,by simp⟩⟩
 rintro m ⟨n,l5,b,out⟩ ag ⟨hm,hn,hnd,nO,oV,eP,hlen⟩ er
 simp only at hm hn hnd nO oV eP hlen
 have hol:=OV hnd nO
 simp only [yd]
 by_cases h0:n>=0
 case neg =>
  rw [Z4 h0,Q5]
  unfold yb
  refine Ok.some ⟨fun _=>?_,fun h=>by simp at h⟩
  have:=oV 1
  simp only [cP,if_pos (show n < 0 by omega),List.append_nil] at this
  refine ⟨this,?_⟩
  rcases Nat.eq_zero_or_pos out.length with h | h
  .have:=eP (List.eq_nil_of_length_eq_zero h);omega
  .exact h
 rw [Z5 h0,Q4,Qmx (by omega),Q8]
 by_cases hc:0<=fh (fun x=>x==n) out 0
 .rw [Z5 hc,Q4]
  refine Ok.some ⟨fun h=>by simp at h,fun _=>?_⟩
  rcases Nat.lt_or_ge 8 (cP c.2.1 9 (i:Int)).length with h | h
  .exact h
  .obtain ⟨g1,g2⟩:=hlen h
   obtain ⟨k,x,e1,e2,e3,_⟩:=I1 hc
   have hx:x=n:=by simpa using e3
   have:=g2 x (Zc e2)
   rw [hx] at this;omega
 .have D6:=ZS (by omega:fh (fun x=>x==n) out 0 < 0)
  have au:(out++[n]).length<=c.2.1.length:=OV (by
   rw [Zn]
   exact ⟨hnd,by simp,fun a ha b hb e=>by simp at hb;subst hb;subst e;exact D6 ha⟩) (fun x hx=>by
   rcases List.mem_append.1 hx with h | h
   .exact nO x h
   .simp at h;subst h;exact ⟨h0,hn⟩)
  simp only [Zf,Z9,Zb] at au
  rw [Z4 hc,Q5,room (by simp;omega),Q4,Q4,GI h0 hn,Q8,Ot (by omega),Q8]
  refine er (24 - (out++[n]).length) _ (by simp;omega) ⟨rfl,BL,?_,?_,fun f=>?_,fun h=>by simp at h,fun h=>?_⟩
  .rw [Zn]
   exact ⟨hnd,by simp,fun a ha b hb e=>by simp at hb;subst hb;subst e;exact D6 ha⟩
  .intro x hx
   rcases List.mem_append.1 hx with h | h
   .exact nO x h
   .simp at h;subst h;exact ⟨h0,hn⟩
  .have:=oV (f+1)
   rw [UD h0] at this
   simp only [Zf,Z9,Zb]
   rw [show out.length+(0+1)+f=out.length+(f+1) by omega,this];simp
  .obtain ⟨g1,g2⟩:=hlen h
   have g3:=OU h0 g1
   have g4:=congrArg List.length g3
   simp only [Z9] at g4
   refine ⟨by simp only;omega,fun y hy=>?_⟩
   simp only
   rcases List.mem_append.1 hy with hy | hy
   .have:=g2 y hy;omega
   .simp at hy;subst hy;omega
theorem ZU {l:List aC}:∀ (f g:Nat) (i:Int),f<=g->(cP l f i).length<=(cP l g i).length
 | 0,_,_,_=>by simp [cP]
 | f+1,0,_,h=>by omega
 | f+1,g+1,i,h=>by
  simp only [cP]
  split
  .simp
  .have:=ZU (l:=l) f g (bP l (aU l i).2.1) (by omega);simp;omega
theorem ZV {u:List Int} (h:0 < u.length):nN u∈u/\u[u.length - 1]? = some (nN u):=by
 have e:u[u.length - 1]? = some (nN u):=by
  unfold nN;rw [Zr,Z6 (show u.length - 1 < u.length by omega)];rfl
 exact ⟨Zc e,e⟩
theorem Qjq {d:Nat} {c:Cf} (hl:c.2.1.length<=24):F2 (d+5) c=some (eG (fun _ i=>vR c.2.1 i) c.2.1 0):=by
 rw [Th]
 refine (Qc (fun (t:Bool) (i:Int)=>(t,i)) c.2.1 (fun x i t k=>aa (vR c.2.1 i) (k t) (some false)) (fun _=>some true) ?_ ?_ (by rw [Q6];omega) false).trans ?_
 .intro ag t i x hx
  have hi:=(Z0 hx).1
  simp only [pY,bW hx,Q4]
  obtain ⟨r,hr,r1,r2⟩:=Qsf (d:=d) (c:=c) (i:=i) hi hl
  rw [hr,Q8]
  unfold vR
  cases hb:r.2 with
  | false =>
   have:=r2 hb
   rw [Bool.not_false,Q4,Z4 (by omega)];rfl
  | true =>
   obtain ⟨e1,e2⟩:=r1 hb
   rw [Zl,Q5]
   by_cases h8:r.1.length<=8
   .have e3:cP c.2.1 9 (i:Int)=r.1:=by
     rw [OT (r.1.length+1) 9 _ (by rw [e1];omega) (by omega)];exact e1
    rw [e3,Z5 h8,Z4 (by omega),Q5,Zg,I2 (by omega) (by omega),nn,Q4,Q3,Qo (by omega),Q4]
    obtain ⟨m1,m2⟩:=ZV e2
    rw [m2,Q8]
    rw [<- e3] at m1
    obtain ⟨q1,q2⟩:=UE 9 (i:Int) (by omega) _ m1
    rw [e3] at q1 q2
    rw [Z5 q1,Q4,GI q1 q2,Q8,aN (by omega)]
    by_cases h:(aU c.2.1 (nN r.1)).2.1=0
    .rw [show ((aU c.2.1 (nN r.1)).2.1 != 0)=false by simp [h],Q5,show ((aU c.2.1 (nN r.1)).2.1==0)=true by simp [h]];rfl
    .rw [show ((aU c.2.1 (nN r.1)).2.1 != 0)=true by simp [h],Q4,show ((aU c.2.1 (nN r.1)).2.1==0)=false by simp [h]];rfl
   .have:8 < (cP c.2.1 9 (i:Int)).length:=by
     rcases Nat.lt_or_ge (r.1.length+1) 9 with g | g
     .omega
     .have g1:=ZU (l:=c.2.1) 9 (r.1.length+1) (i:Int) g
      rcases Nat.lt_or_ge 8 (cP c.2.1 9 (i:Int)).length with g2 | g2
      .exact g2
      .have:=OT (l:=c.2.1) 9 (r.1.length+1) (i:Int) (by omega) g
       rw [e1] at this
       have:=congrArg List.length this
       omega
    rw [Z5 (show ((r.1.length:Nat):Int) > 8 by omega),Q4,Z4 (show ¬ (cP c.2.1 9 (i:Int)).length<=8 by omega)];rfl
 .intro ag t;simp only [pY,bB,Q5];rfl
 .rw [qG];cases eG _ c.2.1 0<;>rfl
theorem Qyx {d:Nat} {c:Cf} {i:Nat} (hi:i < c.2.1.length) (hl:c.2.1.length<=24):Fy (d+2) c (i:Int)=some (cP c.2.1 9 (i:Int)):=by
 rw [SA]
 have key:∀ (f fuel:Nat) (n:Int) (out:List Int),out.length+f=9->f < fuel->n < ((c.2.1.length:Nat):Int)->Q9 (lg (d+1) c (k_ (d+1))) fuel (n,out)=some (out++cP c.2.1 f n):=by
  intro f
  induction f with
  | zero =>
   intro fuel n out h1 h2 h3
   obtain ⟨g,rfl⟩:∃ g,fuel=g+1:=⟨fuel - 1,by omega⟩
   simp only [Q9,lg]
   unfold ld k_
   rw [Z4 (show ¬ ((out.length:Nat):Int)<=8 by omega),Q5]
   simp [cP,Qte]
  | succ f ih =>
   intro fuel n out h1 h2 h3
   obtain ⟨g,rfl⟩:∃ g,fuel=g+1:=⟨fuel - 1,by omega⟩
   simp only [Q9,lg]
   unfold ld
   by_cases hn:n>=0
   .rw [Z5 hn,Q4,Z5 (show ((out.length:Nat):Int)<=8 by omega),Q4,room (by simp;omega),Q4,Q4,GI hn h3,Q8,IL (by omega),Q8,ih g _ _ (by simp;omega) (by omega) BL]
    simp only [cP,if_neg (show ¬ n < 0 by omega)]
    simp
   .rw [Z4 hn,Q5,Q5]
    unfold k_
    simp only [cP,if_pos (show n < 0 by omega)]
    simp
 exact key 9 Qd (i:Int) [] rfl (by rw [Q6];omega) (by omega)
theorem ZW {α:Type} {g:α->Int} {B:Nat}:∀ (l:List α) (i:Nat) (t:Int),(∀ x∈l,0<=g x/\g x<=(B:Int))->0<=t->t+((l.length*B:Nat):Int)<=9223372036854775807->cF (fun x _ (t:Int)=>IntKind.i64.wrap (t+g x)) l i t=t+(l.map g).sum/\t<=t+(l.map g).sum/\t+(l.map g).sum<=t+((l.length*B:Nat):Int)
 | [],i,t,_,_,_=>by simp [cF]
 | x::r,i,t,h,ht,hs=>by
  obtain ⟨h1,h2⟩:=h x (by simp)
  have e:((x::r).length*B:Nat)=r.length*B+B:=by rw [Z9,Nat.add_mul,Nat.one_mul]
  rw [e] at hs ⊢
  obtain ⟨g1,g2,g3⟩:=ZW r (i+1) (t+g x) (fun y hy=>h y (by simp [hy])) (by omega) (by omega)
  simp only [cF,List.map_cons,List.sum_cons]
  rw [wr (by omega) (by omega),g1]
  omega
theorem ZX {α:Type} {g:α->Int} {B:Nat}:∀ (l:List α) (i:Nat) (t:Int),(∀ x∈l,0<=g x/\g x<=(B:Int))->t<=9223372036854775807->-9223372036854775808<=t - ((l.length*B:Nat):Int)->cF (fun x _ (t:Int)=>IntKind.i64.wrap (t - g x)) l i t=t - (l.map g).sum
 | [],i,t,_,_,_=>by simp [cF]
 | x::r,i,t,h,ht,hs=>by
  obtain ⟨h1,h2⟩:=h x (by simp)
  have e:((x::r).length*B:Nat)=r.length*B+B:=by rw [Z9,Nat.add_mul,Nat.one_mul]
  rw [e] at hs
  simp only [cF,List.map_cons,List.sum_cons]
  rw [wr (by omega) (by omega),ZX r (i+1) (t - g x) (fun y hy=>h y (by simp [hy])) (by omega) (by omega)]
  omega
def Ln (l:List aC):Prop:=∀ x∈l,0<=x.2.2.1/\x.2.2.1<=1000000000
def Cg (l:List aC) (id:Int):Int:=((nM l id).map fun k=>(aU l k).2.2.1).sum
theorem UF {l:List aC} {id:Int} {i:Nat} {n:Int} (h:(nM l id)[i]? = some n):0<=n/\l[n.toNat]? = some (aU l n)/\(aU l n).2.1=id/\aU l n∈l:=by
 obtain ⟨k,x,rfl,h2,h3⟩:=ZO (Zc h)
 rw [jU h2,Q3]
 exact ⟨by omega,h2,h3,Zc h2⟩
theorem ZY {l:List aC} {id:Int} (hr:Ln l):∀ n∈nM l id,0<=(aU l n).2.2.1/\(aU l n).2.2.1<=((1000000000:Nat):Int):=by
 intro n hn
 obtain ⟨i,hi⟩:=List.getElem?_of_mem hn
 exact hr _ (UF hi).2.2.2
theorem Qgt {d:Nat} {c:Cf} {n:Nat} {y:aC} (hn:c.2.1[n]? = some y) (hl:c.2.1.length<=24) (hr:Ln c.2.1):F7 (d+2) c (n:Int)=some (Cg c.2.1 y.1):=by
 have hk:=OQ (l:=c.2.1) (id:=y.1)
 have hm:(nM c.2.1 y.1).length*1000000000<=24*1000000000:=Zk _ (by omega)
 rw [Tm,ZP hn (by omega),Q8]
 refine (Qc (fun (t:Int) (i:Int)=>(t,i)) (nM c.2.1 y.1) (fun x _ t k=>k (IntKind.i64.wrap (t+(aU c.2.1 x).2.2.1))) (fun t=>some t) ?_ ?_ (by rw [Q6];omega) 0).trans ?_
 .intro ag t i x hx
  have hi:=(Z0 hx).1
  obtain ⟨k1,k2,k3,k4⟩:=UF hx
  simp only [p5,bW hx,nn,Q3,hx,Q8,Q4,tj hx]
  rw [Z5 k1,Q4,k2,Q8,aN (by omega)]
 .intro ag t;simp only [p5,bB,Q5];rfl
 .rw [wS (f:=fun (x:Int) _ (t:Int)=>IntKind.i64.wrap (t+(aU c.2.1 x).2.2.1)),(ZW (nM c.2.1 y.1) 0 0 (ZY hr) (by omega) (by omega)).1,Int.zero_add];rfl
theorem Qoz {d:Nat} {c:Cf} {n:Nat} {y:aC} (hn:c.2.1[n]? = some y) (hl:c.2.1.length<=24) (hr:Ln c.2.1):FA (d+2) c (n:Int)=some (y.2.2.1 - Cg c.2.1 y.1):=by
 have hk:=OQ (l:=c.2.1) (id:=y.1)
 have hm:(nM c.2.1 y.1).length*1000000000<=24*1000000000:=Zk _ (by omega)
 have hy:=hr y (Zc hn)
 rw [SB,nn,Q4,Q3,hn,Q8,OR hn (by omega),Q8]
 refine (Qc (fun (t:Int) (i:Int)=>(t,i)) (nM c.2.1 y.1) (fun x _ t k=>k (IntKind.i64.wrap (t - (aU c.2.1 x).2.2.1))) (fun t=>some t) ?_ ?_ (by rw [Q6];omega) y.2.2.1).trans ?_
 .intro ag t i x hx
  have hi:=(Z0 hx).1
  obtain ⟨k1,k2,k3,k4⟩:=UF hx
  simp only [o5,bW hx,nn,Q3,hx,Q8,Q4,tj hx]
  rw [Z5 k1,Q4,k2,Q8,aN (by omega)]
 .intro ag t;simp only [o5,bB,Q5];rfl
 .rw [wS (f:=fun (x:Int) _ (t:Int)=>IntKind.i64.wrap (t - (aU c.2.1 x).2.2.1)),ZX (nM c.2.1 y.1) 0 y.2.2.1 (ZY hr) (by omega) (by omega)];rfl
def mw (x:aC):Bool:=decide (1<=x.2.2.1/\x.2.2.1<=100000/\x.2.2.1<=x.2.2.2.1/\x.2.2.2.1<=100000)
def mU (x:aC):Bool:=decide (1500<=x.2.2.2.2.1/\x.2.2.2.2.1<=1000000/\1500<=x.2.2.2.2.2.1/\x.2.2.2.2.2.1<=1000000/\0<=x.2.2.2.2.2.2.1/\x.2.2.2.2.2.2.1<=7)
def nP (l:List aC) (x:aC):Bool:=decide (Cg l x.1<=x.2.2.1)
def nQ (l:List aC) (x:aC):Bool:=if gV l x.1=true then decide (1<=x.2.2.2.2.2.2.2/\x.2.2.2.2.2.2.2<=60) else x.2.2.2.2.2.2.2==0
theorem Qjr {d:Nat} {x:aC}:F3 (d+1) x=some (mw x):=by
 rw [Ti];unfold mw
 simp only [uQ];congr 1;rw [Bool.eq_iff_iff];simp
theorem Qgv {d:Nat} {x:aC}:F_ (d+1) x=some (mU x):=by
 rw [To];unfold mU
 simp only [uQ];congr 1;rw [Bool.eq_iff_iff];simp
theorem Qp0 {d:Nat} {x:aC}:Fx (d+2) x=some (decide (1<=x.1/\x.1<=999)&&(mw x&&mU x)):=by
 rw [Sz];unfold mw mU
 simp only [vQ,Q8,uQ];congr 1;rw [Bool.eq_iff_iff];simp;omega
theorem Qgw {d:Nat} {c:Cf} {n:Nat} {y:aC} (hn:c.2.1[n]? = some y) (hl:c.2.1.length<=1000):Gb (d+5) c (n:Int)=some (nQ c.2.1 y):=by
 rw [Tp,nn,Q4,Q3,hn,Q8,Ou hn (by omega),Q8]
 unfold nQ
 cases gV c.2.1 y.1 with
 | false=>rfl
 | true =>
  rw [if_pos rfl,Q4]
  simp only [uQ];congr 1;rw [Bool.eq_iff_iff];simp
theorem Qaa {d:Nat} {c:Cf} (hl:c.2.1.length<=1000):F4 (d+4) c=some (c.2.1.all fun x=>decide (0<=x.2.2.1/\x.2.2.1<=1000000000)):=by
 rw [Tj]
 refine (Qc (fun (t:Int) (i:Int)=>(t,i)) c.2.1 (fun x i t k=>aa (decide (0<=x.2.2.1/\x.2.2.1<=1000000000)) (k t) (some false)) (fun _=>some true) ?_ ?_ (by rw [Q6];omega) 0).trans ?_
 .intro ag t i x hx;have hi:=(Z0 hx).1;simp only [dL,bW hx,nn,Q3,hx,Q8,Q4];rw [aN (by omega)]
  by_cases h1:x.2.2.1 < 0
  .rw [Z5 h1,Q4,Z4 (show ¬ (0<=x.2.2.1/\x.2.2.1<=1000000000) by omega),Q5];rfl
  .rw [Z4 h1,Q5]
   by_cases h2:x.2.2.1 > 1000000000
   .rw [Z5 h2,Q4,Z4 (show ¬ (0<=x.2.2.1/\x.2.2.1<=1000000000) by omega),Q5];rfl
   .rw [Z4 h2,Q5,Z5 (show 0<=x.2.2.1/\x.2.2.1<=1000000000 by omega),Q4]
 .intro ag t;simp only [dL,bB,Q5];rfl
 .rw [Ce];cases c.2.1.all _<;>rfl
theorem Qmy {d:Nat} {c:Cf} (hl:c.2.1.length<=24) (hr:Ln c.2.1):Ok (F9 (d+3) c) fun r=>((((r.length:Nat):Int))==0)=c.2.1.all (nP c.2.1):=by
 rw [Tn]
 refine ⟨fL (fun x _ => !nP c.2.1 x) (fun _ k=>((k:Nat):Int)) c.2.1 0,?_,?_⟩
 .refine (Qc (fun (t:List Int) (i:Int)=>(t,i)) c.2.1 (fun x i t k=>aa (!nP c.2.1 x) (aa (Nat.ble ((t.length+[((i:Nat):Int)].length)*8) Q7) (k (t++[((i:Nat):Int)])) none) (k t)) (fun t=>some t) ?_ ?_ (by rw [Q6];omega) []).trans ?_
  .intro ag t i x hx;have hi:=(Z0 hx).1;simp only [p6,bW hx,nn,Q3,hx,Q8,Q4]
   rw [Qgt hx hl hr,Q8,aN (by omega)]
   unfold nP
   by_cases h2:Cg c.2.1 x.1<=x.2.2.1
   .rw [Z5 h2,Z4 (show ¬ Cg c.2.1 x.1 > x.2.2.1 by omega)];rfl
   .rw [Z4 h2,Z5 (show Cg c.2.1 x.1 > x.2.2.1 by omega)];rfl
  .intro ag t;simp only [p6,bB,Q5];rfl
  .exact D4 (c:=fun x _ => !nP c.2.1 x) (e:=fun (_:aC) (k:Nat)=>((k:Nat):Int)) (w:=8) c.2.1 0 [] (by simp;omega)
 .have:=Lm (c:=fun x:aC => !nP c.2.1 x) (e:=fun _ k=>((k:Nat):Int)) c.2.1 0
  rw [show c.2.1.all (nP c.2.1) = !(c.2.1.any fun x => !nP c.2.1 x) by simp [List.all_eq_not_any_not],<- this]
  simp only []
  rw [Bool.eq_iff_iff,beq_iff_eq,beq_iff_eq]
  omega
theorem Qw7 {v m:Int} (h1:0<=v) (h2:v<=65535) (h3:0<=m) (h4:m<=65535) :
  ((IntKind.i64.wrap ((BitVec.ofInt IntKind.i64.bits v &&& ~~~BitVec.ofInt IntKind.i64.bits m).toNat:Int))==0)=((IntKind.i64.wrap ((BitVec.ofInt IntKind.i64.bits v &&& BitVec.ofInt IntKind.i64.bits m).toNat:Int))==v):=by
 obtain ⟨a,rfl⟩:=Int.eq_ofNat_of_zero_le h1
 obtain ⟨b,rfl⟩:=Int.eq_ofNat_of_zero_le h3
 have ha:a < 2 ^ 64:=by omega
 have hb:b < 2 ^ 64:=by omega
 have e1:(BitVec.ofInt IntKind.i64.bits (a:Int))=BitVec.ofNat 64 a:=by show BitVec.ofInt 64 (a:Int)=_;simp
 have e2:(BitVec.ofInt IntKind.i64.bits (b:Int))=BitVec.ofNat 64 b:=by show BitVec.ofInt 64 (b:Int)=_;simp
 have t1:(BitVec.ofInt IntKind.i64.bits (a:Int) &&& ~~~BitVec.ofInt IntKind.i64.bits (b:Int)).toNat=(BitVec.ofNat 64 a &&& ~~~BitVec.ofNat 64 b).toNat:=by rw [e1,e2];rfl
 have t2:(BitVec.ofInt IntKind.i64.bits (a:Int) &&& BitVec.ofInt IntKind.i64.bits (b:Int)).toNat=(BitVec.ofNat 64 a &&& BitVec.ofNat 64 b).toNat:=by rw [e1,e2];rfl
 rw [t1,t2]
 have I3:(BitVec.ofNat 64 a).toNat=a:=by rw [BitVec.toNat_ofNat,Nat.mod_eq_of_lt ha]
 have l1:(BitVec.ofNat 64 a &&& ~~~BitVec.ofNat 64 b).toNat<=a:=by
  rw [BitVec.toNat_and,I3];exact Nat.and_le_left
 have l2:(BitVec.ofNat 64 a &&& BitVec.ofNat 64 b).toNat<=a:=by
  rw [BitVec.toNat_and,I3];exact Nat.and_le_left
 rw [wr (by omega) (by omega),wr (by omega) (by omega),Bool.eq_iff_iff,beq_iff_eq,beq_iff_eq]
 have key:(BitVec.ofNat 64 a &&& ~~~BitVec.ofNat 64 b)=0#64↔(BitVec.ofNat 64 a &&& BitVec.ofNat 64 b)=BitVec.ofNat 64 a:=by
  constructor
  .intro h
   apply BitVec.eq_of_getLsbD_eq
   intro i hi
   have:=congrArg (fun x=>x.getLsbD i) h
   simp only [BitVec.getLsbD_and,BitVec.getLsbD_not,BitVec.getLsbD_zero,hi,decide_true,Zg] at this ⊢
   revert this
   cases (BitVec.ofNat 64 a).getLsbD i<;>cases (BitVec.ofNat 64 b).getLsbD i<;>simp
  .intro h
   apply BitVec.eq_of_getLsbD_eq
   intro i hi
   have:=congrArg (fun x=>x.getLsbD i) h
   simp only [BitVec.getLsbD_and,BitVec.getLsbD_not,BitVec.getLsbD_zero,hi,decide_true,Zg] at this ⊢
   revert this
   cases (BitVec.ofNat 64 a).getLsbD i<;>cases (BitVec.ofNat 64 b).getLsbD i<;>simp
 constructor
 .intro h
  have h':(BitVec.ofNat 64 a &&& ~~~BitVec.ofNat 64 b)=0#64:=by apply BitVec.eq_of_toNat_eq;simp only [BitVec.toNat_ofNat];omega
  rw [key.1 h',I3]
 .intro h
  have h':(BitVec.ofNat 64 a &&& BitVec.ofNat 64 b)=BitVec.ofNat 64 a:=by apply BitVec.eq_of_toNat_eq;rw [I3];omega
  rw [key.2 h'];rfl
def zK (x:dV):Bool:=decide (1<=x.1/\x.1<=99/\0<=x.2.1/\x.2.1<=3/\0<=x.2.2.1/\x.2.2.1<=65535/\0<=x.2.2.2.1/\x.2.2.2.1<=65535)&&((IntKind.i64.wrap ((BitVec.ofInt IntKind.i64.bits x.2.2.2.1 &&& BitVec.ofInt IntKind.i64.bits x.2.2.1).toNat:Int))==x.2.2.2.1)
theorem Qmz {d:Nat} {x:dV}:FC (d+2) x=some (zK x):=by
 rw [SD];unfold zK
 simp only [vQ,Q8,uQ];congr 1;rw [Bool.eq_iff_iff];simp;omega
theorem Qeq {d:Nat} {x:dV}:Gc (d+1) x=some (zK x):=by
 rw [Tt];unfold zK
 by_cases h:1<=x.1/\x.1<=99/\0<=x.2.1/\x.2.1<=3/\0<=x.2.2.1/\x.2.2.1<=65535/\0<=x.2.2.2.1/\x.2.2.2.1<=65535
 .obtain ⟨h1,h2,h3,h4,h5,h6,h7,h8⟩:=h
  rw [Z5 (show _/\_ from ⟨h1,h2,h3,h4,h5,h6,h7,h8⟩),Zg,Qw7 h7 h8 h5 h6]
  simp only [uQ]
  rw [if_pos (by simp;omega),if_pos (by simp;omega),if_pos (by simp;omega),if_pos (by simp;omega),if_pos (by simp;omega),if_pos (by simp;omega),if_pos (by simp;omega),if_pos (by simp;omega)]
 .rw [Z4 h,Bool.false_and]
  simp only [uQ];congr 1
  rw [Bool.eq_false_iff]
  intro hc
  refine h ?_
  (repeat' split at hc)<;>simp_all
  all_goals omega
def zf5:dV:=(0,0,0,0,0)
def GJ (l:List dV) (i:Int):dV:=l.getD i.toNat zf5
theorem ZZ {l:List dV} {n:Nat} {x:dV} (h:l[n]? = some x):GJ l (n:Int)=x:=by unfold GJ;rw [Q3,Zr,h];rfl
def D7 (l:List aC) (fs:List dV) (x:dV) (i:Nat):Bool:=zK x&&((decide (i=0) || decide ((GJ fs ((i:Int) - 1)).1 < x.1))&&oB l x.2.2.2.2)
def vS (l:List aC) (fs:List dV):Bool:=eG (D7 l fs) fs 0&&decide (fs.length<=16)
theorem Qcu {d:Nat} {c:Cf} (hl:c.2.1.length<=1000) (hf:c.2.2.1.length < 4000000):Ge (d+6) c=some (vS c.2.1 c.2.2.1):=by
 rw [Tu]
 refine (Qc (fun (t:Bool) (i:Int)=>(t,i)) c.2.2.1 (fun x i t k=>aa (D7 c.2.1 c.2.2.1 x i) (k t) (some false)) (fun _=>some (decide (c.2.2.1.length<=16))) ?_ ?_ (by rw [Q6];omega) false).trans ?_
 .intro ag t i x hx;have hi:=(Z0 hx).1;simp only [p7,bW hx,nn,Q3,hx,Q8,Q4]
  rw [Qeq,Q8]
  unfold jj D7
  rw [aN (by omega)]
  cases zK x with
  | false=>rfl
  | true =>
   rw [Zl,Q5,Zg]
   by_cases h0:i=0
   .subst h0
    rw [Z4 (show ¬ ((0:Nat):Int) > 0 by omega),Q5,UB hl,Q8]
    cases oB c.2.1 x.2.2.2.2<;>rfl
   .rw [Z5 (show (i:Int) > 0 by omega),Q4,I2 (by omega) (by omega),nn,Q4,Q3,Z6 (show i - 1 < c.2.2.1.length by omega),Q8,Z4 h0,Bool.false_or]
    rw [show (i:Int) - 1=((i - 1:Nat):Int) by omega,ZZ (Z6 (show i - 1 < c.2.2.1.length by omega))]
    by_cases h:x.1<=(c.2.2.1[i - 1]).1
    .rw [Z5 h,Z4 (show ¬ (c.2.2.1[i - 1]).1 < x.1 by omega)];rfl
    .rw [Z4 h,Z5 (show (c.2.2.1[i - 1]).1 < x.1 by omega),Q5,UB hl,Q8]
     cases oB c.2.1 x.2.2.2.2<;>rfl
 .intro ag t;simp only [p7,bB,Q5]
  unfold yh
  congr 1;rw [Bool.eq_iff_iff];simp;omega
 .rw [qG];unfold vS;cases eG (D7 c.2.1 c.2.2.1) c.2.2.1 0<;>rfl
theorem Qjs {d:Nat} {c:Cf} (hl:c.2.1.length<=1000) (hf:c.2.2.1.length < 4000000):SE (d+4) c=some (vS c.2.1 c.2.2.1):=by
 rw [e97]
 refine (Qc (fun (t:Bool) (i:Int)=>(t,i)) c.2.2.1 (fun x i t k=>aa (D7 c.2.1 c.2.2.1 x i) (k t) (some false)) (fun _=>some (decide (c.2.2.1.length<=16))) ?_ ?_ (by rw [Q6];omega) false).trans ?_
 .intro ag t i x hx;have hi:=(Z0 hx).1;simp only [xq,bW hx,nn,Q3,hx,Q8,Q4]
  rw [Qmz,Q8]
  unfold nC D7
  rw [aN (by omega)]
  cases zK x with
  | false=>rfl
  | true =>
   rw [Zl,Q5,Zg]
   by_cases h0:i=0
   .subst h0
    rw [Z4 (show ¬ ((0:Nat):Int) > 0 by omega),Q5,Ov hl,Q8]
    cases oB c.2.1 x.2.2.2.2<;>rfl
   .rw [Z5 (show (i:Int) > 0 by omega),Q4,I2 (by omega) (by omega),nn,Q4,Q3,Z6 (show i - 1 < c.2.2.1.length by omega),Q8,Z4 h0,Bool.false_or]
    rw [show (i:Int) - 1=((i - 1:Nat):Int) by omega,ZZ (Z6 (show i - 1 < c.2.2.1.length by omega))]
    by_cases h:(c.2.2.1[i - 1]).1>=x.1
    .rw [Z5 h,Z4 (show ¬ (c.2.2.1[i - 1]).1 < x.1 by omega)];rfl
    .rw [Z4 h,Z5 (show (c.2.2.1[i - 1]).1 < x.1 by omega),Q5,Ov hl,Q8]
     cases oB c.2.1 x.2.2.2.2<;>rfl
 .intro ag t;simp only [xq,bB,Q5]
  unfold DE
  congr 1;rw [Bool.eq_iff_iff];simp;omega
 .rw [qG];unfold vS;cases eG (D7 c.2.1 c.2.2.1) c.2.2.1 0<;>rfl
def kR (l:List aC):Bool:=decide (1<=l.length/\l.length<=24)&&(rH l&&(decide (uS l=1)&&(D5 l&&(eG (fun _ i=>vR l i) l 0&&(l.all mw&&(l.all (nP l)&&(l.all mU&&l.all (nQ l))))))))
def GK (c:Cf):Bool:=c.2.2.2==0 || oB c.2.1 c.2.2.2
def ff (c:Cf):Bool:=A5 c.1&&(kR c.2.1&&(vS c.2.1 c.2.2.1&&GK c))
theorem Z_ {l:List aC} (h:l.all mw=true):Ln l:=by
 intro x hx
 have:=Z3 h x hx
 unfold mw at this
 simp only [Zj] at this
 omega
theorem Qsg {d:Nat} {c:Cf} (hl:c.2.1.length<=1000):hO (d+7) c 5=some (c.2.1.all mw):=by
 rw [show d+7=(d+3)+4 by omega,AY]
 simp only [Int.reduceBEq,Q4,Q5]
 refine (Qc (fun (t:Int) (i:Int)=>(t,i)) c.2.1 (fun x i t k=>aa (mw x) (k t) (some false)) (fun _=>some true) ?_ ?_ (by rw [Q6];omega) 0).trans ?_
 .intro ag t i x hx;have hi:=(Z0 hx).1;simp only [dM,bW hx,nn,Q3,hx,Q8,Q4];rw [aN (by omega)]
  rw [Qjr,Q8]
  cases mw x<;>rfl
 .intro ag t;simp only [dM,bB,Q5];rfl
 .rw [Ce];cases c.2.1.all _<;>rfl
theorem Qsh {d:Nat} {c:Cf} (hl:c.2.1.length<=1000):hO (d+7) c 7=some (c.2.1.all mU):=by
 rw [show d+7=(d+3)+4 by omega,AY]
 simp only [Int.reduceBEq,Q4,Q5]
 refine (Qc (fun (t:Int) (i:Int)=>(t,i)) c.2.1 (fun x i t k=>aa (mU x) (k t) (some false)) (fun _=>some true) ?_ ?_ (by rw [Q6];omega) 0).trans ?_
 .intro ag t i x hx;have hi:=(Z0 hx).1;simp only [dw,bW hx,nn,Q3,hx,Q8,Q4];rw [aN (by omega)]
  rw [Qgv,Q8]
  cases mU x<;>rfl
 .intro ag t;simp only [dw,bB,Q5];rfl
 .rw [Ce];cases c.2.1.all _<;>rfl
theorem Qsi {d:Nat} {c:Cf} (hl:c.2.1.length<=1000):hO (d+7) c 8=some (c.2.1.all (nQ c.2.1)):=by
 rw [show d+7=(d+3)+4 by omega,AY]
 simp only [Int.reduceBEq,Q4,Q5]
 refine (Qc (fun (t:Bool) (i:Int)=>(t,i)) c.2.1 (fun x i t k=>aa (nQ c.2.1 x) (k t) (some false)) (fun _=>some true) ?_ ?_ (by rw [Q6];omega) false).trans ?_
 .intro ag t i x hx
  have hi:=(Z0 hx).1
  simp only [p8,bW hx,Q4]
  rw [show d+3+3=(d+1)+5 by omega,Qgw hx hl,Q8,aN (by omega)]
  cases nQ c.2.1 x<;>rfl
 .intro ag t;simp only [p8,bB,Q5];rfl
 .rw [Ce];cases c.2.1.all _<;>rfl
theorem Oj {d:Nat} {c:Cf} (hl:c.2.1.length < 4000000) (hf:c.2.2.1.length < 4000000):IV (d+8) c=some (ff c):=by
 rw [e73]
 unfold ym
 by_cases h1:c.2.1.length<=24
 case neg =>
  rw [Z5 (show ((c.2.1.length:Nat):Int) > 24 by omega),Q4,Q4]
  unfold ff kR
  rw [Z4 (show ¬ (1<=c.2.1.length/\c.2.1.length<=24) by omega)];simp
 rw [Z4 (show ¬ ((c.2.1.length:Nat):Int) > 24 by omega),Q5]
 by_cases h2:c.2.2.1.length<=16
 case neg =>
  rw [Z5 (show ((c.2.2.1.length:Nat):Int) > 16 by omega),Q4]
  unfold ff vS
  rw [Z4 h2];simp
 rw [Z4 (show ¬ ((c.2.2.1.length:Nat):Int) > 16 by omega),Q5]
 have st:∀ (f:Nat) (k:Int) (b:Bool),0<=k->k<=10->hO (d+7) c k=some b->Q9 (fj (d+7) c (gr (d+7))) (f+1) (false,k)=aa b (Q9 (fj (d+7) c (gr (d+7))) f (false,k+1)) (some false):=by
  intro f k b I4 hk hb
  rw [show Q9 (fj (d+7) c (gr (d+7))) (f+1) (false,k)=fj (d+7) c (gr (d+7)) (Q9 (fj (d+7) c (gr (d+7))) f) (false,k) from rfl]
  simp only [fj]
  rw [Z5 hk,Q4,hb,Q8,wr (by omega) (by omega)]
  cases b<;>rfl
 obtain ⟨f,hfu⟩:∃ f,Qd=f+11:=⟨4194293,Q6⟩
 have H1:hO (d+7) c 1=some (A5 c.1):=by
  rw [show d+7=(d+3)+4 by omega,AY];simp only [Int.reduceBEq,Q4];rw [show d+3+3=(d+4)+2 by omega,Qsd,Q8]
 have H2:hO (d+7) c 2=some (rH c.2.1&&decide (1<=c.2.1.length/\c.2.1.length<=24)):=by
  rw [show d+7=(d+3)+4 by omega,AY];simp only [Int.reduceBEq,Q4,Q5];rw [show d+3+3=(d+4)+2 by omega,Qmw hl,Q8]
 have H3:hO (d+7) c 3=some (decide (uS c.2.1=1)&&D5 c.2.1):=by
  rw [show d+7=(d+3)+4 by omega,AY];simp only [Int.reduceBEq,Q4,Q5];rw [show d+3+3=(d+1)+5 by omega,Qct (by omega),Q8]
 have H4:hO (d+7) c 4=some (eG (fun _ i=>vR c.2.1 i) c.2.1 0):=by
  rw [show d+7=(d+3)+4 by omega,AY];simp only [Int.reduceBEq,Q4,Q5];rw [show d+3+3=(d+1)+5 by omega,Qjq h1,Q8]
 have H5:=Qsg (d:=d) (c:=c) (by omega)
 have H7:=Qsh (d:=d) (c:=c) (by omega)
 have H8:=Qsi (d:=d) (c:=c) (by omega)
 have H9:hO (d+7) c 9=some (vS c.2.1 c.2.2.1):=by
  rw [show d+7=(d+3)+4 by omega,AY];simp only [Int.reduceBEq,Q4,Q5];rw [Qcu (by omega) hf,Q8]
 have H10:hO (d+7) c 10=some (GK c):=by
  rw [show d+7=(d+3)+4 by omega,AY];simp only [Int.reduceBEq,Q5];unfold GK
  cases (c.2.2.2==0) with
  | true=>rfl
  | false=>rw [Q5,show d+3+3=(d+1)+5 by omega,UB (by omega),Q8];rfl
 unfold ff kR
 rw [hfu,st _ _ _ (by omega) (by omega) H1]
 cases A5 c.1 with
 | false=>rfl
 | true =>
 rw [Q4,Zg,show (1:Int)+1=2 from rfl,st _ _ _ (by omega) (by omega) H2]
 cases decide (1<=c.2.1.length/\c.2.1.length<=24) with
 | false=>rw [Bool.and_false];rfl
 | true =>
 rw [Bool.and_true]
 cases rH c.2.1 with
 | false=>rfl
 | true =>
 rw [Q4,Zg,Zg,show (2:Int)+1=3 from rfl,st _ _ _ (by omega) (by omega) H3]
 cases decide (uS c.2.1=1) with
 | false=>rfl
 | true =>
 cases D5 c.2.1 with
 | false=>rfl
 | true =>
 rw [Zg,Q4,Zg,show (3:Int)+1=4 from rfl,st _ _ _ (by omega) (by omega) H4]
 cases eG (fun _ i=>vR c.2.1 i) c.2.1 0 with
 | false=>rfl
 | true =>
 rw [Q4,Zg,show (4:Int)+1=5 from rfl,st _ _ _ (by omega) (by omega) H5]
 cases hr:c.2.1.all mw with
 | false=>rfl
 | true =>
 have bn:=Z_ hr
 have H6:hO (d+7) c 6=some (c.2.1.all (nP c.2.1)):=by
  rw [show d+7=(d+3)+4 by omega,AY];simp only [Int.reduceBEq,Q4,Q5]
  rw [show d+3+3=(d+2)+4 by omega,Qaa (by omega),Q8,show (c.2.1.all fun x=>decide (0<=x.2.2.1/\x.2.2.1<=1000000000))=true from List.all_eq_true.2 (fun x hx=>Z5 (bn x hx)),Q4]
  obtain ⟨r,g1,g2⟩:=Qmy (d:=d+3) h1 bn
  rw [show d+2+4=d+3+3 by omega,g1,Q8,g2]
 rw [Q4,Zg,show (5:Int)+1=6 from rfl,st _ _ _ (by omega) (by omega) H6]
 cases c.2.1.all (nP c.2.1) with
 | false=>rfl
 | true =>
 rw [Q4,Zg,show (6:Int)+1=7 from rfl,st _ _ _ (by omega) (by omega) H7]
 cases c.2.1.all mU with
 | false=>rfl
 | true =>
 rw [Q4,Zg,show (7:Int)+1=8 from rfl,st _ _ _ (by omega) (by omega) H8]
 cases c.2.1.all (nQ c.2.1) with
 | false=>rfl
 | true =>
 rw [Q4,Zg,show (8:Int)+1=9 from rfl,st _ _ _ (by omega) (by omega) H9]
 cases vS c.2.1 c.2.2.1 with
 | false=>rfl
 | true =>
 rw [Q4,Zg,show (9:Int)+1=10 from rfl,st _ _ _ (by omega) (by omega) H10]
 cases GK c with
 | false=>rfl
 | true =>
 rw [Q4,show Q9 (fj (d+7) c (gr (d+7))) (f+1) (false,(10:Int)+1)=fj (d+7) c (gr (d+7)) (Q9 (fj (d+7) c (gr (d+7))) f) (false,11) from rfl]
 simp only [fj]
 rw [Z4 (show ¬ (11:Int)<=10 by omega),Q5];rfl
theorem Qb7 {α τ β:Type} {p:α->Nat->Bool} {f:α->Nat->τ->τ} {no:Option β} {fin:τ->Option β}:∀ (l:List α) (i:Nat) (t:τ),ef (fun x i t k=>aa (p x i) (k (f x i t)) no) fin l i t=aa (eG p l i) (fin (cF f l i t)) no
 | [],i,t=>rfl
 | x::r,i,t=>by
  simp only [ef,eG,cF]
  cases p x i with
  | true=>simp only [Q4,Zg];exact Qb7 r (i+1) (f x i t)
  | false=>rfl
theorem Qgy {α σ τ:Type} {f:α->Nat->τ->τ}:∀ (l:List α) (i:Nat) (a:σ) (t:τ),cF (fun x i (s:σ×τ)=>(s.1,f x i s.2)) l i (a,t)=(a,cF f l i t)
 | [],_,_,_=>rfl
 | x::r,i,a,t=>by simp only [cF];exact Qgy r (i+1) a (f x i t)
theorem Qsj {d:Nat} {c:Cf} (h0:1<=c.2.1.length) (h1:c.2.1.length<=24):SC (d+3) c=some (kR c.2.1):=by
 rw [e96]
 refine (Qc (fun (t:Bool×Int) (i:Int)=>(t.1,t.2,i)) c.2.1 (fun x i t k=>aa (zJ c.2.1 x i&&(mw x&&mU x)) (k (t.1,(if (x.2.1==0)=true then IntKind.i64.wrap (t.2+1) else t.2))) (some false)) (fun t=>xk (d+2) c t.1 t.2) ?_ ?_ (by rw [Q6];omega) (false,0)).trans ?_
 .intro ag t i x hx;have hi:=(Z0 hx).1;simp only [xl,bW hx,nn,Q3,hx,Q8,Q4]
  rw [Qp0,Q8]
  unfold rP zJ
  rw [aN (by omega)]
  cases decide (1<=x.1/\x.1<=999) with
  | false=>rfl
  | true =>
  cases (mw x&&mU x) with
  | false=>rw [Bool.and_false,Bool.and_false];rfl
  | true =>
   rw [Bool.and_true,Zl,Q5,Zg,Bool.and_true]
   by_cases h0:i=0
   .subst h0
    rw [Z4 (show ¬ ((0:Nat):Int) > 0 by omega),Q5,Q5]
    cases (x.2.1==0)<;>rfl
   .rw [Z5 (show (i:Int) > 0 by omega),Q4,I2 (by omega) (by omega),nn,Q4,Q3,Z6 (show i - 1 < c.2.1.length by omega),Q8,Z4 h0,Bool.false_or]
    rw [show (i:Int) - 1=((i - 1:Nat):Int) by omega,jU (Z6 (show i - 1 < c.2.1.length by omega))]
    by_cases h:(c.2.1[i - 1]).1>=x.1
    .rw [Z5 h,Z4 (show ¬ (c.2.1[i - 1]).1 < x.1 by omega)];rfl
    .rw [Z4 h,Z5 (show (c.2.1[i - 1]).1 < x.1 by omega),Q5]
     cases (x.2.1==0)<;>rfl
 .intro ag t;simp only [xl,bB,Q5]
 .rw [Qb7 (f:=fun (x:aC) _ (t:Bool×Int)=>(t.1,(if (x.2.1==0)=true then IntKind.i64.wrap (t.2+1) else t.2))),ZR,UC (p:=fun x=>mw x&&mU x),Qgy (f:=fun (x:aC) _ (t:Int)=>if (x.2.1==0)=true then IntKind.i64.wrap (t+1) else t)]
  have:=OS (p:=fun x:aC=>x.2.1==0) c.2.1 0 0 (by omega)
  rw [show ((0:Nat):Int)=0 from rfl] at this
  rw [this,Zo]
  unfold xk
  rw [show (c.2.1.filter fun x=>x.2.1==0).length=uS c.2.1 from rfl]
  have kV:(c.2.1.all fun x=>mw x&&mU x)=(c.2.1.all mw&&c.2.1.all mU):=by
   rw [Bool.eq_iff_iff];simp only [List.all_eq_true,Z8]
   exact ⟨fun h=>⟨fun x hx=>(h x hx).1,fun x hx=>(h x hx).2⟩,fun h x hx=>⟨h.1 x hx,h.2 x hx⟩⟩
  rw [kV]
  unfold kR rH
  rw [Z5 (show 1<=c.2.1.length/\c.2.1.length<=24 from ⟨h0,h1⟩),Zg]
  cases eG (zJ c.2.1) c.2.1 0 with
  | false=>rfl
  | true =>
  cases hr:c.2.1.all mw with
  | false=>simp [Q5]
  | true =>
  cases c.2.1.all mU with
  | false=>simp [Q5]
  | true =>
  have bn:=Z_ hr
  rw [Zg,Zg,Q4]
  by_cases ht:uS c.2.1=1
  case neg=>rw [show ((((uS c.2.1:Nat):Int)) != 1)=true by simp;omega,Q4,Z4 ht];simp
  rw [show ((((uS c.2.1:Nat):Int)) != 1)=false by simp;omega,Q5,Z5 ht]
  refine (Qc (fun (t:Bool) (i:Int)=>(t,i)) c.2.1 (fun x i t k=>aa (vR c.2.1 i&&(nP c.2.1 x&&nQ c.2.1 x)) (k t) (some false)) (fun _=>some true) ?_ ?_ (by rw [Q6];omega) false).trans ?_
  .intro ag t i x hx
   have hi:=(Z0 hx).1
   simp only [xh,bW hx,nn,Q3,hx,Q8,Q4]
   rw [Qyx hi h1,Q8]
   have tail:∀ b1 b2 b3:Bool,kB (d+2) c ag t (i:Int) x b1 b2 b3 false=aa (nQ c.2.1 x) (ag (t,((i+1:Nat):Int))) (some false):=by
    intro b1 b2 b3
    unfold kB
    rw [Q5]
    simp only [ZQ hx (show c.2.1.length<=1000 by omega),Q8,vQ]
    unfold kA nQ
    rw [aN (by omega)]
    cases gV c.2.1 x.1 with
    | true =>
     simp only [Q4,Zl,Q5,if_true]
     by_cases h:1<=x.2.2.2.2.2.2.2/\x.2.2.2.2.2.2.2<=60
     .rw [Z5 h];rfl
     .rw [Z4 h];rfl
    | false =>
     simp only [Q4,Bool.not_false,Q5,Bool.false_eq_true,if_false]
     by_cases h:x.2.2.2.2.2.2.2=0
     .rw [show (x.2.2.2.2.2.2.2 != 0)=false by simp [h],show (x.2.2.2.2.2.2.2==0)=true by simp [h]];rfl
     .rw [show (x.2.2.2.2.2.2.2 != 0)=true by simp [h],show (x.2.2.2.2.2.2.2==0)=false by simp [h]];rfl
   have bad:∀ b1 b2 b3:Bool,kB (d+2) c ag t (i:Int) x b1 b2 b3 true=some false:=fun b1 b2 b3=>rfl
   unfold vR
   by_cases h8:(cP c.2.1 9 (i:Int)).length<=8
   case neg=>rw [Z5 (show (((cP c.2.1 9 (i:Int)).length:Nat):Int) > 8 by omega),Q4,bad,Z4 h8];rfl
   have eN:0 < (cP c.2.1 9 (i:Int)).length:=by rw [UD (by omega)];simp
   rw [Z4 (show ¬ (((cP c.2.1 9 (i:Int)).length:Nat):Int) > 8 by omega),Q5,Z5 h8,Zg,I2 (by omega) (by omega),nn,Q4,Q3,Qo (by omega),Q4]
   obtain ⟨m1,m2⟩:=ZV eN
   obtain ⟨q1,q2⟩:=UE 9 (i:Int) (by omega) _ m1
   rw [m2,Q8,Z5 q1,Q4,GI q1 q2,Q8]
   by_cases h:(aU c.2.1 (nN (cP c.2.1 9 (i:Int)))).2.1=0
   case neg=>rw [show ((aU c.2.1 (nN (cP c.2.1 9 (i:Int)))).2.1 != 0)=true by simp [h],Q4,bad,show ((aU c.2.1 (nN (cP c.2.1 9 (i:Int)))).2.1==0)=false by simp [h]];rfl
   rw [show ((aU c.2.1 (nN (cP c.2.1 9 (i:Int)))).2.1 != 0)=false by simp [h],Q5,show ((aU c.2.1 (nN (cP c.2.1 9 (i:Int)))).2.1==0)=true by simp [h],Zg,Qoz hx h1 bn,Q8]
   unfold nP
   by_cases hs:Cg c.2.1 x.1<=x.2.2.1
   .rw [Z5 hs,Z4 (show ¬ x.2.2.1 - Cg c.2.1 x.1 < 0 by omega),tail,Zg]
   .rw [Z4 hs,Z5 (show x.2.2.1 - Cg c.2.1 x.1 < 0 by omega),bad];rfl
  .intro ag t;simp only [xh,bB,Q5];rfl
  .rw [qG,ZR,UC (p:=fun x=>nP c.2.1 x&&nQ c.2.1 x)]
   have zL:(c.2.1.all fun x=>nP c.2.1 x&&nQ c.2.1 x)=(c.2.1.all (nP c.2.1)&&c.2.1.all (nQ c.2.1)):=by
    rw [Bool.eq_iff_iff];simp only [List.all_eq_true,Z8]
    exact ⟨fun h=>⟨fun x hx=>(h x hx).1,fun x hx=>(h x hx).2⟩,fun h x hx=>⟨h.1 x hx,h.2 x hx⟩⟩
   rw [zL]
   have UG:eG (fun _ i=>vR c.2.1 i) c.2.1 0=true->D5 c.2.1=true:=by
    intro hw
    rw [sj] at hw
    unfold D5
    rw [List.all_eq_true]
    intro x hx
    obtain ⟨i,hi⟩:=List.getElem?_of_mem hx
    have h1:=hw i x hi
    rw [Zo] at h1
    unfold vR at h1
    simp only [Z8,Zj,beq_iff_eq] at h1
    obtain ⟨w1,w2⟩:=h1
    have e:=OU (l:=c.2.1) (i:=(i:Int)) (by omega) w1
    rw [jU hi] at e
    by_cases hn:0<=bP c.2.1 x.2.1
    .simp [hn]
    .have e2:cP c.2.1 9 (bP c.2.1 x.2.1)=[]:=by simp only [cP];rw [if_pos (by omega)]
     rw [e,e2] at w2
     rw [show nN [(i:Int)]=(i:Int) from rfl,jU hi] at w2
     simp [w2]
   cases hw:eG (fun _ i=>vR c.2.1 i) c.2.1 0 with
   | false=>simp [Q5]
   | true =>
    rw [UG hw]
    cases c.2.1.all (nP c.2.1)<;>cases c.2.1.all (nQ c.2.1)<;>rfl
theorem Ol {d:Nat} {c:Cf} (hs:c.1.size < 4000000) (hf:c.2.2.1.length < 4000000):IP (d+5) c=some (ff c):=by
 rw [e59,show d+4=(d+1)+3 by omega,Qse hs,Q8]
 unfold ff
 cases A5 c.1 with
 | false=>rfl
 | true =>
 rw [Q4,show d+1+3=(d+3)+1 by omega,vQ,Q8,Zg]
 by_cases h:1<=c.2.1.length/\c.2.1.length<=24
 case neg =>
  rw [Z4 (show ¬ ((1:Int)<=((c.2.1.length:Nat):Int)/\((c.2.1.length:Nat):Int)<=24) by omega),Q5]
  unfold kR
  rw [Z4 h];rfl
 rw [Z5 (show (1:Int)<=((c.2.1.length:Nat):Int)/\((c.2.1.length:Nat):Int)<=24 by omega),Q4,show d+3+1=(d+1)+3 by omega,Qsj h.1 h.2,Q8]
 cases kR c.2.1 with
 | false=>rfl
 | true =>
 rw [Q4,show d+1+3=d+4 by omega,Qjs (by omega) hf,Q8,Zg]
 cases vS c.2.1 c.2.2.1 with
 | false=>rfl
 | true =>
 rw [Q4,Zg]
 unfold GK
 cases (c.2.2.2==0) with
 | true=>rfl
 | false=>rw [Q5,show d+4=(d+1)+3 by omega,Ov (by omega),Q8,Bool.false_or]
theorem Qw9 {l:List aC} {f:Nat} {i:Int} (h:i < 0):cP l f i=[]:=by
 cases f with
 | zero=>rfl
 | succ f=>simp only [cP];rw [if_pos h]
def bN (l:List aC) (i:Int):Int:=bP l (aU l i).2.1
def cg (l:List aC) (i:Int):List Int:=nM l (aU l i).1
def fX (l:List aC) (i:Int):Nat:=(cP l 9 i).length
def vI (l:List aC) (i:Int):Prop:=0<=i/\i < ((l.length:Nat):Int)
structure Tr (l:List aC):Prop where
 n1:1<=l.length
 fF:l.length<=24
 inj:∀ i j,vI l i->vI l j->(aU l i).1=(aU l j).1->i=j
 pos:∀ i,vI l i->1<=(aU l i).1
 top:∃ t,vI l t/\(aU l t).2.1=0/\∀ j,vI l j->(aU l j).2.1=0->j=t
 GL:∀ i,vI l i->fX l i<=8/\(aU l (nN (cP l 9 i))).2.1=0
theorem fA {l:List aC} {i:Int} (h:vI l i):l[i.toNat]? = some (aU l i):=GI h.1 h.2
theorem Dr {l:List aC} {k:Nat} {x:aC} (h:l[k]? = some x):vI l (k:Int):=by
 have:=(Z0 h).1
 exact ⟨by omega,by omega⟩
theorem Qyy {l:List aC} {i:Int}:bN l i < ((l.length:Nat):Int):=BL
theorem GM {l:List aC} {i:Int} (h:0<=bN l i):vI l (bN l i):=⟨h,Qyy⟩
theorem Qyz {l:List aC} {i:Int} (h:0<=bN l i):(aU l (bN l i)).1=(aU l i).2.1:=by
 obtain ⟨k,x,h1,h2,h3⟩:=wM h
 unfold bN
 rw [h1,jU h2,h3]
theorem Qz0 {l:List aC} (T:Tr l) {i:Int} (h:vI l i):bP l (aU l i).1=i:=by
 by_cases h0:0<=bP l (aU l i).1
 .obtain ⟨k,x,h1,h2,h3⟩:=wM h0
  rw [h1]
  refine T.inj _ _ (Dr h2) h ?_
  rw [jU h2,h3]
 .have:=(UA (l:=l) (id:=(aU l i).1)).1 (by omega) (aU l i) (Zc (fA h))
  exact absurd rfl this
theorem Qlf {α γ:Type} {c:α->Nat->Bool} {e:α->Nat->γ}:∀ (l:List α) (i j:Nat) (x:α),l[j]? = some x->c x (i+j)=true->e x (i+j)∈fL c e l i
 | [],i,j,x,h,_=>by simp at h
 | y::r,i,0,x,h,hc=>by
  simp only [List.getElem?_cons_zero,Option.some.injEq] at h
  subst h
  simp only [Nat.add_zero] at hc
  simp only [fL,if_pos hc,Nat.add_zero];simp
 | y::r,i,j+1,x,h,hc=>by
  have:=Qlf (c:=c) (e:=e) r (i+1) j x (by simpa using h) (by rw [show i+1+j=i+(j+1) by omega];exact hc)
  rw [show i+1+j=i+(j+1) by omega] at this
  simp only [fL]
  split
  .exact List.mem_cons_of_mem _ this
  .exact this
theorem Qb8 {α:Type} {c:α->Nat->Bool}:∀ (l:List α) (i:Nat),(fL c (fun _ k=>((k:Nat):Int)) l i).Pairwise (· < ·)/\∀ x∈fL c (fun _ k=>((k:Nat):Int)) l i,(i:Int)<=x
 | [],i=>by simp [fL]
 | y::r,i=>by
  obtain ⟨h1,h2⟩:=Qb8 (c:=c) r (i+1)
  simp only [fL]
  split
  .refine ⟨List.pairwise_cons.2 ⟨fun x hx=>by have:=h2 x hx;omega,h1⟩,fun x hx=>?_⟩
   rcases Z2 hx with rfl | hx
   .omega
   .have:=h2 x hx;omega
  .exact ⟨h1,fun x hx=>by have:=h2 x hx;omega⟩
theorem Lo {l:List aC} {i:Int}:(cg l i).Pairwise (· < ·):=(Qb8 l 0).1
theorem A6 {l:List aC} (T:Tr l) {i k:Int} (h:vI l i):k∈cg l i↔vI l k/\bN l k=i:=by
 constructor
 .intro hk
  obtain ⟨j,x,rfl,h2,h3⟩:=ZO hk
  refine ⟨Dr h2,?_⟩
  unfold bN
  rw [jU h2,h3,Qz0 T h]
 .rintro ⟨hk,rfl⟩
  have e:=Qyz h.1
  have hg:=fA hk
  have hm:=Qlf (c:=fun x _=>x.2.1==(aU l (bN l k)).1) (e:=fun _ j=>((j:Nat):Int)) l 0 k.toNat _ hg (by rw [e];simp)
  rw [Zo,Int.toNat_of_nonneg hk.1] at hm
  exact hm
theorem I5 {l:List aC} {i:Int} (h:vI l i):1<=fX l i:=by unfold fX;rw [UD h.1];simp
theorem GN {l:List aC} (T:Tr l) {i:Int} (h:vI l i):fX l i=1+fX l (bN l i):=by
 have:=OU h.1 (T.GL i h).1
 unfold fX
 rw [this,Z9]
 unfold bN;omega
theorem qH {l:List aC} (T:Tr l) {i k:Int} (h:vI l i) (hk:k∈cg l i):vI l k/\bN l k=i/\fX l k=1+fX l i:=by
 obtain ⟨h1,h2⟩:=(A6 T h).1 hk
 exact ⟨h1,h2,by rw [GN T h1,h2]⟩
theorem Qz1 {l:List aC} (T:Tr l) {i:Int} (h:vI l i) (hp:bN l i < 0):(aU l i).2.1=0:=by
 have e:=OU h.1 (T.GL i h).1
 have e2:cP l 9 (bP l (aU l i).2.1)=[]:=Qw9 hp
 have:=(T.GL i h).2
 rw [e,e2] at this
 exact this
def jK (l:List aC):Int:=fh (fun x:aC=>x.2.1==0) l 0
theorem GO {l:List aC} (T:Tr l):vI l (jK l)/\(aU l (jK l)).2.1=0/\bN l (jK l) < 0/\∀ j,vI l j->bN l j < 0->j=jK l:=by
 obtain ⟨t,t1,t2,t3⟩:=T.top
 have h0:0<=jK l:=by
  unfold jK
  rcases Int.lt_or_le (fh (fun x:aC=>x.2.1==0) l 0) 0 with h | h
  .have:=KA.1 h (aU l t) (Zc (fA t1))
   simp [t2] at this
  .exact h
 obtain ⟨k,x,h1,h2,h3,_⟩:=I1 h0
 have e:jK l=(k:Int):=by unfold jK;rw [h1];simp
 have hv:vI l (jK l):=by rw [e];exact Dr h2
 have hz:(aU l (jK l)).2.1=0:=by rw [e,jU h2];simpa using h3
 have hp:bN l (jK l) < 0:=by
  unfold bN
  rw [hz,UA]
  intro y hy
  obtain ⟨i,hi⟩:=List.getElem?_of_mem hy
  have:=T.pos _ (Dr hi)
  rw [jU hi] at this;omega
 exact ⟨hv,hz,hp,fun j hj hjp=>by rw [t3 j hj (Qz1 T hj hjp),t3 _ hv hz]⟩
def dm (l:List aC):Nat->Int->List Int
 | 0,_=>[]
 | f+1,i=>i::(cg l i).flatMap (dm l f)
def Lp (l:List aC):Nat->Int->Int
 | 0,x=>x
 | k+1,x=>bN l (Lp l k x)
theorem D8 {l:List aC} (T:Tr l):∀ (f:Nat) (a x:Int),vI l a->x∈dm l f a->vI l x/\fX l a<=fX l x/\Lp l (fX l x - fX l a) x=a/\(x≠a->fX l a < fX l x)
 | 0,a,x,_,h=>by simp [dm] at h
 | f+1,a,x,ha,h=>by
  simp only [dm,List.mem_cons,List.mem_flatMap] at h
  rcases h with rfl | ⟨c,hc,hx⟩
  .exact ⟨ha,Zd _,by rw [Nat.sub_self];rfl,fun h=>absurd rfl h⟩
  .obtain ⟨c1,c2,c3⟩:=qH T ha hc
   obtain ⟨x1,x2,x3,_⟩:=D8 T f c x c1 hx
   refine ⟨x1,by omega,?_,fun _=>by omega⟩
   rw [show fX l x - fX l a=(fX l x - fX l c)+1 by omega]
   show bN l _=a
   rw [x3,c2]
theorem Qsk {l:List aC} (T:Tr l) {f g:Nat} {a b x:Int} (ha:vI l a) (hb:vI l b) (hd:fX l a=fX l b) (h1:x∈dm l f a) (h2:x∈dm l g b):a=b:=by
 have e1:=(D8 T f a x ha h1).2.2.1
 have e2:=(D8 T g b x hb h2).2.2.1
 rw [<- e1,<- e2,hd]
theorem UH {l:List aC} (T:Tr l):∀ (f:Nat) (a x:Int),vI l a->x∈dm l f a->x≠a->bN l x∈dm l f a
 | 0,a,x,_,h,_=>by simp [dm] at h
 | f+1,a,x,ha,h,aV=>by
  simp only [dm,List.mem_cons,List.mem_flatMap] at h ⊢
  rcases h with rfl | ⟨c,hc,hx⟩
  .exact absurd rfl aV
  .obtain ⟨c1,c2,c3⟩:=qH T ha hc
   by_cases GP:x=c
   .left;rw [GP,c2]
   .right;exact ⟨c,hc,UH T f c x c1 hx GP⟩
theorem UI {l:List aC} (T:Tr l):∀ (f:Nat) (a:Int),vI l a->(dm l f a).Pairwise fun x y=>bN l x=bN l y->x < y
 | 0,a,_=>by simp [dm]
 | f+1,a,ha=>by
  simp only [dm]
  rw [List.pairwise_cons]
  constructor
  .intro y hy hp
   obtain ⟨c,hc,hx⟩:=List.mem_flatMap.1 hy
   obtain ⟨c1,c2,c3⟩:=qH T ha hc
   obtain ⟨x1,x2,_,_⟩:=D8 T f c y c1 hx
   have e1:=GN T ha
   have e2:=GN T x1
   rw [hp] at e1
   omega
  .rw [List.pairwise_flatMap]
   refine ⟨fun c hc=>UI T f c (qH T ha hc).1,?_⟩
   refine List.Pairwise.imp_of_mem ?_ Lo
   intro c1 c2 hc1 BD au x hx y hy hp
   obtain ⟨v1,p1,d1⟩:=qH T ha hc1
   obtain ⟨v2,p2,d2⟩:=qH T ha BD
   obtain ⟨x1,x2,x3,x4⟩:=D8 T f c1 x v1 hx
   obtain ⟨y1,y2,y3,y4⟩:=D8 T f c2 y v2 hy
   have ex:=GN T x1
   have ey:=GN T y1
   rw [hp] at ex
   by_cases GP:x=c1
   .by_cases Lq:y=c2
    .rw [GP,Lq];exact au
    .have:=y4 Lq;rw [GP] at ex;omega
   .have h1:=UH T f c1 x v1 hx GP
    by_cases Lq:y=c2
    .have:=x4 GP;rw [<- Lq] at d2;omega
    .have h2:=UH T f c2 y v2 hy Lq
     rw [hp] at h1
     have:=Qsk T v1 v2 (by omega) h1 h2
     omega
theorem Quj {l:List aC} (T:Tr l):∀ (f:Nat) (a x k:Int),vI l a->9 - fX l a<=f->x∈dm l f a->k∈cg l x->k∈dm l f a
 | 0,a,x,k,_,_,h,_=>by simp [dm] at h
 | f+1,a,x,k,ha,hf,h,hk=>by
  simp only [dm,List.mem_cons,List.mem_flatMap] at h ⊢
  rcases h with rfl | ⟨c,hc,hx⟩
  .right
   obtain ⟨c1,c2,c3⟩:=qH T ha hk
   have:=(T.GL k c1).1
   obtain ⟨g,rfl⟩:∃ g,f=g+1:=⟨f - 1,by omega⟩
   exact ⟨k,hk,by simp [dm]⟩
  .right
   obtain ⟨c1,c2,c3⟩:=qH T ha hc
   exact ⟨c,hc,Quj T f c x k c1 (by omega) hx hk⟩
theorem Qp4 {l:List aC} (T:Tr l):∀ (f g:Nat) (a:Int),vI l a->9 - fX l a<=f->f<=g->dm l g a=dm l f a
 | 0,g,a,ha,hf,_=>by have:=(T.GL a ha).1;unfold fX at *;omega
 | f+1,0,a,_,_,hg=>by omega
 | f+1,g+1,a,ha,hf,hg=>by
  simp only [dm]
  congr 1
  have:∀ c∈cg l a,dm l g c=dm l f c:=fun c hc=>by
   obtain ⟨c1,c2,c3⟩:=qH T ha hc
   exact Qp4 T f g c c1 (by omega) (by omega)
  have key:∀ L:List Int,(∀ c∈L,dm l g c=dm l f c)->L.flatMap (dm l g)=L.flatMap (dm l f):=by
   intro L
   induction L with
   | nil=>intro _;rfl
   | cons c L ih=>intro h;rw [List.flatMap_cons,List.flatMap_cons,h c (by simp),ih (fun x hx=>h x (by simp [hx]))]
  exact key _ this
def iR (l:List aC) (i:Int):List Int:=dm l 8 i
theorem I6 {l:List aC} (T:Tr l) {i:Int} (h:vI l i):iR l i=i::(cg l i).flatMap (iR l):=by
 have:=I5 h
 have e:=Qp4 T 8 9 i h (by omega) (by omega)
 unfold iR
 rw [<- e]
 rfl
def aG (l:List aC):List Int:=iR l (jK l)
theorem Qp5 {l:List aC} (T:Tr l):∀ (m:Nat) (x:Int),fX l x<=m->vI l x->x∈aG l
 | 0,x,hm,hx=>by have:=I5 hx;omega
 | m+1,x,hm,hx=>by
  obtain ⟨t1,t2,t3,t4⟩:=GO T
  by_cases hp:bN l x < 0
  .rw [t4 x hx hp]
   unfold aG iR;simp [dm]
  .have hv:=GM (l:=l) (i:=x) (by omega)
   have hd:=GN T hx
   have:=Qp5 T m (bN l x) (by omega) hv
   have htd:=I5 t1
   exact Quj T 8 (jK l) (bN l x) x t1 (by omega) this ((A6 T hv).2 ⟨hx,rfl⟩)
theorem jI {l:List aC} (T:Tr l) {x:Int}:x∈aG l↔vI l x :=
 ⟨fun h=>(D8 T 8 _ x (GO T).1 h).1,fun h=>Qp5 T (fX l x) x (Zd _) h⟩
theorem Qh0 {l:List aC} (T:Tr l):(aG l).Pairwise fun x y=>bN l x=bN l y->x < y:=UI T 8 _ (GO T).1
theorem rG {l:List aC} (T:Tr l):(aG l).Nodup:=by
 rw [List.nodup_iff_pairwise_ne]
 exact (Qh0 T).imp fun h e=>by have:=h (by rw [e]);omega
theorem GQ {l:List aC} (T:Tr l):(aG l).length=l.length:=by
 have h1:=OV (rG T) (fun x hx=>(jI T).1 hx)
 have h2:((List.range l.length).map fun (k:Nat)=>(k:Int)).length<=(aG l).length:=by
  refine List.Nodup.length_le_of_subset ?_ fun x hx=>?_
  .rw [List.nodup_iff_pairwise_ne,List.pairwise_map]
   exact (List.nodup_iff_pairwise_ne.1 List.nodup_range).imp fun h e=>h (by omega)
  .obtain ⟨k,hk,rfl⟩:=List.mem_map.1 hx
   have:=List.mem_range.1 hk
   exact (jI T).2 ⟨by omega,by omega⟩
 simp at h2
 omega
theorem UJ {l:List aC} (T:Tr l):∀ (m:Nat) (i:Int),fX l i<=m->vI l i->∃ A B,aG l=A++iR l i++B
 | 0,i,hm,hi=>by have:=I5 hi;omega
 | m+1,i,hm,hi=>by
  obtain ⟨t1,t2,t3,t4⟩:=GO T
  by_cases hp:bN l i < 0
  .rw [t4 i hi hp]
   exact ⟨[],[],by simp [aG]⟩
  .have hv:=GM (l:=l) (i:=i) (by omega)
   have hd:=GN T hi
   obtain ⟨A,B,e⟩:=UJ T m (bN l i) (by omega) hv
   obtain ⟨K1,K2,ek⟩:=List.append_of_mem ((A6 T hv).2 ⟨hi,rfl⟩)
   rw [I6 T hv,ek,List.flatMap_append,List.flatMap_cons] at e
   exact ⟨A++bN l i::K1.flatMap (iR l),K2.flatMap (iR l)++B,by rw [e];simp⟩
theorem Ku {l:List aC} (h:rH l=true):∀ (j i:Nat) (x y:aC),i < j->l[i]? = some x->l[j]? = some y->x.1 < y.1
 | 0,i,x,y,ny,_,_=>by omega
 | j+1,i,x,y,ny,hx,hy=>by
  unfold rH at h
  rw [sj] at h
  have h1:=h (j+1) y hy
  rw [Zo] at h1
  unfold zJ at h1
  simp only [Z8,Bool.or_eq_true,Zj] at h1
  have hj:j < l.length:=by have:=(Z0 hy).1;omega
  have hz:=Z6 hj
  have h2:(l[j]).1 < y.1:=by
   rcases h1.2 with h | h
   .omega
   .rw [show ((j+1:Nat):Int) - 1=(j:Int) by omega,jU hz] at h;exact h
  rcases Nat.lt_or_ge i j with au | s_
  .have:=Ku (by unfold rH;rw [sj];exact h) j i x l[j] au hx hz;omega
  .obtain rfl:i=j:=by omega
   rw [hz] at hx;injection hx with hx;rw [<- hx];exact h2
theorem Qz2 {l:List aC} (h:kR l=true):Tr l:=by
 unfold kR at h
 simp only [Z8,Zj] at h
 obtain ⟨⟨h1,h2⟩,h3,h4,h5,h6,h7,h8,h9,Lt⟩:=h
 have inj:∀ i j,vI l i->vI l j->(aU l i).1=(aU l j).1->i=j:=by
  intro i j hi hj e
  have gi:=fA hi
  have gj:=fA hj
  obtain ⟨i0,i1⟩:=hi
  obtain ⟨j0,j1⟩:=hj
  rcases Int.lt_trichotomy i j with au | rfl | au
  .have:=Ku h3 j.toNat i.toNat _ _ (by omega) gi gj;omega
  .rfl
  .have:=Ku h3 i.toNat j.toNat _ _ (by omega) gj gi;omega
 refine ⟨h1,h2,inj,fun i hi=>?_,?_,fun i hi=>?_⟩
 .unfold rH at h3
  rw [sj] at h3
  have:=h3 _ _ (fA hi)
  unfold zJ at this
  simp only [Z8,Zj] at this
  exact this.1.1
 .unfold uS at h4
  obtain ⟨x,hx⟩:=List.length_eq_one_iff.1 h4
  have fM:x∈l.filter (fun x:aC=>x.2.1==0):=by rw [hx];simp
  have hm:x∈l/\(x.2.1==0)=true:=List.mem_filter.1 fM
  obtain ⟨t,ht⟩:=List.getElem?_of_mem hm.1
  refine ⟨(t:Int),Dr ht,by rw [jU ht];simpa using hm.2,fun j hj hz=>?_⟩
  have hjm:aU l j∈l.filter (fun x=>x.2.1==0):=List.mem_filter.2 ⟨Zc (fA hj),by simp [hz]⟩
  rw [hx,List.mem_singleton] at hjm
  exact inj j t hj (Dr ht) (by rw [hjm,jU ht])
 .rw [sj] at h6
  have:=h6 _ _ (fA hi)
  rw [Zo] at this
  unfold vR at this
  simp only [Z8,Zj,beq_iff_eq] at this
  rw [Int.toNat_of_nonneg hi.1] at this
  exact this
def vT (W:List Int) (x:Int):Int:=fh (fun y=>y==x) W 0
theorem sk {W:List Int} (hn:W.Nodup) {k:Nat} {x:Int} (h:W[k]? = some x):vT W x=(k:Int):=by
 have hm:=Zc h
 rcases Int.lt_or_le (vT W x) 0 with h0 | h0
 .exact absurd hm (ZS h0)
 .obtain ⟨j,y,h1,h2,h3,_⟩:=I1 h0
  have e:y=x:=by simpa using h3
  subst e
  unfold vT
  rw [h1,Zo]
  have hj:=(Z0 h2)
  have hk:=(Z0 h)
  obtain ⟨UK,uT⟩:=hj
  obtain ⟨wJ,zM⟩:=hk
  have:j=k:=(List.getElem_inj hn).1 (uT.trans zM.symm)
  rw [this]
theorem Qlg {W:List Int} {x:Int} (h:x∉W):vT W x=-1:=by
 have hn:∀ (l:List Int) (i:Nat),x∉l->fh (fun y=>y==x) l i=-1:=by
  intro l
  induction l with
  | nil=>intro i _;rfl
  | cons a r ih =>
   intro i ha
   simp only [List.mem_cons,not_or] at ha
   simp only [fh]
   rw [if_neg (by simp;exact fun e=>ha.1 e.symm)]
   exact ih (i+1) ha.2
 exact hn W 0 h
theorem Qp6 {W:List Int} (hn:W.Nodup) {x:Int} (h:x∈W):∃ k:Nat,W[k]? = some x/\vT W x=(k:Int):=by
 obtain ⟨k,hk⟩:=List.getElem?_of_mem h
 exact ⟨k,hk,sk hn hk⟩
def pW (l:List aC) (x:Int):Int:=vT (aG l) x
theorem BI {l:List aC} (T:Tr l) {x:Int} (h:vI l x):∃ k:Nat,(aG l)[k]? = some x/\pW l x=(k:Int):=Qp6 (rG T) ((jI T).2 h)
theorem uU {l:List aC} (T:Tr l) {x:Int} (h:x < 0):pW l x=-1:=Qlg fun hm=>by have:=((jI T).1 hm).1;omega
def uV (l:List aC) (i:Int):Int:=if bN l i < 0 then -1 else (cg l (bN l i)).getD ((vT (cg l (bN l i)) i).toNat+1) (-1)
def vU (l:List aC) (i:Int):Int:=(cg l i).headD (-1)
def nR (l:List aC) (k:Nat) (i:Int):Int:=((k+(iR l i).length:Nat):Int)
def nS (c:Cf) (A:List Int) (fs:List dV) (tg:List Int) (df:Int):Ld:=(c.1,A.map (aU c.2.1),A.map (fun i=>pW c.2.1 (bN c.2.1 i)),A.map (fun i=>pW c.2.1 (vU c.2.1 i)),A.map (fun i=>pW c.2.1 (uV c.2.1 i)),A.mapIdx (nR c.2.1),fs,tg,df)
def tgV (c:Cf):List Int:=c.2.2.1.map fun f=>pW c.2.1 (bP c.2.1 f.2.2.2.2)
def vH (c:Cf):Int:=if c.2.2.2=0 then -1 else pW c.2.1 (bP c.2.1 c.2.2.2)
def bT (c:Cf):Ld:=nS c (aG c.2.1) c.2.2.1 (tgV c) (vH c)
structure Gd (c:Cf):Prop where
 nm:A5 c.1=true
 cl:kR c.2.1=true
 fl:vS c.2.1 c.2.2.1=true
 df:GK c=true
theorem rI {c:Cf} (h:ff c=true):Gd c:=by
 unfold ff at h
 simp only [Z8] at h
 exact ⟨h.1,h.2.1,h.2.2.1,h.2.2.2⟩
theorem Gd.tr {c:Cf} (G:Gd c):Tr c.2.1:=Qz2 G.cl
theorem Gd.f16 {c:Cf} (G:Gd c):c.2.2.1.length<=16:=by
 have:=G.fl
 unfold vS at this
 simp only [Z8,Zj] at this
 exact this.2
theorem Gd.Lu {c:Cf} (G:Gd c):∀ f∈c.2.2.1,vI c.2.1 (bP c.2.1 f.2.2.2.2)/\gV c.2.1 f.2.2.2.2=true/\zK f=true:=by
 intro f hf
 have:=G.fl
 unfold vS at this
 simp only [Z8,sj] at this
 obtain ⟨i,hi⟩:=List.getElem?_of_mem hf
 have h1:=this.1 i f hi
 unfold D7 oB at h1
 simp only [Z8,Zj] at h1
 exact ⟨⟨h1.2.2.1,BL⟩,h1.2.2.2,h1.1⟩
theorem Gd.Kv {c:Cf} (G:Gd c) (h:c.2.2.2≠0):vI c.2.1 (bP c.2.1 c.2.2.2)/\gV c.2.1 c.2.2.2=true:=by
 have:=G.df
 unfold GK oB at this
 simp only [Z8,Bool.or_eq_true,Zj,beq_iff_eq] at this
 rcases this with h1 | h1
 .exact absurd h1 h
 .exact ⟨⟨h1.1,BL⟩,h1.2⟩
theorem Qwa {d:Nat} {c:Cf} (T:Tr c.2.1):FG (d+1) c=some (jK c.2.1):=by
 rw [SI]
 obtain ⟨t1,t2,t3,t4⟩:=GO T
 have iE:=T.fF
 have t1a:=t1.1
 have t1b:=t1.2
 have key:∀ (m k fuel:Nat),k+m=(jK c.2.1).toNat->m < fuel->Q9 (lp d c (xw d)) fuel (k:Int)=some (jK c.2.1):=by
  intro m
  induction m with
  | zero =>
   intro k fuel hk hf
   obtain ⟨g,rfl⟩:∃ g,fuel=g+1:=⟨fuel - 1,by omega⟩
   have e:(k:Int)=jK c.2.1:=by have:=t1.1;omega
   simp only [Q9,lp]
   rw [e,Z5 t1.1,Q4,fA t1,Q8,t2]
   rfl
  | succ m ih =>
   intro k fuel hk hf
   obtain ⟨g,rfl⟩:∃ g,fuel=g+1:=⟨fuel - 1,by omega⟩
   have hv:vI c.2.1 (k:Int):=⟨by omega,by have:=t1.2;omega⟩
   have hz:(aU c.2.1 (k:Int)).2.1≠0:=by
    intro hz
    obtain ⟨t,_,_,q⟩:=T.top
    have h1:=q _ hv hz
    have h2:=q _ t1 t2
    omega
   simp only [Q9,lp]
   rw [nn,Q4,fA hv,Q8,show ((aU c.2.1 (k:Int)).2.1 != 0)=true by simp [hz],Q4,aN (by omega)]
   exact ih (k+1) g (by omega) (by omega)
 exact key (jK c.2.1).toNat 0 Qd (by omega) (by rw [Q6];have:=t1.2;omega)
theorem Qb9 {α β γ:Type} {G:α->Option (List γ)} {w:α->List γ} {fin:List γ->Option β} {B:Nat}:∀ (L:List α) (i:Nat) (t:List γ),(∀ x∈L,G x=some (w x)/\(w x).length<=B)->t.length+L.length*B<=10000 ->
  ef (fun x _ t k=>Q1 (G x) fun r=>aa (Nat.ble ((t.length+r.length)*8) Q7) (k (t++r)) none) fin L i t=fin (t++L.flatMap w)
 | [],i,t,_,_=>by simp [ef]
 | x::r,i,t,h,hb=>by
  obtain ⟨h1,h2⟩:=h x (by simp)
  have e:(x::r).length*B=r.length*B+B:=by rw [Z9,Nat.add_mul,Nat.one_mul]
  rw [e] at hb
  simp only [ef]
  rw [h1,Q8,room (by omega),Q4,Qb9 r (i+1) (t++w x) (fun y hy=>h y (by simp [hy])) (by simp;omega),List.flatMap_cons,List.append_assoc]
theorem UL {l:List aC} (T:Tr l) {f:Nat} {a:Int} (ha:vI l a):(dm l f a).length<=24:=by
 have hn:(dm l f a).Nodup:=by
  rw [List.nodup_iff_pairwise_ne]
  exact (UI T f a ha).imp fun h e=>by have:=h (by rw [e]);omega
 have:=OV hn (fun x hx=>(D8 T f a x ha hx).1)
 have:=T.fF
 omega
theorem Qlh {d:Nat} {c:Cf} (T:Tr c.2.1):∀ (f:Nat) (i:Int),vI c.2.1 i->9 - fX c.2.1 i<=f->pz (d+1+f) c i=some (dm c.2.1 f i)
 | 0,i,hv,hf=>by have:=(T.GL i hv).1;unfold fX at *;omega
 | f+1,i,hv,hf=>by
  have iE:=T.fF
  have hk:=OQ (l:=c.2.1) (id:=(aU c.2.1 i).1)
  rw [show d+1+(f+1)=(d+1+f)+1 by omega,SH]
  have e1:kZ (d+1+f) c i=some (cg c.2.1 i):=by
   have:=OR (d:=d+f) (c:=c) (n:=i.toNat) (fA hv) (by omega)
   rw [Int.toNat_of_nonneg hv.1,show d+f+1=d+1+f by omega] at this
   exact this
  have hb:([i]:List Int).length+(cg c.2.1 i).length*24<=10000:=by
   have:(cg c.2.1 i).length<=24:=by unfold cg;omega
   simp only [Z9,Zb];omega
  rw [e1,Q8]
  refine (Qc (fun (t:List Int) (k:Int)=>(t,k)) (cg c.2.1 i) (fun x _ t k=>Q1 (pz (d+1+f) c x) fun r=>aa (Nat.ble ((t.length+r.length)*8) Q7) (k (t++r)) none) (fun t=>some t) ?_ ?_ (by rw [Q6];unfold cg;omega) [i]).trans ?_
  .intro ag t k x hx
   have hi:=(Z0 hx).1
   have:(cg c.2.1 i).length<=24:=by unfold cg;omega
   simp only [pq,bW hx,nn,Q3,hx,Q8,Q4,tj hx]
   rw [aN (by omega)]
  .intro ag t;simp only [pq,bB,Q5];rfl
  .rw [Qb9 (w:=dm c.2.1 f) (B:=24) (cg c.2.1 i) 0 [i] (fun x hx=>?_) hb]
   .rfl
   .obtain ⟨c1,c2,c3⟩:=qH T hv hx
    exact ⟨Qlh T f x c1 (by omega),UL T c1⟩
theorem Qz3 {d:Nat} {c:Cf} (T:Tr c.2.1) {i:Int} (h:vI c.2.1 i):pz (d+9) c i=some (iR c.2.1 i):=by
 have:=Qlh (d:=d) T 8 i h (by have:=I5 h;omega)
 rw [show d+1+8=d+9 by omega] at this
 exact this
theorem Qh3 {α τ:Type} {f:α->Nat->τ->τ}:∀ (A B:List α) (i:Nat) (t:τ),cF f (A++B) i t=cF f B (i+A.length) (cF f A i t)
 | [],B,i,t=>by simp [cF]
 | x::A,B,i,t=>by
  simp only [List.cons_append,cF,Z9]
  rw [Qh3 A B (i+1),show i+1+A.length=i+(A.length+1) by omega]
theorem UM {α τ:Type} {f:α->Nat->τ->τ}:∀ (A:List α) (i:Nat) (t:τ),(∀ x∈A,∀ k t,f x k t=t)->cF f A i t=t
 | [],i,t,_=>rfl
 | x::A,i,t,h=>by
  simp only [cF]
  rw [h x (by simp)]
  exact UM A (i+1) t (fun y hy=>h y (by simp [hy]))
theorem Qda {β:Type} {fin:List Int->Option β}:∀ (W:List Int) (i:Nat) (t:List Int),(∀ x∈W,0<=x/\x < ((t.length:Nat):Int)) ->
  ef (fun x i t k=>aa (decide (0<=x)) (aa (Nat.blt x.toNat t.length) (Q1 (t[x.toNat]?) fun _=>k (t.set x.toNat ((i:Nat):Int))) none) none) fin W i t=fin (cF (fun x i t=>t.set x.toNat ((i:Nat):Int)) W i t)
 | [],i,t,_=>rfl
 | x::r,i,t,h=>by
  obtain ⟨h1,h2⟩:=h x (by simp)
  simp only [ef,cF]
  rw [Z5 h1,Q4,Qo (by omega),Q4,Z6 (show x.toNat < t.length by omega),Q8]
  exact Qda r (i+1) _ (fun y hy=>by rw [List.length_set];exact h y (by simp [hy]))
theorem UN:∀ (W:List Int) (i:Nat) (t:List Int),(cF (fun x i t=>t.set x.toNat ((i:Nat):Int)) W i t).length=t.length
 | [],i,t=>rfl
 | x::r,i,t=>by simp only [cF];rw [UN r,List.length_set]
theorem Qli:∀ (W:List Int) (i:Nat) (t:List Int) (j:Nat),(∀ x∈W,0<=x)->((j:Int)∉W)->(cF (fun x i t=>t.set x.toNat ((i:Nat):Int)) W i t)[j]? = t[j]?
 | [],i,t,j,_,_=>rfl
 | x::r,i,t,j,h0,hj=>by
  simp only [List.mem_cons,not_or] at hj
  have:=h0 x (by simp)
  simp only [cF]
  rw [Qli r (i+1) _ j (fun y hy=>h0 y (by simp [hy])) hj.2,List.getElem?_set_ne (by omega)]
theorem Quk:∀ (W:List Int) (i:Nat) (t:List Int) (k:Nat) (x:Int),W.Nodup->(∀ x∈W,0<=x/\x < ((t.length:Nat):Int))->W[k]? = some x->(cF (fun x i t=>t.set x.toNat ((i:Nat):Int)) W i t)[x.toNat]? = some ((i+k:Nat):Int)
 | [],i,t,k,x,_,_,h=>by simp at h
 | y::r,i,t,0,x,hn,h0,h=>by
  simp only [List.getElem?_cons_zero,Option.some.injEq] at h
  subst h
  obtain ⟨q1,q2⟩:=List.nodup_cons.1 hn
  obtain ⟨p1,p2⟩:=h0 y (by simp)
  simp only [cF]
  rw [Qli r (i+1) _ y.toNat (fun z hz=>(h0 z (by simp [hz])).1) (by rw [Int.toNat_of_nonneg p1];exact q1),List.getElem?_set_self (by omega)]
  simp
 | y::r,i,t,k+1,x,hn,h0,h=>by
  obtain ⟨q1,q2⟩:=List.nodup_cons.1 hn
  simp only [cF]
  rw [Quk r (i+1) _ k x q2 (fun z hz=>by rw [List.length_set];exact h0 z (by simp [hz])) (by simpa using h)]
  congr 2;omega
def nT (l:List aC):List Int:=cF (fun x i t=>t.set x.toNat ((i:Nat):Int)) (aG l) 0 (List.replicate l.length 0)
theorem Qwb {l:List aC}:(nT l).length=l.length:=by unfold nT;rw [UN];simp
theorem Qwc {l:List aC} (T:Tr l) {x:Int} (h:vI l x):(nT l)[x.toNat]? = some (pW l x)/\x.toNat < (nT l).length:=by
 obtain ⟨k,h1,h2⟩:=BI T h
 refine ⟨?_,by rw [Qwb];have:=h.1;have:=h.2;omega⟩
 unfold nT
 rw [Quk (aG l) 0 _ k x (rG T) (fun y hy=>by have:=(jI T).1 hy;simp;exact this) h1,h2,Zo]
theorem UO {α γ β:Type} {e:α->γ} {fin:List γ->Option β} {w:Nat}:∀ (l:List α) (i:Nat) (t:List γ),(t.length+l.length)*w<=100000000 ->
  ef (fun x _ t k=>aa (Nat.ble ((t.length+[e x].length)*w) Q7) (k (t++[e x])) none) fin l i t=fin (t++l.map e)
 | [],i,t,_=>by simp [ef]
 | x::r,i,t,h=>by
  simp only [ef]
  rw [room (by
   have:(t.length+[e x].length)*w<=(t.length+(x::r).length)*w:=Zk w (by simp)
   omega),Q4]
  rw [UO r (i+1) (t++[e x]) (by
   refine Nat.le_trans (Zk w ?_) h
   simp;omega)]
  simp
theorem Qwd {K:List Int} {i:Int} {g:Int->Int} (hn:K.Nodup) (hi:i∈K) (hg:g (-1)=-1) :
  cF (fun x k t=>if x=i/\k+1 < K.length then g (K.getD (k+1) 0) else t) K 0 (-1)=g (K.getD ((vT K i).toNat+1) (-1)):=by
 obtain ⟨K1,K2,e⟩:=List.append_of_mem hi
 have hp:vT K i=(K1.length:Int):=sk hn (by rw [e];simp)
 have hn':=hn
 rw [e,Zn] at hn'
 obtain ⟨n1,n2,n3⟩:=hn'
 have h0:cF (fun x k t=>if x=i/\k+1 < K.length then g (K.getD (k+1) 0) else t) K 0 (-1)=cF (fun x k t=>if x=i/\k+1 < K.length then g (K.getD (k+1) 0) else t) (K1++i::K2) 0 (-1):=by rw [<- e]
 rw [h0,Qh3,UM K1 0 (-1) (fun x hx k t=>if_neg (fun h=>n3 x hx i (by simp) h.1)),Zo]
 show cF (fun x k t=>if x=i/\k+1 < K.length then g (K.getD (k+1) 0) else t) K2 (K1.length+1) (if i=i/\K1.length+1 < K.length then g (K.getD (K1.length+1) 0) else -1)=_
 rw [UM K2 _ _ (fun x hx k t=>if_neg (fun (h:x=i/\k+1 < K.length)=>(List.nodup_cons.1 n2).1 (h.1▸hx))),hp,Q3]
 by_cases h:K1.length+1 < K.length
 .rw [if_pos ⟨rfl,h⟩,Zr,Zr,Z6 h];rfl
 .rw [if_neg (fun hc=>h hc.2),Zr,List.getElem?_eq_none (by omega)];exact hg.symm
theorem Qlj {l:List aC} {i:Int}:(cg l i).Nodup:=by
 rw [List.nodup_iff_pairwise_ne];exact Lo.imp fun h e=>by omega
theorem Lv {l:List aC} (T:Tr l) {x:Int} (h:vI l x) {α:Type} {K:Int->Option α}:aa (Nat.blt x.toNat (nT l).length) (Q1 ((nT l)[x.toNat]?) K) none=K (pW l x):=by
 obtain ⟨h1,h2⟩:=Qwc T h
 rw [Qo h2,Q4,h1,Q8]
theorem UP {l:List aC} (T:Tr l) {i:Int}:(cg l i).length<=24:=by
 have:=OQ (l:=l) (id:=(aU l i).1)
 have:=T.fF
 unfold cg;omega
theorem Qz4 {d:Nat} {c:Cf} (T:Tr c.2.1) {i:Int} (hi:vI c.2.1 i) (hp:0<=bN c.2.1 i) {kx:Int->Int->Option Ld} :
  Q9 (lC d (nT c.2.1) i (cg c.2.1 (bN c.2.1 i)) kx) Qd ((-1),0)=kx (pW c.2.1 (uV c.2.1 i)) ((cg c.2.1 (bN c.2.1 i)).length:Int):=by
 have hv:=GM hp
 have hl:=UP T (i:=bN c.2.1 i)
 refine (Qc (fun (t:Int) (k:Int)=>(t,k)) (cg c.2.1 (bN c.2.1 i)) (fun x k t cont=>cont (if x=i/\k+1 < (cg c.2.1 (bN c.2.1 i)).length then pW c.2.1 ((cg c.2.1 (bN c.2.1 i)).getD (k+1) 0) else t)) (fun t=>kx t ((cg c.2.1 (bN c.2.1 i)).length:Int)) ?_ ?_ (by rw [Q6];omega) (-1)).trans ?_
 .intro ag t k x hx
  have hk:=(Z0 hx).1
  simp only [lC,bW hx,nn,Q3,hx,Q8,Q4,tj hx]
  rw [aN (by omega)]
  unfold pH
  rw [aN (by omega)]
  by_cases he:x=i
  .rw [show (x==i)=true by simp [he],Q4]
   by_cases au:k+1 < (cg c.2.1 (bN c.2.1 i)).length
   .have hm:=Z6 au
    have I7:=(qH T hv (Zc hm)).1
    rw [Z5 (show ((k+1:Nat):Int) < (((cg c.2.1 (bN c.2.1 i)).length:Nat):Int) by omega),Q4,nn,Q4,Q3,Qo au,Q4,hm,Q8,Z5 I7.1,Q4,Lv T I7,if_pos ⟨he,au⟩,Zr,hm]
    rfl
   .rw [Z4 (show ¬ ((k+1:Nat):Int) < (((cg c.2.1 (bN c.2.1 i)).length:Nat):Int) by omega),Q5,if_neg (fun h=>au h.2)]
  .rw [show (x==i)=false by simp [he],Q5,Q5,if_neg (fun h=>he h.1)]
 .intro ag t;simp only [lC,bB,Q5]
 .rw [wS (f:=fun x k t=>if x=i/\k+1 < (cg c.2.1 (bN c.2.1 i)).length then pW c.2.1 ((cg c.2.1 (bN c.2.1 i)).getD (k+1) 0) else t),Qwd (g:=pW c.2.1) Qlj ((A6 T hv).2 ⟨hi,rfl⟩) (uU T (by omega))]
  unfold uV
  rw [if_neg (by omega)]
theorem Qh5 {d:Nat} {c:Cf} {i:Int} (T:Tr c.2.1) (h:vI c.2.1 i):kZ (d+1) c i=some (cg c.2.1 i):=by
 have iE:=T.fF
 have:=OR (d:=d) (c:=c) (n:=i.toNat) (fA h) (by omega)
 rw [Int.toNat_of_nonneg h.1] at this
 exact this
theorem Qp9 {c:Cf} {A:List Int} {i:Int} {fs:List dV} {tg:List Int} {df:Int}:nS c (A++[i]) fs tg df=(c.1,A.map (aU c.2.1)++[aU c.2.1 i],A.map (fun i=>pW c.2.1 (bN c.2.1 i))++[pW c.2.1 (bN c.2.1 i)],A.map (fun i=>pW c.2.1 (vU c.2.1 i))++[pW c.2.1 (vU c.2.1 i)],A.map (fun i=>pW c.2.1 (uV c.2.1 i))++[pW c.2.1 (uV c.2.1 i)],A.mapIdx (nR c.2.1)++[nR c.2.1 A.length i],fs,tg,df):=by
 unfold nS
 simp [List.mapIdx_concat]
theorem Qul {d:Nat} {c:Cf} (T:Tr c.2.1) {A:List Int} {i:Int} (hi:vI c.2.1 i) (hA:A.length<=24) {fs:List dV} {tg:List Int} {df:Int} {ag:Int×Ld->Option Ld} {b:Bool} :
  lB (d+9) c (nT c.2.1) ag (A.length:Int) (nS c A fs tg df) i (aU c.2.1 i) (pW c.2.1 (bN c.2.1 i)) (pW c.2.1 (uV c.2.1 i)) b=ag (((A.length+1:Nat):Int),nS c (A++[i]) fs tg df):=by
 have fin:∀ bb,lA (d+9) c ag (A.length:Int) (nS c A fs tg df) i (aU c.2.1 i) (pW c.2.1 (bN c.2.1 i)) (pW c.2.1 (uV c.2.1 i)) (pW c.2.1 (vU c.2.1 i)) bb=ag (((A.length+1:Nat):Int),nS c (A++[i]) fs tg df):=by
  intro bb
  unfold lA
  rw [Qz3 T hi,Q8,aN (by omega),Qp9]
  have hs:=UL T (f:=8) hi
  simp only [nS,List.length_map,List.length_mapIdx,Z9,Zb]
  rw [room (by omega),Q4,Q4,Q4,Q4,wr (by unfold iR;omega) (by unfold iR;omega)]
  rw [show (A.length:Int)+(((iR c.2.1 i).length:Nat):Int)=nR c.2.1 A.length i by unfold nR;omega]
 unfold lB
 rw [show d+9=d+8+1 from rfl,Qh5 T hi,Q8]
 cases hk:cg c.2.1 i with
 | nil =>
  rw [Z4 (show ¬ ((([]:List Int).length:Nat):Int) > 0 by simp),Q5]
  have:=fin false
  rw [show vU c.2.1 i=-1 by unfold vU;rw [hk];rfl,uU T (show (-1:Int) < 0 by omega)] at this
  exact this
 | cons k r =>
  have hv:=(qH T hi (show k∈cg c.2.1 i by rw [hk];simp)).1
  have hl:(k::r).length<=24:=by rw [<- hk];exact UP T
  rw [Z5 (show (((k::r).length:Nat):Int) > 0 by simp),Q4,Qo (by simp),Q4,List.getElem?_cons_zero,Q8,Z5 hv.1,Q4,Lv T hv]
  have:=fin true
  rw [show vU c.2.1 i=k by unfold vU;rw [hk];rfl] at this
  exact this
theorem Qum {d:Nat} {c:Cf} (T:Tr c.2.1) {fs:List dV}:∀ (B A:List Int) (fuel:Nat),aG c.2.1=A++B->B.length < fuel->Q9 (jh (d+9) c (aG c.2.1) (nT c.2.1) (lu (d+9) c (nT c.2.1))) fuel ((A.length:Int),nS c A fs [] (-1))=Q9 (lq (d+9) c (nT c.2.1) (pE (d+9) c (nT c.2.1))) Qd (0,nS c (aG c.2.1) fs [] (-1))
 | B,A,0,_,h=>by omega
 | [],A,fuel+1,e,h=>by
  rw [List.append_nil] at e
  simp only [Q9,jh]
  rw [e,bB,Q5]
  unfold lu
  rfl
 | i::B,A,fuel+1,e,h=>by
  have hlen:A.length+(B.length+1)=(aG c.2.1).length:=by rw [e];simp
  have iE:=T.fF
  have hW:=GQ T
  have hi:vI c.2.1 i:=(jI T).1 (by rw [e];simp)
  have hg:(aG c.2.1)[A.length]? = some i:=by rw [e];simp
  have next:=Qum (d:=d) T (fs:=fs) B (A++[i]) fuel (by rw [e];simp) (by simpa using h)
  rw [show ((A++[i]).length:Int)=((A.length+1:Nat):Int) by simp] at next
  simp only [Q9,jh]
  rw [Z5 (show (A.length:Int) < (((aG c.2.1).length:Nat):Int) by omega),Q4,nn,Q4,Q3,Qo (show A.length < (aG c.2.1).length by omega),Q4,hg,Q8,Z5 hi.1,Q4,fA hi,Q8,show (nS c A fs [] (-1)).2.1.length=A.length by simp [nS],room (by simp;omega),Q4,Q4,Q8,show d+9=d+8+1 from rfl,IL (by omega),Q8]
  rw [show bP c.2.1 (aU c.2.1 i).2.1=bN c.2.1 i from rfl]
  by_cases hp:0<=bN c.2.1 i
  .have hv:=GM hp
   rw [show decide (bN c.2.1 i>=0)=true from Z5 hp,Q4,Q4,Lv T hv,Qh5 T hv,Q8,Qz4 T hi hp]
   unfold xx
   rw [show d+8+1=d+9 from rfl,Qul T hi (by omega)]
   exact next
  .rw [show decide (bN c.2.1 i>=0)=false from Z4 hp,Q5]
   have e1:pW c.2.1 (bN c.2.1 i)=-1:=uU T (by omega)
   have e2:pW c.2.1 (uV c.2.1 i)=-1:=by unfold uV;rw [if_pos (by omega)];exact uU T (by omega)
   have:=Qul (d:=d) T hi (A:=A) (by omega) (fs:=fs) (tg:=[]) (df:=-1) (b:=false) (ag:=Q9 (jh (d+9) c (aG c.2.1) (nT c.2.1) (lu (d+9) c (nT c.2.1))) fuel)
   rw [e1,e2] at this
   rw [show d+8+1=d+9 from rfl,this]
   exact next
theorem YP {d:Nat} {c:Cf} (G:Gd c):BU (d+10) c=some (bT c):=by
 have T:=G.tr
 have iE:=T.fF
 have hW:=GQ T
 have Fs:=G.f16
 rw [SJ,show d+9=d+8+1 from rfl,Qwa T,Q8,show d+8+1=d+9 from rfl,Qz3 T (GO T).1,Q8,show iR c.2.1 (jK c.2.1)=aG c.2.1 from rfl,nn,Q4,Q4,Q3,show (Nat.ble (aG c.2.1).length (aG c.2.1).length&&Nat.ble ((aG c.2.1).length*8) Q7)=true by rw [Z8,Nat.ble_eq,Nat.ble_eq];unfold Q7;omega,Q4]
 refine (Qc (fun (t:List Int) (k:Int)=>(k,t)) (aG c.2.1) (fun x i t k=>aa (decide (0<=x)) (aa (Nat.blt x.toNat t.length) (Q1 (t[x.toNat]?) fun _=>k (t.set x.toNat ((i:Nat):Int))) none) none) (pI (d+9) c (aG c.2.1)) ?_ ?_ (by rw [Q6];omega) (List.replicate (aG c.2.1).length 0)).trans ?_
 .intro ag t k x hx
  have hk:=(Z0 hx).1
  simp only [pJ,bW hx,nn,Q3,hx,Q8,Q4,tj hx]
  rw [aN (by omega)]
 .intro ag t;simp only [pJ,bB,Q5]
 .rw [Qda (aG c.2.1) 0 _ (fun x hx=>by have:=(jI T).1 hx;rw [List.length_replicate,hW];exact this)]
  rw [show cF (fun (x:Int) (i:Nat) (t:List Int)=>t.set x.toNat ((i:Nat):Int)) (aG c.2.1) 0 (List.replicate (aG c.2.1).length 0)=nT c.2.1 by unfold nT;rw [hW]]
  unfold pI
  rw [room (by simp;omega),Q4]
  have:=Qum (d:=d) T (fs:=([]:List dV)++c.2.2.1) (aG c.2.1) [] Qd rfl (by rw [Q6];omega)
  refine this.trans ?_
  refine (Qc (fun (t:List Int) (k:Int)=>(k,nS c (aG c.2.1) (([]:List dV)++c.2.2.1) t (-1))) c.2.2.1 (fun f _ t k=>aa (Nat.ble ((t.length+[pW c.2.1 (bP c.2.1 f.2.2.2.2)].length)*8) Q7) (k (t++[pW c.2.1 (bP c.2.1 f.2.2.2.2)])) none) (fun t=>some (nS c (aG c.2.1) c.2.2.1 t (vH c))) ?_ ?_ (by rw [Q6];omega) []).trans ?_
  .intro ag t k f hx
   have hk:=(Z0 hx).1
   obtain ⟨v1,_⟩:=G.Lu f (Zc hx)
   simp only [lq,bW hx,nn,Q3,hx,Q8,Q4]
   rw [show d+9=d+8+1 from rfl,IL (by omega),Q8,Z5 v1.1,Q4,Lv T v1,aN (by omega)]
   rfl
  .intro ag t
   simp only [lq,bB,Q5]
   unfold pE vH
   by_cases h:c.2.2.2=0
   .rw [show (c.2.2.2 != 0)=false by simp [h],Q5,if_pos h];rfl
   .obtain ⟨v1,_⟩:=G.Kv h
    rw [show (c.2.2.2 != 0)=true by simp [h],Q4,show d+9=d+8+1 from rfl,IL (by omega),Q8,Z5 v1.1,Q4,Lv T v1,if_neg h];rfl
  .rw [UO (e:=fun f:dV=>pW c.2.1 (bP c.2.1 f.2.2.2.2)) (w:=8) c.2.2.1 0 [] (by simp;omega)]
   rfl
theorem cc (l:List UInt8):(⟨l.toArray⟩:ByteArray).size=l.length:=(rfl)
theorem Ok.cat {α:Type} {a b:ByteArray} {x:Option α} {Q:α->Prop} (ha:a.size<=100000) (hb:b.size<=100000) (h:Ok x Q):Ok (aa (Nat.ble (a.size+b.size) 9223372036854775807) x none) Q:=by
 rw [ZL (by omega)];exact h
theorem Qun {u:Nat} (h:u < 10):Go.Lib.decDigits u=[UInt8.ofNat (48+u)]:=by rw [Go.Lib.decDigits,dif_pos h]
theorem Qwe {u:Nat} (h:¬ u < 10):Go.Lib.decDigits u=Go.Lib.decDigits (u / 10)++[UInt8.ofNat (48+u % 10)]:=by rw [Go.Lib.decDigits,dif_neg h]
theorem Quo:∀ (j u:Nat),u < 10 ^ (j+1)->1<=(Go.Lib.decDigits u).length/\(Go.Lib.decDigits u).length<=j+1
 | 0,u,h=>by rw [Qun (by omega)];simp
 | j+1,u,h=>by
  by_cases h2:u < 10
  .rw [Qun h2];simp
  .have:=Quo j (u / 10) (by rw [Nat.pow_succ] at h;omega)
   rw [Qwe h2];simp;omega
theorem D9 {d:Nat} {n:Int} (h0:0<=n) (h:n<=1000000000000):Ok (jZ (d+1) n) fun s=>s.size<=20:=by
 obtain ⟨m,rfl⟩:=Int.eq_ofNat_of_zero_le h0
 rw [TN]
 unfold B5
 have e:Go.Lib.itoa (m:Int)=Go.Lib.decDigits m:=by unfold Go.Lib.itoa;rw [if_neg (by omega)];rfl
 rw [Z5 (by omega),Z5 (by omega),Bool.and_self,Q4,e]
 refine Ok.some ?_
 rw [cc]
 have:=(Quo 19 m (by omega)).2
 exact this
theorem Lw {d:Nat} {n:Int} (h0:0<=n) (h:n<=1000000000):Ok (qj (d+2) n) fun s=>s.size<=21:=by
 obtain ⟨m,rfl⟩:=Int.eq_ofNat_of_zero_le h0
 have e2:((m:Int)).tdiv 1000000=((m / 1000000:Nat):Int):=rfl
 have e4:((m:Int)).tdiv 1000=((m / 1000:Nat):Int):=rfl
 have r0:∀ b,Ok (lR (d+1) (m:Int) b) fun s=>s.size<=21:=by
  intro b
  unfold lR
  rw [e4,wr (n:=((m / 1000:Nat):Int)) (by omega) (by omega)]
  refine Ok.aa (fun _=>?_) (fun _=>?_)
  .refine Ok.bind (D9 (by omega) (by omega)) fun s hs=>?_
   refine Ok.cat (by omega) (by (try simp only [Za,cc,Z9,Zb] at *);omega) (Ok.some ?_)
   (try simp only [Za,cc,Z9,Zb] at *);omega
  .exact Ok.bind (D9 (by omega) (by omega)) fun s hs=>Ok.some (by omega)
 have r1:∀ b,Ok (lS (d+1) (m:Int) b) fun s=>s.size<=21:=by
  intro b
  unfold lS
  rw [e2,wr (n:=((m / 1000000:Nat):Int)) (by omega) (by omega)]
  refine Ok.aa (fun _=>?_) (fun _=>Ok.aa (fun _=>r0 _) (fun _=>r0 _))
  refine Ok.bind (D9 (by omega) (by omega)) fun s hs=>?_
  refine Ok.cat (by omega) (by (try simp only [Za,cc,Z9,Zb] at *);omega) (Ok.some ?_)
  (try simp only [Za,cc,Z9,Zb] at *);omega
 rw [TQ]
 exact Ok.aa (fun _=>r1 _) (fun _=>r1 _)
def UQ (x:aC):Prop:=(0<=x.1/\x.1<=1000000000)/\(0<=x.2.2.1/\x.2.2.1<=1000000000)/\(0<=x.2.2.2.1/\x.2.2.2.1<=1000000000)/\(0<=x.2.2.2.2.1/\x.2.2.2.2.1<=1000000000)/\(0<=x.2.2.2.2.2.1/\x.2.2.2.2.2.1<=1000000000)/\(0<=x.2.2.2.2.2.2.1/\x.2.2.2.2.2.2.1<=1000000000)
theorem Qba {d:Nat} {x:aC} (h:UQ x):Ok (B7 (d+3) x) fun s=>s.size<=1000:=by
 obtain ⟨h1,h2,h3,h4,h5,h6⟩:=h
 rw [TS]
 refine Ok.bind (D9 h1.1 (by omega)) fun r2 g2=>?_
 refine Ok.cat (by (try simp only [Za,cc,Z9,Zb] at *);omega) (by (try simp only [Za,cc,Z9,Zb] at *);omega) ?_
 refine Ok.cat (by (try simp only [Za,cc,Z9,Zb] at *);omega) (by (try simp only [Za,cc,Z9,Zb] at *);omega) ?_
 refine Ok.bind (Lw h2.1 h2.2) fun r3 g3=>?_
 refine Ok.cat (by (try simp only [Za,cc,Z9,Zb] at *);omega) (by (try simp only [Za,cc,Z9,Zb] at *);omega) ?_
 refine Ok.cat (by (try simp only [Za,cc,Z9,Zb] at *);omega) (by (try simp only [Za,cc,Z9,Zb] at *);omega) ?_
 refine Ok.bind (Lw h3.1 h3.2) fun r4 g4=>?_
 refine Ok.cat (by (try simp only [Za,cc,Z9,Zb] at *);omega) (by (try simp only [Za,cc,Z9,Zb] at *);omega) ?_
 refine Ok.cat (by (try simp only [Za,cc,Z9,Zb] at *);omega) (by (try simp only [Za,cc,Z9,Zb] at *);omega) ?_
 refine Ok.bind (Lw h4.1 h4.2) fun r5 g5=>?_
 refine Ok.cat (by (try simp only [Za,cc,Z9,Zb] at *);omega) (by (try simp only [Za,cc,Z9,Zb] at *);omega) ?_
 refine Ok.cat (by (try simp only [Za,cc,Z9,Zb] at *);omega) (by (try simp only [Za,cc,Z9,Zb] at *);omega) ?_
 refine Ok.bind (Lw h5.1 h5.2) fun r6 g6=>?_
 refine Ok.cat (by (try simp only [Za,cc,Z9,Zb] at *);omega) (by (try simp only [Za,cc,Z9,Zb] at *);omega) ?_
 refine Ok.cat (by (try simp only [Za,cc,Z9,Zb] at *);omega) (by (try simp only [Za,cc,Z9,Zb] at *);omega) ?_
 refine Ok.bind (D9 h6.1 (by omega)) fun r7 g7=>?_
 refine Ok.cat (by (try simp only [Za,cc,Z9,Zb] at *);omega) (by (try simp only [Za,cc,Z9,Zb] at *);omega) (Ok.some ?_)
 (try simp only [Za,cc,Z9,Zb] at *);omega
def Lx:ByteArray:=⟨#[48,49,50,51,52,53,54,55,56,57,97,98,99,100,101,102]⟩
theorem Qll:Lx.size=16:=rfl
theorem UR {n:Nat} (h:n<=4294967295):IntKind.i64.wrap ((BitVec.ofInt IntKind.i64.bits (n:Int) &&& BitVec.ofInt IntKind.i64.bits 15).toNat:Int)=((n % 16:Nat):Int):=by
 have hb:IntKind.i64.bits=64:=rfl
 have e1:(BitVec.ofInt IntKind.i64.bits (n:Int)).toNat=n:=by
  rw [hb,BitVec.toNat_ofInt];omega
 have e2:(BitVec.ofInt IntKind.i64.bits 15).toNat=2 ^ 4 - 1:=by decide
 rw [BitVec.toNat_and,e1,e2,Nat.and_two_pow_sub_one_eq_mod,wr (by omega) (by omega)]
theorem Qh6 {d:Nat} {n:Int} (h0:0<=n) (h:n<=65535):Ok (B9 (d+2) n) fun r=>r.1.size<=1000:=by
 rw [TX,Z4 (by omega),Q5,Z4 (by omega),Q5]
 refine Ok.bind (P:=fun r=>r.1.size<=1000) ?_ fun r hr=>Ok.some hr
 rw [TW,Z4 (by omega),Q5,Z4 (show ¬ n > 4294967295 by omega)]
 unfold qm
 rw [Q5]
 have fin:∀ s:ByteArray,s.size<=200->Ok (lU d s) fun r=>r.1.size<=1000:=by
  intro s hs
  unfold lU
  refine Ok.cat (by (try simp only [Za,cc,Z9,Zb] at *);omega) (by (try simp only [Za,cc,Z9,Zb] at *);omega) (Ok.some ?_)
  (try simp only [Za,cc,Z9,Zb] at *);omega
 refine mo (fun m (st:Int×ByteArray)=>0<=st.1/\st.1<=65535/\(st.1 < 16 ^ m\/bl st.2=[])/\(m<=5)/\(bl st.2=[]->m=5)/\st.2.size+m*16<=100) ?_ Qd 5 _ (by rw [Q6];omega) ⟨h0,h,Or.inr rfl,by omega,fun _=>rfl,by simp only;rw [show (⟨#[]⟩:ByteArray).size=0 from rfl];omega⟩
 rintro m ⟨n,s⟩ ag ⟨h1,h2,h3,h4,h5,h6⟩ er
 simp only at h1 h2 h3 h4 h5 h6
 obtain ⟨k,rfl⟩:=Int.eq_ofNat_of_zero_le h1
 have Fs:k % 16 < 16:=Nat.mod_lt _ (by omega)
 simp only [yK]
 have step:∀ b,(bl s=[]\/0 < k)->Ok (jm d (lU d) ag (k:Int) s b true) fun r=>r.1.size<=1000:=by
  intro b hb
  unfold jm
  rw [Q4,UR (by omega)]
  have e2:((k:Int)).fdiv (2 ^ (min (4:Int).toNat IntKind.i64.bits))=((k / 16:Nat):Int):=by
   have:(2:Int) ^ (min (4:Int).toNat IntKind.i64.bits)=16:=rfl
   rw [this,Int.fdiv_eq_ediv_of_nonneg _ (by omega)];rfl
  rw [e2,aN (by omega)]
  change Ok (aa _ (aa _ (aa (Nat.ble _ _&&Nat.ble _ Lx.size) (aa (Nat.ble ((Lx.extract _ _).size+_) _) (ag (_,Lx.extract _ _++s)) _) _) _) _) _
  simp only [Q3,nn,Q4]
  have hz:(Lx.extract (k % 16) (k % 16+1)).size=1:=by rw [ByteArray.size_extract,Qll];omega
  rw [Qw5 (by omega) (by rw [Qll];omega),ZL (by omega)]
  have hm:0 < m:=by
   rcases Nat.eq_zero_or_pos m with hm | hm
   .subst hm
    rcases hb with hb | hb
    .exact absurd (h5 hb) (by omega)
    .rcases h3 with h3 | h3
     .simp at h3;omega
     .exact absurd (h5 h3) (by omega)
   .exact hm
  obtain ⟨m',rfl⟩:∃ m',m=m'+1:=⟨m - 1,by omega⟩
  refine er m' _ (by omega) ⟨by simp only;omega,by simp only;omega,Or.inl ?_,by omega,fun h=>?_,?_⟩
  .simp only
   rcases h3 with h3 | h3
   .have:k < 16 ^ m'*16:=by rw [Int.pow_succ] at h3;exact_mod_cast h3
    have:k / 16 < 16 ^ m':=Nat.div_lt_of_lt_mul (by rw [Nat.mul_comm];exact this)
    exact_mod_cast this
   .have:=h5 h3
    obtain rfl:m'=4:=by omega
    have:k / 16 < 16 ^ 4:=by omega
    exact_mod_cast this
  .have:=congrArg List.length h
   simp only at this
   rw [<- ZK,Za,hz] at this
   simp at this
  .simp only
   rw [Za,hz];omega
 refine Ok.aa (fun h=>step _ (Or.inr (by simpa using h))) (fun _=>?_)
 rw [ON,Qyu []]
 by_cases hb:bl s=[]
 .rw [Z5 hb];exact step _ (Or.inl hb)
 .rw [Z4 hb]
  unfold jm
  rw [Q5]
  exact fin s (by omega)
theorem Qh7 {d:Nat} {x:dV} (h:zK x=true) (ht:0<=x.2.2.2.2/\x.2.2.2.2<=1000000):Ok (Gl (d+3) x) fun s=>s.size<=10000:=by
 unfold zK at h
 simp only [Z8,Zj] at h
 obtain ⟨⟨h1,h2,h3,h4,h5,h6,h7,h8⟩,_⟩:=h
 rw [TZ]
 refine Ok.bind (Qh6 h7 h8) fun r2 g2=>?_
 refine Ok.bind (Qh6 h5 h6) fun r3 g3=>?_
 refine Ok.bind (D9 (by omega) (by omega)) fun r4 g4=>?_
 refine Ok.cat (by (try simp only [Za,cc,Z9,Zb] at *);omega) (by (try simp only [Za,cc,Z9,Zb] at *);omega) ?_
 refine Ok.cat (by (try simp only [Za,cc,Z9,Zb] at *);omega) (by (try simp only [Za,cc,Z9,Zb] at *);omega) ?_
 rw [TY,Q8,Z5 h3,Q4]
 have kU:x.2.1.toNat < 4:=by omega
 change Ok (aa (Nat.blt x.2.1.toNat 4) _ none) _
 rw [Qo kU,Q4]
 refine Ok.bind (P:=fun s=>s.size<=10) ?_ fun s6 g6=>?_
 .have:x.2.1.toNat < 4:=by omega
  match x.2.1.toNat,this with
  | 0,_=>exact Ok.some (by decide)
  | 1,_=>exact Ok.some (by decide)
  | 2,_=>exact Ok.some (by decide)
  | 3,_=>exact Ok.some (by decide)
 refine Ok.cat (by (try simp only [Za,cc,Z9,Zb] at *);omega) (by (try simp only [Za,cc,Z9,Zb] at *);omega) ?_
 refine Ok.cat (by (try simp only [Za,cc,Z9,Zb] at *);omega) (by (try simp only [Za,cc,Z9,Zb] at *);omega) ?_
 refine Ok.cat (by (try simp only [Za,cc,Z9,Zb] at *);omega) (by (try simp only [Za,cc,Z9,Zb] at *);omega) ?_
 refine Ok.cat (by (try simp only [Za,cc,Z9,Zb] at *);omega) (by (try simp only [Za,cc,Z9,Zb] at *);omega) ?_
 refine Ok.cat (by (try simp only [Za,cc,Z9,Zb] at *);omega) (by (try simp only [Za,cc,Z9,Zb] at *);omega) ?_
 refine Ok.cat (by (try simp only [Za,cc,Z9,Zb] at *);omega) (by (try simp only [Za,cc,Z9,Zb] at *);omega) ?_
 refine Ok.bind (D9 ht.1 (by omega)) fun r7 g7=>?_
 refine Ok.cat (by (try simp only [Za,cc,Z9,Zb] at *);omega) (by (try simp only [Za,cc,Z9,Zb] at *);omega) ?_
 refine Ok.cat (by (try simp only [Za,cc,Z9,Zb] at *);omega) (by (try simp only [Za,cc,Z9,Zb] at *);omega) (Ok.some ?_)
 (try simp only [Za,cc,Z9,Zb] at *);omega
abbrev Pr:=Cf×List ByteArray×List Int×List Int×List Int
theorem I8 {d:Nat} {p:Pr} {n:Int} {s:ByteArray} (h0:0<=n) (h1:n<=100) (hs:s.size<=90000) (hl:p.2.1.length<=1000):Ok (nJ (d+2) p n s) fun r=>r.1=p.1/\r.2.1.length=p.2.1.length+1/\r.2.2=p.2.2:=by
 rw [TP,TO]
 refine Ok.bind (P:=fun r=>r.size<=5000) ?_ fun r hr=>?_
 .unfold B6
  rw [Z5 h0,Z5 (show n<=1000000 by omega),Zg,Zg,show Nat.ble (⟨#[32,32]⟩:ByteArray).size 1000000=true from by decide,Q4]
  refine Ok.some ?_
  rw [cc]
  have:∀ (l:List UInt8) (k:Nat),(Go.Lib.repeatL l k).length=l.length*k:=by
   intro l k
   induction k with
   | zero=>simp [Go.Lib.repeatL]
   | succ k ih=>simp only [Go.Lib.repeatL,Zf,ih,Nat.mul_succ];omega
  rw [this]
  have:(⟨#[32,32]⟩:ByteArray).data.toList.length=2:=rfl
  rw [this];omega
 .refine Ok.cat (by omega) (by omega) ?_
  rw [room (by simp;omega),Q4]
  exact Ok.some ⟨rfl,by simp,rfl⟩
end Go.Proofs.YtcoimfbmgjhcjabGreatDoor
