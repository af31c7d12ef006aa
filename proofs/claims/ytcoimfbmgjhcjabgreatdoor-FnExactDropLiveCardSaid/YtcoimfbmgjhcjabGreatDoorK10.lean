/-
  What the cursor's functions and the small ones give by value. And what stood behind it in 9 texts.
  Conditions: said at the theorems.
-/
import Derived.Test.YtcoimfbmgjhcjabGreatDoorFnExactDropLiveRes
import Derived.Test.YtcoimfbmgjhcjabGreatDoorVStr
import Derived.Laws.Strings
import Derived.Test.YtcoimfbmgjhcjabGreatDoorDelW
set_option linter.all false
namespace Go.Proofs.YtcoimfbmgjhcjabGreatDoor
open Go.Ev Go.Pv
theorem v8 {d:Nat} {x y z:Int}:jo (d+1) x y z=some (decide (y<=x/\x<=z)):=by
 rw [e55];simp only [u_];congr 1;rw [Bool.eq_iff_iff];simp
theorem Qoz {d:Nat} {x y:Int}:Ci (d+1) x y=some (min x y):=by
 rw [TZ];simp only [u_];congr 1;split<;>simp_all<;>omega
def bl (s:ByteArray):List UInt8:=s.data.toList
theorem Qup (s:ByteArray):s.size=(bl s).length:=rfl
theorem Qz8 (l:List UInt8):bl ⟨l.toArray⟩=l:=by simp [bl]
theorem Pm (a b:ByteArray):(a.toList==b.toList)=decide (bl a=bl b):=by
 rw [ByteArray.toList_eq,ByteArray.toList_eq]
 by_cases h:bl a=bl b
 .rw [Z5 h];simpa [bl] using h
 .rw [Z4 h];simpa [bl] using h
theorem LZ {a b:Nat} (h:a<=b):Nat.ble a b=true:=by rw [Nat.ble_eq];exact h
theorem Qwh {α:Type} {a b n:Nat} {x y:Option α} (h1:a<=b) (h2:b<=n):aa (Nat.ble a b&&Nat.ble b n) x y=x:=by rw [LZ h1,LZ h2];rfl
theorem Qz9 {α:Type} {a b:Nat} {x y:Option α} (h:a+b<=9223372036854775807):aa (Nat.ble (a+b) 9223372036854775807) x y=x:=by rw [LZ h];rfl
theorem Pn {α τ:Type} {p:α->Bool}:∀ (l:List α) (i:Nat) (t:τ),er (fun x _ t k=>aa (p x) (some true) (k t)) (fun _=>some false) l i t=some (l.any p)
 | [],i,t=>rfl
 | x::r,i,t=>by
  simp only [er,List.any_cons]
  cases p x with
  | true=>rfl
  | false=>exact Pn r (i+1) t
def KW:List ByteArray:=[(⟨#[113,100,105,115,99]⟩:ByteArray),(⟨#[100,101,102,97,117,108,116]⟩:ByteArray),(⟨#[99,108,97,115,115]⟩:ByteArray),(⟨#[114,97,116,101]⟩:ByteArray),(⟨#[99,101,105,108]⟩:ByteArray),(⟨#[98,117,114,115,116]⟩:ByteArray),(⟨#[99,98,117,114,115,116]⟩:ByteArray),(⟨#[112,114,105,111]⟩:ByteArray),(⟨#[108,105,109,105,116]⟩:ByteArray),(⟨#[102,105,108,116,101,114]⟩:ByteArray),(⟨#[115,111,117,114,99,101]⟩:ByteArray),(⟨#[100,101,115,116]⟩:ByteArray),(⟨#[112,111,114,116]⟩:ByteArray),(⟨#[109,97,114,107]⟩:ByteArray)]
def sm (c:UInt8):Bool:=decide (97<=c.toNat/\c.toNat<=122)
theorem Qp1 {d:Nat} {c:UInt8}:Gm (d+1) (c.toNat:Int)=some (sm c):=by
 rw [T1];unfold sm;simp only [u_];congr 1;rw [Bool.eq_iff_iff];simp;omega
def L5 (s:ByteArray):Bool:=KW.any fun w=>decide (bl w=bl s)
theorem Qwi {d:Nat} {s:ByteArray}:Gp (d+1) s=some (L5 s):=by
 rw [T2]
 refine (Qc (fun (t:Bool) (i:Int)=>(t,i)) KW (fun w _ t k=>aa (decide (bl w=bl s)) (some true) (k t)) (fun _=>some false) ?_ ?_ (by rw [Q6];decide) false).trans (Pn KW 0 _)
 .intro ag t i x hx
  have hi:=(Z0 hx).1
  have h14:KW.length=14:=rfl
  simp only [p5]
  change aa (decide ((i:Int) < 14)) (aa (decide (0<=(i:Int))) (Q1 (KW[(i:Int).toNat]?) _) none) _=_
  rw [Z5 (show (i:Int) < 14 by omega),Q4,nn,Q4,Q3,hx,Q8,Pm,aN (by omega)]
 .intro ag t
  simp only [p5]
  rw [Z4 (show ¬ ((KW.length:Nat):Int) < 14 by decide),Q5];rfl
theorem Qsm {d:Nat} {s:ByteArray}:F3 (d+2) s=some (L5 s):=by
 rw [Tz,Tx,Q8,Tw]
 have:∀ X:Option Bool,X=some (L5 s)->Q1 X (fun r3=>some r3)=some (L5 s):=fun X h=>by rw [h];rfl
 refine this _ ?_
 refine (Qc (fun (t:Bool) (i:Int)=>(t,i)) KW (fun w _ t k=>aa (decide (bl w=bl s)) (some true) (k t)) (fun _=>some false) ?_ ?_ (by rw [Q6];decide) false).trans (Pn KW 0 _)
 .intro ag t i x hx
  have hi:=(Z0 hx).1
  have h14:KW.length=14:=rfl
  simp only [pG]
  change aa (decide ((i:Int) < ((KW.length:Nat):Int))) (aa (decide (0<=(i:Int))) (Q1 (KW[(i:Int).toNat]?) _) none) _=_
  rw [Z5 (show (i:Int) < ((KW.length:Nat):Int) by omega),Q4,nn,Q4,Q3,hx,Q8,Pm,aN (by omega)]
 .intro ag t
  simp only [pG]
  change aa (decide (((KW.length:Nat):Int) < ((KW.length:Nat):Int))) _ _=_
  rw [bD,Q5];rfl
theorem Qsn {f:Nat} (h0:f≠190) (h1:f≠202) (h2:f≠88):Ex f=none/\LY f=none:=by
 constructor
 .unfold Ex;split<;>simp_all
 .unfold LY;split<;>simp_all
theorem Po (f:Nat):f=190\/f=202\/f=88\/(Ex f=none/\LY f=none):=by
 by_cases h0:f=190
 .exact Or.inl h0
 by_cases h1:f=202
 .exact Or.inr (Or.inl h1)
 by_cases h2:f=88
 .exact Or.inr (Or.inr (Or.inl h2))
 exact Or.inr (Or.inr (Or.inr (Qsn h0 h1 h2)))
theorem extAll:mH Tryz.prog Qb:=by
 refine ⟨⟨fun f v h=>?_,fun f h=>?_,fun f h=>?_⟩,fun f e h=>?_⟩
 .rcases Po f with rfl | rfl | rfl | hn
  .have h':Ex 190=some v:=h
   have h2:some (fun (a:Int)=>Co a)=some v:=h'
   injection h2 with h2
   subst h2
   exact ⟨_,rfl,Qxz⟩
  .have h':Ex 202=some v:=h
   have h2:some (fun (a:ByteArray×Int)=>Cp a.1 a.2)=some v:=h'
   injection h2 with h2
   subst h2
   exact ⟨_,rfl,Vc⟩
  .have h':Ex 88=some v:=h
   have h2:some (fun a=>I9 I8 a)=some v:=h'
   injection h2 with h2
   subst h2
   exact ⟨_,rfl,Qyx⟩
  .have:Ex f=some v:=h
   rw [hn.1] at this;simp at this
 .rcases Po f with rfl | rfl | rfl | hn
  .have h2:some (fun (a:Int)=>Co a)=none:=h
   simp at h2
  .have h2:some (fun (a:ByteArray×Int)=>Cp a.1 a.2)=none:=h
   simp at h2
  .have h2:some (fun a=>I9 I8 a)=none:=h
   simp at h2
  .exact hn.2
 .rcases Po f with rfl | rfl | rfl | hn
  .have h2:false=true:=h
   simp at h2
  .have h2:false=true:=h
   simp at h2
  .have h2:false=true:=h
   simp at h2
  .exact hn.1
 .rcases Po f with rfl | rfl | rfl | hn
  .have h2:some FP=some e:=h
   injection h2 with h2
   subst h2
   exact Qsb
  .have h2:some FQ=some e:=h
   injection h2 with h2
   subst h2
   exact Qw5
  .have h2:some (DM 8 wW)=some e:=h
   injection h2 with h2
   subst h2
   exact Qw6
  .have h2:LY f=some e:=h
   rw [hn.2] at h2;simp at h2
abbrev aA:=Int×Int×Int×Int×Int×Int×Int×Int
abbrev dY:=Int×Int×Int×Int×Int
abbrev Cf:=ByteArray×List aA×List dY×Int
abbrev Ld:=ByteArray×List aA×List Int×List Int×List Int×List Int×List dY×List Int×Int
abbrev Tk:=List Int×List Int
def zC:Cf:=(⟨#[]⟩,[],[],0)
def fB {α:Type} (p:α->Bool):List α->Nat->Int
 | [],_=>-1
 | x::r,i=>if p x=true then (i:Int) else fB p r (i+1)
theorem Ey {α τ:Type} {p:α->Bool}:∀ (l:List α) (i:Nat) (t:τ),er (fun x i t k=>aa (p x) (some ((i:Nat):Int)) (k t)) (fun _=>some (-1)) l i t=some (fB p l i)
 | [],i,t=>rfl
 | x::r,i,t=>by
  simp only [er,fB]
  cases p x with
  | true=>rfl
  | false=>simp only [Q5,Bool.false_eq_true,if_false];exact Ey r (i+1) t
theorem K9 {α:Type} {p:α->Bool}:∀ {l:List α} {i:Nat},fB p l i < 0↔∀ x∈l,p x=false
 | [],i=>by simp [fB]
 | x::r,i=>by
  simp only [fB,List.mem_cons,forall_eq_or_imp]
  cases p x with
  | true=>simp
  | false=>simp only [Bool.false_eq_true,if_false,true_and];exact K9
theorem Js {α:Type} {p:α->Bool}:∀ {l:List α} {i:Nat},0<=fB p l i->∃ (k:Nat) (x:α),fB p l i=((i+k:Nat):Int)/\l[k]? = some x/\p x=true/\∀ j y,j < k->l[j]? = some y->p y=false
 | [],i,h=>by simp [fB] at h
 | x::r,i,h=>by
  simp only [fB] at h ⊢
  cases hp:p x with
  | true=>exact ⟨0,x,by simp,rfl,hp,fun j y hj=>by omega⟩
  | false =>
   simp only [hp,Bool.false_eq_true,if_false] at h ⊢
   obtain ⟨k,y,h1,h2,h3,h4⟩:=Js h
   refine ⟨k+1,y,by rw [h1];congr 1;omega,h2,h3,fun j z hj hz=>?_⟩
   cases j with
   | zero=>simp at hz;subst hz;exact hp
   | succ j=>exact h4 j z (by omega) (by simpa using hz)
theorem Qd7 {α τ β:Type} {p:α->Bool} {b1 b2:Option β}:∀ (l:List α) (i:Nat) (t:τ),er (fun x _ t k=>aa (p x) b1 (k t)) (fun _=>b2) l i t=aa (l.any p) b1 b2
 | [],i,t=>rfl
 | x::r,i,t=>by
  simp only [er,List.any_cons]
  cases p x with
  | true=>rfl
  | false=>exact Qd7 r (i+1) t
def bK (l:List aA) (id:Int):Int:=fB (fun x=>x.1==id) l 0
def nU (l:List aA) (id:Int):List Int:=fG (fun x _=>x.2.1==id) (fun _ k=>((k:Nat):Int)) l 0
def fS (l:List aA) (id:Int):Bool := !(l.any fun x=>x.2.1==id)
theorem L6 {α γ:Type} {c:α->Bool} {e:α->Nat->γ}:∀ (l:List α) (i:Nat),((fG (fun x _=>c x) e l i).length==0) = !(l.any c)
 | [],i=>rfl
 | x::r,i=>by
  simp only [fG,List.any_cons]
  by_cases h:c x=true
  .rw [if_pos h,h];simp
  .rw [if_neg h,Bool.eq_false_iff.2 h,Bool.false_or];exact L6 r (i+1)
theorem Qgs {l:List aA} {id:Int}:((((nU l id).length:Nat):Int)==0)=fS l id:=by
 have:=L6 (c:=fun x:aA=>x.2.1==id) (e:=fun _ k=>((k:Nat):Int)) l 0
 unfold nU fS
 rw [<- this,Bool.eq_iff_iff,beq_iff_eq,beq_iff_eq];omega
theorem Pp {l:List aA} {id:Int}:(nU l id).length<=l.length:=Vd _ _
theorem Qle {l:List aA} {id n:Int} (h:n∈nU l id):∃ (k:Nat) (x:aA),n=(k:Int)/\l[k]? = some x/\x.2.1=id:=by
 obtain ⟨j,x,h1,h2,h3⟩:=Ve _ _ h
 exact ⟨j,x,by simpa using h3,h1,by simpa using h2⟩
theorem tI {l:List aA} {id:Int} (h:0<=bK l id):∃ (k:Nat) (x:aA),bK l id=(k:Int)/\l[k]? = some x/\x.1=id:=by
 obtain ⟨k,x,h1,h2,h3,_⟩:=Js h
 exact ⟨k,x,by unfold bK;simpa using h1,h2,by simpa using h3⟩
theorem Vf {l:List aA} {id:Int}:bK l id < 0↔∀ x∈l,x.1≠id:=by
 unfold bK;rw [K9];simp
theorem Le {d:Nat} {c:Cf} {id:Int} (hl:c.2.1.length < 4000000):DW (d+3) c id=some (bK c.2.1 id):=by
 rw [e74]
 refine (Qc (fun (t:Int) (i:Int)=>(t,i)) c.2.1 (fun x i t k=>aa (x.1==id) (some ((i:Nat):Int)) (k t)) (fun _=>some (-1)) ?_ ?_ (by rw [Q6];omega) 0).trans (Ey c.2.1 0 _)
 .intro ag t i x hx;have hi:=(Z0 hx).1;simp only [ia,bV hx,nn,Q3,hx,Q8,Q4];rw [aN (by omega)]
 .intro ag t;simp only [ia,bD,Q5];rfl
theorem F0 {d:Nat} {c:Cf} {id:Int} (hl:c.2.1.length < 4000000):Cd (d+1) c id=some (bK c.2.1 id):=by
 rw [e62]
 refine (Qc (fun (t:Int) (i:Int)=>(t,i)) c.2.1 (fun x i t k=>aa (x.1==id) (some ((i:Nat):Int)) (k t)) (fun _=>some (-1)) ?_ ?_ (by rw [Q6];omega) 0).trans (Ey c.2.1 0 _)
 .intro ag t i x hx;have hi:=(Z0 hx).1;simp only [ya,bV hx,nn,Q3,hx,Q8,Q4];rw [aN (by omega)]
 .intro ag t;simp only [ya,bD,Q5];rfl
theorem Lf {d:Nat} {c:Cf} {n:Nat} {y:aA} (hn:c.2.1[n]? = some y) (hl:c.2.1.length < 4000000):Es (d+4) c (n:Int)=some (fS c.2.1 y.1):=by
 rw [e75]
 refine (Qc (fun (t:Int) (i:Int)=>(t,i)) c.2.1 (fun x i t k=>aa (x.2.1==y.1) (some false) (k t)) (fun _=>some true) ?_ ?_ (by rw [Q6];omega) 0).trans ?_
 .intro ag t i x hx;have hi:=(Z0 hx).1;simp only [eu,bV hx,nn,Q3,hx,Q8,Q4];rw [aN (by omega)]
  rw [hn,Q8];rfl
 .intro ag t;simp only [eu,bD,Q5];rfl
 .rw [Qd7];unfold fS;cases c.2.1.any _<;>rfl
theorem Q9v {d:Nat} {c:Cf} {n:Nat} {y:aA} (hn:c.2.1[n]? = some y) (hl:c.2.1.length<=1000):y_ (d+1) c (n:Int)=some (nU c.2.1 y.1):=by
 rw [Ue]
 refine (Qc (fun (t:List Int) (i:Int)=>(t,i)) c.2.1 (fun x i t k=>aa (x.2.1==y.1) (aa (Nat.ble ((t.length+[((i:Nat):Int)].length)*8) Q7) (k (t++[((i:Nat):Int)])) none) (k t)) (fun t=>some t) ?_ ?_ (by rw [Q6];omega) []).trans ?_
 .intro ag t i x hx;have hi:=(Z0 hx).1;simp only [qf,bV hx,nn,Q3,hx,Q8,Q4];rw [aN (by omega)]
  rw [hn,Q8]
 .intro ag t;simp only [qf,bD,Q5];rfl
 .exact B8 (c:=fun x _=>x.2.1==y.1) (e:=fun (_:aA) (k:Nat)=>((k:Nat):Int)) (w:=8) c.2.1 0 [] (by simp;omega)
theorem Pq {d:Nat} {c:Cf} {n:Nat} {y:aA} (hn:c.2.1[n]? = some y) (hl:c.2.1.length<=1000):lC (d+1) c (n:Int)=some (nU c.2.1 y.1):=by
 rw [Tv]
 refine (Qc (fun (t:List Int) (i:Int)=>(t,i)) c.2.1 (fun x i t k=>aa (x.2.1==y.1) (aa (Nat.ble ((t.length+[((i:Nat):Int)].length)*8) Q7) (k (t++[((i:Nat):Int)])) none) (k t)) (fun t=>some t) ?_ ?_ (by rw [Q6];omega) []).trans ?_
 .intro ag t i x hx;have hi:=(Z0 hx).1;simp only [pE,bV hx,nn,Q3,hx,Q8,Q4];rw [aN (by omega)]
  rw [hn,Q8]
 .intro ag t;simp only [pE,bD,Q5];rfl
 .exact B8 (c:=fun x _=>x.2.1==y.1) (e:=fun (_:aA) (k:Nat)=>((k:Nat):Int)) (w:=8) c.2.1 0 [] (by simp;omega)
theorem SY {d:Nat} {c:Cf} {n:Nat} {y:aA} (hn:c.2.1[n]? = some y) (hl:c.2.1.length<=1000):DX (d+2) c (n:Int)=some (fS c.2.1 y.1):=by
 rw [e87,Pq hn hl,Q8,Qgs]
def oK (l:List aA) (id:Int):Bool:=decide (0<=bK l id)&&fS l id
theorem Vg {d:Nat} {c:Cf} {id:Int} (hl:c.2.1.length<=1000):za (d+5) c id=some (oK c.2.1 id):=by
 rw [Uj,Le (by omega),Q8]
 unfold oK
 by_cases h:0<=bK c.2.1 id
 .obtain ⟨k,x,h1,h2,h3⟩:=tI h
  rw [Z5 h,Q4,h1,Lf h2 (by omega),Q8,h3,Zg]
 .rw [Z4 h];rfl
theorem O5 {d:Nat} {c:Cf} {id:Int} (hl:c.2.1.length<=1000):Ji (d+3) c id=some (oK c.2.1 id):=by
 rw [e60,F0 (by omega),Q8]
 unfold oK
 by_cases h:0<=bK c.2.1 id
 .obtain ⟨k,x,h1,h2,h3⟩:=tI h
  rw [Z5 h,Q4,h1,SY h2 hl,Q8,h3,Zg]
 .rw [Z4 h];rfl
def Bk (s:ByteArray):Bool:=decide (1<=s.size/\s.size<=8)&&((bl s).all sm && !L5 s)
theorem Qso {d:Nat} {s:ByteArray}:Gq (d+2) s=some (Bk s):=by
 rw [T3]
 unfold Bk p8
 by_cases h0:((s.size:Nat):Int) < 1
 .rw [Z5 h0,Q4,Q4,Z4 (by omega)];rfl
 rw [Z4 h0,Q5]
 by_cases h2:((s.size:Nat):Int) > 8
 .rw [Z5 h2,Q4,Z4 (by omega)];rfl
 rw [Z4 h2,Q5,Z5 (show 1<=s.size/\s.size<=8 by omega),Zg]
 have hs:(bl s).length < 4194304:=by rw [<- Qup];omega
 refine (Qc (fun (t:Bool) (i:Int)=>(t,i)) (bl s) (fun x _ t k=>aa (sm x) (k t) (some false)) (p6 (d+1) s) ?_ ?_ (by rw [Q6];exact hs) false).trans ?_
 .intro ag t i x hx
  have hi:=(Z0 hx).1
  have nV:s.data.toList[i]? = some x:=hx
  have bf:s.size=(bl s).length:=rfl
  simp only [p7]
  rw [Z5 (show (i:Int) < ((s.size:Nat):Int) by omega),Q4,nn,Q4,Q3,nV,Q8,Qp1,Q8,aN (by omega)]
  cases sm x<;>rfl
 .intro ag t
  simp only [p7]
  rw [show ((s.size:Nat):Int)=(((bl s).length:Nat):Int) from rfl,bD,Q5]
 .rw [CD]
  cases (bl s).all sm with
  | false=>rfl
  | true =>
   rw [Q4,Zg]
   unfold p6
   rw [Qwi,Q8]
theorem Qsp {d:Nat} {s:ByteArray} (hs:s.size < 4000000):TA (d+3) s=some (Bk s):=by
 rw [e95]
 unfold Bk
 have bf:s.size=(bl s).length:=rfl
 refine (Qc (fun (t:Bool) (i:Int)=>(t,i)) (bl s) (fun x _ t k=>aa (sm x) (k t) (some false)) (yd (d+2) s) ?_ ?_ (by rw [Q6];omega) false).trans ?_
 .intro ag t i x hx
  have hi:=(Z0 hx).1
  have nV:s.data.toList[i]? = some x:=hx
  simp only [ye]
  rw [Z5 (show (i:Int) < ((s.size:Nat):Int) by omega),Q4,nn,Q4,Q3,nV,Q8,Q4,Q8,aN (by omega)]
  unfold sm
  by_cases h1:(x.toNat:Int) < 97
  .rw [Z5 h1,Q4,Z4 (by omega)];rfl
  .rw [Z4 h1,Q5]
   by_cases h2:(x.toNat:Int) > 122
   .rw [Z5 h2,Q4,Z4 (by omega)];rfl
   .rw [Z4 h2,Q5,Z5 (by omega)];rfl
 .intro ag t
  simp only [ye]
  rw [show ((s.size:Nat):Int)=(((bl s).length:Nat):Int) from rfl,bD,Q5]
 .rw [CD]
  cases (bl s).all sm with
  | false=>rw [Q5,Bool.false_and,Bool.and_false]
  | true =>
   rw [Q4,Zg]
   unfold yd
   rw [v8,Q8]
   by_cases h:1<=s.size/\s.size<=8
   .rw [Z5 (show (1:Int)<=((s.size:Nat):Int)/\((s.size:Nat):Int)<=8 by omega),Q4,Qsm,Q8,Z5 h,Zg]
   .rw [Z4 (show ¬ ((1:Int)<=((s.size:Nat):Int)/\((s.size:Nat):Int)<=8) by omega),Q5,Z4 h];rfl
def zc8:aA:=(0,0,0,0,0,0,0,0)
def aU (l:List aA) (i:Int):aA:=l.getD i.toNat zc8
def eM {α:Type} (p:α->Nat->Bool):List α->Nat->Bool
 | [],_=>true
 | x::r,i=>p x i&&eM p r (i+1)
theorem qS {α τ β:Type} {p:α->Nat->Bool} {no:Option β} {fin:τ->Option β}:∀ (l:List α) (i:Nat) (t:τ),er (fun x i t k=>aa (p x i) (k t) no) fin l i t=aa (eM p l i) (fin t) no
 | [],i,t=>rfl
 | x::r,i,t=>by
  simp only [er,eM]
  cases p x i with
  | true=>simp only [Q4,Zg];exact qS r (i+1) t
  | false=>rfl
theorem sK {α:Type} {p:α->Nat->Bool}:∀ {l:List α} {i:Nat},eM p l i=true↔∀ j x,l[j]? = some x->p x (i+j)=true
 | [],i=>by simp [eM]
 | x::r,i=>by
  simp only [eM,Z8,sK (l:=r)]
  constructor
  .rintro ⟨h1,h2⟩ j y hy
   cases j with
   | zero=>simp at hy;subst hy;exact h1
   | succ j=>have:=h2 j y (by simpa using hy);rw [show i+(j+1)=i+1+j by omega];exact this
  .intro h
   exact ⟨h 0 x rfl,fun j y hy=>by have:=h (j+1) y (by simpa using hy);rw [show i+1+j=i+(j+1) by omega];exact this⟩
theorem Qlf {α:Type} {p q:α->Nat->Bool} {l:List α} {i:Nat}:eM (fun x j=>p x j&&q x j) l i=(eM p l i&&eM q l i):=by
 rw [Bool.eq_iff_iff,Z8,sK,sK,sK]
 simp only [Z8]
 exact ⟨fun h=>⟨fun j x hx=>(h j x hx).1,fun j x hx=>(h j x hx).2⟩,fun h j x hx=>⟨h.1 j x hx,h.2 j x hx⟩⟩
theorem Vh {α:Type} {p:α->Bool}:∀ {l:List α} {i:Nat},eM (fun x _=>p x) l i=l.all p
 | [],_=>rfl
 | x::r,i=>by simp only [eM,List.all_cons];rw [Vh (l:=r)]
def zY (l:List aA) (x:aA) (i:Nat):Bool:=decide (1<=x.1/\x.1<=999)&&(decide (i=0) || decide ((aU l ((i:Int) - 1)).1 < x.1))
def vb (l:List aA):Nat:=(l.filter fun x=>x.2.1==0).length
def Ez (l:List aA):Bool:=l.all fun x=>x.2.1==0 || decide (0<=bK l x.2.1)
def cR (l:List aA):Nat->Int->List Int
 | 0,_=>[]
 | f+1,i=>if i < 0 then [] else i::cR l f (bK l (aU l i).2.1)
def nW (u:List Int):Int:=u.getD (u.length - 1) 0
def v_ (l:List aA) (i:Nat):Bool:=decide ((cR l 9 i).length<=8)&&((aU l (nW (cR l 9 i))).2.1==0)
theorem jl {l:List aA} {n:Nat} {x:aA} (h:l[n]? = some x):aU l (n:Int)=x:=by unfold aU;rw [Q3,Zr,h];rfl
theorem Hj {l:List aA} {i:Int} (h0:0<=i) (h:i < ((l.length:Nat):Int)):l[i.toNat]? = some (aU l i):=by
 have:i.toNat < l.length:=by omega
 unfold aU;rw [Zr,Z6 this];rfl
theorem B7 {l:List aA} {id:Int}:bK l id < ((l.length:Nat):Int):=by
 by_cases h:0<=bK l id
 .obtain ⟨k,x,h1,h2,_⟩:=tI h
  have:=(Z0 h2).1
  omega
 .omega
theorem Qza {d:Nat} {n:Int}:Gr (d+1) n=some (decide (1<=n/\n<=999)):=by
 rw [T4]
 by_cases h:n>=1
 .rw [Z5 h,Q4];congr 1;rw [Bool.eq_iff_iff];simp;omega
 .rw [Z4 h,Q5];congr 1;symm;rw [decide_eq_false_iff_not];omega
def rU (l:List aA):Bool:=eM (zY l) l 0
theorem Jt {i:Nat} (h:i < 9223372036854775807) (h0:0 < i):IntKind.i64.wrap ((i:Int) - 1)=((i - 1:Nat):Int):=by rw [wr (by omega) (by omega)];omega
theorem Qn1 {d:Nat} {c:Cf} (hl:c.2.1.length < 4000000):Gs (d+2) c=some (rU c.2.1&&decide (1<=c.2.1.length/\c.2.1.length<=24)):=by
 rw [T5]
 refine (Qc (fun (t:Bool) (i:Int)=>(t,i)) c.2.1 (fun x i t k=>aa (zY c.2.1 x i) (k t) (some false)) (fun _=>some (decide (1<=c.2.1.length/\c.2.1.length<=24))) ?_ ?_ (by rw [Q6];omega) false).trans ?_
 .intro ag t i x hx
  have hi:=(Z0 hx).1
  simp only [p9,bV hx,nn,Q3,hx,Q8,Q4]
  rw [Qza,Q8,aN (by omega)]
  unfold zY
  cases decide (1<=x.1/\x.1<=999) with
  | false=>rfl
  | true =>
   rw [Zl,Q5,Zg]
   by_cases h0:i=0
   .subst h0;rfl
   .rw [Z5 (show (i:Int) > 0 by omega),Q4,Jt (by omega) (by omega),nn,Q4,Q3,Z6 (show i - 1 < c.2.1.length by omega),Q8,Z4 h0,Bool.false_or]
    rw [show (i:Int) - 1=((i - 1:Nat):Int) by omega,jl (Z6 (show i - 1 < c.2.1.length by omega))]
    by_cases h:x.1<=(c.2.1[i - 1]).1
    .rw [Z5 h,Z4 (by omega)];rfl
    .rw [Z4 h,Z5 (by omega)];rfl
 .intro ag t
  simp only [p9,bD,Q5]
  unfold yW
  by_cases h:((c.2.1.length:Nat):Int)>=1
  .rw [Z5 h,Q4];congr 1;rw [Bool.eq_iff_iff];simp;omega
  .rw [Z4 h,Q5];congr 1;symm;rw [decide_eq_false_iff_not];omega
 .rw [qS];unfold rU;cases eM (zY c.2.1) c.2.1 0<;>rfl
theorem Pt {α:Type} {p:α->Bool}:∀ (l:List α) (i t:Nat),t+l.length < 4000000->cH (fun x _ (t:Int)=>if p x=true then IntKind.i64.wrap (t+1) else t) l i (t:Int)=((t+(l.filter p).length:Nat):Int)
 | [],i,t,_=>by simp [cH]
 | x::r,i,t,h=>by
  simp only [Z9] at h
  simp only [cH,List.filter_cons]
  cases p x with
  | true =>
   simp only [if_true]
   rw [aN (by omega),Pt r (i+1) (t+1) (by omega)]
   simp;omega
  | false=>simp only [Bool.false_eq_true,if_false];exact Pt r (i+1) t (by omega)
theorem Qgt {d:Nat} {c:Cf} (hl:c.2.1.length<=1000):Ok (Gu (d+4) c) fun r=>((((r.length:Nat):Int))==0)=Ez c.2.1:=by
 rw [T6]
 refine ⟨fG (fun x _ => !(x.2.1==0 || decide (0<=bK c.2.1 x.2.1))) (fun _ k=>((k:Nat):Int)) c.2.1 0,?_,?_⟩
 .refine (Qc (fun (t:List Int) (i:Int)=>(t,i)) c.2.1 (fun x i t k=>aa (!(x.2.1==0 || decide (0<=bK c.2.1 x.2.1))) (aa (Nat.ble ((t.length+[((i:Nat):Int)].length)*8) Q7) (k (t++[((i:Nat):Int)])) none) (k t)) (fun t=>some t) ?_ ?_ (by rw [Q6];omega) []).trans ?_
  .intro ag t i x hx;have hi:=(Z0 hx).1;simp only [qa,bV hx,nn,Q3,hx,Q8,Q4]
   unfold p_
   rw [aN (by omega)]
   by_cases h:x.2.1=0
   .rw [show (x.2.1 != 0)=false by simp [h],Q5,Q5,show (x.2.1==0)=true by simp [h],Bool.true_or];rfl
   .rw [show (x.2.1 != 0)=true by simp [h],Q4,Le (by omega),Q8,show (x.2.1==0)=false by simp [h],Bool.false_or]
    by_cases h2:bK c.2.1 x.2.1 < 0
    .rw [Z5 h2,Q4,Z4 (by omega)];rfl
    .rw [Z4 h2,Q5,Z5 (by omega)];rfl
  .intro ag t;simp only [qa,bD,Q5];rfl
  .exact B8 (c:=fun x _ => !(x.2.1==0 || decide (0<=bK c.2.1 x.2.1))) (e:=fun (_:aA) (k:Nat)=>((k:Nat):Int)) (w:=8) c.2.1 0 [] (by simp;omega)
 .have:=L6 (c:=fun x:aA => !(x.2.1==0 || decide (0<=bK c.2.1 x.2.1))) (e:=fun _ k=>((k:Nat):Int)) c.2.1 0
  unfold Ez
  rw [show (c.2.1.all fun x=>x.2.1==0 || decide (0<=bK c.2.1 x.2.1)) = !(c.2.1.any fun x => !(x.2.1==0 || decide (0<=bK c.2.1 x.2.1))) by simp [List.all_eq_not_any_not],<- this]
  simp only []
  rw [Bool.eq_iff_iff,beq_iff_eq,beq_iff_eq]
  omega
theorem Qcu {d:Nat} {c:Cf} (hl:c.2.1.length<=1000):Gv (d+5) c=some (decide (vb c.2.1=1)&&Ez c.2.1):=by
 rw [T7]
 refine (Qc (fun (t:Int) (i:Int)=>(t,i)) c.2.1 (fun x _ t k=>k (if (x.2.1==0)=true then IntKind.i64.wrap (t+1) else t)) (qb (d+4) c) ?_ ?_ (by rw [Q6];omega) 0).trans ?_
 .intro ag t i x hx;have hi:=(Z0 hx).1;simp only [qc,bV hx,nn,Q3,hx,Q8,Q4];rw [aN (by omega)]
  cases (x.2.1==0)<;>rfl
 .intro ag t;simp only [qc,bD,Q5]
 .rw [w7 (f:=fun (x:aA) _ (t:Int)=>if (x.2.1==0)=true then IntKind.i64.wrap (t+1) else t)]
  have:=Pt (p:=fun x:aA=>x.2.1==0) c.2.1 0 0 (by omega)
  rw [show ((0:Nat):Int)=0 from rfl] at this
  rw [this,Zo]
  unfold qb
  rw [show (c.2.1.filter fun x=>x.2.1==0).length=vb c.2.1 from rfl]
  by_cases h:vb c.2.1=1
  .rw [show (((vb c.2.1:Nat):Int)==1)=true by rw [beq_iff_eq];omega,Q4,Z5 h,Zg]
   obtain ⟨r,h1,h2⟩:=Qgt (d:=d) hl
   rw [h1,Q8,h2]
  .rw [show (((vb c.2.1:Nat):Int)==1)=false by rw [beq_eq_false_iff_ne];omega,Q5,Z4 h];rfl
theorem Pw {l:List aA}:∀ (f g:Nat) (i:Int),(cR l f i).length < f->f<=g->cR l g i=cR l f i
 | 0,g,i,h,_=>by omega
 | f+1,0,i,h,hg=>by omega
 | f+1,g+1,i,h,hg=>by
  simp only [cR] at h ⊢
  by_cases hi:i < 0
  .rw [if_pos hi,if_pos hi]
  .rw [if_neg hi] at h ⊢
   rw [if_neg hi,Pw f g _ (by simpa using h) (by omega)]
theorem Vi {l:List aA} {f:Nat} {i:Int} (h:0<=i):cR l (f+1) i=i::cR l f (bK l (aU l i).2.1):=by
 simp only [cR];rw [if_neg (by omega)]
theorem Px {l:List aA} {i:Int} (h0:0<=i) (h:(cR l 9 i).length<=8):(cR l 9 i)=i::cR l 9 (bK l (aU l i).2.1):=by
 have e:cR l 9 i=i::cR l 8 (bK l (aU l i).2.1):=by
  conv=>lhs;unfold cR
  rw [if_neg (by omega)]
 rw [e] at h ⊢
 simp only [Z9] at h
 rw [Pw 8 9 _ (by omega) (by omega)]
theorem Vj {l:List aA}:∀ (f:Nat) (i:Int),i < ((l.length:Nat):Int)->∀ n∈cR l f i,0<=n/\n < ((l.length:Nat):Int)
 | 0,_,_,n,hn=>by simp [cR] at hn
 | f+1,i,h,n,hn=>by
  simp only [cR] at hn
  split at hn
  .simp at hn
  .rcases Z2 hn with rfl | hn
   .exact ⟨by omega,h⟩
   .exact Vj f _ B7 n hn
theorem Qp3 {l:List Int} {n:Int} (h:fB (fun x=>x==n) l 0 < 0):n∉l:=by
 rw [K9] at h
 intro hm
 have:=h n hm
 simp at this
theorem Qp4 {d:Nat} {l:List Int} {n:Int} (hl:l.length < 4000000):yX (d+1) l n=some (fB (fun x=>x==n) l 0):=by
 rw [T8]
 refine (Qc (fun (t:Int) (i:Int)=>(t,i)) l (fun x i t k=>aa (n==x) (some ((i:Nat):Int)) (k t)) (fun _=>some (-1)) ?_ ?_ (by rw [Q6];omega) 0).trans ?_
 .intro ag t i x hx;have hi:=(Z0 hx).1;simp only [qd,bV hx,nn,Q3,hx,Q8,Q4];rw [aN (by omega)]
 .intro ag t;simp only [qd,bD,Q5];rfl
 .rw [show (fun (x:Int) (i:Nat) (t:Int) (k:Int->Option Int)=>aa (n==x) (some ((i:Nat):Int)) (k t))=fun x i t k=>aa (x==n) (some ((i:Nat):Int)) (k t) by funext x i t k;rw [BEq.comm]]
  exact Ey l 0 _
theorem Qn2 {d:Nat} {l:List Int} {n:Int} (hl:l.length < 4000000):Gx (d+2) l n=some (decide (0<=fB (fun x=>x==n) l 0)):=by
 rw [T9,Qp4 hl,Q8]
theorem Py {l:List Int} {n:Nat} (h:l.Nodup) (h2:∀ x∈l,0<=x/\x < (n:Int)):l.length<=n:=by
 have:=List.Nodup.length_le_of_subset (l₂:=(List.range n).map fun (k:Nat)=>(k:Int)) h (fun x hx=>by
  obtain ⟨h3,h4⟩:=h2 x hx
  exact List.mem_map.2 ⟨x.toNat,List.mem_range.2 (by omega),by omega⟩)
 simpa using this
theorem Qsq {d:Nat} {c:Cf} {i:Nat} (hi:i < c.2.1.length) (hl:c.2.1.length<=24):Ok (Gy (d+4) c (i:Int)) fun r=>(r.2=true->cR c.2.1 (r.1.length+1) (i:Int)=r.1/\0 < r.1.length)/\(r.2=false->8 < (cR c.2.1 9 (i:Int)).length):=by
 rw [T_]
 refine mI (fun m (st:Int×List Int×Bool×List Int)=>m=24 - st.2.2.2.length/\st.1 < ((c.2.1.length:Nat):Int)/\st.2.2.2.Nodup/\(∀ x∈st.2.2.2,0<=x/\x < ((c.2.1.length:Nat):Int))/\(∀ f,cR c.2.1 (st.2.2.2.length+f) (i:Int)=st.2.2.2++cR c.2.1 f st.1)/\(st.2.2.2=[]->st.1=(i:Int)) /\
  ((cR c.2.1 9 (i:Int)).length<=8->(cR c.2.1 9 st.1).length<=8/\∀ y∈st.2.2.2,(cR c.2.1 9 st.1).length < (cR c.2.1 9 y).length)) ?_ _ 24 _ (by rw [Q6];omega) ⟨rfl,by simp only;omega,by simp,by simp,fun f=>by simp,fun _=>rfl,fun h=>⟨h,by simp⟩⟩
 rintro m ⟨n,l5,b,out⟩ ag ⟨hm,hn,hnd,nX,pe,eF,hlen⟩ eA
 simp only at hm hn hnd nX pe eF hlen
 have hol:=Py hnd nX
 simp only [yZ]
 by_cases h0:n>=0
 case neg =>
  rw [Z4 h0,Q5]
  unfold yY
  refine Ok.some ⟨fun _=>?_,fun h=>by simp at h⟩
  have:=pe 1
  simp only [cR,if_pos (show n < 0 by omega),List.append_nil] at this
  refine ⟨this,?_⟩
  rcases Nat.eq_zero_or_pos out.length with h | h
  .have:=eF (List.eq_nil_of_length_eq_zero h);omega
  .exact h
 rw [Z5 h0,Q4,Qn2 (by omega),Q8]
 by_cases hc:0<=fB (fun x=>x==n) out 0
 .rw [Z5 hc,Q4]
  refine Ok.some ⟨fun h=>by simp at h,fun _=>?_⟩
  rcases Nat.lt_or_ge 8 (cR c.2.1 9 (i:Int)).length with h | h
  .exact h
  .obtain ⟨g1,g2⟩:=hlen h
   obtain ⟨k,x,e1,e2,e3,_⟩:=Js hc
   have hx:x=n:=by simpa using e3
   have:=g2 x (Zc e2)
   rw [hx] at this;omega
 .have EA:=Qp3 (by omega:fB (fun x=>x==n) out 0 < 0)
  have au:(out++[n]).length<=c.2.1.length:=Py (by
   rw [Zn]
   exact ⟨hnd,by simp,fun a ha b hb e=>by simp at hb;subst hb;subst e;exact EA ha⟩) (fun x hx=>by
   rcases List.mem_append.1 hx with h | h
   .exact nX x h
   .simp at h;subst h;exact ⟨h0,hn⟩)
  simp only [Zf,Z9,Zb] at au
  rw [Z4 hc,Q5,room (by simp;omega),Q4,Q4,Hj h0 hn,Q8,Le (by omega),Q8]
  refine eA (24 - (out++[n]).length) _ (by simp;omega) ⟨rfl,B7,?_,?_,fun f=>?_,fun h=>by simp at h,fun h=>?_⟩
  .rw [Zn]
   exact ⟨hnd,by simp,fun a ha b hb e=>by simp at hb;subst hb;subst e;exact EA ha⟩
  .intro x hx
   rcases List.mem_append.1 hx with h | h
   .exact nX x h
   .simp at h;subst h;exact ⟨h0,hn⟩
  .have:=pe (f+1)
   rw [Vi h0] at this
   simp only [Zf,Z9,Zb]
   rw [show out.length+(0+1)+f=out.length+(f+1) by omega,this];simp
  .obtain ⟨g1,g2⟩:=hlen h
   have g3:=Px h0 g1
   have g4:=congrArg List.length g3
   simp only [Z9] at g4
   refine ⟨by simp only;omega,fun y hy=>?_⟩
   simp only
   rcases List.mem_append.1 hy with hy | hy
   .have:=g2 y hy;omega
   .simp at hy;subst hy;omega
theorem Qur {l:List aA}:∀ (f g:Nat) (i:Int),f<=g->(cR l f i).length<=(cR l g i).length
 | 0,_,_,_=>by simp [cR]
 | f+1,0,_,h=>by omega
 | f+1,g+1,i,h=>by
  simp only [cR]
  split
  .simp
  .have:=Qur (l:=l) f g (bK l (aU l i).2.1) (by omega);simp;omega
theorem Qgu {u:List Int} (h:0 < u.length):nW u∈u/\u[u.length - 1]? = some (nW u):=by
 have e:u[u.length - 1]? = some (nW u):=by
  unfold nW;rw [Zr,Z6 (show u.length - 1 < u.length by omega)];rfl
 exact ⟨Zc e,e⟩
theorem Qjv {d:Nat} {c:Cf} (hl:c.2.1.length<=24):GA (d+5) c=some (eM (fun _ i=>v_ c.2.1 i) c.2.1 0):=by
 rw [T']
 refine (Qc (fun (t:Bool) (i:Int)=>(t,i)) c.2.1 (fun x i t k=>aa (v_ c.2.1 i) (k t) (some false)) (fun _=>some true) ?_ ?_ (by rw [Q6];omega) false).trans ?_
 .intro ag t i x hx
  have hi:=(Z0 hx).1
  simp only [qe,bV hx,Q4]
  obtain ⟨r,hr,r1,r2⟩:=Qsq (d:=d) (c:=c) (i:=i) hi hl
  rw [hr,Q8]
  unfold v_
  cases hb:r.2 with
  | false =>
   have:=r2 hb
   rw [Bool.not_false,Q4,Z4 (by omega)];rfl
  | true =>
   obtain ⟨e1,e2⟩:=r1 hb
   rw [Zl,Q5]
   by_cases h8:r.1.length<=8
   .have e3:cR c.2.1 9 (i:Int)=r.1:=by
     rw [Pw (r.1.length+1) 9 _ (by rw [e1];omega) (by omega)];exact e1
    rw [e3,Z5 h8,Z4 (by omega),Q5,Zg,Jt (by omega) (by omega),nn,Q4,Q3,Qo (by omega),Q4]
    obtain ⟨m1,m2⟩:=Qgu e2
    rw [m2,Q8]
    rw [<- e3] at m1
    obtain ⟨q1,q2⟩:=Vj 9 (i:Int) (by omega) _ m1
    rw [e3] at q1 q2
    rw [Z5 q1,Q4,Hj q1 q2,Q8,aN (by omega)]
    by_cases h:(aU c.2.1 (nW r.1)).2.1=0
    .rw [show ((aU c.2.1 (nW r.1)).2.1 != 0)=false by simp [h],Q5,show ((aU c.2.1 (nW r.1)).2.1==0)=true by simp [h]];rfl
    .rw [show ((aU c.2.1 (nW r.1)).2.1 != 0)=true by simp [h],Q4,show ((aU c.2.1 (nW r.1)).2.1==0)=false by simp [h]];rfl
   .have:8 < (cR c.2.1 9 (i:Int)).length:=by
     rcases Nat.lt_or_ge (r.1.length+1) 9 with g | g
     .omega
     .have g1:=Qur (l:=c.2.1) 9 (r.1.length+1) (i:Int) g
      rcases Nat.lt_or_ge 8 (cR c.2.1 9 (i:Int)).length with g2 | g2
      .exact g2
      .have:=Pw (l:=c.2.1) 9 (r.1.length+1) (i:Int) (by omega) g
       rw [e1] at this
       have:=congrArg List.length this
       omega
    rw [Z5 (show ((r.1.length:Nat):Int) > 8 by omega),Q4,Z4 (show ¬ (cR c.2.1 9 (i:Int)).length<=8 by omega)];rfl
 .intro ag t;simp only [qe,bD,Q5];rfl
 .rw [qS];cases eM _ c.2.1 0<;>rfl
theorem Qzb {d:Nat} {c:Cf} {i:Nat} (hi:i < c.2.1.length) (hl:c.2.1.length<=24):F5 (d+2) c (i:Int)=some (cR c.2.1 9 (i:Int)):=by
 rw [TC]
 have key:∀ (f fuel:Nat) (n:Int) (out:List Int),out.length+f=9->f < fuel->n < ((c.2.1.length:Nat):Int)->Q9 (lG (d+1) c (lD (d+1))) fuel (n,out)=some (out++cR c.2.1 f n):=by
  intro f
  induction f with
  | zero =>
   intro fuel n out h1 h2 h3
   obtain ⟨g,rfl⟩:∃ g,fuel=g+1:=⟨fuel - 1,by omega⟩
   simp only [Q9,lG]
   unfold lE lD
   rw [Z4 (show ¬ ((out.length:Nat):Int)<=8 by omega),Q5]
   simp [cR,Quj]
  | succ f ih =>
   intro fuel n out h1 h2 h3
   obtain ⟨g,rfl⟩:∃ g,fuel=g+1:=⟨fuel - 1,by omega⟩
   simp only [Q9,lG]
   unfold lE
   by_cases hn:n>=0
   .rw [Z5 hn,Q4,Z5 (show ((out.length:Nat):Int)<=8 by omega),Q4,room (by simp;omega),Q4,Q4,Hj hn h3,Q8,F0 (by omega),Q8,ih g _ _ (by simp;omega) (by omega) B7]
    simp only [cR,if_neg (show ¬ n < 0 by omega)]
    simp
   .rw [Z4 hn,Q5,Q5]
    unfold lD
    simp only [cR,if_pos (show n < 0 by omega)]
    simp
 exact key 9 Qd (i:Int) [] rfl (by rw [Q6];omega) (by omega)
theorem Qgv {α:Type} {g:α->Int} {B:Nat}:∀ (l:List α) (i:Nat) (t:Int),(∀ x∈l,0<=g x/\g x<=(B:Int))->0<=t->t+((l.length*B:Nat):Int)<=9223372036854775807->cH (fun x _ (t:Int)=>IntKind.i64.wrap (t+g x)) l i t=t+(l.map g).sum/\t<=t+(l.map g).sum/\t+(l.map g).sum<=t+((l.length*B:Nat):Int)
 | [],i,t,_,_,_=>by simp [cH]
 | x::r,i,t,h,ht,hs=>by
  obtain ⟨h1,h2⟩:=h x (by simp)
  have e:((x::r).length*B:Nat)=r.length*B+B:=by rw [Z9,Nat.add_mul,Nat.one_mul]
  rw [e] at hs ⊢
  obtain ⟨g1,g2,g3⟩:=Qgv r (i+1) (t+g x) (fun y hy=>h y (by simp [hy])) (by omega) (by omega)
  simp only [cH,List.map_cons,List.sum_cons]
  rw [wr (by omega) (by omega),g1]
  omega
theorem Qgw {α:Type} {g:α->Int} {B:Nat}:∀ (l:List α) (i:Nat) (t:Int),(∀ x∈l,0<=g x/\g x<=(B:Int))->t<=9223372036854775807->-9223372036854775808<=t - ((l.length*B:Nat):Int)->cH (fun x _ (t:Int)=>IntKind.i64.wrap (t - g x)) l i t=t - (l.map g).sum
 | [],i,t,_,_,_=>by simp [cH]
 | x::r,i,t,h,ht,hs=>by
  obtain ⟨h1,h2⟩:=h x (by simp)
  have e:((x::r).length*B:Nat)=r.length*B+B:=by rw [Z9,Nat.add_mul,Nat.one_mul]
  rw [e] at hs
  simp only [cH,List.map_cons,List.sum_cons]
  rw [wr (by omega) (by omega),Qgw r (i+1) (t - g x) (fun y hy=>h y (by simp [hy])) (by omega) (by omega)]
  omega
def L7 (l:List aA):Prop:=∀ x∈l,0<=x.2.2.1/\x.2.2.1<=1000000000
def CE (l:List aA) (id:Int):Int:=((nU l id).map fun k=>(aU l k).2.2.1).sum
theorem Vk {l:List aA} {id:Int} {i:Nat} {n:Int} (h:(nU l id)[i]? = some n):0<=n/\l[n.toNat]? = some (aU l n)/\(aU l n).2.1=id/\aU l n∈l:=by
 obtain ⟨k,x,rfl,h2,h3⟩:=Qle (Zc h)
 rw [jl h2,Q3]
 exact ⟨by omega,h2,h3,Zc h2⟩
theorem Qlh {l:List aA} {id:Int} (hr:L7 l):∀ n∈nU l id,0<=(aU l n).2.2.1/\(aU l n).2.2.1<=((1000000000:Nat):Int):=by
 intro n hn
 obtain ⟨i,hi⟩:=List.getElem?_of_mem hn
 exact hr _ (Vk hi).2.2.2
theorem Qgx {d:Nat} {c:Cf} {n:Nat} {y:aA} (hn:c.2.1[n]? = some y) (hl:c.2.1.length<=24) (hr:L7 c.2.1):GG (d+2) c (n:Int)=some (CE c.2.1 y.1):=by
 have hk:=Pp (l:=c.2.1) (id:=y.1)
 have hm:(nU c.2.1 y.1).length*1000000000<=24*1000000000:=Zk _ (by omega)
 rw [Uf,Q9v hn (by omega),Q8]
 refine (Qc (fun (t:Int) (i:Int)=>(t,i)) (nU c.2.1 y.1) (fun x _ t k=>k (IntKind.i64.wrap (t+(aU c.2.1 x).2.2.1))) (fun t=>some t) ?_ ?_ (by rw [Q6];omega) 0).trans ?_
 .intro ag t i x hx
  have hi:=(Z0 hx).1
  obtain ⟨k1,k2,k3,k4⟩:=Vk hx
  simp only [qg,bV hx,nn,Q3,hx,Q8,Q4,tJ hx]
  rw [Z5 k1,Q4,k2,Q8,aN (by omega)]
 .intro ag t;simp only [qg,bD,Q5];rfl
 .rw [w7 (f:=fun (x:Int) _ (t:Int)=>IntKind.i64.wrap (t+(aU c.2.1 x).2.2.1)),(Qgv (nU c.2.1 y.1) 0 0 (Qlh hr) (by omega) (by omega)).1,Int.zero_add];rfl
theorem Qp6 {d:Nat} {c:Cf} {n:Nat} {y:aA} (hn:c.2.1[n]? = some y) (hl:c.2.1.length<=24) (hr:L7 c.2.1):F7 (d+2) c (n:Int)=some (y.2.2.1 - CE c.2.1 y.1):=by
 have hk:=Pp (l:=c.2.1) (id:=y.1)
 have hm:(nU c.2.1 y.1).length*1000000000<=24*1000000000:=Zk _ (by omega)
 have hy:=hr y (Zc hn)
 rw [TD,nn,Q4,Q3,hn,Q8,Pq hn (by omega),Q8]
 refine (Qc (fun (t:Int) (i:Int)=>(t,i)) (nU c.2.1 y.1) (fun x _ t k=>k (IntKind.i64.wrap (t - (aU c.2.1 x).2.2.1))) (fun t=>some t) ?_ ?_ (by rw [Q6];omega) y.2.2.1).trans ?_
 .intro ag t i x hx
  have hi:=(Z0 hx).1
  obtain ⟨k1,k2,k3,k4⟩:=Vk hx
  simp only [pH,bV hx,nn,Q3,hx,Q8,Q4,tJ hx]
  rw [Z5 k1,Q4,k2,Q8,aN (by omega)]
 .intro ag t;simp only [pH,bD,Q5];rfl
 .rw [w7 (f:=fun (x:Int) _ (t:Int)=>IntKind.i64.wrap (t - (aU c.2.1 x).2.2.1)),Qgw (nU c.2.1 y.1) 0 y.2.2.1 (Qlh hr) (by omega) (by omega)];rfl
def mJ (x:aA):Bool:=decide (1<=x.2.2.1/\x.2.2.1<=100000/\x.2.2.1<=x.2.2.2.1/\x.2.2.2.1<=100000)
def nh (x:aA):Bool:=decide (1500<=x.2.2.2.2.1/\x.2.2.2.2.1<=1000000/\1500<=x.2.2.2.2.2.1/\x.2.2.2.2.2.1<=1000000/\0<=x.2.2.2.2.2.2.1/\x.2.2.2.2.2.2.1<=7)
def nY (l:List aA) (x:aA):Bool:=decide (CE l x.1<=x.2.2.1)
def nZ (l:List aA) (x:aA):Bool:=if fS l x.1=true then decide (1<=x.2.2.2.2.2.2.2/\x.2.2.2.2.2.2.2<=60) else x.2.2.2.2.2.2.2==0
theorem Qjw {d:Nat} {x:aA}:GB (d+1) x=some (mJ x):=by
 rw [Uc];unfold mJ
 simp only [u_];congr 1;rw [Bool.eq_iff_iff];simp
theorem Qgz {d:Nat} {x:aA}:GJ (d+1) x=some (nh x):=by
 rw [Uh];unfold nh
 simp only [u_];congr 1;rw [Bool.eq_iff_iff];simp
theorem Qp7 {d:Nat} {x:aA}:F4 (d+2) x=some (decide (1<=x.1/\x.1<=999)&&(mJ x&&nh x)):=by
 rw [TB];unfold mJ nh
 simp only [v8,Q8,u_];congr 1;rw [Bool.eq_iff_iff];simp;omega
theorem Qh0 {d:Nat} {c:Cf} {n:Nat} {y:aA} (hn:c.2.1[n]? = some y) (hl:c.2.1.length<=1000):GK (d+5) c (n:Int)=some (nZ c.2.1 y):=by
 rw [Ui,nn,Q4,Q3,hn,Q8,Lf hn (by omega),Q8]
 unfold nZ
 cases fS c.2.1 y.1 with
 | false=>rfl
 | true =>
  rw [if_pos rfl,Q4]
  simp only [u_];congr 1;rw [Bool.eq_iff_iff];simp
theorem Qae {d:Nat} {c:Cf} (hl:c.2.1.length<=1000):GC (d+4) c=some (c.2.1.all fun x=>decide (0<=x.2.2.1/\x.2.2.1<=1000000000)):=by
 rw [Ud]
 refine (Qc (fun (t:Int) (i:Int)=>(t,i)) c.2.1 (fun x i t k=>aa (decide (0<=x.2.2.1/\x.2.2.1<=1000000000)) (k t) (some false)) (fun _=>some true) ?_ ?_ (by rw [Q6];omega) 0).trans ?_
 .intro ag t i x hx;have hi:=(Z0 hx).1;simp only [dP,bV hx,nn,Q3,hx,Q8,Q4];rw [aN (by omega)]
  by_cases h1:x.2.2.1 < 0
  .rw [Z5 h1,Q4,Z4 (show ¬ (0<=x.2.2.1/\x.2.2.1<=1000000000) by omega),Q5];rfl
  .rw [Z4 h1,Q5]
   by_cases h2:x.2.2.1 > 1000000000
   .rw [Z5 h2,Q4,Z4 (show ¬ (0<=x.2.2.1/\x.2.2.1<=1000000000) by omega),Q5];rfl
   .rw [Z4 h2,Q5,Z5 (show 0<=x.2.2.1/\x.2.2.1<=1000000000 by omega),Q4]
 .intro ag t;simp only [dP,bD,Q5];rfl
 .rw [CD];cases c.2.1.all _<;>rfl
theorem Qn3 {d:Nat} {c:Cf} (hl:c.2.1.length<=24) (hr:L7 c.2.1):Ok (GI (d+3) c) fun r=>((((r.length:Nat):Int))==0)=c.2.1.all (nY c.2.1):=by
 rw [Ug]
 refine ⟨fG (fun x _ => !nY c.2.1 x) (fun _ k=>((k:Nat):Int)) c.2.1 0,?_,?_⟩
 .refine (Qc (fun (t:List Int) (i:Int)=>(t,i)) c.2.1 (fun x i t k=>aa (!nY c.2.1 x) (aa (Nat.ble ((t.length+[((i:Nat):Int)].length)*8) Q7) (k (t++[((i:Nat):Int)])) none) (k t)) (fun t=>some t) ?_ ?_ (by rw [Q6];omega) []).trans ?_
  .intro ag t i x hx;have hi:=(Z0 hx).1;simp only [qh,bV hx,nn,Q3,hx,Q8,Q4]
   rw [Qgx hx hl hr,Q8,aN (by omega)]
   unfold nY
   by_cases h2:CE c.2.1 x.1<=x.2.2.1
   .rw [Z5 h2,Z4 (show ¬ CE c.2.1 x.1 > x.2.2.1 by omega)];rfl
   .rw [Z4 h2,Z5 (show CE c.2.1 x.1 > x.2.2.1 by omega)];rfl
  .intro ag t;simp only [qh,bD,Q5];rfl
  .exact B8 (c:=fun x _ => !nY c.2.1 x) (e:=fun (_:aA) (k:Nat)=>((k:Nat):Int)) (w:=8) c.2.1 0 [] (by simp;omega)
 .have:=L6 (c:=fun x:aA => !nY c.2.1 x) (e:=fun _ k=>((k:Nat):Int)) c.2.1 0
  rw [show c.2.1.all (nY c.2.1) = !(c.2.1.any fun x => !nY c.2.1 x) by simp [List.all_eq_not_any_not],<- this]
  simp only []
  rw [Bool.eq_iff_iff,beq_iff_eq,beq_iff_eq]
  omega
theorem Qwj {v m:Int} (h1:0<=v) (h2:v<=65535) (h3:0<=m) (h4:m<=65535) :
  ((IntKind.i64.wrap ((BitVec.ofInt IntKind.i64.bits v &&& ~~~BitVec.ofInt IntKind.i64.bits m).toNat:Int))==0)=((IntKind.i64.wrap ((BitVec.ofInt IntKind.i64.bits v &&& BitVec.ofInt IntKind.i64.bits m).toNat:Int))==v):=by
 obtain ⟨a,rfl⟩:=Int.eq_ofNat_of_zero_le h1
 obtain ⟨b,rfl⟩:=Int.eq_ofNat_of_zero_le h3
 have ha:a < 2 ^ 64:=by omega
 have hb:b < 2 ^ 64:=by omega
 have e1:(BitVec.ofInt IntKind.i64.bits (a:Int))=BitVec.ofNat 64 a:=by show BitVec.ofInt 64 (a:Int)=_;simp
 have e2:(BitVec.ofInt IntKind.i64.bits (b:Int))=BitVec.ofNat 64 b:=by show BitVec.ofInt 64 (b:Int)=_;simp
 have t1:(BitVec.ofInt IntKind.i64.bits (a:Int) &&& ~~~BitVec.ofInt IntKind.i64.bits (b:Int)).toNat=(BitVec.ofNat 64 a &&& ~~~BitVec.ofNat 64 b).toNat:=by rw [e1,e2];rfl
 have t2:(BitVec.ofInt IntKind.i64.bits (a:Int) &&& BitVec.ofInt IntKind.i64.bits (b:Int)).toNat=(BitVec.ofNat 64 a &&& BitVec.ofNat 64 b).toNat:=by rw [e1,e2];rfl
 rw [t1,t2]
 have Ju:(BitVec.ofNat 64 a).toNat=a:=by rw [BitVec.toNat_ofNat,Nat.mod_eq_of_lt ha]
 have l1:(BitVec.ofNat 64 a &&& ~~~BitVec.ofNat 64 b).toNat<=a:=by
  rw [BitVec.toNat_and,Ju];exact Nat.and_le_left
 have l2:(BitVec.ofNat 64 a &&& BitVec.ofNat 64 b).toNat<=a:=by
  rw [BitVec.toNat_and,Ju];exact Nat.and_le_left
 rw [wr (by omega) (by omega),wr (by omega) (by omega),Bool.eq_iff_iff,beq_iff_eq,beq_iff_eq]
 have key:(BitVec.ofNat 64 a &&& ~~~BitVec.ofNat 64 b)=0#64↔(BitVec.ofNat 64 a &&& BitVec.ofNat 64 b)=BitVec.ofNat 64 a:=by
  constructor
  .intro h
   apply BitVec.eq_of_getLsbD_eq
   intro i hi
   have:=congrArg (fun x=>x.getLsbD i) h
   simp only [BitVec.getLsbD_and,BitVec.getLsbD_not,BitVec.getLsbD_zero,hi,decide_true,Zg] at this ⊢
   revert this
   cases (BitVec.ofNat 64 a).getLsbD i<;>cases (BitVec.ofNat 64 b).getLsbD i<;>simp
  .intro h
   apply BitVec.eq_of_getLsbD_eq
   intro i hi
   have:=congrArg (fun x=>x.getLsbD i) h
   simp only [BitVec.getLsbD_and,BitVec.getLsbD_not,BitVec.getLsbD_zero,hi,decide_true,Zg] at this ⊢
   revert this
   cases (BitVec.ofNat 64 a).getLsbD i<;>cases (BitVec.ofNat 64 b).getLsbD i<;>simp
 constructor
 .intro h
  have h':(BitVec.ofNat 64 a &&& ~~~BitVec.ofNat 64 b)=0#64:=by apply BitVec.eq_of_toNat_eq;simp only [BitVec.toNat_ofNat];omega
  rw [key.1 h',Ju]
 .intro h
  have h':(BitVec.ofNat 64 a &&& BitVec.ofNat 64 b)=BitVec.ofNat 64 a:=by apply BitVec.eq_of_toNat_eq;rw [Ju];omega
  rw [key.2 h'];rfl
def zZ (x:dY):Bool:=decide (1<=x.1/\x.1<=99/\0<=x.2.1/\x.2.1<=3/\0<=x.2.2.1/\x.2.2.1<=65535/\0<=x.2.2.2.1/\x.2.2.2.1<=65535)&&((IntKind.i64.wrap ((BitVec.ofInt IntKind.i64.bits x.2.2.2.1 &&& BitVec.ofInt IntKind.i64.bits x.2.2.1).toNat:Int))==x.2.2.2.1)
theorem Qn4 {d:Nat} {x:dY}:F_ (d+2) x=some (zZ x):=by
 rw [TF];unfold zZ
 simp only [v8,Q8,u_];congr 1;rw [Bool.eq_iff_iff];simp;omega
theorem Qeu {d:Nat} {x:dY}:GL (d+1) x=some (zZ x):=by
 rw [Uk];unfold zZ
 by_cases h:1<=x.1/\x.1<=99/\0<=x.2.1/\x.2.1<=3/\0<=x.2.2.1/\x.2.2.1<=65535/\0<=x.2.2.2.1/\x.2.2.2.1<=65535
 .obtain ⟨h1,h2,h3,h4,h5,h6,h7,h8⟩:=h
  rw [Z5 (show _/\_ from ⟨h1,h2,h3,h4,h5,h6,h7,h8⟩),Zg,Qwj h7 h8 h5 h6]
  simp only [u_]
  rw [if_pos (by simp;omega),if_pos (by simp;omega),if_pos (by simp;omega),if_pos (by simp;omega),if_pos (by simp;omega),if_pos (by simp;omega),if_pos (by simp;omega),if_pos (by simp;omega)]
 .rw [Z4 h,Bool.false_and]
  simp only [u_];congr 1
  rw [Bool.eq_false_iff]
  intro hc
  refine h ?_
  (repeat' split at hc)<;>simp_all
  all_goals omega
def zf5:dY:=(0,0,0,0,0)
def Hl (l:List dY) (i:Int):dY:=l.getD i.toNat zf5
theorem Qp9 {l:List dY} {n:Nat} {x:dY} (h:l[n]? = some x):Hl l (n:Int)=x:=by unfold Hl;rw [Q3,Zr,h];rfl
def EB (l:List aA) (fs:List dY) (x:dY) (i:Nat):Bool:=zZ x&&((decide (i=0) || decide ((Hl fs ((i:Int) - 1)).1 < x.1))&&oK l x.2.2.2.2)
def we (l:List aA) (fs:List dY):Bool:=eM (EB l fs) fs 0&&decide (fs.length<=16)
theorem Qcv {d:Nat} {c:Cf} (hl:c.2.1.length<=1000) (hf:c.2.2.1.length < 4000000):GM (d+6) c=some (we c.2.1 c.2.2.1):=by
 rw [Ul]
 refine (Qc (fun (t:Bool) (i:Int)=>(t,i)) c.2.2.1 (fun x i t k=>aa (EB c.2.1 c.2.2.1 x i) (k t) (some false)) (fun _=>some (decide (c.2.2.1.length<=16))) ?_ ?_ (by rw [Q6];omega) false).trans ?_
 .intro ag t i x hx;have hi:=(Z0 hx).1;simp only [qi,bV hx,nn,Q3,hx,Q8,Q4]
  rw [Qeu,Q8]
  unfold jx EB
  rw [aN (by omega)]
  cases zZ x with
  | false=>rfl
  | true =>
   rw [Zl,Q5,Zg]
   by_cases h0:i=0
   .subst h0
    rw [Z4 (show ¬ ((0:Nat):Int) > 0 by omega),Q5,Vg hl,Q8]
    cases oK c.2.1 x.2.2.2.2<;>rfl
   .rw [Z5 (show (i:Int) > 0 by omega),Q4,Jt (by omega) (by omega),nn,Q4,Q3,Z6 (show i - 1 < c.2.2.1.length by omega),Q8,Z4 h0,Bool.false_or]
    rw [show (i:Int) - 1=((i - 1:Nat):Int) by omega,Qp9 (Z6 (show i - 1 < c.2.2.1.length by omega))]
    by_cases h:x.1<=(c.2.2.1[i - 1]).1
    .rw [Z5 h,Z4 (show ¬ (c.2.2.1[i - 1]).1 < x.1 by omega)];rfl
    .rw [Z4 h,Z5 (show (c.2.2.1[i - 1]).1 < x.1 by omega),Q5,Vg hl,Q8]
     cases oK c.2.1 x.2.2.2.2<;>rfl
 .intro ag t;simp only [qi,bD,Q5]
  unfold zb
  congr 1;rw [Bool.eq_iff_iff];simp;omega
 .rw [qS];unfold we;cases eM (EB c.2.1 c.2.2.1) c.2.2.1 0<;>rfl
theorem Qjx {d:Nat} {c:Cf} (hl:c.2.1.length<=1000) (hf:c.2.2.1.length < 4000000):TG (d+4) c=some (we c.2.1 c.2.2.1):=by
 rw [e97]
 refine (Qc (fun (t:Bool) (i:Int)=>(t,i)) c.2.2.1 (fun x i t k=>aa (EB c.2.1 c.2.2.1 x i) (k t) (some false)) (fun _=>some (decide (c.2.2.1.length<=16))) ?_ ?_ (by rw [Q6];omega) false).trans ?_
 .intro ag t i x hx;have hi:=(Z0 hx).1;simp only [yt,bV hx,nn,Q3,hx,Q8,Q4]
  rw [Qn4,Q8]
  unfold nK EB
  rw [aN (by omega)]
  cases zZ x with
  | false=>rfl
  | true =>
   rw [Zl,Q5,Zg]
   by_cases h0:i=0
   .subst h0
    rw [Z4 (show ¬ ((0:Nat):Int) > 0 by omega),Q5,O5 hl,Q8]
    cases oK c.2.1 x.2.2.2.2<;>rfl
   .rw [Z5 (show (i:Int) > 0 by omega),Q4,Jt (by omega) (by omega),nn,Q4,Q3,Z6 (show i - 1 < c.2.2.1.length by omega),Q8,Z4 h0,Bool.false_or]
    rw [show (i:Int) - 1=((i - 1:Nat):Int) by omega,Qp9 (Z6 (show i - 1 < c.2.2.1.length by omega))]
    by_cases h:(c.2.2.1[i - 1]).1>=x.1
    .rw [Z5 h,Z4 (show ¬ (c.2.2.1[i - 1]).1 < x.1 by omega)];rfl
    .rw [Z4 h,Z5 (show (c.2.2.1[i - 1]).1 < x.1 by omega),Q5,O5 hl,Q8]
     cases oK c.2.1 x.2.2.2.2<;>rfl
 .intro ag t;simp only [yt,bD,Q5]
  unfold Ej
  congr 1;rw [Bool.eq_iff_iff];simp;omega
 .rw [qS];unfold we;cases eM (EB c.2.1 c.2.2.1) c.2.2.1 0<;>rfl
def k_ (l:List aA):Bool:=decide (1<=l.length/\l.length<=24)&&(rU l&&(decide (vb l=1)&&(Ez l&&(eM (fun _ i=>v_ l i) l 0&&(l.all mJ&&(l.all (nY l)&&(l.all nh&&l.all (nZ l))))))))
def Ho (c:Cf):Bool:=c.2.2.2==0 || oK c.2.1 c.2.2.2
def fA (c:Cf):Bool:=Bk c.1&&(k_ c.2.1&&(we c.2.1 c.2.2.1&&Ho c))
theorem Qli {l:List aA} (h:l.all mJ=true):L7 l:=by
 intro x hx
 have:=Z3 h x hx
 unfold mJ at this
 simp only [Zj] at this
 omega
theorem Qsr {d:Nat} {c:Cf} (hl:c.2.1.length<=1000):ig (d+7) c 5=some (c.2.1.all mJ):=by
 rw [show d+7=(d+3)+4 by omega,Bg]
 simp only [Int.reduceBEq,Q4,Q5]
 refine (Qc (fun (t:Int) (i:Int)=>(t,i)) c.2.1 (fun x i t k=>aa (mJ x) (k t) (some false)) (fun _=>some true) ?_ ?_ (by rw [Q6];omega) 0).trans ?_
 .intro ag t i x hx;have hi:=(Z0 hx).1;simp only [dQ,bV hx,nn,Q3,hx,Q8,Q4];rw [aN (by omega)]
  rw [Qjw,Q8]
  cases mJ x<;>rfl
 .intro ag t;simp only [dQ,bD,Q5];rfl
 .rw [CD];cases c.2.1.all _<;>rfl
theorem Qss {d:Nat} {c:Cf} (hl:c.2.1.length<=1000):ig (d+7) c 7=some (c.2.1.all nh):=by
 rw [show d+7=(d+3)+4 by omega,Bg]
 simp only [Int.reduceBEq,Q4,Q5]
 refine (Qc (fun (t:Int) (i:Int)=>(t,i)) c.2.1 (fun x i t k=>aa (nh x) (k t) (some false)) (fun _=>some true) ?_ ?_ (by rw [Q6];omega) 0).trans ?_
 .intro ag t i x hx;have hi:=(Z0 hx).1;simp only [dy,bV hx,nn,Q3,hx,Q8,Q4];rw [aN (by omega)]
  rw [Qgz,Q8]
  cases nh x<;>rfl
 .intro ag t;simp only [dy,bD,Q5];rfl
 .rw [CD];cases c.2.1.all _<;>rfl
theorem Qst {d:Nat} {c:Cf} (hl:c.2.1.length<=1000):ig (d+7) c 8=some (c.2.1.all (nZ c.2.1)):=by
 rw [show d+7=(d+3)+4 by omega,Bg]
 simp only [Int.reduceBEq,Q4,Q5]
 refine (Qc (fun (t:Bool) (i:Int)=>(t,i)) c.2.1 (fun x i t k=>aa (nZ c.2.1 x) (k t) (some false)) (fun _=>some true) ?_ ?_ (by rw [Q6];omega) false).trans ?_
 .intro ag t i x hx
  have hi:=(Z0 hx).1
  simp only [qj,bV hx,Q4]
  rw [show d+3+3=(d+1)+5 by omega,Qh0 hx hl,Q8,aN (by omega)]
  cases nZ c.2.1 x<;>rfl
 .intro ag t;simp only [qj,bD,Q5];rfl
 .rw [CD];cases c.2.1.all _<;>rfl
theorem O1 {d:Nat} {c:Cf} (hl:c.2.1.length < 4000000) (hf:c.2.2.1.length < 4000000):Jn (d+8) c=some (fA c):=by
 rw [e73]
 unfold zd
 by_cases h1:c.2.1.length<=24
 case neg =>
  rw [Z5 (show ((c.2.1.length:Nat):Int) > 24 by omega),Q4,Q4]
  unfold fA k_
  rw [Z4 (show ¬ (1<=c.2.1.length/\c.2.1.length<=24) by omega)];simp
 rw [Z4 (show ¬ ((c.2.1.length:Nat):Int) > 24 by omega),Q5]
 by_cases h2:c.2.2.1.length<=16
 case neg =>
  rw [Z5 (show ((c.2.2.1.length:Nat):Int) > 16 by omega),Q4]
  unfold fA we
  rw [Z4 h2];simp
 rw [Z4 (show ¬ ((c.2.2.1.length:Nat):Int) > 16 by omega),Q5]
 have st:∀ (f:Nat) (k:Int) (b:Bool),0<=k->k<=10->ig (d+7) c k=some b->Q9 (fC (d+7) c (gH (d+7))) (f+1) (false,k)=aa b (Q9 (fC (d+7) c (gH (d+7))) f (false,k+1)) (some false):=by
  intro f k b Jv hk hb
  rw [show Q9 (fC (d+7) c (gH (d+7))) (f+1) (false,k)=fC (d+7) c (gH (d+7)) (Q9 (fC (d+7) c (gH (d+7))) f) (false,k) from rfl]
  simp only [fC]
  rw [Z5 hk,Q4,hb,Q8,wr (by omega) (by omega)]
  cases b<;>rfl
 obtain ⟨f,hfu⟩:∃ f,Qd=f+11:=⟨4194293,Q6⟩
 have H1:ig (d+7) c 1=some (Bk c.1):=by
  rw [show d+7=(d+3)+4 by omega,Bg];simp only [Int.reduceBEq,Q4];rw [show d+3+3=(d+4)+2 by omega,Qso,Q8]
 have H2:ig (d+7) c 2=some (rU c.2.1&&decide (1<=c.2.1.length/\c.2.1.length<=24)):=by
  rw [show d+7=(d+3)+4 by omega,Bg];simp only [Int.reduceBEq,Q4,Q5];rw [show d+3+3=(d+4)+2 by omega,Qn1 hl,Q8]
 have H3:ig (d+7) c 3=some (decide (vb c.2.1=1)&&Ez c.2.1):=by
  rw [show d+7=(d+3)+4 by omega,Bg];simp only [Int.reduceBEq,Q4,Q5];rw [show d+3+3=(d+1)+5 by omega,Qcu (by omega),Q8]
 have H4:ig (d+7) c 4=some (eM (fun _ i=>v_ c.2.1 i) c.2.1 0):=by
  rw [show d+7=(d+3)+4 by omega,Bg];simp only [Int.reduceBEq,Q4,Q5];rw [show d+3+3=(d+1)+5 by omega,Qjv h1,Q8]
 have H5:=Qsr (d:=d) (c:=c) (by omega)
 have H7:=Qss (d:=d) (c:=c) (by omega)
 have H8:=Qst (d:=d) (c:=c) (by omega)
 have H9:ig (d+7) c 9=some (we c.2.1 c.2.2.1):=by
  rw [show d+7=(d+3)+4 by omega,Bg];simp only [Int.reduceBEq,Q4,Q5];rw [Qcv (by omega) hf,Q8]
 have H10:ig (d+7) c 10=some (Ho c):=by
  rw [show d+7=(d+3)+4 by omega,Bg];simp only [Int.reduceBEq,Q5];unfold Ho
  cases (c.2.2.2==0) with
  | true=>rfl
  | false=>rw [Q5,show d+3+3=(d+1)+5 by omega,Vg (by omega),Q8];rfl
 unfold fA k_
 rw [hfu,st _ _ _ (by omega) (by omega) H1]
 cases Bk c.1 with
 | false=>rfl
 | true =>
 rw [Q4,Zg,show (1:Int)+1=2 from rfl,st _ _ _ (by omega) (by omega) H2]
 cases decide (1<=c.2.1.length/\c.2.1.length<=24) with
 | false=>rw [Bool.and_false];rfl
 | true =>
 rw [Bool.and_true]
 cases rU c.2.1 with
 | false=>rfl
 | true =>
 rw [Q4,Zg,Zg,show (2:Int)+1=3 from rfl,st _ _ _ (by omega) (by omega) H3]
 cases decide (vb c.2.1=1) with
 | false=>rfl
 | true =>
 cases Ez c.2.1 with
 | false=>rfl
 | true =>
 rw [Zg,Q4,Zg,show (3:Int)+1=4 from rfl,st _ _ _ (by omega) (by omega) H4]
 cases eM (fun _ i=>v_ c.2.1 i) c.2.1 0 with
 | false=>rfl
 | true =>
 rw [Q4,Zg,show (4:Int)+1=5 from rfl,st _ _ _ (by omega) (by omega) H5]
 cases hr:c.2.1.all mJ with
 | false=>rfl
 | true =>
 have bh:=Qli hr
 have H6:ig (d+7) c 6=some (c.2.1.all (nY c.2.1)):=by
  rw [show d+7=(d+3)+4 by omega,Bg];simp only [Int.reduceBEq,Q4,Q5]
  rw [show d+3+3=(d+2)+4 by omega,Qae (by omega),Q8,show (c.2.1.all fun x=>decide (0<=x.2.2.1/\x.2.2.1<=1000000000))=true from List.all_eq_true.2 (fun x hx=>Z5 (bh x hx)),Q4]
  obtain ⟨r,g1,g2⟩:=Qn3 (d:=d+3) h1 bh
  rw [show d+2+4=d+3+3 by omega,g1,Q8,g2]
 rw [Q4,Zg,show (5:Int)+1=6 from rfl,st _ _ _ (by omega) (by omega) H6]
 cases c.2.1.all (nY c.2.1) with
 | false=>rfl
 | true =>
 rw [Q4,Zg,show (6:Int)+1=7 from rfl,st _ _ _ (by omega) (by omega) H7]
 cases c.2.1.all nh with
 | false=>rfl
 | true =>
 rw [Q4,Zg,show (7:Int)+1=8 from rfl,st _ _ _ (by omega) (by omega) H8]
 cases c.2.1.all (nZ c.2.1) with
 | false=>rfl
 | true =>
 rw [Q4,Zg,show (8:Int)+1=9 from rfl,st _ _ _ (by omega) (by omega) H9]
 cases we c.2.1 c.2.2.1 with
 | false=>rfl
 | true =>
 rw [Q4,Zg,show (9:Int)+1=10 from rfl,st _ _ _ (by omega) (by omega) H10]
 cases Ho c with
 | false=>rfl
 | true =>
 rw [Q4,show Q9 (fC (d+7) c (gH (d+7))) (f+1) (false,(10:Int)+1)=fC (d+7) c (gH (d+7)) (Q9 (fC (d+7) c (gH (d+7))) f) (false,11) from rfl]
 simp only [fC]
 rw [Z4 (show ¬ (11:Int)<=10 by omega),Q5];rfl
theorem Qba {α τ β:Type} {p:α->Nat->Bool} {f:α->Nat->τ->τ} {no:Option β} {fin:τ->Option β}:∀ (l:List α) (i:Nat) (t:τ),er (fun x i t k=>aa (p x i) (k (f x i t)) no) fin l i t=aa (eM p l i) (fin (cH f l i t)) no
 | [],i,t=>rfl
 | x::r,i,t=>by
  simp only [er,eM,cH]
  cases p x i with
  | true=>simp only [Q4,Zg];exact Qba r (i+1) (f x i t)
  | false=>rfl
theorem Qh2 {α σ τ:Type} {f:α->Nat->τ->τ}:∀ (l:List α) (i:Nat) (a:σ) (t:τ),cH (fun x i (s:σ×τ)=>(s.1,f x i s.2)) l i (a,t)=(a,cH f l i t)
 | [],_,_,_=>rfl
 | x::r,i,a,t=>by simp only [cH];exact Qh2 r (i+1) a (f x i t)
theorem Qsu {d:Nat} {c:Cf} (h0:1<=c.2.1.length) (h1:c.2.1.length<=24):TE (d+3) c=some (k_ c.2.1):=by
 rw [e96]
 refine (Qc (fun (t:Bool×Int) (i:Int)=>(t.1,t.2,i)) c.2.1 (fun x i t k=>aa (zY c.2.1 x i&&(mJ x&&nh x)) (k (t.1,(if (x.2.1==0)=true then IntKind.i64.wrap (t.2+1) else t.2))) (some false)) (fun t=>ym (d+2) c t.1 t.2) ?_ ?_ (by rw [Q6];omega) (false,0)).trans ?_
 .intro ag t i x hx;have hi:=(Z0 hx).1;simp only [yp,bV hx,nn,Q3,hx,Q8,Q4]
  rw [Qp7,Q8]
  unfold sw zY
  rw [aN (by omega)]
  cases decide (1<=x.1/\x.1<=999) with
  | false=>rfl
  | true =>
  cases (mJ x&&nh x) with
  | false=>rw [Bool.and_false,Bool.and_false];rfl
  | true =>
   rw [Bool.and_true,Zl,Q5,Zg,Bool.and_true]
   by_cases h0:i=0
   .subst h0
    rw [Z4 (show ¬ ((0:Nat):Int) > 0 by omega),Q5,Q5]
    cases (x.2.1==0)<;>rfl
   .rw [Z5 (show (i:Int) > 0 by omega),Q4,Jt (by omega) (by omega),nn,Q4,Q3,Z6 (show i - 1 < c.2.1.length by omega),Q8,Z4 h0,Bool.false_or]
    rw [show (i:Int) - 1=((i - 1:Nat):Int) by omega,jl (Z6 (show i - 1 < c.2.1.length by omega))]
    by_cases h:(c.2.1[i - 1]).1>=x.1
    .rw [Z5 h,Z4 (show ¬ (c.2.1[i - 1]).1 < x.1 by omega)];rfl
    .rw [Z4 h,Z5 (show (c.2.1[i - 1]).1 < x.1 by omega),Q5]
     cases (x.2.1==0)<;>rfl
 .intro ag t;simp only [yp,bD,Q5]
 .rw [Qba (f:=fun (x:aA) _ (t:Bool×Int)=>(t.1,(if (x.2.1==0)=true then IntKind.i64.wrap (t.2+1) else t.2))),Qlf,Vh (p:=fun x=>mJ x&&nh x),Qh2 (f:=fun (x:aA) _ (t:Int)=>if (x.2.1==0)=true then IntKind.i64.wrap (t+1) else t)]
  have:=Pt (p:=fun x:aA=>x.2.1==0) c.2.1 0 0 (by omega)
  rw [show ((0:Nat):Int)=0 from rfl] at this
  rw [this,Zo]
  unfold ym
  rw [show (c.2.1.filter fun x=>x.2.1==0).length=vb c.2.1 from rfl]
  have lq:(c.2.1.all fun x=>mJ x&&nh x)=(c.2.1.all mJ&&c.2.1.all nh):=by
   rw [Bool.eq_iff_iff];simp only [List.all_eq_true,Z8]
   exact ⟨fun h=>⟨fun x hx=>(h x hx).1,fun x hx=>(h x hx).2⟩,fun h x hx=>⟨h.1 x hx,h.2 x hx⟩⟩
  rw [lq]
  unfold k_ rU
  rw [Z5 (show 1<=c.2.1.length/\c.2.1.length<=24 from ⟨h0,h1⟩),Zg]
  cases eM (zY c.2.1) c.2.1 0 with
  | false=>rfl
  | true =>
  cases hr:c.2.1.all mJ with
  | false=>simp [Q5]
  | true =>
  cases c.2.1.all nh with
  | false=>simp [Q5]
  | true =>
  have bh:=Qli hr
  rw [Zg,Zg,Q4]
  by_cases ht:vb c.2.1=1
  case neg=>rw [show ((((vb c.2.1:Nat):Int)) != 1)=true by simp;omega,Q4,Z4 ht];simp
  rw [show ((((vb c.2.1:Nat):Int)) != 1)=false by simp;omega,Q5,Z5 ht]
  refine (Qc (fun (t:Bool) (i:Int)=>(t,i)) c.2.1 (fun x i t k=>aa (v_ c.2.1 i&&(nY c.2.1 x&&nZ c.2.1 x)) (k t) (some false)) (fun _=>some true) ?_ ?_ (by rw [Q6];omega) false).trans ?_
  .intro ag t i x hx
   have hi:=(Z0 hx).1
   simp only [yh,bV hx,nn,Q3,hx,Q8,Q4]
   rw [Qzb hi h1,Q8]
   have tail:∀ b1 b2 b3:Bool,kK (d+2) c ag t (i:Int) x b1 b2 b3 false=aa (nZ c.2.1 x) (ag (t,((i+1:Nat):Int))) (some false):=by
    intro b1 b2 b3
    unfold kK
    rw [Q5]
    simp only [SY hx (show c.2.1.length<=1000 by omega),Q8,v8]
    unfold kJ nZ
    rw [aN (by omega)]
    cases fS c.2.1 x.1 with
    | true =>
     simp only [Q4,Zl,Q5,if_true]
     by_cases h:1<=x.2.2.2.2.2.2.2/\x.2.2.2.2.2.2.2<=60
     .rw [Z5 h];rfl
     .rw [Z4 h];rfl
    | false =>
     simp only [Q4,Bool.not_false,Q5,Bool.false_eq_true,if_false]
     by_cases h:x.2.2.2.2.2.2.2=0
     .rw [show (x.2.2.2.2.2.2.2 != 0)=false by simp [h],show (x.2.2.2.2.2.2.2==0)=true by simp [h]];rfl
     .rw [show (x.2.2.2.2.2.2.2 != 0)=true by simp [h],show (x.2.2.2.2.2.2.2==0)=false by simp [h]];rfl
   have bad:∀ b1 b2 b3:Bool,kK (d+2) c ag t (i:Int) x b1 b2 b3 true=some false:=fun b1 b2 b3=>rfl
   unfold v_
   by_cases h8:(cR c.2.1 9 (i:Int)).length<=8
   case neg=>rw [Z5 (show (((cR c.2.1 9 (i:Int)).length:Nat):Int) > 8 by omega),Q4,bad,Z4 h8];rfl
   have eU:0 < (cR c.2.1 9 (i:Int)).length:=by rw [Vi (by omega)];simp
   rw [Z4 (show ¬ (((cR c.2.1 9 (i:Int)).length:Nat):Int) > 8 by omega),Q5,Z5 h8,Zg,Jt (by omega) (by omega),nn,Q4,Q3,Qo (by omega),Q4]
   obtain ⟨m1,m2⟩:=Qgu eU
   obtain ⟨q1,q2⟩:=Vj 9 (i:Int) (by omega) _ m1
   rw [m2,Q8,Z5 q1,Q4,Hj q1 q2,Q8]
   by_cases h:(aU c.2.1 (nW (cR c.2.1 9 (i:Int)))).2.1=0
   case neg=>rw [show ((aU c.2.1 (nW (cR c.2.1 9 (i:Int)))).2.1 != 0)=true by simp [h],Q4,bad,show ((aU c.2.1 (nW (cR c.2.1 9 (i:Int)))).2.1==0)=false by simp [h]];rfl
   rw [show ((aU c.2.1 (nW (cR c.2.1 9 (i:Int)))).2.1 != 0)=false by simp [h],Q5,show ((aU c.2.1 (nW (cR c.2.1 9 (i:Int)))).2.1==0)=true by simp [h],Zg,Qp6 hx h1 bh,Q8]
   unfold nY
   by_cases hs:CE c.2.1 x.1<=x.2.2.1
   .rw [Z5 hs,Z4 (show ¬ x.2.2.1 - CE c.2.1 x.1 < 0 by omega),tail,Zg]
   .rw [Z4 hs,Z5 (show x.2.2.1 - CE c.2.1 x.1 < 0 by omega),bad];rfl
  .intro ag t;simp only [yh,bD,Q5];rfl
  .rw [qS,Qlf,Vh (p:=fun x=>nY c.2.1 x&&nZ c.2.1 x)]
   have vc:(c.2.1.all fun x=>nY c.2.1 x&&nZ c.2.1 x)=(c.2.1.all (nY c.2.1)&&c.2.1.all (nZ c.2.1)):=by
    rw [Bool.eq_iff_iff];simp only [List.all_eq_true,Z8]
    exact ⟨fun h=>⟨fun x hx=>(h x hx).1,fun x hx=>(h x hx).2⟩,fun h x hx=>⟨h.1 x hx,h.2 x hx⟩⟩
   rw [vc]
   have Vl:eM (fun _ i=>v_ c.2.1 i) c.2.1 0=true->Ez c.2.1=true:=by
    intro hw
    rw [sK] at hw
    unfold Ez
    rw [List.all_eq_true]
    intro x hx
    obtain ⟨i,hi⟩:=List.getElem?_of_mem hx
    have h1:=hw i x hi
    rw [Zo] at h1
    unfold v_ at h1
    simp only [Z8,Zj,beq_iff_eq] at h1
    obtain ⟨w1,w2⟩:=h1
    have e:=Px (l:=c.2.1) (i:=(i:Int)) (by omega) w1
    rw [jl hi] at e
    by_cases hn:0<=bK c.2.1 x.2.1
    .simp [hn]
    .have e2:cR c.2.1 9 (bK c.2.1 x.2.1)=[]:=by simp only [cR];rw [if_pos (by omega)]
     rw [e,e2] at w2
     rw [show nW [(i:Int)]=(i:Int) from rfl,jl hi] at w2
     simp [w2]
   cases hw:eM (fun _ i=>v_ c.2.1 i) c.2.1 0 with
   | false=>simp [Q5]
   | true =>
    rw [Vl hw]
    cases c.2.1.all (nY c.2.1)<;>cases c.2.1.all (nZ c.2.1)<;>rfl
theorem O2 {d:Nat} {c:Cf} (hs:c.1.size < 4000000) (hf:c.2.2.1.length < 4000000):Jk (d+5) c=some (fA c):=by
 rw [e59,show d+4=(d+1)+3 by omega,Qsp hs,Q8]
 unfold fA
 cases Bk c.1 with
 | false=>rfl
 | true =>
 rw [Q4,show d+1+3=(d+3)+1 by omega,v8,Q8,Zg]
 by_cases h:1<=c.2.1.length/\c.2.1.length<=24
 case neg =>
  rw [Z4 (show ¬ ((1:Int)<=((c.2.1.length:Nat):Int)/\((c.2.1.length:Nat):Int)<=24) by omega),Q5]
  unfold k_
  rw [Z4 h];rfl
 rw [Z5 (show (1:Int)<=((c.2.1.length:Nat):Int)/\((c.2.1.length:Nat):Int)<=24 by omega),Q4,show d+3+1=(d+1)+3 by omega,Qsu h.1 h.2,Q8]
 cases k_ c.2.1 with
 | false=>rfl
 | true =>
 rw [Q4,show d+1+3=d+4 by omega,Qjx (by omega) hf,Q8,Zg]
 cases we c.2.1 c.2.2.1 with
 | false=>rfl
 | true =>
 rw [Q4,Zg]
 unfold Ho
 cases (c.2.2.2==0) with
 | true=>rfl
 | false=>rw [Q5,show d+4=(d+1)+3 by omega,O5 (by omega),Q8,Bool.false_or]
theorem Qwl {l:List aA} {f:Nat} {i:Int} (h:i < 0):cR l f i=[]:=by
 cases f with
 | zero=>rfl
 | succ f=>simp only [cR];rw [if_pos h]
def bQ (l:List aA) (i:Int):Int:=bK l (aU l i).2.1
def cj (l:List aA) (i:Int):List Int:=nU l (aU l i).1
def gq (l:List aA) (i:Int):Nat:=(cR l 9 i).length
def vI (l:List aA) (i:Int):Prop:=0<=i/\i < ((l.length:Nat):Int)
structure Tr (l:List aA):Prop where
 n1:1<=l.length
 fL:l.length<=24
 inj:∀ i j,vI l i->vI l j->(aU l i).1=(aU l j).1->i=j
 pos:∀ i,vI l i->1<=(aU l i).1
 top:∃ t,vI l t/\(aU l t).2.1=0/\∀ j,vI l j->(aU l j).2.1=0->j=t
 Hp:∀ i,vI l i->gq l i<=8/\(aU l (nW (cR l 9 i))).2.1=0
theorem fF {l:List aA} {i:Int} (h:vI l i):l[i.toNat]? = some (aU l i):=Hj h.1 h.2
theorem DN {l:List aA} {k:Nat} {x:aA} (h:l[k]? = some x):vI l (k:Int):=by
 have:=(Z0 h).1
 exact ⟨by omega,by omega⟩
theorem Qzc {l:List aA} {i:Int}:bQ l i < ((l.length:Nat):Int):=B7
theorem Hq {l:List aA} {i:Int} (h:0<=bQ l i):vI l (bQ l i):=⟨h,Qzc⟩
theorem Qzd {l:List aA} {i:Int} (h:0<=bQ l i):(aU l (bQ l i)).1=(aU l i).2.1:=by
 obtain ⟨k,x,h1,h2,h3⟩:=tI h
 unfold bQ
 rw [h1,jl h2,h3]
theorem Qze {l:List aA} (T:Tr l) {i:Int} (h:vI l i):bK l (aU l i).1=i:=by
 by_cases h0:0<=bK l (aU l i).1
 .obtain ⟨k,x,h1,h2,h3⟩:=tI h0
  rw [h1]
  refine T.inj _ _ (DN h2) h ?_
  rw [jl h2,h3]
 .have:=(Vf (l:=l) (id:=(aU l i).1)).1 (by omega) (aU l i) (Zc (fF h))
  exact absurd rfl this
theorem Qlj {α γ:Type} {c:α->Nat->Bool} {e:α->Nat->γ}:∀ (l:List α) (i j:Nat) (x:α),l[j]? = some x->c x (i+j)=true->e x (i+j)∈fG c e l i
 | [],i,j,x,h,_=>by simp at h
 | y::r,i,0,x,h,hc=>by
  simp only [List.getElem?_cons_zero,Option.some.injEq] at h
  subst h
  simp only [Nat.add_zero] at hc
  simp only [fG,if_pos hc,Nat.add_zero];simp
 | y::r,i,j+1,x,h,hc=>by
  have:=Qlj (c:=c) (e:=e) r (i+1) j x (by simpa using h) (by rw [show i+1+j=i+(j+1) by omega];exact hc)
  rw [show i+1+j=i+(j+1) by omega] at this
  simp only [fG]
  split
  .exact List.mem_cons_of_mem _ this
  .exact this
theorem Qbb {α:Type} {c:α->Nat->Bool}:∀ (l:List α) (i:Nat),(fG c (fun _ k=>((k:Nat):Int)) l i).Pairwise (· < ·)/\∀ x∈fG c (fun _ k=>((k:Nat):Int)) l i,(i:Int)<=x
 | [],i=>by simp [fG]
 | y::r,i=>by
  obtain ⟨h1,h2⟩:=Qbb (c:=c) r (i+1)
  simp only [fG]
  split
  .refine ⟨List.pairwise_cons.2 ⟨fun x hx=>by have:=h2 x hx;omega,h1⟩,fun x hx=>?_⟩
   rcases Z2 hx with rfl | hx
   .omega
   .have:=h2 x hx;omega
  .exact ⟨h1,fun x hx=>by have:=h2 x hx;omega⟩
theorem L8 {l:List aA} {i:Int}:(cj l i).Pairwise (· < ·):=(Qbb l 0).1
theorem Bl {l:List aA} (T:Tr l) {i k:Int} (h:vI l i):k∈cj l i↔vI l k/\bQ l k=i:=by
 constructor
 .intro hk
  obtain ⟨j,x,rfl,h2,h3⟩:=Qle hk
  refine ⟨DN h2,?_⟩
  unfold bQ
  rw [jl h2,h3,Qze T h]
 .rintro ⟨hk,rfl⟩
  have e:=Qzd h.1
  have hg:=fF hk
  have hm:=Qlj (c:=fun x _=>x.2.1==(aU l (bQ l k)).1) (e:=fun _ j=>((j:Nat):Int)) l 0 k.toNat _ hg (by rw [e];simp)
  rw [Zo,Int.toNat_of_nonneg hk.1] at hm
  exact hm
theorem Jw {l:List aA} {i:Int} (h:vI l i):1<=gq l i:=by unfold gq;rw [Vi h.1];simp
theorem Hr {l:List aA} (T:Tr l) {i:Int} (h:vI l i):gq l i=1+gq l (bQ l i):=by
 have:=Px h.1 (T.Hp i h).1
 unfold gq
 rw [this,Z9]
 unfold bQ;omega
theorem qT {l:List aA} (T:Tr l) {i k:Int} (h:vI l i) (hk:k∈cj l i):vI l k/\bQ l k=i/\gq l k=1+gq l i:=by
 obtain ⟨h1,h2⟩:=(Bl T h).1 hk
 exact ⟨h1,h2,by rw [Hr T h1,h2]⟩
theorem Qzf {l:List aA} (T:Tr l) {i:Int} (h:vI l i) (hp:bQ l i < 0):(aU l i).2.1=0:=by
 have e:=Px h.1 (T.Hp i h).1
 have e2:cR l 9 (bK l (aU l i).2.1)=[]:=Qwl hp
 have:=(T.Hp i h).2
 rw [e,e2] at this
 exact this
def jU (l:List aA):Int:=fB (fun x:aA=>x.2.1==0) l 0
theorem Hs {l:List aA} (T:Tr l):vI l (jU l)/\(aU l (jU l)).2.1=0/\bQ l (jU l) < 0/\∀ j,vI l j->bQ l j < 0->j=jU l:=by
 obtain ⟨t,t1,t2,t3⟩:=T.top
 have h0:0<=jU l:=by
  unfold jU
  rcases Int.lt_or_le (fB (fun x:aA=>x.2.1==0) l 0) 0 with h | h
  .have:=K9.1 h (aU l t) (Zc (fF t1))
   simp [t2] at this
  .exact h
 obtain ⟨k,x,h1,h2,h3,_⟩:=Js h0
 have e:jU l=(k:Int):=by unfold jU;rw [h1];simp
 have hv:vI l (jU l):=by rw [e];exact DN h2
 have hz:(aU l (jU l)).2.1=0:=by rw [e,jl h2];simpa using h3
 have hp:bQ l (jU l) < 0:=by
  unfold bQ
  rw [hz,Vf]
  intro y hy
  obtain ⟨i,hi⟩:=List.getElem?_of_mem hy
  have:=T.pos _ (DN hi)
  rw [jl hi] at this;omega
 exact ⟨hv,hz,hp,fun j hj hjp=>by rw [t3 j hj (Qzf T hj hjp),t3 _ hv hz]⟩
def dr (l:List aA):Nat->Int->List Int
 | 0,_=>[]
 | f+1,i=>i::(cj l i).flatMap (dr l f)
def L9 (l:List aA):Nat->Int->Int
 | 0,x=>x
 | k+1,x=>bQ l (L9 l k x)
theorem EC {l:List aA} (T:Tr l):∀ (f:Nat) (a x:Int),vI l a->x∈dr l f a->vI l x/\gq l a<=gq l x/\L9 l (gq l x - gq l a) x=a/\(x≠a->gq l a < gq l x)
 | 0,a,x,_,h=>by simp [dr] at h
 | f+1,a,x,ha,h=>by
  simp only [dr,List.mem_cons,List.mem_flatMap] at h
  rcases h with rfl | ⟨c,hc,hx⟩
  .exact ⟨ha,Zd _,by rw [Nat.sub_self];rfl,fun h=>absurd rfl h⟩
  .obtain ⟨c1,c2,c3⟩:=qT T ha hc
   obtain ⟨x1,x2,x3,_⟩:=EC T f c x c1 hx
   refine ⟨x1,by omega,?_,fun _=>by omega⟩
   rw [show gq l x - gq l a=(gq l x - gq l c)+1 by omega]
   show bQ l _=a
   rw [x3,c2]
theorem Qsv {l:List aA} (T:Tr l) {f g:Nat} {a b x:Int} (ha:vI l a) (hb:vI l b) (hd:gq l a=gq l b) (h1:x∈dr l f a) (h2:x∈dr l g b):a=b:=by
 have e1:=(EC T f a x ha h1).2.2.1
 have e2:=(EC T g b x hb h2).2.2.1
 rw [<- e1,<- e2,hd]
theorem Vm {l:List aA} (T:Tr l):∀ (f:Nat) (a x:Int),vI l a->x∈dr l f a->x≠a->bQ l x∈dr l f a
 | 0,a,x,_,h,_=>by simp [dr] at h
 | f+1,a,x,ha,h,aV=>by
  simp only [dr,List.mem_cons,List.mem_flatMap] at h ⊢
  rcases h with rfl | ⟨c,hc,hx⟩
  .exact absurd rfl aV
  .obtain ⟨c1,c2,c3⟩:=qT T ha hc
   by_cases Ht:x=c
   .left;rw [Ht,c2]
   .right;exact ⟨c,hc,Vm T f c x c1 hx Ht⟩
theorem Vn {l:List aA} (T:Tr l):∀ (f:Nat) (a:Int),vI l a->(dr l f a).Pairwise fun x y=>bQ l x=bQ l y->x < y
 | 0,a,_=>by simp [dr]
 | f+1,a,ha=>by
  simp only [dr]
  rw [List.pairwise_cons]
  constructor
  .intro y hy hp
   obtain ⟨c,hc,hx⟩:=List.mem_flatMap.1 hy
   obtain ⟨c1,c2,c3⟩:=qT T ha hc
   obtain ⟨x1,x2,_,_⟩:=EC T f c y c1 hx
   have e1:=Hr T ha
   have e2:=Hr T x1
   rw [hp] at e1
   omega
  .rw [List.pairwise_flatMap]
   refine ⟨fun c hc=>Vn T f c (qT T ha hc).1,?_⟩
   refine List.Pairwise.imp_of_mem ?_ L8
   intro c1 c2 hc1 BV au x hx y hy hp
   obtain ⟨v1,p1,d1⟩:=qT T ha hc1
   obtain ⟨v2,p2,d2⟩:=qT T ha BV
   obtain ⟨x1,x2,x3,x4⟩:=EC T f c1 x v1 hx
   obtain ⟨y1,y2,y3,y4⟩:=EC T f c2 y v2 hy
   have ex:=Hr T x1
   have ey:=Hr T y1
   rw [hp] at ex
   by_cases Ht:x=c1
   .by_cases L_:y=c2
    .rw [Ht,L_];exact au
    .have:=y4 L_;rw [Ht] at ex;omega
   .have h1:=Vm T f c1 x v1 hx Ht
    by_cases L_:y=c2
    .have:=x4 Ht;rw [<- L_] at d2;omega
    .have h2:=Vm T f c2 y v2 hy L_
     rw [hp] at h1
     have:=Qsv T v1 v2 (by omega) h1 h2
     omega
theorem Qus {l:List aA} (T:Tr l):∀ (f:Nat) (a x k:Int),vI l a->9 - gq l a<=f->x∈dr l f a->k∈cj l x->k∈dr l f a
 | 0,a,x,k,_,_,h,_=>by simp [dr] at h
 | f+1,a,x,k,ha,hf,h,hk=>by
  simp only [dr,List.mem_cons,List.mem_flatMap] at h ⊢
  rcases h with rfl | ⟨c,hc,hx⟩
  .right
   obtain ⟨c1,c2,c3⟩:=qT T ha hk
   have:=(T.Hp k c1).1
   obtain ⟨g,rfl⟩:∃ g,f=g+1:=⟨f - 1,by omega⟩
   exact ⟨k,hk,by simp [dr]⟩
  .right
   obtain ⟨c1,c2,c3⟩:=qT T ha hc
   exact ⟨c,hc,Qus T f c x k c1 (by omega) hx hk⟩
theorem Qpb {l:List aA} (T:Tr l):∀ (f g:Nat) (a:Int),vI l a->9 - gq l a<=f->f<=g->dr l g a=dr l f a
 | 0,g,a,ha,hf,_=>by have:=(T.Hp a ha).1;unfold gq at *;omega
 | f+1,0,a,_,_,hg=>by omega
 | f+1,g+1,a,ha,hf,hg=>by
  simp only [dr]
  congr 1
  have:∀ c∈cj l a,dr l g c=dr l f c:=fun c hc=>by
   obtain ⟨c1,c2,c3⟩:=qT T ha hc
   exact Qpb T f g c c1 (by omega) (by omega)
  have key:∀ L:List Int,(∀ c∈L,dr l g c=dr l f c)->L.flatMap (dr l g)=L.flatMap (dr l f):=by
   intro L
   induction L with
   | nil=>intro _;rfl
   | cons c L ih=>intro h;rw [List.flatMap_cons,List.flatMap_cons,h c (by simp),ih (fun x hx=>h x (by simp [hx]))]
  exact key _ this
def iY (l:List aA) (i:Int):List Int:=dr l 8 i
theorem Jx {l:List aA} (T:Tr l) {i:Int} (h:vI l i):iY l i=i::(cj l i).flatMap (iY l):=by
 have:=Jw h
 have e:=Qpb T 8 9 i h (by omega) (by omega)
 unfold iY
 rw [<- e]
 rfl
def aG (l:List aA):List Int:=iY l (jU l)
theorem Qpc {l:List aA} (T:Tr l):∀ (m:Nat) (x:Int),gq l x<=m->vI l x->x∈aG l
 | 0,x,hm,hx=>by have:=Jw hx;omega
 | m+1,x,hm,hx=>by
  obtain ⟨t1,t2,t3,t4⟩:=Hs T
  by_cases hp:bQ l x < 0
  .rw [t4 x hx hp]
   unfold aG iY;simp [dr]
  .have hv:=Hq (l:=l) (i:=x) (by omega)
   have hd:=Hr T hx
   have:=Qpc T m (bQ l x) (by omega) hv
   have htd:=Jw t1
   exact Qus T 8 (jU l) (bQ l x) x t1 (by omega) this ((Bl T hv).2 ⟨hx,rfl⟩)
theorem jT {l:List aA} (T:Tr l) {x:Int}:x∈aG l↔vI l x :=
 ⟨fun h=>(EC T 8 _ x (Hs T).1 h).1,fun h=>Qpc T (gq l x) x (Zd _) h⟩
theorem Qh4 {l:List aA} (T:Tr l):(aG l).Pairwise fun x y=>bQ l x=bQ l y->x < y:=Vn T 8 _ (Hs T).1
theorem rT {l:List aA} (T:Tr l):(aG l).Nodup:=by
 rw [List.nodup_iff_pairwise_ne]
 exact (Qh4 T).imp fun h e=>by have:=h (by rw [e]);omega
theorem Hu {l:List aA} (T:Tr l):(aG l).length=l.length:=by
 have h1:=Py (rT T) (fun x hx=>(jT T).1 hx)
 have h2:((List.range l.length).map fun (k:Nat)=>(k:Int)).length<=(aG l).length:=by
  refine List.Nodup.length_le_of_subset ?_ fun x hx=>?_
  .rw [List.nodup_iff_pairwise_ne,List.pairwise_map]
   exact (List.nodup_iff_pairwise_ne.1 List.nodup_range).imp fun h e=>h (by omega)
  .obtain ⟨k,hk,rfl⟩:=List.mem_map.1 hx
   have:=List.mem_range.1 hk
   exact (jT T).2 ⟨by omega,by omega⟩
 simp at h2
 omega
theorem Vo {l:List aA} (T:Tr l):∀ (m:Nat) (i:Int),gq l i<=m->vI l i->∃ A B,aG l=A++iY l i++B
 | 0,i,hm,hi=>by have:=Jw hi;omega
 | m+1,i,hm,hi=>by
  obtain ⟨t1,t2,t3,t4⟩:=Hs T
  by_cases hp:bQ l i < 0
  .rw [t4 i hi hp]
   exact ⟨[],[],by simp [aG]⟩
  .have hv:=Hq (l:=l) (i:=i) (by omega)
   have hd:=Hr T hi
   obtain ⟨A,B,e⟩:=Vo T m (bQ l i) (by omega) hv
   obtain ⟨K1,K2,ek⟩:=List.append_of_mem ((Bl T hv).2 ⟨hi,rfl⟩)
   rw [Jx T hv,ek,List.flatMap_append,List.flatMap_cons] at e
   exact ⟨A++bQ l i::K1.flatMap (iY l),K2.flatMap (iY l)++B,by rw [e];simp⟩
theorem K4 {l:List aA} (h:rU l=true):∀ (j i:Nat) (x y:aA),i < j->l[i]? = some x->l[j]? = some y->x.1 < y.1
 | 0,i,x,y,mY,_,_=>by omega
 | j+1,i,x,y,mY,hx,hy=>by
  unfold rU at h
  rw [sK] at h
  have h1:=h (j+1) y hy
  rw [Zo] at h1
  unfold zY at h1
  simp only [Z8,Bool.or_eq_true,Zj] at h1
  have hj:j < l.length:=by have:=(Z0 hy).1;omega
  have hz:=Z6 hj
  have h2:(l[j]).1 < y.1:=by
   rcases h1.2 with h | h
   .omega
   .rw [show ((j+1:Nat):Int) - 1=(j:Int) by omega,jl hz] at h;exact h
  rcases Nat.lt_or_ge i j with au | tD
  .have:=K4 (by unfold rU;rw [sK];exact h) j i x l[j] au hx hz;omega
  .obtain rfl:i=j:=by omega
   rw [hz] at hx;injection hx with hx;rw [<- hx];exact h2
theorem Qzg {l:List aA} (h:k_ l=true):Tr l:=by
 unfold k_ at h
 simp only [Z8,Zj] at h
 obtain ⟨⟨h1,h2⟩,h3,h4,h5,h6,h7,h8,h9,Ma⟩:=h
 have inj:∀ i j,vI l i->vI l j->(aU l i).1=(aU l j).1->i=j:=by
  intro i j hi hj e
  have gi:=fF hi
  have gj:=fF hj
  obtain ⟨i0,i1⟩:=hi
  obtain ⟨j0,j1⟩:=hj
  rcases Int.lt_trichotomy i j with au | rfl | au
  .have:=K4 h3 j.toNat i.toNat _ _ (by omega) gi gj;omega
  .rfl
  .have:=K4 h3 i.toNat j.toNat _ _ (by omega) gj gi;omega
 refine ⟨h1,h2,inj,fun i hi=>?_,?_,fun i hi=>?_⟩
 .unfold rU at h3
  rw [sK] at h3
  have:=h3 _ _ (fF hi)
  unfold zY at this
  simp only [Z8,Zj] at this
  exact this.1.1
 .unfold vb at h4
  obtain ⟨x,hx⟩:=List.length_eq_one_iff.1 h4
  have fV:x∈l.filter (fun x:aA=>x.2.1==0):=by rw [hx];simp
  have hm:x∈l/\(x.2.1==0)=true:=List.mem_filter.1 fV
  obtain ⟨t,ht⟩:=List.getElem?_of_mem hm.1
  refine ⟨(t:Int),DN ht,by rw [jl ht];simpa using hm.2,fun j hj hz=>?_⟩
  have hjm:aU l j∈l.filter (fun x=>x.2.1==0):=List.mem_filter.2 ⟨Zc (fF hj),by simp [hz]⟩
  rw [hx,List.mem_singleton] at hjm
  exact inj j t hj (DN ht) (by rw [hjm,jl ht])
 .rw [sK] at h6
  have:=h6 _ _ (fF hi)
  rw [Zo] at this
  unfold v_ at this
  simp only [Z8,Zj,beq_iff_eq] at this
  rw [Int.toNat_of_nonneg hi.1] at this
  exact this
def wg (W:List Int) (x:Int):Int:=fB (fun y=>y==x) W 0
theorem sL {W:List Int} (hn:W.Nodup) {k:Nat} {x:Int} (h:W[k]? = some x):wg W x=(k:Int):=by
 have hm:=Zc h
 rcases Int.lt_or_le (wg W x) 0 with h0 | h0
 .exact absurd hm (Qp3 h0)
 .obtain ⟨j,y,h1,h2,h3,_⟩:=Js h0
  have e:y=x:=by simpa using h3
  subst e
  unfold wg
  rw [h1,Zo]
  have hj:=(Z0 h2)
  have hk:=(Z0 h)
  obtain ⟨Vp,vf⟩:=hj
  obtain ⟨rP,n_⟩:=hk
  have:j=k:=(List.getElem_inj hn).1 (vf.trans n_.symm)
  rw [this]
theorem Qlk {W:List Int} {x:Int} (h:x∉W):wg W x=-1:=by
 have hn:∀ (l:List Int) (i:Nat),x∉l->fB (fun y=>y==x) l i=-1:=by
  intro l
  induction l with
  | nil=>intro i _;rfl
  | cons a r ih =>
   intro i ha
   simp only [List.mem_cons,not_or] at ha
   simp only [fB]
   rw [if_neg (by simp;exact fun e=>ha.1 e.symm)]
   exact ih (i+1) ha.2
 exact hn W 0 h
theorem Qpd {W:List Int} (hn:W.Nodup) {x:Int} (h:x∈W):∃ k:Nat,W[k]? = some x/\wg W x=(k:Int):=by
 obtain ⟨k,hk⟩:=List.getElem?_of_mem h
 exact ⟨k,hk,sL hn hk⟩
def pW (l:List aA) (x:Int):Int:=wg (aG l) x
theorem B4 {l:List aA} (T:Tr l) {x:Int} (h:vI l x):∃ k:Nat,(aG l)[k]? = some x/\pW l x=(k:Int):=Qpd (rT T) ((jT T).2 h)
theorem vg {l:List aA} (T:Tr l) {x:Int} (h:x < 0):pW l x=-1:=Qlk fun hm=>by have:=((jT T).1 hm).1;omega
def vh (l:List aA) (i:Int):Int:=if bQ l i < 0 then -1 else (cj l (bQ l i)).getD ((wg (cj l (bQ l i)) i).toNat+1) (-1)
def wh (l:List aA) (i:Int):Int:=(cj l i).headD (-1)
def oa (l:List aA) (k:Nat) (i:Int):Int:=((k+(iY l i).length:Nat):Int)
def oc (c:Cf) (A:List Int) (fs:List dY) (tg:List Int) (df:Int):Ld:=(c.1,A.map (aU c.2.1),A.map (fun i=>pW c.2.1 (bQ c.2.1 i)),A.map (fun i=>pW c.2.1 (wh c.2.1 i)),A.map (fun i=>pW c.2.1 (vh c.2.1 i)),A.mapIdx (oa c.2.1),fs,tg,df)
def tgV (c:Cf):List Int:=c.2.2.1.map fun f=>pW c.2.1 (bK c.2.1 f.2.2.2.2)
def vT (c:Cf):Int:=if c.2.2.2=0 then -1 else pW c.2.1 (bK c.2.1 c.2.2.2)
def bT (c:Cf):Ld:=oc c (aG c.2.1) c.2.2.1 (tgV c) (vT c)
structure Gd (c:Cf):Prop where
 nm:Bk c.1=true
 cl:k_ c.2.1=true
 fl:we c.2.1 c.2.2.1=true
 df:Ho c=true
theorem rV {c:Cf} (h:fA c=true):Gd c:=by
 unfold fA at h
 simp only [Z8] at h
 exact ⟨h.1,h.2.1,h.2.2.1,h.2.2.2⟩
theorem Gd.tr {c:Cf} (G:Gd c):Tr c.2.1:=Qzg G.cl
theorem Gd.f16 {c:Cf} (G:Gd c):c.2.2.1.length<=16:=by
 have:=G.fl
 unfold we at this
 simp only [Z8,Zj] at this
 exact this.2
theorem Gd.Mb {c:Cf} (G:Gd c):∀ f∈c.2.2.1,vI c.2.1 (bK c.2.1 f.2.2.2.2)/\fS c.2.1 f.2.2.2.2=true/\zZ f=true:=by
 intro f hf
 have:=G.fl
 unfold we at this
 simp only [Z8,sK] at this
 obtain ⟨i,hi⟩:=List.getElem?_of_mem hf
 have h1:=this.1 i f hi
 unfold EB oK at h1
 simp only [Z8,Zj] at h1
 exact ⟨⟨h1.2.2.1,B7⟩,h1.2.2.2,h1.1⟩
theorem Gd.K5 {c:Cf} (G:Gd c) (h:c.2.2.2≠0):vI c.2.1 (bK c.2.1 c.2.2.2)/\fS c.2.1 c.2.2.2=true:=by
 have:=G.df
 unfold Ho oK at this
 simp only [Z8,Bool.or_eq_true,Zj,beq_iff_eq] at this
 rcases this with h1 | h1
 .exact absurd h1 h
 .exact ⟨⟨h1.1,B7⟩,h1.2⟩
theorem Qwm {d:Nat} {c:Cf} (T:Tr c.2.1):Ge (d+1) c=some (jU c.2.1):=by
 rw [TK]
 obtain ⟨t1,t2,t3,t4⟩:=Hs T
 have iI:=T.fL
 have t1a:=t1.1
 have t1b:=t1.2
 have key:∀ (m k fuel:Nat),k+m=(jU c.2.1).toNat->m < fuel->Q9 (lH d c (yw d)) fuel (k:Int)=some (jU c.2.1):=by
  intro m
  induction m with
  | zero =>
   intro k fuel hk hf
   obtain ⟨g,rfl⟩:∃ g,fuel=g+1:=⟨fuel - 1,by omega⟩
   have e:(k:Int)=jU c.2.1:=by have:=t1.1;omega
   simp only [Q9,lH]
   rw [e,Z5 t1.1,Q4,fF t1,Q8,t2]
   rfl
  | succ m ih =>
   intro k fuel hk hf
   obtain ⟨g,rfl⟩:∃ g,fuel=g+1:=⟨fuel - 1,by omega⟩
   have hv:vI c.2.1 (k:Int):=⟨by omega,by have:=t1.2;omega⟩
   have hz:(aU c.2.1 (k:Int)).2.1≠0:=by
    intro hz
    obtain ⟨t,_,_,q⟩:=T.top
    have h1:=q _ hv hz
    have h2:=q _ t1 t2
    omega
   simp only [Q9,lH]
   rw [nn,Q4,fF hv,Q8,show ((aU c.2.1 (k:Int)).2.1 != 0)=true by simp [hz],Q4,aN (by omega)]
   exact ih (k+1) g (by omega) (by omega)
 exact key (jU c.2.1).toNat 0 Qd (by omega) (by rw [Q6];have:=t1.2;omega)
theorem Qbc {α β γ:Type} {G:α->Option (List γ)} {w:α->List γ} {fin:List γ->Option β} {B:Nat}:∀ (L:List α) (i:Nat) (t:List γ),(∀ x∈L,G x=some (w x)/\(w x).length<=B)->t.length+L.length*B<=10000 ->
  er (fun x _ t k=>Q1 (G x) fun r=>aa (Nat.ble ((t.length+r.length)*8) Q7) (k (t++r)) none) fin L i t=fin (t++L.flatMap w)
 | [],i,t,_,_=>by simp [er]
 | x::r,i,t,h,hb=>by
  obtain ⟨h1,h2⟩:=h x (by simp)
  have e:(x::r).length*B=r.length*B+B:=by rw [Z9,Nat.add_mul,Nat.one_mul]
  rw [e] at hb
  simp only [er]
  rw [h1,Q8,room (by omega),Q4,Qbc r (i+1) (t++w x) (fun y hy=>h y (by simp [hy])) (by simp;omega),List.flatMap_cons,List.append_assoc]
theorem Vq {l:List aA} (T:Tr l) {f:Nat} {a:Int} (ha:vI l a):(dr l f a).length<=24:=by
 have hn:(dr l f a).Nodup:=by
  rw [List.nodup_iff_pairwise_ne]
  exact (Vn T f a ha).imp fun h e=>by have:=h (by rw [e]);omega
 have:=Py hn (fun x hx=>(EC T f a x ha hx).1)
 have:=T.fL
 omega
theorem Qll {d:Nat} {c:Cf} (T:Tr c.2.1):∀ (f:Nat) (i:Int),vI c.2.1 i->9 - gq c.2.1 i<=f->pS (d+1+f) c i=some (dr c.2.1 f i)
 | 0,i,hv,hf=>by have:=(T.Hp i hv).1;unfold gq at *;omega
 | f+1,i,hv,hf=>by
  have iI:=T.fL
  have hk:=Pp (l:=c.2.1) (id:=(aU c.2.1 i).1)
  rw [show d+1+(f+1)=(d+1+f)+1 by omega,TJ]
  have e1:lC (d+1+f) c i=some (cj c.2.1 i):=by
   have:=Pq (d:=d+f) (c:=c) (n:=i.toNat) (fF hv) (by omega)
   rw [Int.toNat_of_nonneg hv.1,show d+f+1=d+1+f by omega] at this
   exact this
  have hb:([i]:List Int).length+(cj c.2.1 i).length*24<=10000:=by
   have:(cj c.2.1 i).length<=24:=by unfold cj;omega
   simp only [Z9,Zb];omega
  rw [e1,Q8]
  refine (Qc (fun (t:List Int) (k:Int)=>(t,k)) (cj c.2.1 i) (fun x _ t k=>Q1 (pS (d+1+f) c x) fun r=>aa (Nat.ble ((t.length+r.length)*8) Q7) (k (t++r)) none) (fun t=>some t) ?_ ?_ (by rw [Q6];unfold cj;omega) [i]).trans ?_
  .intro ag t k x hx
   have hi:=(Z0 hx).1
   have:(cj c.2.1 i).length<=24:=by unfold cj;omega
   simp only [pR,bV hx,nn,Q3,hx,Q8,Q4,tJ hx]
   rw [aN (by omega)]
  .intro ag t;simp only [pR,bD,Q5];rfl
  .rw [Qbc (w:=dr c.2.1 f) (B:=24) (cj c.2.1 i) 0 [i] (fun x hx=>?_) hb]
   .rfl
   .obtain ⟨c1,c2,c3⟩:=qT T hv hx
    exact ⟨Qll T f x c1 (by omega),Vq T c1⟩
theorem Qzh {d:Nat} {c:Cf} (T:Tr c.2.1) {i:Int} (h:vI c.2.1 i):pS (d+9) c i=some (iY c.2.1 i):=by
 have:=Qll (d:=d) T 8 i h (by have:=Jw h;omega)
 rw [show d+1+8=d+9 by omega] at this
 exact this
theorem Qh7 {α τ:Type} {f:α->Nat->τ->τ}:∀ (A B:List α) (i:Nat) (t:τ),cH f (A++B) i t=cH f B (i+A.length) (cH f A i t)
 | [],B,i,t=>by simp [cH]
 | x::A,B,i,t=>by
  simp only [List.cons_append,cH,Z9]
  rw [Qh7 A B (i+1),show i+1+A.length=i+(A.length+1) by omega]
theorem Vr {α τ:Type} {f:α->Nat->τ->τ}:∀ (A:List α) (i:Nat) (t:τ),(∀ x∈A,∀ k t,f x k t=t)->cH f A i t=t
 | [],i,t,_=>rfl
 | x::A,i,t,h=>by
  simp only [cH]
  rw [h x (by simp)]
  exact Vr A (i+1) t (fun y hy=>h y (by simp [hy]))
theorem Qda {β:Type} {fin:List Int->Option β}:∀ (W:List Int) (i:Nat) (t:List Int),(∀ x∈W,0<=x/\x < ((t.length:Nat):Int)) ->
  er (fun x i t k=>aa (decide (0<=x)) (aa (Nat.blt x.toNat t.length) (Q1 (t[x.toNat]?) fun _=>k (t.set x.toNat ((i:Nat):Int))) none) none) fin W i t=fin (cH (fun x i t=>t.set x.toNat ((i:Nat):Int)) W i t)
 | [],i,t,_=>rfl
 | x::r,i,t,h=>by
  obtain ⟨h1,h2⟩:=h x (by simp)
  simp only [er,cH]
  rw [Z5 h1,Q4,Qo (by omega),Q4,Z6 (show x.toNat < t.length by omega),Q8]
  exact Qda r (i+1) _ (fun y hy=>by rw [List.length_set];exact h y (by simp [hy]))
theorem Vs:∀ (W:List Int) (i:Nat) (t:List Int),(cH (fun x i t=>t.set x.toNat ((i:Nat):Int)) W i t).length=t.length
 | [],i,t=>rfl
 | x::r,i,t=>by simp only [cH];rw [Vs r,List.length_set]
theorem Qlm:∀ (W:List Int) (i:Nat) (t:List Int) (j:Nat),(∀ x∈W,0<=x)->((j:Int)∉W)->(cH (fun x i t=>t.set x.toNat ((i:Nat):Int)) W i t)[j]? = t[j]?
 | [],i,t,j,_,_=>rfl
 | x::r,i,t,j,h0,hj=>by
  simp only [List.mem_cons,not_or] at hj
  have:=h0 x (by simp)
  simp only [cH]
  rw [Qlm r (i+1) _ j (fun y hy=>h0 y (by simp [hy])) hj.2,List.getElem?_set_ne (by omega)]
theorem Qut:∀ (W:List Int) (i:Nat) (t:List Int) (k:Nat) (x:Int),W.Nodup->(∀ x∈W,0<=x/\x < ((t.length:Nat):Int))->W[k]? = some x->(cH (fun x i t=>t.set x.toNat ((i:Nat):Int)) W i t)[x.toNat]? = some ((i+k:Nat):Int)
 | [],i,t,k,x,_,_,h=>by simp at h
 | y::r,i,t,0,x,hn,h0,h=>by
  simp only [List.getElem?_cons_zero,Option.some.injEq] at h
  subst h
  obtain ⟨q1,q2⟩:=List.nodup_cons.1 hn
  obtain ⟨p1,p2⟩:=h0 y (by simp)
  simp only [cH]
  rw [Qlm r (i+1) _ y.toNat (fun z hz=>(h0 z (by simp [hz])).1) (by rw [Int.toNat_of_nonneg p1];exact q1),List.getElem?_set_self (by omega)]
  simp
 | y::r,i,t,k+1,x,hn,h0,h=>by
  obtain ⟨q1,q2⟩:=List.nodup_cons.1 hn
  simp only [cH]
  rw [Qut r (i+1) _ k x q2 (fun z hz=>by rw [List.length_set];exact h0 z (by simp [hz])) (by simpa using h)]
  congr 2;omega
def od (l:List aA):List Int:=cH (fun x i t=>t.set x.toNat ((i:Nat):Int)) (aG l) 0 (List.replicate l.length 0)
theorem Qwn {l:List aA}:(od l).length=l.length:=by unfold od;rw [Vs];simp
theorem Qwo {l:List aA} (T:Tr l) {x:Int} (h:vI l x):(od l)[x.toNat]? = some (pW l x)/\x.toNat < (od l).length:=by
 obtain ⟨k,h1,h2⟩:=B4 T h
 refine ⟨?_,by rw [Qwn];have:=h.1;have:=h.2;omega⟩
 unfold od
 rw [Qut (aG l) 0 _ k x (rT T) (fun y hy=>by have:=(jT T).1 hy;simp;exact this) h1,h2,Zo]
theorem Vt {α γ β:Type} {e:α->γ} {fin:List γ->Option β} {w:Nat}:∀ (l:List α) (i:Nat) (t:List γ),(t.length+l.length)*w<=100000000 ->
  er (fun x _ t k=>aa (Nat.ble ((t.length+[e x].length)*w) Q7) (k (t++[e x])) none) fin l i t=fin (t++l.map e)
 | [],i,t,_=>by simp [er]
 | x::r,i,t,h=>by
  simp only [er]
  rw [room (by
   have:(t.length+[e x].length)*w<=(t.length+(x::r).length)*w:=Zk w (by simp)
   omega),Q4]
  rw [Vt r (i+1) (t++[e x]) (by
   refine Nat.le_trans (Zk w ?_) h
   simp;omega)]
  simp
theorem Qwp {K:List Int} {i:Int} {g:Int->Int} (hn:K.Nodup) (hi:i∈K) (hg:g (-1)=-1) :
  cH (fun x k t=>if x=i/\k+1 < K.length then g (K.getD (k+1) 0) else t) K 0 (-1)=g (K.getD ((wg K i).toNat+1) (-1)):=by
 obtain ⟨K1,K2,e⟩:=List.append_of_mem hi
 have hp:wg K i=(K1.length:Int):=sL hn (by rw [e];simp)
 have Lc:=hn
 rw [e,Zn] at Lc
 obtain ⟨n1,n2,n3⟩:=Lc
 have h0:cH (fun x k t=>if x=i/\k+1 < K.length then g (K.getD (k+1) 0) else t) K 0 (-1)=cH (fun x k t=>if x=i/\k+1 < K.length then g (K.getD (k+1) 0) else t) (K1++i::K2) 0 (-1):=by rw [<- e]
 rw [h0,Qh7,Vr K1 0 (-1) (fun x hx k t=>if_neg (fun h=>n3 x hx i (by simp) h.1)),Zo]
 show cH (fun x k t=>if x=i/\k+1 < K.length then g (K.getD (k+1) 0) else t) K2 (K1.length+1) (if i=i/\K1.length+1 < K.length then g (K.getD (K1.length+1) 0) else -1)=_
 rw [Vr K2 _ _ (fun x hx k t=>if_neg (fun (h:x=i/\k+1 < K.length)=>(List.nodup_cons.1 n2).1 (h.1▸hx))),hp,Q3]
 by_cases h:K1.length+1 < K.length
 .rw [if_pos ⟨rfl,h⟩,Zr,Zr,Z6 h];rfl
 .rw [if_neg (fun hc=>h hc.2),Zr,List.getElem?_eq_none (by omega)];exact hg.symm
theorem Qln {l:List aA} {i:Int}:(cj l i).Nodup:=by
 rw [List.nodup_iff_pairwise_ne];exact L8.imp fun h e=>by omega
theorem Mc {l:List aA} (T:Tr l) {x:Int} (h:vI l x) {α:Type} {K:Int->Option α}:aa (Nat.blt x.toNat (od l).length) (Q1 ((od l)[x.toNat]?) K) none=K (pW l x):=by
 obtain ⟨h1,h2⟩:=Qwo T h
 rw [Qo h2,Q4,h1,Q8]
theorem Vu {l:List aA} (T:Tr l) {i:Int}:(cj l i).length<=24:=by
 have:=Pp (l:=l) (id:=(aU l i).1)
 have:=T.fL
 unfold cj;omega
theorem Qzi {d:Nat} {c:Cf} (T:Tr c.2.1) {i:Int} (hi:vI c.2.1 i) (hp:0<=bQ c.2.1 i) {kx:Int->Int->Option Ld} :
  Q9 (lO d (od c.2.1) i (cj c.2.1 (bQ c.2.1 i)) kx) Qd ((-1),0)=kx (pW c.2.1 (vh c.2.1 i)) ((cj c.2.1 (bQ c.2.1 i)).length:Int):=by
 have hv:=Hq hp
 have hl:=Vu T (i:=bQ c.2.1 i)
 refine (Qc (fun (t:Int) (k:Int)=>(t,k)) (cj c.2.1 (bQ c.2.1 i)) (fun x k t cont=>cont (if x=i/\k+1 < (cj c.2.1 (bQ c.2.1 i)).length then pW c.2.1 ((cj c.2.1 (bQ c.2.1 i)).getD (k+1) 0) else t)) (fun t=>kx t ((cj c.2.1 (bQ c.2.1 i)).length:Int)) ?_ ?_ (by rw [Q6];omega) (-1)).trans ?_
 .intro ag t k x hx
  have hk:=(Z0 hx).1
  simp only [lO,bV hx,nn,Q3,hx,Q8,Q4,tJ hx]
  rw [aN (by omega)]
  unfold pU
  rw [aN (by omega)]
  by_cases he:x=i
  .rw [show (x==i)=true by simp [he],Q4]
   by_cases au:k+1 < (cj c.2.1 (bQ c.2.1 i)).length
   .have hm:=Z6 au
    have Jy:=(qT T hv (Zc hm)).1
    rw [Z5 (show ((k+1:Nat):Int) < (((cj c.2.1 (bQ c.2.1 i)).length:Nat):Int) by omega),Q4,nn,Q4,Q3,Qo au,Q4,hm,Q8,Z5 Jy.1,Q4,Mc T Jy,if_pos ⟨he,au⟩,Zr,hm]
    rfl
   .rw [Z4 (show ¬ ((k+1:Nat):Int) < (((cj c.2.1 (bQ c.2.1 i)).length:Nat):Int) by omega),Q5,if_neg (fun h=>au h.2)]
  .rw [show (x==i)=false by simp [he],Q5,Q5,if_neg (fun h=>he h.1)]
 .intro ag t;simp only [lO,bD,Q5]
 .rw [w7 (f:=fun x k t=>if x=i/\k+1 < (cj c.2.1 (bQ c.2.1 i)).length then pW c.2.1 ((cj c.2.1 (bQ c.2.1 i)).getD (k+1) 0) else t),Qwp (g:=pW c.2.1) Qln ((Bl T hv).2 ⟨hi,rfl⟩) (vg T (by omega))]
  unfold vh
  rw [if_neg (by omega)]
theorem Qh9 {d:Nat} {c:Cf} {i:Int} (T:Tr c.2.1) (h:vI c.2.1 i):lC (d+1) c i=some (cj c.2.1 i):=by
 have iI:=T.fL
 have:=Pq (d:=d) (c:=c) (n:=i.toNat) (fF h) (by omega)
 rw [Int.toNat_of_nonneg h.1] at this
 exact this
theorem Qpg {c:Cf} {A:List Int} {i:Int} {fs:List dY} {tg:List Int} {df:Int}:oc c (A++[i]) fs tg df=(c.1,A.map (aU c.2.1)++[aU c.2.1 i],A.map (fun i=>pW c.2.1 (bQ c.2.1 i))++[pW c.2.1 (bQ c.2.1 i)],A.map (fun i=>pW c.2.1 (wh c.2.1 i))++[pW c.2.1 (wh c.2.1 i)],A.map (fun i=>pW c.2.1 (vh c.2.1 i))++[pW c.2.1 (vh c.2.1 i)],A.mapIdx (oa c.2.1)++[oa c.2.1 A.length i],fs,tg,df):=by
 unfold oc
 simp [List.mapIdx_concat]
theorem Quu {d:Nat} {c:Cf} (T:Tr c.2.1) {A:List Int} {i:Int} (hi:vI c.2.1 i) (hA:A.length<=24) {fs:List dY} {tg:List Int} {df:Int} {ag:Int×Ld->Option Ld} {b:Bool} :
  lN (d+9) c (od c.2.1) ag (A.length:Int) (oc c A fs tg df) i (aU c.2.1 i) (pW c.2.1 (bQ c.2.1 i)) (pW c.2.1 (vh c.2.1 i)) b=ag (((A.length+1:Nat):Int),oc c (A++[i]) fs tg df):=by
 have fin:∀ bb,lM (d+9) c ag (A.length:Int) (oc c A fs tg df) i (aU c.2.1 i) (pW c.2.1 (bQ c.2.1 i)) (pW c.2.1 (vh c.2.1 i)) (pW c.2.1 (wh c.2.1 i)) bb=ag (((A.length+1:Nat):Int),oc c (A++[i]) fs tg df):=by
  intro bb
  unfold lM
  rw [Qzh T hi,Q8,aN (by omega),Qpg]
  have hs:=Vq T (f:=8) hi
  simp only [oc,List.length_map,List.length_mapIdx,Z9,Zb]
  rw [room (by omega),Q4,Q4,Q4,Q4,wr (by unfold iY;omega) (by unfold iY;omega)]
  rw [show (A.length:Int)+(((iY c.2.1 i).length:Nat):Int)=oa c.2.1 A.length i by unfold oa;omega]
 unfold lN
 rw [show d+9=d+8+1 from rfl,Qh9 T hi,Q8]
 cases hk:cj c.2.1 i with
 | nil =>
  rw [Z4 (show ¬ ((([]:List Int).length:Nat):Int) > 0 by simp),Q5]
  have:=fin false
  rw [show wh c.2.1 i=-1 by unfold wh;rw [hk];rfl,vg T (show (-1:Int) < 0 by omega)] at this
  exact this
 | cons k r =>
  have hv:=(qT T hi (show k∈cj c.2.1 i by rw [hk];simp)).1
  have hl:(k::r).length<=24:=by rw [<- hk];exact Vu T
  rw [Z5 (show (((k::r).length:Nat):Int) > 0 by simp),Q4,Qo (by simp),Q4,List.getElem?_cons_zero,Q8,Z5 hv.1,Q4,Mc T hv]
  have:=fin true
  rw [show wh c.2.1 i=k by unfold wh;rw [hk];rfl] at this
  exact this
theorem Quv {d:Nat} {c:Cf} (T:Tr c.2.1) {fs:List dY}:∀ (B A:List Int) (fuel:Nat),aG c.2.1=A++B->B.length < fuel->Q9 (ju (d+9) c (aG c.2.1) (od c.2.1) (lJ (d+9) c (od c.2.1))) fuel ((A.length:Int),oc c A fs [] (-1))=Q9 (lI (d+9) c (od c.2.1) (pT (d+9) c (od c.2.1))) Qd (0,oc c (aG c.2.1) fs [] (-1))
 | B,A,0,_,h=>by omega
 | [],A,fuel+1,e,h=>by
  rw [List.append_nil] at e
  simp only [Q9,ju]
  rw [e,bD,Q5]
  unfold lJ
  rfl
 | i::B,A,fuel+1,e,h=>by
  have hlen:A.length+(B.length+1)=(aG c.2.1).length:=by rw [e];simp
  have iI:=T.fL
  have hW:=Hu T
  have hi:vI c.2.1 i:=(jT T).1 (by rw [e];simp)
  have hg:(aG c.2.1)[A.length]? = some i:=by rw [e];simp
  have next:=Quv (d:=d) T (fs:=fs) B (A++[i]) fuel (by rw [e];simp) (by simpa using h)
  rw [show ((A++[i]).length:Int)=((A.length+1:Nat):Int) by simp] at next
  simp only [Q9,ju]
  rw [Z5 (show (A.length:Int) < (((aG c.2.1).length:Nat):Int) by omega),Q4,nn,Q4,Q3,Qo (show A.length < (aG c.2.1).length by omega),Q4,hg,Q8,Z5 hi.1,Q4,fF hi,Q8,show (oc c A fs [] (-1)).2.1.length=A.length by simp [oc],room (by simp;omega),Q4,Q4,Q8,show d+9=d+8+1 from rfl,F0 (by omega),Q8]
  rw [show bK c.2.1 (aU c.2.1 i).2.1=bQ c.2.1 i from rfl]
  by_cases hp:0<=bQ c.2.1 i
  .have hv:=Hq hp
   rw [show decide (bQ c.2.1 i>=0)=true from Z5 hp,Q4,Q4,Mc T hv,Qh9 T hv,Q8,Qzi T hi hp]
   unfold yx
   rw [show d+8+1=d+9 from rfl,Quu T hi (by omega)]
   exact next
  .rw [show decide (bQ c.2.1 i>=0)=false from Z4 hp,Q5]
   have e1:pW c.2.1 (bQ c.2.1 i)=-1:=vg T (by omega)
   have e2:pW c.2.1 (vh c.2.1 i)=-1:=by unfold vh;rw [if_pos (by omega)];exact vg T (by omega)
   have:=Quu (d:=d) T hi (A:=A) (by omega) (fs:=fs) (tg:=[]) (df:=-1) (b:=false) (ag:=Q9 (ju (d+9) c (aG c.2.1) (od c.2.1) (lJ (d+9) c (od c.2.1))) fuel)
   rw [e1,e2] at this
   rw [show d+8+1=d+9 from rfl,this]
   exact next
theorem ZT {d:Nat} {c:Cf} (G:Gd c):Cg (d+10) c=some (bT c):=by
 have T:=G.tr
 have iI:=T.fL
 have hW:=Hu T
 have FY:=G.f16
 rw [TL,show d+9=d+8+1 from rfl,Qwm T,Q8,show d+8+1=d+9 from rfl,Qzh T (Hs T).1,Q8,show iY c.2.1 (jU c.2.1)=aG c.2.1 from rfl,nn,Q4,Q4,Q3,show (Nat.ble (aG c.2.1).length (aG c.2.1).length&&Nat.ble ((aG c.2.1).length*8) Q7)=true by rw [Z8,Nat.ble_eq,Nat.ble_eq];unfold Q7;omega,Q4]
 refine (Qc (fun (t:List Int) (k:Int)=>(k,t)) (aG c.2.1) (fun x i t k=>aa (decide (0<=x)) (aa (Nat.blt x.toNat t.length) (Q1 (t[x.toNat]?) fun _=>k (t.set x.toNat ((i:Nat):Int))) none) none) (pV (d+9) c (aG c.2.1)) ?_ ?_ (by rw [Q6];omega) (List.replicate (aG c.2.1).length 0)).trans ?_
 .intro ag t k x hx
  have hk:=(Z0 hx).1
  simp only [pX,bV hx,nn,Q3,hx,Q8,Q4,tJ hx]
  rw [aN (by omega)]
 .intro ag t;simp only [pX,bD,Q5]
 .rw [Qda (aG c.2.1) 0 _ (fun x hx=>by have:=(jT T).1 hx;rw [List.length_replicate,hW];exact this)]
  rw [show cH (fun (x:Int) (i:Nat) (t:List Int)=>t.set x.toNat ((i:Nat):Int)) (aG c.2.1) 0 (List.replicate (aG c.2.1).length 0)=od c.2.1 by unfold od;rw [hW]]
  unfold pV
  rw [room (by simp;omega),Q4]
  have:=Quv (d:=d) T (fs:=([]:List dY)++c.2.2.1) (aG c.2.1) [] Qd rfl (by rw [Q6];omega)
  refine this.trans ?_
  refine (Qc (fun (t:List Int) (k:Int)=>(k,oc c (aG c.2.1) (([]:List dY)++c.2.2.1) t (-1))) c.2.2.1 (fun f _ t k=>aa (Nat.ble ((t.length+[pW c.2.1 (bK c.2.1 f.2.2.2.2)].length)*8) Q7) (k (t++[pW c.2.1 (bK c.2.1 f.2.2.2.2)])) none) (fun t=>some (oc c (aG c.2.1) c.2.2.1 t (vT c))) ?_ ?_ (by rw [Q6];omega) []).trans ?_
  .intro ag t k f hx
   have hk:=(Z0 hx).1
   obtain ⟨v1,_⟩:=G.Mb f (Zc hx)
   simp only [lI,bV hx,nn,Q3,hx,Q8,Q4]
   rw [show d+9=d+8+1 from rfl,F0 (by omega),Q8,Z5 v1.1,Q4,Mc T v1,aN (by omega)]
   rfl
  .intro ag t
   simp only [lI,bD,Q5]
   unfold pT vT
   by_cases h:c.2.2.2=0
   .rw [show (c.2.2.2 != 0)=false by simp [h],Q5,if_pos h];rfl
   .obtain ⟨v1,_⟩:=G.K5 h
    rw [show (c.2.2.2 != 0)=true by simp [h],Q4,show d+9=d+8+1 from rfl,F0 (by omega),Q8,Z5 v1.1,Q4,Mc T v1,if_neg h];rfl
  .rw [Vt (e:=fun f:dY=>pW c.2.1 (bK c.2.1 f.2.2.2.2)) (w:=8) c.2.2.1 0 [] (by simp;omega)]
   rfl
theorem cg (l:List UInt8):(⟨l.toArray⟩:ByteArray).size=l.length:=(rfl)
theorem Ok.cat {α:Type} {a b:ByteArray} {x:Option α} {Q:α->Prop} (ha:a.size<=100000) (hb:b.size<=100000) (h:Ok x Q):Ok (aa (Nat.ble (a.size+b.size) 9223372036854775807) x none) Q:=by
 rw [Qz9 (by omega)];exact h
theorem Quw {u:Nat} (h:u < 10):Go.Lib.decDigits u=[UInt8.ofNat (48+u)]:=by rw [Go.Lib.decDigits,dif_pos h]
theorem Qwq {u:Nat} (h:¬ u < 10):Go.Lib.decDigits u=Go.Lib.decDigits (u / 10)++[UInt8.ofNat (48+u % 10)]:=by rw [Go.Lib.decDigits,dif_neg h]
theorem Qux:∀ (j u:Nat),u < 10 ^ (j+1)->1<=(Go.Lib.decDigits u).length/\(Go.Lib.decDigits u).length<=j+1
 | 0,u,h=>by rw [Quw (by omega)];simp
 | j+1,u,h=>by
  by_cases h2:u < 10
  .rw [Quw h2];simp
  .have:=Qux j (u / 10) (by rw [Nat.pow_succ] at h;omega)
   rw [Qwq h2];simp;omega
theorem ED {d:Nat} {n:Int} (h0:0<=n) (h:n<=1000000000000):Ok (ke (d+1) n) fun s=>s.size<=20:=by
 obtain ⟨m,rfl⟩:=Int.eq_ofNat_of_zero_le h0
 rw [UC]
 unfold Co
 have e:Go.Lib.itoa (m:Int)=Go.Lib.decDigits m:=by unfold Go.Lib.itoa;rw [if_neg (by omega)];rfl
 rw [Z5 (by omega),Z5 (by omega),Bool.and_self,Q4,e]
 refine Ok.some ?_
 rw [cg]
 have:=(Qux 19 m (by omega)).2
 exact this
theorem Md {d:Nat} {n:Int} (h0:0<=n) (h:n<=1000000000):Ok (qy (d+2) n) fun s=>s.size<=21:=by
 obtain ⟨m,rfl⟩:=Int.eq_ofNat_of_zero_le h0
 have e2:((m:Int)).tdiv 1000000=((m / 1000000:Nat):Int):=rfl
 have e4:((m:Int)).tdiv 1000=((m / 1000:Nat):Int):=rfl
 have r0:∀ b,Ok (l_ (d+1) (m:Int) b) fun s=>s.size<=21:=by
  intro b
  unfold l_
  rw [e4,wr (n:=((m / 1000:Nat):Int)) (by omega) (by omega)]
  refine Ok.aa (fun _=>?_) (fun _=>?_)
  .refine Ok.bind (ED (by omega) (by omega)) fun s hs=>?_
   refine Ok.cat (by omega) (by (try simp only [Za,cg,Z9,Zb] at *);omega) (Ok.some ?_)
   (try simp only [Za,cg,Z9,Zb] at *);omega
  .exact Ok.bind (ED (by omega) (by omega)) fun s hs=>Ok.some (by omega)
 have r1:∀ b,Ok (mc (d+1) (m:Int) b) fun s=>s.size<=21:=by
  intro b
  unfold mc
  rw [e2,wr (n:=((m / 1000000:Nat):Int)) (by omega) (by omega)]
  refine Ok.aa (fun _=>?_) (fun _=>Ok.aa (fun _=>r0 _) (fun _=>r0 _))
  refine Ok.bind (ED (by omega) (by omega)) fun s hs=>?_
  refine Ok.cat (by omega) (by (try simp only [Za,cg,Z9,Zb] at *);omega) (Ok.some ?_)
  (try simp only [Za,cg,Z9,Zb] at *);omega
 rw [UF]
 exact Ok.aa (fun _=>r1 _) (fun _=>r1 _)
def Vv (x:aA):Prop:=(0<=x.1/\x.1<=1000000000)/\(0<=x.2.2.1/\x.2.2.1<=1000000000)/\(0<=x.2.2.2.1/\x.2.2.2.1<=1000000000)/\(0<=x.2.2.2.2.1/\x.2.2.2.2.1<=1000000000)/\(0<=x.2.2.2.2.2.1/\x.2.2.2.2.2.1<=1000000000)/\(0<=x.2.2.2.2.2.2.1/\x.2.2.2.2.2.2.1<=1000000000)
theorem Qbd {d:Nat} {x:aA} (h:Vv x):Ok (Cq (d+3) x) fun s=>s.size<=1000:=by
 obtain ⟨h1,h2,h3,h4,h5,h6⟩:=h
 rw [UG]
 refine Ok.bind (ED h1.1 (by omega)) fun r2 g2=>?_
 refine Ok.cat (by (try simp only [Za,cg,Z9,Zb] at *);omega) (by (try simp only [Za,cg,Z9,Zb] at *);omega) ?_
 refine Ok.cat (by (try simp only [Za,cg,Z9,Zb] at *);omega) (by (try simp only [Za,cg,Z9,Zb] at *);omega) ?_
 refine Ok.bind (Md h2.1 h2.2) fun r3 g3=>?_
 refine Ok.cat (by (try simp only [Za,cg,Z9,Zb] at *);omega) (by (try simp only [Za,cg,Z9,Zb] at *);omega) ?_
 refine Ok.cat (by (try simp only [Za,cg,Z9,Zb] at *);omega) (by (try simp only [Za,cg,Z9,Zb] at *);omega) ?_
 refine Ok.bind (Md h3.1 h3.2) fun r4 g4=>?_
 refine Ok.cat (by (try simp only [Za,cg,Z9,Zb] at *);omega) (by (try simp only [Za,cg,Z9,Zb] at *);omega) ?_
 refine Ok.cat (by (try simp only [Za,cg,Z9,Zb] at *);omega) (by (try simp only [Za,cg,Z9,Zb] at *);omega) ?_
 refine Ok.bind (Md h4.1 h4.2) fun r5 g5=>?_
 refine Ok.cat (by (try simp only [Za,cg,Z9,Zb] at *);omega) (by (try simp only [Za,cg,Z9,Zb] at *);omega) ?_
 refine Ok.cat (by (try simp only [Za,cg,Z9,Zb] at *);omega) (by (try simp only [Za,cg,Z9,Zb] at *);omega) ?_
 refine Ok.bind (Md h5.1 h5.2) fun r6 g6=>?_
 refine Ok.cat (by (try simp only [Za,cg,Z9,Zb] at *);omega) (by (try simp only [Za,cg,Z9,Zb] at *);omega) ?_
 refine Ok.cat (by (try simp only [Za,cg,Z9,Zb] at *);omega) (by (try simp only [Za,cg,Z9,Zb] at *);omega) ?_
 refine Ok.bind (ED h6.1 (by omega)) fun r7 g7=>?_
 refine Ok.cat (by (try simp only [Za,cg,Z9,Zb] at *);omega) (by (try simp only [Za,cg,Z9,Zb] at *);omega) (Ok.some ?_)
 (try simp only [Za,cg,Z9,Zb] at *);omega
def Me:ByteArray:=⟨#[48,49,50,51,52,53,54,55,56,57,97,98,99,100,101,102]⟩
theorem Qlp:Me.size=16:=rfl
theorem Vw {n:Nat} (h:n<=4294967295):IntKind.i64.wrap ((BitVec.ofInt IntKind.i64.bits (n:Int) &&& BitVec.ofInt IntKind.i64.bits 15).toNat:Int)=((n % 16:Nat):Int):=by
 have hb:IntKind.i64.bits=64:=rfl
 have e1:(BitVec.ofInt IntKind.i64.bits (n:Int)).toNat=n:=by
  rw [hb,BitVec.toNat_ofInt];omega
 have e2:(BitVec.ofInt IntKind.i64.bits 15).toNat=2 ^ 4 - 1:=by decide
 rw [BitVec.toNat_and,e1,e2,Nat.and_two_pow_sub_one_eq_mod,wr (by omega) (by omega)]
theorem Qha {d:Nat} {n:Int} (h0:0<=n) (h:n<=65535):Ok (Cs (d+2) n) fun r=>r.1.size<=1000:=by
 rw [UK,Z4 (by omega),Q5,Z4 (by omega),Q5]
 refine Ok.bind (P:=fun r=>r.1.size<=1000) ?_ fun r hr=>Ok.some hr
 rw [UJ,Z4 (by omega),Q5,Z4 (show ¬ n > 4294967295 by omega)]
 unfold qB
 rw [Q5]
 have fin:∀ s:ByteArray,s.size<=200->Ok (mg d s) fun r=>r.1.size<=1000:=by
  intro s hs
  unfold mg
  refine Ok.cat (by (try simp only [Za,cg,Z9,Zb] at *);omega) (by (try simp only [Za,cg,Z9,Zb] at *);omega) (Ok.some ?_)
  (try simp only [Za,cg,Z9,Zb] at *);omega
 refine mI (fun m (st:Int×ByteArray)=>0<=st.1/\st.1<=65535/\(st.1 < 16 ^ m\/bl st.2=[])/\(m<=5)/\(bl st.2=[]->m=5)/\st.2.size+m*16<=100) ?_ Qd 5 _ (by rw [Q6];omega) ⟨h0,h,Or.inr rfl,by omega,fun _=>rfl,by simp only;rw [show (⟨#[]⟩:ByteArray).size=0 from rfl];omega⟩
 rintro m ⟨n,s⟩ ag ⟨h1,h2,h3,h4,h5,h6⟩ eA
 simp only at h1 h2 h3 h4 h5 h6
 obtain ⟨k,rfl⟩:=Int.eq_ofNat_of_zero_le h1
 have FY:k % 16 < 16:=Nat.mod_lt _ (by omega)
 simp only [zD]
 have step:∀ b,(bl s=[]\/0 < k)->Ok (jA d (mg d) ag (k:Int) s b true) fun r=>r.1.size<=1000:=by
  intro b hb
  unfold jA
  rw [Q4,Vw (by omega)]
  have e2:((k:Int)).fdiv (2 ^ (min (4:Int).toNat IntKind.i64.bits))=((k / 16:Nat):Int):=by
   have:(2:Int) ^ (min (4:Int).toNat IntKind.i64.bits)=16:=rfl
   rw [this,Int.fdiv_eq_ediv_of_nonneg _ (by omega)];rfl
  rw [e2,aN (by omega)]
  change Ok (aa _ (aa _ (aa (Nat.ble _ _&&Nat.ble _ Me.size) (aa (Nat.ble ((Me.extract _ _).size+_) _) (ag (_,Me.extract _ _++s)) _) _) _) _) _
  simp only [Q3,nn,Q4]
  have hz:(Me.extract (k % 16) (k % 16+1)).size=1:=by rw [ByteArray.size_extract,Qlp];omega
  rw [Qwh (by omega) (by rw [Qlp];omega),Qz9 (by omega)]
  have hm:0 < m:=by
   rcases Nat.eq_zero_or_pos m with hm | hm
   .subst hm
    rcases hb with hb | hb
    .exact absurd (h5 hb) (by omega)
    .rcases h3 with h3 | h3
     .simp at h3;omega
     .exact absurd (h5 h3) (by omega)
   .exact hm
  obtain ⟨m',rfl⟩:∃ m',m=m'+1:=⟨m - 1,by omega⟩
  refine eA m' _ (by omega) ⟨by simp only;omega,by simp only;omega,Or.inl ?_,by omega,fun h=>?_,?_⟩
  .simp only
   rcases h3 with h3 | h3
   .have:k < 16 ^ m'*16:=by rw [Int.pow_succ] at h3;exact_mod_cast h3
    have:k / 16 < 16 ^ m':=Nat.div_lt_of_lt_mul (by rw [Nat.mul_comm];exact this)
    exact_mod_cast this
   .have:=h5 h3
    obtain rfl:m'=4:=by omega
    have:k / 16 < 16 ^ 4:=by omega
    exact_mod_cast this
  .have:=congrArg List.length h
   simp only at this
   rw [<- Qup,Za,hz] at this
   simp at this
  .simp only
   rw [Za,hz];omega
 refine Ok.aa (fun h=>step _ (Or.inr (by simpa using h))) (fun _=>?_)
 rw [Pm,Qz8 []]
 by_cases hb:bl s=[]
 .rw [Z5 hb];exact step _ (Or.inl hb)
 .rw [Z4 hb]
  unfold jA
  rw [Q5]
  exact fin s (by omega)
theorem Qhb {d:Nat} {x:dY} (h:zZ x=true) (ht:0<=x.2.2.2.2/\x.2.2.2.2<=1000000):Ok (GU (d+3) x) fun s=>s.size<=10000:=by
 unfold zZ at h
 simp only [Z8,Zj] at h
 obtain ⟨⟨h1,h2,h3,h4,h5,h6,h7,h8⟩,_⟩:=h
 rw [UM]
 refine Ok.bind (Qha h7 h8) fun r2 g2=>?_
 refine Ok.bind (Qha h5 h6) fun r3 g3=>?_
 refine Ok.bind (ED (by omega) (by omega)) fun r4 g4=>?_
 refine Ok.cat (by (try simp only [Za,cg,Z9,Zb] at *);omega) (by (try simp only [Za,cg,Z9,Zb] at *);omega) ?_
 refine Ok.cat (by (try simp only [Za,cg,Z9,Zb] at *);omega) (by (try simp only [Za,cg,Z9,Zb] at *);omega) ?_
 rw [UL,Q8,Z5 h3,Q4]
 have lp:x.2.1.toNat < 4:=by omega
 change Ok (aa (Nat.blt x.2.1.toNat 4) _ none) _
 rw [Qo lp,Q4]
 refine Ok.bind (P:=fun s=>s.size<=10) ?_ fun s6 g6=>?_
 .have:x.2.1.toNat < 4:=by omega
  match x.2.1.toNat,this with
  | 0,_=>exact Ok.some (by decide)
  | 1,_=>exact Ok.some (by decide)
  | 2,_=>exact Ok.some (by decide)
  | 3,_=>exact Ok.some (by decide)
 refine Ok.cat (by (try simp only [Za,cg,Z9,Zb] at *);omega) (by (try simp only [Za,cg,Z9,Zb] at *);omega) ?_
 refine Ok.cat (by (try simp only [Za,cg,Z9,Zb] at *);omega) (by (try simp only [Za,cg,Z9,Zb] at *);omega) ?_
 refine Ok.cat (by (try simp only [Za,cg,Z9,Zb] at *);omega) (by (try simp only [Za,cg,Z9,Zb] at *);omega) ?_
 refine Ok.cat (by (try simp only [Za,cg,Z9,Zb] at *);omega) (by (try simp only [Za,cg,Z9,Zb] at *);omega) ?_
 refine Ok.cat (by (try simp only [Za,cg,Z9,Zb] at *);omega) (by (try simp only [Za,cg,Z9,Zb] at *);omega) ?_
 refine Ok.cat (by (try simp only [Za,cg,Z9,Zb] at *);omega) (by (try simp only [Za,cg,Z9,Zb] at *);omega) ?_
 refine Ok.bind (ED ht.1 (by omega)) fun r7 g7=>?_
 refine Ok.cat (by (try simp only [Za,cg,Z9,Zb] at *);omega) (by (try simp only [Za,cg,Z9,Zb] at *);omega) ?_
 refine Ok.cat (by (try simp only [Za,cg,Z9,Zb] at *);omega) (by (try simp only [Za,cg,Z9,Zb] at *);omega) (Ok.some ?_)
 (try simp only [Za,cg,Z9,Zb] at *);omega
abbrev Pr:=Cf×List ByteArray×List Int×List Int×List Int
theorem Jz {d:Nat} {p:Pr} {n:Int} {s:ByteArray} (h0:0<=n) (h1:n<=100) (hs:s.size<=90000) (hl:p.2.1.length<=1000):Ok (nQ (d+2) p n s) fun r=>r.1=p.1/\r.2.1.length=p.2.1.length+1/\r.2.2=p.2.2:=by
 rw [UE,UD]
 refine Ok.bind (P:=fun r=>r.size<=5000) ?_ fun r hr=>?_
 .unfold Cp
  rw [Z5 h0,Z5 (show n<=1000000 by omega),Zg,Zg,show Nat.ble (⟨#[32,32]⟩:ByteArray).size 1000000=true from by decide,Q4]
  refine Ok.some ?_
  rw [cg]
  have:∀ (l:List UInt8) (k:Nat),(Go.Lib.repeatL l k).length=l.length*k:=by
   intro l k
   induction k with
   | zero=>simp [Go.Lib.repeatL]
   | succ k ih=>simp only [Go.Lib.repeatL,Zf,ih,Nat.mul_succ];omega
  rw [this]
  have:(⟨#[32,32]⟩:ByteArray).data.toList.length=2:=rfl
  rw [this];omega
 .refine Ok.cat (by omega) (by omega) ?_
  rw [room (by simp;omega),Q4]
  exact Ok.some ⟨rfl,by simp,rfl⟩
end Go.Proofs.YtcoimfbmgjhcjabGreatDoor
