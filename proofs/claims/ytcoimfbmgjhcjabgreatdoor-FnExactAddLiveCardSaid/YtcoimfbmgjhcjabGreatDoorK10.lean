/-
  What the cursor's functions and the small ones give by value. And what stood behind it in 9 texts.
  Conditions: said at the theorems.
-/
import Derived.Test.YtcoimfbmgjhcjabGreatDoorFnExactAddLiveRes
import Derived.Test.YtcoimfbmgjhcjabGreatDoorRepW
import Derived.Laws.Strings
set_option linter.all false
namespace Go.Proofs.YtcoimfbmgjhcjabGreatDoor
open Go.Ev Go.Pv
theorem wj {d:Nat} {x y z:Int}:jg (d+1) x y z=some (decide (y<=x/\x<=z)):=by
 rw [e55];simp only [vf];congr 1;rw [Bool.eq_iff_iff];simp
theorem Qp0 {d:Nat} {x y:Int}:Cq (d+1) x y=some (min x y):=by
 rw [T3];simp only [vf];congr 1;split<;>simp_all<;>omega
def bl (s:ByteArray):List UInt8:=s.data.toList
theorem Quk (s:ByteArray):s.size=(bl s).length:=rfl
theorem Qz5 (l:List UInt8):bl ⟨l.toArray⟩=l:=by simp [bl]
theorem Pf (a b:ByteArray):(a.toList==b.toList)=decide (bl a=bl b):=by
 rw [ByteArray.toList_eq,ByteArray.toList_eq]
 by_cases h:bl a=bl b
 .rw [Z5 h];simpa [bl] using h
 .rw [Z4 h];simpa [bl] using h
theorem LW {a b:Nat} (h:a<=b):Nat.ble a b=true:=by rw [Nat.ble_eq];exact h
theorem Qwe {α:Type} {a b n:Nat} {x y:Option α} (h1:a<=b) (h2:b<=n):aa (Nat.ble a b&&Nat.ble b n) x y=x:=by rw [LW h1,LW h2];rfl
theorem Qz6 {α:Type} {a b:Nat} {x y:Option α} (h:a+b<=9223372036854775807):aa (Nat.ble (a+b) 9223372036854775807) x y=x:=by rw [LW h];rfl
theorem Pg {α τ:Type} {p:α->Bool}:∀ (l:List α) (i:Nat) (t:τ),eg (fun x _ t k=>aa (p x) (some true) (k t)) (fun _=>some false) l i t=some (l.any p)
 | [],i,t=>rfl
 | x::r,i,t=>by
  simp only [eg,List.any_cons]
  cases p x with
  | true=>rfl
  | false=>exact Pg r (i+1) t
def KW:List ByteArray:=[(⟨#[113,100,105,115,99]⟩:ByteArray),(⟨#[100,101,102,97,117,108,116]⟩:ByteArray),(⟨#[99,108,97,115,115]⟩:ByteArray),(⟨#[114,97,116,101]⟩:ByteArray),(⟨#[99,101,105,108]⟩:ByteArray),(⟨#[98,117,114,115,116]⟩:ByteArray),(⟨#[99,98,117,114,115,116]⟩:ByteArray),(⟨#[112,114,105,111]⟩:ByteArray),(⟨#[108,105,109,105,116]⟩:ByteArray),(⟨#[102,105,108,116,101,114]⟩:ByteArray),(⟨#[115,111,117,114,99,101]⟩:ByteArray),(⟨#[100,101,115,116]⟩:ByteArray),(⟨#[112,111,114,116]⟩:ByteArray),(⟨#[109,97,114,107]⟩:ByteArray)]
def sm (c:UInt8):Bool:=decide (97<=c.toNat/\c.toNat<=122)
theorem Qp2 {d:Nat} {c:UInt8}:Gi (d+1) (c.toNat:Int)=some (sm c):=by
 rw [T5];unfold sm;simp only [vf];congr 1;rw [Bool.eq_iff_iff];simp;omega
def LX (s:ByteArray):Bool:=KW.any fun w=>decide (bl w=bl s)
theorem Qwf {d:Nat} {s:ByteArray}:Gk (d+1) s=some (LX s):=by
 rw [T6]
 refine (Qd (fun (t:Bool) (i:Int)=>(t,i)) KW (fun w _ t k=>aa (decide (bl w=bl s)) (some true) (k t)) (fun _=>some false) ?_ ?_ (by rw [Q6];decide) false).trans (Pg KW 0 _)
 .intro ag t i x hx
  have hi:=(Z0 hx).1
  have h14:KW.length=14:=rfl
  simp only [pX]
  change aa (decide ((i:Int) < 14)) (aa (decide (0<=(i:Int))) (Q1 (KW[(i:Int).toNat]?) _) none) _=_
  rw [Z5 (show (i:Int) < 14 by omega),Q4,nn,Q4,Q3,hx,Q9,Pf,aN (by omega)]
 .intro ag t
  simp only [pX]
  rw [Z4 (show ¬ ((KW.length:Nat):Int) < 14 by decide),Q5];rfl
theorem Qsi {d:Nat} {s:ByteArray}:FX (d+2) s=some (LX s):=by
 rw [TD,TC,Q9,TB]
 have:∀ X:Option Bool,X=some (LX s)->Q1 X (fun r3=>some r3)=some (LX s):=fun X h=>by rw [h];rfl
 refine this _ ?_
 refine (Qd (fun (t:Bool) (i:Int)=>(t,i)) KW (fun w _ t k=>aa (decide (bl w=bl s)) (some true) (k t)) (fun _=>some false) ?_ ?_ (by rw [Q6];decide) false).trans (Pg KW 0 _)
 .intro ag t i x hx
  have hi:=(Z0 hx).1
  have h14:KW.length=14:=rfl
  simp only [pn]
  change aa (decide ((i:Int) < ((KW.length:Nat):Int))) (aa (decide (0<=(i:Int))) (Q1 (KW[(i:Int).toNat]?) _) none) _=_
  rw [Z5 (show (i:Int) < ((KW.length:Nat):Int) by omega),Q4,nn,Q4,Q3,hx,Q9,Pf,aN (by omega)]
 .intro ag t
  simp only [pn]
  change aa (decide (((KW.length:Nat):Int) < ((KW.length:Nat):Int))) _ _=_
  rw [bB,Q5];rfl
theorem Qz7 (call:FuncId->List Value->Nat->Go.Ev.af->Option (Value×Go.Ev.af)):vg Tryz.prog Qb.ev call 127=vg Tryz.prog Qb.ev call 115:=by kernel_rfl
theorem Vf:Af Tryz.prog Qb.ev:=by
 intro g h
 by_cases hg:g=127
 .subst hg
  exact ⟨rfl,Qz7⟩
 .exact absurd (by unfold kB;split<;>simp_all) h
theorem Ph {f:Nat} (h0:f≠190) (h1:f≠202):Jt f=none/\Pe f=none:=by
 constructor
 .unfold Jt;split<;>simp_all
 .unfold Pe;split<;>simp_all
theorem extAll:mG Tryz.prog Qb:=by
 refine ⟨⟨fun f v h=>?_,fun f h=>?_,fun f h=>?_⟩,fun f e h=>?_,fun g h=>?_⟩
 .by_cases Ag:f=190
  .subst Ag
   have h':Jt 190=some v:=h
   have h2:some (fun (a:Int)=>Cv a)=some v:=h'
   injection h2 with h2
   subst h2
   exact ⟨_,rfl,Qxc⟩
  .by_cases vh:f=202
   .subst vh
    have h':Jt 202=some v:=h
    have h2:some (fun (a:ByteArray×Int)=>Cw a.1 a.2)=some v:=h'
    injection h2 with h2
    subst h2
    exact ⟨_,rfl,Vg⟩
   .have:Jt f=some v:=h
    rw [(Ph Ag vh).1] at this;simp at this
 .by_cases Ag:f=190
  .subst Ag
   have h2:some (fun (a:Int)=>Cv a)=none:=h
   simp at h2
  .by_cases vh:f=202
   .subst vh
    have h2:some (fun (a:ByteArray×Int)=>Cw a.1 a.2)=none:=h
    simp at h2
   .exact (Ph Ag vh).2
 .by_cases Ag:f=190
  .subst Ag
   have h2:false=true:=h
   simp at h2
  .by_cases vh:f=202
   .subst vh
    have h2:false=true:=h
    simp at h2
   .exact (Ph Ag vh).1
 .by_cases Ag:f=190
  .subst Ag
   have h2:some Hi=some e:=h
   injection h2 with h2
   subst h2
   exact Qtl
  .by_cases vh:f=202
   .subst vh
    have h2:some Hj=some e:=h
    injection h2 with h2
    subst h2
    exact Qxe
   .have h2:Pe f=some e:=h
    rw [(Ph Ag vh).2] at h2;simp at h2
 .first | exact absurd rfl h | exact Vf g h
abbrev aA:=Int×Int×Int×Int×Int×Int×Int×Int
abbrev dJ:=Int×Int×Int×Int×Int
abbrev Cf:=ByteArray×List aA×List dJ×Int
abbrev Ld:=ByteArray×List aA×List Int×List Int×List Int×List Int×List dJ×List Int×Int
abbrev Tk:=List Int×List Int
def zC:Cf:=(⟨#[]⟩,[],[],0)
def fy {α:Type} (p:α->Bool):List α->Nat->Int
 | [],_=>-1
 | x::r,i=>if p x=true then (i:Int) else fy p r (i+1)
theorem Eu {α τ:Type} {p:α->Bool}:∀ (l:List α) (i:Nat) (t:τ),eg (fun x i t k=>aa (p x) (some ((i:Nat):Int)) (k t)) (fun _=>some (-1)) l i t=some (fy p l i)
 | [],i,t=>rfl
 | x::r,i,t=>by
  simp only [eg,fy]
  cases p x with
  | true=>rfl
  | false=>simp only [Q5,Bool.false_eq_true,if_false];exact Eu r (i+1) t
theorem K8 {α:Type} {p:α->Bool}:∀ {l:List α} {i:Nat},fy p l i < 0↔∀ x∈l,p x=false
 | [],i=>by simp [fy]
 | x::r,i=>by
  simp only [fy,List.mem_cons,forall_eq_or_imp]
  cases p x with
  | true=>simp
  | false=>simp only [Bool.false_eq_true,if_false,true_and];exact K8
theorem Ju {α:Type} {p:α->Bool}:∀ {l:List α} {i:Nat},0<=fy p l i->∃ (k:Nat) (x:α),fy p l i=((i+k:Nat):Int)/\l[k]? = some x/\p x=true/\∀ j y,j < k->l[j]? = some y->p y=false
 | [],i,h=>by simp [fy] at h
 | x::r,i,h=>by
  simp only [fy] at h ⊢
  cases hp:p x with
  | true=>exact ⟨0,x,by simp,rfl,hp,fun j y hj=>by omega⟩
  | false =>
   simp only [hp,Bool.false_eq_true,if_false] at h ⊢
   obtain ⟨k,y,h1,h2,h3,h4⟩:=Ju h
   refine ⟨k+1,y,by rw [h1];congr 1;omega,h2,h3,fun j z hj hz=>?_⟩
   cases j with
   | zero=>simp at hz;subst hz;exact hp
   | succ j=>exact h4 j z (by omega) (by simpa using hz)
theorem Qda {α τ β:Type} {p:α->Bool} {b1 b2:Option β}:∀ (l:List α) (i:Nat) (t:τ),eg (fun x _ t k=>aa (p x) b1 (k t)) (fun _=>b2) l i t=aa (l.any p) b1 b2
 | [],i,t=>rfl
 | x::r,i,t=>by
  simp only [eg,List.any_cons]
  cases p x with
  | true=>rfl
  | false=>exact Qda r (i+1) t
def bP (l:List aA) (id:Int):Int:=fy (fun x=>x.1==id) l 0
def nT (l:List aA) (id:Int):List Int:=fR (fun x _=>x.2.1==id) (fun _ k=>((k:Nat):Int)) l 0
def gP (l:List aA) (id:Int):Bool := !(l.any fun x=>x.2.1==id)
theorem LY {α γ:Type} {c:α->Bool} {e:α->Nat->γ}:∀ (l:List α) (i:Nat),((fR (fun x _=>c x) e l i).length==0) = !(l.any c)
 | [],i=>rfl
 | x::r,i=>by
  simp only [fR,List.any_cons]
  by_cases h:c x=true
  .rw [if_pos h,h];simp
  .rw [if_neg h,Bool.eq_false_iff.2 h,Bool.false_or];exact LY r (i+1)
theorem Qgu {l:List aA} {id:Int}:((((nT l id).length:Nat):Int)==0)=gP l id:=by
 have:=LY (c:=fun x:aA=>x.2.1==id) (e:=fun _ k=>((k:Nat):Int)) l 0
 unfold nT gP
 rw [<- this,Bool.eq_iff_iff,beq_iff_eq,beq_iff_eq];omega
theorem Pj {l:List aA} {id:Int}:(nT l id).length<=l.length:=Vh _ _
theorem Qld {l:List aA} {id n:Int} (h:n∈nT l id):∃ (k:Nat) (x:aA),n=(k:Int)/\l[k]? = some x/\x.2.1=id:=by
 obtain ⟨j,x,h1,h2,h3⟩:=Vi _ _ h
 exact ⟨j,x,by simpa using h3,h1,by simpa using h2⟩
theorem w6 {l:List aA} {id:Int} (h:0<=bP l id):∃ (k:Nat) (x:aA),bP l id=(k:Int)/\l[k]? = some x/\x.1=id:=by
 obtain ⟨k,x,h1,h2,h3,_⟩:=Ju h
 exact ⟨k,x,by unfold bP;simpa using h1,h2,by simpa using h3⟩
theorem Vj {l:List aA} {id:Int}:bP l id < 0↔∀ x∈l,x.1≠id:=by
 unfold bP;rw [K8];simp
theorem OY {d:Nat} {c:Cf} {id:Int} (hl:c.2.1.length < 4000000):Jm (d+3) c id=some (bP c.2.1 id):=by
 rw [e74]
 refine (Qd (fun (t:Int) (i:Int)=>(t,i)) c.2.1 (fun x i t k=>aa (x.1==id) (some ((i:Nat):Int)) (k t)) (fun _=>some (-1)) ?_ ?_ (by rw [Q6];omega) 0).trans (Eu c.2.1 0 _)
 .intro ag t i x hx;have hi:=(Z0 hx).1;simp only [hO,bX hx,nn,Q3,hx,Q9,Q4];rw [aN (by omega)]
 .intro ag t;simp only [hO,bB,Q5];rfl
theorem Jh {d:Nat} {c:Cf} {id:Int} (hl:c.2.1.length < 4000000):Em (d+1) c id=some (bP c.2.1 id):=by
 rw [e62]
 refine (Qd (fun (t:Int) (i:Int)=>(t,i)) c.2.1 (fun x i t k=>aa (x.1==id) (some ((i:Nat):Int)) (k t)) (fun _=>some (-1)) ?_ ?_ (by rw [Q6];omega) 0).trans (Eu c.2.1 0 _)
 .intro ag t i x hx;have hi:=(Z0 hx).1;simp only [yj,bX hx,nn,Q3,hx,Q9,Q4];rw [aN (by omega)]
 .intro ag t;simp only [yj,bB,Q5];rfl
theorem OZ {d:Nat} {c:Cf} {n:Nat} {y:aA} (hn:c.2.1[n]? = some y) (hl:c.2.1.length < 4000000):GG (d+4) c (n:Int)=some (gP c.2.1 y.1):=by
 rw [e75]
 refine (Qd (fun (t:Int) (i:Int)=>(t,i)) c.2.1 (fun x i t k=>aa (x.2.1==y.1) (some false) (k t)) (fun _=>some true) ?_ ?_ (by rw [Q6];omega) 0).trans ?_
 .intro ag t i x hx;have hi:=(Z0 hx).1;simp only [er,bX hx,nn,Q3,hx,Q9,Q4];rw [aN (by omega)]
  rw [hn,Q9];rfl
 .intro ag t;simp only [er,bB,Q5];rfl
 .rw [Qda];unfold gP;cases c.2.1.any _<;>rfl
theorem Q9t {d:Nat} {c:Cf} {n:Nat} {y:aA} (hn:c.2.1[n]? = some y) (hl:c.2.1.length<=1000):zg (d+1) c (n:Int)=some (nT c.2.1 y.1):=by
 rw [Ui]
 refine (Qd (fun (t:List Int) (i:Int)=>(t,i)) c.2.1 (fun x i t k=>aa (x.2.1==y.1) (aa (Nat.ble ((t.length+[((i:Nat):Int)].length)*8) Q7) (k (t++[((i:Nat):Int)])) none) (k t)) (fun t=>some t) ?_ ?_ (by rw [Q6];omega) []).trans ?_
 .intro ag t i x hx;have hi:=(Z0 hx).1;simp only [qc,bX hx,nn,Q3,hx,Q9,Q4];rw [aN (by omega)]
  rw [hn,Q9]
 .intro ag t;simp only [qc,bB,Q5];rfl
 .exact Ew (c:=fun x _=>x.2.1==y.1) (e:=fun (_:aA) (k:Nat)=>((k:Nat):Int)) (w:=8) c.2.1 0 [] (by simp;omega)
theorem Pm {d:Nat} {c:Cf} {n:Nat} {y:aA} (hn:c.2.1[n]? = some y) (hl:c.2.1.length<=1000):lz (d+1) c (n:Int)=some (nT c.2.1 y.1):=by
 rw [TA]
 refine (Qd (fun (t:List Int) (i:Int)=>(t,i)) c.2.1 (fun x i t k=>aa (x.2.1==y.1) (aa (Nat.ble ((t.length+[((i:Nat):Int)].length)*8) Q7) (k (t++[((i:Nat):Int)])) none) (k t)) (fun t=>some t) ?_ ?_ (by rw [Q6];omega) []).trans ?_
 .intro ag t i x hx;have hi:=(Z0 hx).1;simp only [pg,bX hx,nn,Q3,hx,Q9,Q4];rw [aN (by omega)]
  rw [hn,Q9]
 .intro ag t;simp only [pg,bB,Q5];rfl
 .exact Ew (c:=fun x _=>x.2.1==y.1) (e:=fun (_:aA) (k:Nat)=>((k:Nat):Int)) (w:=8) c.2.1 0 [] (by simp;omega)
theorem Qle {d:Nat} {c:Cf} {n:Nat} {y:aA} (hn:c.2.1[n]? = some y) (hl:c.2.1.length<=1000):Jj (d+2) c (n:Int)=some (gP c.2.1 y.1):=by
 rw [e87,Pm hn hl,Q9,Qgu]
def wk (l:List aA) (id:Int):Bool:=decide (0<=bP l id)&&gP l id
theorem Vk {d:Nat} {c:Cf} {id:Int} (hl:c.2.1.length<=1000):zh (d+5) c id=some (wk c.2.1 id):=by
 rw [Un,OY (by omega),Q9]
 unfold wk
 by_cases h:0<=bP c.2.1 id
 .obtain ⟨k,x,h1,h2,h3⟩:=w6 h
  rw [Z5 h,Q4,h1,OZ h2 (by omega),Q9,h3,Zg]
 .rw [Z4 h];rfl
theorem Vl {d:Nat} {c:Cf} {id:Int} (hl:c.2.1.length<=1000):Lo (d+3) c id=some (wk c.2.1 id):=by
 rw [e60,Jh (by omega),Q9]
 unfold wk
 by_cases h:0<=bP c.2.1 id
 .obtain ⟨k,x,h1,h2,h3⟩:=w6 h
  rw [Z5 h,Q4,h1,Qle h2 hl,Q9,h3,Zg]
 .rw [Z4 h];rfl
def Bu (s:ByteArray):Bool:=decide (1<=s.size/\s.size<=8)&&((bl s).all sm && !LX s)
theorem Qsj {d:Nat} {s:ByteArray}:Gl (d+2) s=some (Bu s):=by
 rw [T7]
 unfold Bu p5
 by_cases h0:((s.size:Nat):Int) < 1
 .rw [Z5 h0,Q4,Q4,Z4 (by omega)];rfl
 rw [Z4 h0,Q5]
 by_cases h2:((s.size:Nat):Int) > 8
 .rw [Z5 h2,Q4,Z4 (by omega)];rfl
 rw [Z4 h2,Q5,Z5 (show 1<=s.size/\s.size<=8 by omega),Zg]
 have hs:(bl s).length < 4194304:=by rw [<- Quk];omega
 refine (Qd (fun (t:Bool) (i:Int)=>(t,i)) (bl s) (fun x _ t k=>aa (sm x) (k t) (some false)) (pY (d+1) s) ?_ ?_ (by rw [Q6];exact hs) false).trans ?_
 .intro ag t i x hx
  have hi:=(Z0 hx).1
  have sH:s.data.toList[i]? = some x:=hx
  have bf:s.size=(bl s).length:=rfl
  simp only [pZ]
  rw [Z5 (show (i:Int) < ((s.size:Nat):Int) by omega),Q4,nn,Q4,Q3,sH,Q9,Qp2,Q9,aN (by omega)]
  cases sm x<;>rfl
 .intro ag t
  simp only [pZ]
  rw [show ((s.size:Nat):Int)=(((bl s).length:Nat):Int) from rfl,bB,Q5]
 .rw [CL]
  cases (bl s).all sm with
  | false=>rfl
  | true =>
   rw [Q4,Zg]
   unfold pY
   rw [Qwf,Q9]
theorem Qsk {d:Nat} {s:ByteArray} (hs:s.size < 4000000):TE (d+3) s=some (Bu s):=by
 rw [e95]
 unfold Bu
 have bf:s.size=(bl s).length:=rfl
 refine (Qd (fun (t:Bool) (i:Int)=>(t,i)) (bl s) (fun x _ t k=>aa (sm x) (k t) (some false)) (yp (d+2) s) ?_ ?_ (by rw [Q6];omega) false).trans ?_
 .intro ag t i x hx
  have hi:=(Z0 hx).1
  have sH:s.data.toList[i]? = some x:=hx
  simp only [yq]
  rw [Z5 (show (i:Int) < ((s.size:Nat):Int) by omega),Q4,nn,Q4,Q3,sH,Q9,Q4,Q9,aN (by omega)]
  unfold sm
  by_cases h1:(x.toNat:Int) < 97
  .rw [Z5 h1,Q4,Z4 (by omega)];rfl
  .rw [Z4 h1,Q5]
   by_cases h2:(x.toNat:Int) > 122
   .rw [Z5 h2,Q4,Z4 (by omega)];rfl
   .rw [Z4 h2,Q5,Z5 (by omega)];rfl
 .intro ag t
  simp only [yq]
  rw [show ((s.size:Nat):Int)=(((bl s).length:Nat):Int) from rfl,bB,Q5]
 .rw [CL]
  cases (bl s).all sm with
  | false=>rw [Q5,Bool.false_and,Bool.and_false]
  | true =>
   rw [Q4,Zg]
   unfold yp
   rw [wj,Q9]
   by_cases h:1<=s.size/\s.size<=8
   .rw [Z5 (show (1:Int)<=((s.size:Nat):Int)/\((s.size:Nat):Int)<=8 by omega),Q4,Qsi,Q9,Z5 h,Zg]
   .rw [Z4 (show ¬ ((1:Int)<=((s.size:Nat):Int)/\((s.size:Nat):Int)<=8) by omega),Q5,Z4 h];rfl
def zc8:aA:=(0,0,0,0,0,0,0,0)
def aV (l:List aA) (i:Int):aA:=l.getD i.toNat zc8
def eI {α:Type} (p:α->Nat->Bool):List α->Nat->Bool
 | [],_=>true
 | x::r,i=>p x i&&eI p r (i+1)
theorem qQ {α τ β:Type} {p:α->Nat->Bool} {no:Option β} {fin:τ->Option β}:∀ (l:List α) (i:Nat) (t:τ),eg (fun x i t k=>aa (p x i) (k t) no) fin l i t=aa (eI p l i) (fin t) no
 | [],i,t=>rfl
 | x::r,i,t=>by
  simp only [eg,eI]
  cases p x i with
  | true=>simp only [Q4,Zg];exact qQ r (i+1) t
  | false=>rfl
theorem o_ {α:Type} {p:α->Nat->Bool}:∀ {l:List α} {i:Nat},eI p l i=true↔∀ j x,l[j]? = some x->p x (i+j)=true
 | [],i=>by simp [eI]
 | x::r,i=>by
  simp only [eI,Z8,o_ (l:=r)]
  constructor
  .rintro ⟨h1,h2⟩ j y hy
   cases j with
   | zero=>simp at hy;subst hy;exact h1
   | succ j=>have:=h2 j y (by simpa using hy);rw [show i+(j+1)=i+1+j by omega];exact this
  .intro h
   exact ⟨h 0 x rfl,fun j y hy=>by have:=h (j+1) y (by simpa using hy);rw [show i+1+j=i+(j+1) by omega];exact this⟩
theorem Qlf {α:Type} {p q:α->Nat->Bool} {l:List α} {i:Nat}:eI (fun x j=>p x j&&q x j) l i=(eI p l i&&eI q l i):=by
 rw [Bool.eq_iff_iff,Z8,o_,o_,o_]
 simp only [Z8]
 exact ⟨fun h=>⟨fun j x hx=>(h j x hx).1,fun j x hx=>(h j x hx).2⟩,fun h j x hx=>⟨h.1 j x hx,h.2 j x hx⟩⟩
theorem Vm {α:Type} {p:α->Bool}:∀ {l:List α} {i:Nat},eI (fun x _=>p x) l i=l.all p
 | [],_=>rfl
 | x::r,i=>by simp only [eI,List.all_cons];rw [Vm (l:=r)]
def Ah (l:List aA) (x:aA) (i:Nat):Bool:=decide (1<=x.1/\x.1<=999)&&(decide (i=0) || decide ((aV l ((i:Int) - 1)).1 < x.1))
def vi (l:List aA):Nat:=(l.filter fun x=>x.2.1==0).length
def Ex (l:List aA):Bool:=l.all fun x=>x.2.1==0 || decide (0<=bP l x.2.1)
def cR (l:List aA):Nat->Int->List Int
 | 0,_=>[]
 | f+1,i=>if i < 0 then [] else i::cR l f (bP l (aV l i).2.1)
def nU (u:List Int):Int:=u.getD (u.length - 1) 0
def wm (l:List aA) (i:Nat):Bool:=decide ((cR l 9 i).length<=8)&&((aV l (nU (cR l 9 i))).2.1==0)
theorem jL {l:List aA} {n:Nat} {x:aA} (h:l[n]? = some x):aV l (n:Int)=x:=by unfold aV;rw [Q3,Zr,h];rfl
theorem Hl {l:List aA} {i:Int} (h0:0<=i) (h:i < ((l.length:Nat):Int)):l[i.toNat]? = some (aV l i):=by
 have:i.toNat < l.length:=by omega
 unfold aV;rw [Zr,Z6 this];rfl
theorem Bl {l:List aA} {id:Int}:bP l id < ((l.length:Nat):Int):=by
 by_cases h:0<=bP l id
 .obtain ⟨k,x,h1,h2,_⟩:=w6 h
  have:=(Z0 h2).1
  omega
 .omega
theorem Qz8 {d:Nat} {n:Int}:Gm (d+1) n=some (decide (1<=n/\n<=999)):=by
 rw [T8]
 by_cases h:n>=1
 .rw [Z5 h,Q4];congr 1;rw [Bool.eq_iff_iff];simp;omega
 .rw [Z4 h,Q5];congr 1;symm;rw [decide_eq_false_iff_not];omega
def rQ (l:List aA):Bool:=eI (Ah l) l 0
theorem FR {i:Nat} (h:i < 9223372036854775807) (h0:0 < i):IntKind.i64.wrap ((i:Int) - 1)=((i - 1:Nat):Int):=by rw [wr (by omega) (by omega)];omega
theorem Qn2 {d:Nat} {c:Cf} (hl:c.2.1.length < 4000000):Gn (d+2) c=some (rQ c.2.1&&decide (1<=c.2.1.length/\c.2.1.length<=24)):=by
 rw [T9]
 refine (Qd (fun (t:Bool) (i:Int)=>(t,i)) c.2.1 (fun x i t k=>aa (Ah c.2.1 x i) (k t) (some false)) (fun _=>some (decide (1<=c.2.1.length/\c.2.1.length<=24))) ?_ ?_ (by rw [Q6];omega) false).trans ?_
 .intro ag t i x hx
  have hi:=(Z0 hx).1
  simp only [p6,bX hx,nn,Q3,hx,Q9,Q4]
  rw [Qz8,Q9,aN (by omega)]
  unfold Ah
  cases decide (1<=x.1/\x.1<=999) with
  | false=>rfl
  | true =>
   rw [Zl,Q5,Zg]
   by_cases h0:i=0
   .subst h0;rfl
   .rw [Z5 (show (i:Int) > 0 by omega),Q4,FR (by omega) (by omega),nn,Q4,Q3,Z6 (show i - 1 < c.2.1.length by omega),Q9,Z4 h0,Bool.false_or]
    rw [show (i:Int) - 1=((i - 1:Nat):Int) by omega,jL (Z6 (show i - 1 < c.2.1.length by omega))]
    by_cases h:x.1<=(c.2.1[i - 1]).1
    .rw [Z5 h,Z4 (by omega)];rfl
    .rw [Z4 h,Z5 (by omega)];rfl
 .intro ag t
  simp only [p6,bB,Q5]
  unfold zc
  by_cases h:((c.2.1.length:Nat):Int)>=1
  .rw [Z5 h,Q4];congr 1;rw [Bool.eq_iff_iff];simp;omega
  .rw [Z4 h,Q5];congr 1;symm;rw [decide_eq_false_iff_not];omega
 .rw [qQ];unfold rQ;cases eI (Ah c.2.1) c.2.1 0<;>rfl
theorem Pn {α:Type} {p:α->Bool}:∀ (l:List α) (i t:Nat),t+l.length < 4000000->cF (fun x _ (t:Int)=>if p x=true then IntKind.i64.wrap (t+1) else t) l i (t:Int)=((t+(l.filter p).length:Nat):Int)
 | [],i,t,_=>by simp [cF]
 | x::r,i,t,h=>by
  simp only [Z9] at h
  simp only [cF,List.filter_cons]
  cases p x with
  | true =>
   simp only [if_true]
   rw [aN (by omega),Pn r (i+1) (t+1) (by omega)]
   simp;omega
  | false=>simp only [Bool.false_eq_true,if_false];exact Pn r (i+1) t (by omega)
theorem Qgv {d:Nat} {c:Cf} (hl:c.2.1.length<=1000):Ok (Gq (d+4) c) fun r=>((((r.length:Nat):Int))==0)=Ex c.2.1:=by
 rw [T_]
 refine ⟨fR (fun x _ => !(x.2.1==0 || decide (0<=bP c.2.1 x.2.1))) (fun _ k=>((k:Nat):Int)) c.2.1 0,?_,?_⟩
 .refine (Qd (fun (t:List Int) (i:Int)=>(t,i)) c.2.1 (fun x i t k=>aa (!(x.2.1==0 || decide (0<=bP c.2.1 x.2.1))) (aa (Nat.ble ((t.length+[((i:Nat):Int)].length)*8) Q7) (k (t++[((i:Nat):Int)])) none) (k t)) (fun t=>some t) ?_ ?_ (by rw [Q6];omega) []).trans ?_
  .intro ag t i x hx;have hi:=(Z0 hx).1;simp only [p8,bX hx,nn,Q3,hx,Q9,Q4]
   unfold p7
   rw [aN (by omega)]
   by_cases h:x.2.1=0
   .rw [show (x.2.1 != 0)=false by simp [h],Q5,Q5,show (x.2.1==0)=true by simp [h],Bool.true_or];rfl
   .rw [show (x.2.1 != 0)=true by simp [h],Q4,OY (by omega),Q9,show (x.2.1==0)=false by simp [h],Bool.false_or]
    by_cases h2:bP c.2.1 x.2.1 < 0
    .rw [Z5 h2,Q4,Z4 (by omega)];rfl
    .rw [Z4 h2,Q5,Z5 (by omega)];rfl
  .intro ag t;simp only [p8,bB,Q5];rfl
  .exact Ew (c:=fun x _ => !(x.2.1==0 || decide (0<=bP c.2.1 x.2.1))) (e:=fun (_:aA) (k:Nat)=>((k:Nat):Int)) (w:=8) c.2.1 0 [] (by simp;omega)
 .have:=LY (c:=fun x:aA => !(x.2.1==0 || decide (0<=bP c.2.1 x.2.1))) (e:=fun _ k=>((k:Nat):Int)) c.2.1 0
  unfold Ex
  rw [show (c.2.1.all fun x=>x.2.1==0 || decide (0<=bP c.2.1 x.2.1)) = !(c.2.1.any fun x => !(x.2.1==0 || decide (0<=bP c.2.1 x.2.1))) by simp [List.all_eq_not_any_not],<- this]
  simp only []
  rw [Bool.eq_iff_iff,beq_iff_eq,beq_iff_eq]
  omega
theorem Qcv {d:Nat} {c:Cf} (hl:c.2.1.length<=1000):Gr (d+5) c=some (decide (vi c.2.1=1)&&Ex c.2.1):=by
 rw [T']
 refine (Qd (fun (t:Int) (i:Int)=>(t,i)) c.2.1 (fun x _ t k=>k (if (x.2.1==0)=true then IntKind.i64.wrap (t+1) else t)) (p9 (d+4) c) ?_ ?_ (by rw [Q6];omega) 0).trans ?_
 .intro ag t i x hx;have hi:=(Z0 hx).1;simp only [p_,bX hx,nn,Q3,hx,Q9,Q4];rw [aN (by omega)]
  cases (x.2.1==0)<;>rfl
 .intro ag t;simp only [p_,bB,Q5]
 .rw [xe (f:=fun (x:aA) _ (t:Int)=>if (x.2.1==0)=true then IntKind.i64.wrap (t+1) else t)]
  have:=Pn (p:=fun x:aA=>x.2.1==0) c.2.1 0 0 (by omega)
  rw [show ((0:Nat):Int)=0 from rfl] at this
  rw [this,Zo]
  unfold p9
  rw [show (c.2.1.filter fun x=>x.2.1==0).length=vi c.2.1 from rfl]
  by_cases h:vi c.2.1=1
  .rw [show (((vi c.2.1:Nat):Int)==1)=true by rw [beq_iff_eq];omega,Q4,Z5 h,Zg]
   obtain ⟨r,h1,h2⟩:=Qgv (d:=d) hl
   rw [h1,Q9,h2]
  .rw [show (((vi c.2.1:Nat):Int)==1)=false by rw [beq_eq_false_iff_ne];omega,Q5,Z4 h];rfl
theorem Po {l:List aA}:∀ (f g:Nat) (i:Int),(cR l f i).length < f->f<=g->cR l g i=cR l f i
 | 0,g,i,h,_=>by omega
 | f+1,0,i,h,hg=>by omega
 | f+1,g+1,i,h,hg=>by
  simp only [cR] at h ⊢
  by_cases hi:i < 0
  .rw [if_pos hi,if_pos hi]
  .rw [if_neg hi] at h ⊢
   rw [if_neg hi,Po f g _ (by simpa using h) (by omega)]
theorem Vn {l:List aA} {f:Nat} {i:Int} (h:0<=i):cR l (f+1) i=i::cR l f (bP l (aV l i).2.1):=by
 simp only [cR];rw [if_neg (by omega)]
theorem Pp {l:List aA} {i:Int} (h0:0<=i) (h:(cR l 9 i).length<=8):(cR l 9 i)=i::cR l 9 (bP l (aV l i).2.1):=by
 have e:cR l 9 i=i::cR l 8 (bP l (aV l i).2.1):=by
  conv=>lhs;unfold cR
  rw [if_neg (by omega)]
 rw [e] at h ⊢
 simp only [Z9] at h
 rw [Po 8 9 _ (by omega) (by omega)]
theorem Vo {l:List aA}:∀ (f:Nat) (i:Int),i < ((l.length:Nat):Int)->∀ n∈cR l f i,0<=n/\n < ((l.length:Nat):Int)
 | 0,_,_,n,hn=>by simp [cR] at hn
 | f+1,i,h,n,hn=>by
  simp only [cR] at hn
  split at hn
  .simp at hn
  .rcases Z2 hn with rfl | hn
   .exact ⟨by omega,h⟩
   .exact Vo f _ Bl n hn
theorem Qp4 {l:List Int} {n:Int} (h:fy (fun x=>x==n) l 0 < 0):n∉l:=by
 rw [K8] at h
 intro hm
 have:=h n hm
 simp at this
theorem Qp5 {d:Nat} {l:List Int} {n:Int} (hl:l.length < 4000000):zd (d+1) l n=some (fy (fun x=>x==n) l 0):=by
 rw [Uc]
 refine (Qd (fun (t:Int) (i:Int)=>(t,i)) l (fun x i t k=>aa (n==x) (some ((i:Nat):Int)) (k t)) (fun _=>some (-1)) ?_ ?_ (by rw [Q6];omega) 0).trans ?_
 .intro ag t i x hx;have hi:=(Z0 hx).1;simp only [qa,bX hx,nn,Q3,hx,Q9,Q4];rw [aN (by omega)]
 .intro ag t;simp only [qa,bB,Q5];rfl
 .rw [show (fun (x:Int) (i:Nat) (t:Int) (k:Int->Option Int)=>aa (n==x) (some ((i:Nat):Int)) (k t))=fun x i t k=>aa (x==n) (some ((i:Nat):Int)) (k t) by funext x i t k;rw [BEq.comm]]
  exact Eu l 0 _
theorem Qn3 {d:Nat} {l:List Int} {n:Int} (hl:l.length < 4000000):Gt (d+2) l n=some (decide (0<=fy (fun x=>x==n) l 0)):=by
 rw [Ud,Qp5 hl,Q9]
theorem Pq {l:List Int} {n:Nat} (h:l.Nodup) (h2:∀ x∈l,0<=x/\x < (n:Int)):l.length<=n:=by
 have:=List.Nodup.length_le_of_subset (l₂:=(List.range n).map fun (k:Nat)=>(k:Int)) h (fun x hx=>by
  obtain ⟨h3,h4⟩:=h2 x hx
  exact List.mem_map.2 ⟨x.toNat,List.mem_range.2 (by omega),by omega⟩)
 simpa using this
theorem Qsl {d:Nat} {c:Cf} {i:Nat} (hi:i < c.2.1.length) (hl:c.2.1.length<=24):Ok (Gu (d+4) c (i:Int)) fun r=>(r.2=true->cR c.2.1 (r.1.length+1) (i:Int)=r.1/\0 < r.1.length)/\(r.2=false->8 < (cR c.2.1 9 (i:Int)).length):=by
 rw [Ue]
 refine mH (fun m (st:Int×List Int×Bool×List Int)=>m=24 - st.2.2.2.length/\st.1 < ((c.2.1.length:Nat):Int)/\st.2.2.2.Nodup/\(∀ x∈st.2.2.2,0<=x/\x < ((c.2.1.length:Nat):Int))/\(∀ f,cR c.2.1 (st.2.2.2.length+f) (i:Int)=st.2.2.2++cR c.2.1 f st.1)/\(st.2.2.2=[]->st.1=(i:Int)) /\
  ((cR c.2.1 9 (i:Int)).length<=8->(cR c.2.1 9 st.1).length<=8/\∀ y∈st.2.2.2,(cR c.2.1 9 st.1).length < (cR c.2.1 9 y).length)) ?_ _ 24 _ (by rw [Q6];omega) ⟨rfl,by simp only;omega,by simp,by simp,fun f=>by simp,fun _=>rfl,fun h=>⟨h,by simp⟩⟩
 rintro m ⟨n,l5,b,out⟩ ag ⟨hm,hn,hnd,nV,o7,eR,hlen⟩ ez
 simp only at hm hn hnd nV o7 eR hlen
 have hol:=Pq hnd nV
 simp only [zf]
 by_cases h0:n>=0
 case neg =>
  rw [Z4 h0,Q5]
  unfold ze
  refine Ok.some ⟨fun _=>?_,fun h=>by simp at h⟩
  have:=o7 1
  simp only [cR,if_pos (show n < 0 by omega),List.append_nil] at this
  refine ⟨this,?_⟩
  rcases Nat.eq_zero_or_pos out.length with h | h
  .have:=eR (List.eq_nil_of_length_eq_zero h);omega
  .exact h
 rw [Z5 h0,Q4,Qn3 (by omega),Q9]
 by_cases hc:0<=fy (fun x=>x==n) out 0
 .rw [Z5 hc,Q4]
  refine Ok.some ⟨fun h=>by simp at h,fun _=>?_⟩
  rcases Nat.lt_or_ge 8 (cR c.2.1 9 (i:Int)).length with h | h
  .exact h
  .obtain ⟨g1,g2⟩:=hlen h
   obtain ⟨k,x,e1,e2,e3,_⟩:=Ju hc
   have hx:x=n:=by simpa using e3
   have:=g2 x (Zc e2)
   rw [hx] at this;omega
 .have Ey:=Qp4 (by omega:fy (fun x=>x==n) out 0 < 0)
  have au:(out++[n]).length<=c.2.1.length:=Pq (by
   rw [Zn]
   exact ⟨hnd,by simp,fun a ha b hb e=>by simp at hb;subst hb;subst e;exact Ey ha⟩) (fun x hx=>by
   rcases List.mem_append.1 hx with h | h
   .exact nV x h
   .simp at h;subst h;exact ⟨h0,hn⟩)
  simp only [Zf,Z9,Zb] at au
  rw [Z4 hc,Q5,room (by simp;omega),Q4,Q4,Hl h0 hn,Q9,OY (by omega),Q9]
  refine ez (24 - (out++[n]).length) _ (by simp;omega) ⟨rfl,Bl,?_,?_,fun f=>?_,fun h=>by simp at h,fun h=>?_⟩
  .rw [Zn]
   exact ⟨hnd,by simp,fun a ha b hb e=>by simp at hb;subst hb;subst e;exact Ey ha⟩
  .intro x hx
   rcases List.mem_append.1 hx with h | h
   .exact nV x h
   .simp at h;subst h;exact ⟨h0,hn⟩
  .have:=o7 (f+1)
   rw [Vn h0] at this
   simp only [Zf,Z9,Zb]
   rw [show out.length+(0+1)+f=out.length+(f+1) by omega,this];simp
  .obtain ⟨g1,g2⟩:=hlen h
   have g3:=Pp h0 g1
   have g4:=congrArg List.length g3
   simp only [Z9] at g4
   refine ⟨by simp only;omega,fun y hy=>?_⟩
   simp only
   rcases List.mem_append.1 hy with hy | hy
   .have:=g2 y hy;omega
   .simp at hy;subst hy;omega
theorem Qum {l:List aA}:∀ (f g:Nat) (i:Int),f<=g->(cR l f i).length<=(cR l g i).length
 | 0,_,_,_=>by simp [cR]
 | f+1,0,_,h=>by omega
 | f+1,g+1,i,h=>by
  simp only [cR]
  split
  .simp
  .have:=Qum (l:=l) f g (bP l (aV l i).2.1) (by omega);simp;omega
theorem Qgw {u:List Int} (h:0 < u.length):nU u∈u/\u[u.length - 1]? = some (nU u):=by
 have e:u[u.length - 1]? = some (nU u):=by
  unfold nU;rw [Zr,Z6 (show u.length - 1 < u.length by omega)];rfl
 exact ⟨Zc e,e⟩
theorem Qjr {d:Nat} {c:Cf} (hl:c.2.1.length<=24):Gw (d+5) c=some (eI (fun _ i=>wm c.2.1 i) c.2.1 0):=by
 rw [Uf]
 refine (Qd (fun (t:Bool) (i:Int)=>(t,i)) c.2.1 (fun x i t k=>aa (wm c.2.1 i) (k t) (some false)) (fun _=>some true) ?_ ?_ (by rw [Q6];omega) false).trans ?_
 .intro ag t i x hx
  have hi:=(Z0 hx).1
  simp only [qb,bX hx,Q4]
  obtain ⟨r,hr,r1,r2⟩:=Qsl (d:=d) (c:=c) (i:=i) hi hl
  rw [hr,Q9]
  unfold wm
  cases hb:r.2 with
  | false =>
   have:=r2 hb
   rw [Bool.not_false,Q4,Z4 (by omega)];rfl
  | true =>
   obtain ⟨e1,e2⟩:=r1 hb
   rw [Zl,Q5]
   by_cases h8:r.1.length<=8
   .have e3:cR c.2.1 9 (i:Int)=r.1:=by
     rw [Po (r.1.length+1) 9 _ (by rw [e1];omega) (by omega)];exact e1
    rw [e3,Z5 h8,Z4 (by omega),Q5,Zg,FR (by omega) (by omega),nn,Q4,Q3,Qk (by omega),Q4]
    obtain ⟨m1,m2⟩:=Qgw e2
    rw [m2,Q9]
    rw [<- e3] at m1
    obtain ⟨q1,q2⟩:=Vo 9 (i:Int) (by omega) _ m1
    rw [e3] at q1 q2
    rw [Z5 q1,Q4,Hl q1 q2,Q9,aN (by omega)]
    by_cases h:(aV c.2.1 (nU r.1)).2.1=0
    .rw [show ((aV c.2.1 (nU r.1)).2.1 != 0)=false by simp [h],Q5,show ((aV c.2.1 (nU r.1)).2.1==0)=true by simp [h]];rfl
    .rw [show ((aV c.2.1 (nU r.1)).2.1 != 0)=true by simp [h],Q4,show ((aV c.2.1 (nU r.1)).2.1==0)=false by simp [h]];rfl
   .have:8 < (cR c.2.1 9 (i:Int)).length:=by
     rcases Nat.lt_or_ge (r.1.length+1) 9 with g | g
     .omega
     .have g1:=Qum (l:=c.2.1) 9 (r.1.length+1) (i:Int) g
      rcases Nat.lt_or_ge 8 (cR c.2.1 9 (i:Int)).length with g2 | g2
      .exact g2
      .have:=Po (l:=c.2.1) 9 (r.1.length+1) (i:Int) (by omega) g
       rw [e1] at this
       have:=congrArg List.length this
       omega
    rw [Z5 (show ((r.1.length:Nat):Int) > 8 by omega),Q4,Z4 (show ¬ (cR c.2.1 9 (i:Int)).length<=8 by omega)];rfl
 .intro ag t;simp only [qb,bB,Q5];rfl
 .rw [qQ];cases eI _ c.2.1 0<;>rfl
theorem Qz9 {d:Nat} {c:Cf} {i:Nat} (hi:i < c.2.1.length) (hl:c.2.1.length<=24):FZ (d+2) c (i:Int)=some (cR c.2.1 9 (i:Int)):=by
 rw [TG]
 have key:∀ (f fuel:Nat) (n:Int) (out:List Int),out.length+f=9->f < fuel->n < ((c.2.1.length:Nat):Int)->Q8 (lC (d+1) c (lA (d+1))) fuel (n,out)=some (out++cR c.2.1 f n):=by
  intro f
  induction f with
  | zero =>
   intro fuel n out h1 h2 h3
   obtain ⟨g,rfl⟩:∃ g,fuel=g+1:=⟨fuel - 1,by omega⟩
   simp only [Q8,lC]
   unfold lB lA
   rw [Z4 (show ¬ ((out.length:Nat):Int)<=8 by omega),Q5]
   simp [cR,Qti]
  | succ f ih =>
   intro fuel n out h1 h2 h3
   obtain ⟨g,rfl⟩:∃ g,fuel=g+1:=⟨fuel - 1,by omega⟩
   simp only [Q8,lC]
   unfold lB
   by_cases hn:n>=0
   .rw [Z5 hn,Q4,Z5 (show ((out.length:Nat):Int)<=8 by omega),Q4,room (by simp;omega),Q4,Q4,Hl hn h3,Q9,Jh (by omega),Q9,ih g _ _ (by simp;omega) (by omega) Bl]
    simp only [cR,if_neg (show ¬ n < 0 by omega)]
    simp
   .rw [Z4 hn,Q5,Q5]
    unfold lA
    simp only [cR,if_pos (show n < 0 by omega)]
    simp
 exact key 9 Qc (i:Int) [] rfl (by rw [Q6];omega) (by omega)
theorem Qgx {α:Type} {g:α->Int} {B:Nat}:∀ (l:List α) (i:Nat) (t:Int),(∀ x∈l,0<=g x/\g x<=(B:Int))->0<=t->t+((l.length*B:Nat):Int)<=9223372036854775807->cF (fun x _ (t:Int)=>IntKind.i64.wrap (t+g x)) l i t=t+(l.map g).sum/\t<=t+(l.map g).sum/\t+(l.map g).sum<=t+((l.length*B:Nat):Int)
 | [],i,t,_,_,_=>by simp [cF]
 | x::r,i,t,h,ht,hs=>by
  obtain ⟨h1,h2⟩:=h x (by simp)
  have e:((x::r).length*B:Nat)=r.length*B+B:=by rw [Z9,Nat.add_mul,Nat.one_mul]
  rw [e] at hs ⊢
  obtain ⟨g1,g2,g3⟩:=Qgx r (i+1) (t+g x) (fun y hy=>h y (by simp [hy])) (by omega) (by omega)
  simp only [cF,List.map_cons,List.sum_cons]
  rw [wr (by omega) (by omega),g1]
  omega
theorem Qgy {α:Type} {g:α->Int} {B:Nat}:∀ (l:List α) (i:Nat) (t:Int),(∀ x∈l,0<=g x/\g x<=(B:Int))->t<=9223372036854775807->-9223372036854775808<=t - ((l.length*B:Nat):Int)->cF (fun x _ (t:Int)=>IntKind.i64.wrap (t - g x)) l i t=t - (l.map g).sum
 | [],i,t,_,_,_=>by simp [cF]
 | x::r,i,t,h,ht,hs=>by
  obtain ⟨h1,h2⟩:=h x (by simp)
  have e:((x::r).length*B:Nat)=r.length*B+B:=by rw [Z9,Nat.add_mul,Nat.one_mul]
  rw [e] at hs
  simp only [cF,List.map_cons,List.sum_cons]
  rw [wr (by omega) (by omega),Qgy r (i+1) (t - g x) (fun y hy=>h y (by simp [hy])) (by omega) (by omega)]
  omega
def LZ (l:List aA):Prop:=∀ x∈l,0<=x.2.2.1/\x.2.2.1<=1000000000
def CN (l:List aA) (id:Int):Int:=((nT l id).map fun k=>(aV l k).2.2.1).sum
theorem Vp {l:List aA} {id:Int} {i:Nat} {n:Int} (h:(nT l id)[i]? = some n):0<=n/\l[n.toNat]? = some (aV l n)/\(aV l n).2.1=id/\aV l n∈l:=by
 obtain ⟨k,x,rfl,h2,h3⟩:=Qld (Zc h)
 rw [jL h2,Q3]
 exact ⟨by omega,h2,h3,Zc h2⟩
theorem Qlh {l:List aA} {id:Int} (hr:LZ l):∀ n∈nT l id,0<=(aV l n).2.2.1/\(aV l n).2.2.1<=((1000000000:Nat):Int):=by
 intro n hn
 obtain ⟨i,hi⟩:=List.getElem?_of_mem hn
 exact hr _ (Vp hi).2.2.2
theorem Qgz {d:Nat} {c:Cf} {n:Nat} {y:aA} (hn:c.2.1[n]? = some y) (hl:c.2.1.length<=24) (hr:LZ c.2.1):GB (d+2) c (n:Int)=some (CN c.2.1 y.1):=by
 have hk:=Pj (l:=c.2.1) (id:=y.1)
 have hm:(nT c.2.1 y.1).length*1000000000<=24*1000000000:=Zk _ (by omega)
 rw [Uj,Q9t hn (by omega),Q9]
 refine (Qd (fun (t:Int) (i:Int)=>(t,i)) (nT c.2.1 y.1) (fun x _ t k=>k (IntKind.i64.wrap (t+(aV c.2.1 x).2.2.1))) (fun t=>some t) ?_ ?_ (by rw [Q6];omega) 0).trans ?_
 .intro ag t i x hx
  have hi:=(Z0 hx).1
  obtain ⟨k1,k2,k3,k4⟩:=Vp hx
  simp only [qd,bX hx,nn,Q3,hx,Q9,Q4,tG hx]
  rw [Z5 k1,Q4,k2,Q9,aN (by omega)]
 .intro ag t;simp only [qd,bB,Q5];rfl
 .rw [xe (f:=fun (x:Int) _ (t:Int)=>IntKind.i64.wrap (t+(aV c.2.1 x).2.2.1)),(Qgx (nT c.2.1 y.1) 0 0 (Qlh hr) (by omega) (by omega)).1,Int.zero_add];rfl
theorem Qp7 {d:Nat} {c:Cf} {n:Nat} {y:aA} (hn:c.2.1[n]? = some y) (hl:c.2.1.length<=24) (hr:LZ c.2.1):F1 (d+2) c (n:Int)=some (y.2.2.1 - CN c.2.1 y.1):=by
 have hk:=Pj (l:=c.2.1) (id:=y.1)
 have hm:(nT c.2.1 y.1).length*1000000000<=24*1000000000:=Zk _ (by omega)
 have hy:=hr y (Zc hn)
 rw [TH,nn,Q4,Q3,hn,Q9,Pm hn (by omega),Q9]
 refine (Qd (fun (t:Int) (i:Int)=>(t,i)) (nT c.2.1 y.1) (fun x _ t k=>k (IntKind.i64.wrap (t - (aV c.2.1 x).2.2.1))) (fun t=>some t) ?_ ?_ (by rw [Q6];omega) y.2.2.1).trans ?_
 .intro ag t i x hx
  have hi:=(Z0 hx).1
  obtain ⟨k1,k2,k3,k4⟩:=Vp hx
  simp only [pq,bX hx,nn,Q3,hx,Q9,Q4,tG hx]
  rw [Z5 k1,Q4,k2,Q9,aN (by omega)]
 .intro ag t;simp only [pq,bB,Q5];rfl
 .rw [xe (f:=fun (x:Int) _ (t:Int)=>IntKind.i64.wrap (t - (aV c.2.1 x).2.2.1)),Qgy (nT c.2.1 y.1) 0 y.2.2.1 (Qlh hr) (by omega) (by omega)];rfl
def mI (x:aA):Bool:=decide (1<=x.2.2.1/\x.2.2.1<=100000/\x.2.2.1<=x.2.2.2.1/\x.2.2.2.1<=100000)
def nc (x:aA):Bool:=decide (1500<=x.2.2.2.2.1/\x.2.2.2.2.1<=1000000/\1500<=x.2.2.2.2.2.1/\x.2.2.2.2.2.1<=1000000/\0<=x.2.2.2.2.2.2.1/\x.2.2.2.2.2.2.1<=7)
def nW (l:List aA) (x:aA):Bool:=decide (CN l x.1<=x.2.2.1)
def mY (l:List aA) (x:aA):Bool:=if gP l x.1=true then decide (1<=x.2.2.2.2.2.2.2/\x.2.2.2.2.2.2.2<=60) else x.2.2.2.2.2.2.2==0
theorem Qjs {d:Nat} {x:aA}:Gx (d+1) x=some (mI x):=by
 rw [Ug];unfold mI
 simp only [vf];congr 1;rw [Bool.eq_iff_iff];simp
theorem Qh0 {d:Nat} {x:aA}:GF (d+1) x=some (nc x):=by
 rw [Ul];unfold nc
 simp only [vf];congr 1;rw [Bool.eq_iff_iff];simp
theorem Qp8 {d:Nat} {x:aA}:FY (d+2) x=some (decide (1<=x.1/\x.1<=999)&&(mI x&&nc x)):=by
 rw [TF];unfold mI nc
 simp only [wj,Q9,vf];congr 1;rw [Bool.eq_iff_iff];simp;omega
theorem Qh1 {d:Nat} {c:Cf} {n:Nat} {y:aA} (hn:c.2.1[n]? = some y) (hl:c.2.1.length<=1000):GH (d+5) c (n:Int)=some (mY c.2.1 y):=by
 rw [Um,nn,Q4,Q3,hn,Q9,OZ hn (by omega),Q9]
 unfold mY
 cases gP c.2.1 y.1 with
 | false=>rfl
 | true =>
  rw [if_pos rfl,Q4]
  simp only [vf];congr 1;rw [Bool.eq_iff_iff];simp
theorem Qac {d:Nat} {c:Cf} (hl:c.2.1.length<=1000):Gy (d+4) c=some (c.2.1.all fun x=>decide (0<=x.2.2.1/\x.2.2.1<=1000000000)):=by
 rw [Uh]
 refine (Qd (fun (t:Int) (i:Int)=>(t,i)) c.2.1 (fun x i t k=>aa (decide (0<=x.2.2.1/\x.2.2.1<=1000000000)) (k t) (some false)) (fun _=>some true) ?_ ?_ (by rw [Q6];omega) 0).trans ?_
 .intro ag t i x hx;have hi:=(Z0 hx).1;simp only [dN,bX hx,nn,Q3,hx,Q9,Q4];rw [aN (by omega)]
  by_cases h1:x.2.2.1 < 0
  .rw [Z5 h1,Q4,Z4 (show ¬ (0<=x.2.2.1/\x.2.2.1<=1000000000) by omega),Q5];rfl
  .rw [Z4 h1,Q5]
   by_cases h2:x.2.2.1 > 1000000000
   .rw [Z5 h2,Q4,Z4 (show ¬ (0<=x.2.2.1/\x.2.2.1<=1000000000) by omega),Q5];rfl
   .rw [Z4 h2,Q5,Z5 (show 0<=x.2.2.1/\x.2.2.1<=1000000000 by omega),Q4]
 .intro ag t;simp only [dN,bB,Q5];rfl
 .rw [CL];cases c.2.1.all _<;>rfl
theorem Qn4 {d:Nat} {c:Cf} (hl:c.2.1.length<=24) (hr:LZ c.2.1):Ok (GD (d+3) c) fun r=>((((r.length:Nat):Int))==0)=c.2.1.all (nW c.2.1):=by
 rw [Uk]
 refine ⟨fR (fun x _ => !nW c.2.1 x) (fun _ k=>((k:Nat):Int)) c.2.1 0,?_,?_⟩
 .refine (Qd (fun (t:List Int) (i:Int)=>(t,i)) c.2.1 (fun x i t k=>aa (!nW c.2.1 x) (aa (Nat.ble ((t.length+[((i:Nat):Int)].length)*8) Q7) (k (t++[((i:Nat):Int)])) none) (k t)) (fun t=>some t) ?_ ?_ (by rw [Q6];omega) []).trans ?_
  .intro ag t i x hx;have hi:=(Z0 hx).1;simp only [qe,bX hx,nn,Q3,hx,Q9,Q4]
   rw [Qgz hx hl hr,Q9,aN (by omega)]
   unfold nW
   by_cases h2:CN c.2.1 x.1<=x.2.2.1
   .rw [Z5 h2,Z4 (show ¬ CN c.2.1 x.1 > x.2.2.1 by omega)];rfl
   .rw [Z4 h2,Z5 (show CN c.2.1 x.1 > x.2.2.1 by omega)];rfl
  .intro ag t;simp only [qe,bB,Q5];rfl
  .exact Ew (c:=fun x _ => !nW c.2.1 x) (e:=fun (_:aA) (k:Nat)=>((k:Nat):Int)) (w:=8) c.2.1 0 [] (by simp;omega)
 .have:=LY (c:=fun x:aA => !nW c.2.1 x) (e:=fun _ k=>((k:Nat):Int)) c.2.1 0
  rw [show c.2.1.all (nW c.2.1) = !(c.2.1.any fun x => !nW c.2.1 x) by simp [List.all_eq_not_any_not],<- this]
  simp only []
  rw [Bool.eq_iff_iff,beq_iff_eq,beq_iff_eq]
  omega
theorem Qwg {v m:Int} (h1:0<=v) (h2:v<=65535) (h3:0<=m) (h4:m<=65535) :
  ((IntKind.i64.wrap ((BitVec.ofInt IntKind.i64.bits v &&& ~~~BitVec.ofInt IntKind.i64.bits m).toNat:Int))==0)=((IntKind.i64.wrap ((BitVec.ofInt IntKind.i64.bits v &&& BitVec.ofInt IntKind.i64.bits m).toNat:Int))==v):=by
 obtain ⟨a,rfl⟩:=Int.eq_ofNat_of_zero_le h1
 obtain ⟨b,rfl⟩:=Int.eq_ofNat_of_zero_le h3
 have ha:a < 2 ^ 64:=by omega
 have hb:b < 2 ^ 64:=by omega
 have e1:(BitVec.ofInt IntKind.i64.bits (a:Int))=BitVec.ofNat 64 a:=by show BitVec.ofInt 64 (a:Int)=_;simp
 have e2:(BitVec.ofInt IntKind.i64.bits (b:Int))=BitVec.ofNat 64 b:=by show BitVec.ofInt 64 (b:Int)=_;simp
 have t1:(BitVec.ofInt IntKind.i64.bits (a:Int) &&& ~~~BitVec.ofInt IntKind.i64.bits (b:Int)).toNat=(BitVec.ofNat 64 a &&& ~~~BitVec.ofNat 64 b).toNat:=by rw [e1,e2];rfl
 have t2:(BitVec.ofInt IntKind.i64.bits (a:Int) &&& BitVec.ofInt IntKind.i64.bits (b:Int)).toNat=(BitVec.ofNat 64 a &&& BitVec.ofNat 64 b).toNat:=by rw [e1,e2];rfl
 rw [t1,t2]
 have Jv:(BitVec.ofNat 64 a).toNat=a:=by rw [BitVec.toNat_ofNat,Nat.mod_eq_of_lt ha]
 have l1:(BitVec.ofNat 64 a &&& ~~~BitVec.ofNat 64 b).toNat<=a:=by
  rw [BitVec.toNat_and,Jv];exact Nat.and_le_left
 have l2:(BitVec.ofNat 64 a &&& BitVec.ofNat 64 b).toNat<=a:=by
  rw [BitVec.toNat_and,Jv];exact Nat.and_le_left
 rw [wr (by omega) (by omega),wr (by omega) (by omega),Bool.eq_iff_iff,beq_iff_eq,beq_iff_eq]
 have key:(BitVec.ofNat 64 a &&& ~~~BitVec.ofNat 64 b)=0#64↔(BitVec.ofNat 64 a &&& BitVec.ofNat 64 b)=BitVec.ofNat 64 a:=by
  constructor
  .intro h
   apply BitVec.eq_of_getLsbD_eq
   intro i hi
   have:=congrArg (fun x=>x.getLsbD i) h
   simp only [BitVec.getLsbD_and,BitVec.getLsbD_not,BitVec.getLsbD_zero,hi,decide_true,Zg] at this ⊢
   revert this
   cases (BitVec.ofNat 64 a).getLsbD i<;>cases (BitVec.ofNat 64 b).getLsbD i<;>simp
  .intro h
   apply BitVec.eq_of_getLsbD_eq
   intro i hi
   have:=congrArg (fun x=>x.getLsbD i) h
   simp only [BitVec.getLsbD_and,BitVec.getLsbD_not,BitVec.getLsbD_zero,hi,decide_true,Zg] at this ⊢
   revert this
   cases (BitVec.ofNat 64 a).getLsbD i<;>cases (BitVec.ofNat 64 b).getLsbD i<;>simp
 constructor
 .intro h
  have h':(BitVec.ofNat 64 a &&& ~~~BitVec.ofNat 64 b)=0#64:=by apply BitVec.eq_of_toNat_eq;simp only [BitVec.toNat_ofNat];omega
  rw [key.1 h',Jv]
 .intro h
  have h':(BitVec.ofNat 64 a &&& BitVec.ofNat 64 b)=BitVec.ofNat 64 a:=by apply BitVec.eq_of_toNat_eq;rw [Jv];omega
  rw [key.2 h'];rfl
def Ai (x:dJ):Bool:=decide (1<=x.1/\x.1<=99/\0<=x.2.1/\x.2.1<=3/\0<=x.2.2.1/\x.2.2.1<=65535/\0<=x.2.2.2.1/\x.2.2.2.1<=65535)&&((IntKind.i64.wrap ((BitVec.ofInt IntKind.i64.bits x.2.2.2.1 &&& BitVec.ofInt IntKind.i64.bits x.2.2.1).toNat:Int))==x.2.2.2.1)
theorem Qn5 {d:Nat} {x:dJ}:F5 (d+2) x=some (Ai x):=by
 rw [TJ];unfold Ai
 simp only [wj,Q9,vf];congr 1;rw [Bool.eq_iff_iff];simp;omega
theorem Qet {d:Nat} {x:dJ}:GI (d+1) x=some (Ai x):=by
 rw [Uo];unfold Ai
 by_cases h:1<=x.1/\x.1<=99/\0<=x.2.1/\x.2.1<=3/\0<=x.2.2.1/\x.2.2.1<=65535/\0<=x.2.2.2.1/\x.2.2.2.1<=65535
 .obtain ⟨h1,h2,h3,h4,h5,h6,h7,h8⟩:=h
  rw [Z5 (show _/\_ from ⟨h1,h2,h3,h4,h5,h6,h7,h8⟩),Zg,Qwg h7 h8 h5 h6]
  simp only [vf]
  rw [if_pos (by simp;omega),if_pos (by simp;omega),if_pos (by simp;omega),if_pos (by simp;omega),if_pos (by simp;omega),if_pos (by simp;omega),if_pos (by simp;omega),if_pos (by simp;omega)]
 .rw [Z4 h,Bool.false_and]
  simp only [vf];congr 1
  rw [Bool.eq_false_iff]
  intro hc
  refine h ?_
  (repeat' split at hc)<;>simp_all
  all_goals omega
def zf5:dJ:=(0,0,0,0,0)
def Ci (l:List dJ) (i:Int):dJ:=l.getD i.toNat zf5
theorem Qpa {l:List dJ} {n:Nat} {x:dJ} (h:l[n]? = some x):Ci l (n:Int)=x:=by unfold Ci;rw [Q3,Zr,h];rfl
def Ch (l:List aA) (fs:List dJ) (x:dJ) (i:Nat):Bool:=Ai x&&((decide (i=0) || decide ((Ci fs ((i:Int) - 1)).1 < x.1))&&wk l x.2.2.2.2)
def tH (l:List aA) (fs:List dJ):Bool:=eI (Ch l fs) fs 0&&decide (fs.length<=16)
theorem Qcw {d:Nat} {c:Cf} (hl:c.2.1.length<=1000) (hf:c.2.2.1.length < 4000000):GJ (d+6) c=some (tH c.2.1 c.2.2.1):=by
 rw [Up]
 refine (Qd (fun (t:Bool) (i:Int)=>(t,i)) c.2.2.1 (fun x i t k=>aa (Ch c.2.1 c.2.2.1 x i) (k t) (some false)) (fun _=>some (decide (c.2.2.1.length<=16))) ?_ ?_ (by rw [Q6];omega) false).trans ?_
 .intro ag t i x hx;have hi:=(Z0 hx).1;simp only [qf,bX hx,nn,Q3,hx,Q9,Q4]
  rw [Qet,Q9]
  unfold jl Ch
  rw [aN (by omega)]
  cases Ai x with
  | false=>rfl
  | true =>
   rw [Zl,Q5,Zg]
   by_cases h0:i=0
   .subst h0
    rw [Z4 (show ¬ ((0:Nat):Int) > 0 by omega),Q5,Vk hl,Q9]
    cases wk c.2.1 x.2.2.2.2<;>rfl
   .rw [Z5 (show (i:Int) > 0 by omega),Q4,FR (by omega) (by omega),nn,Q4,Q3,Z6 (show i - 1 < c.2.2.1.length by omega),Q9,Z4 h0,Bool.false_or]
    rw [show (i:Int) - 1=((i - 1:Nat):Int) by omega,Qpa (Z6 (show i - 1 < c.2.2.1.length by omega))]
    by_cases h:x.1<=(c.2.2.1[i - 1]).1
    .rw [Z5 h,Z4 (show ¬ (c.2.2.1[i - 1]).1 < x.1 by omega)];rfl
    .rw [Z4 h,Z5 (show (c.2.2.1[i - 1]).1 < x.1 by omega),Q5,Vk hl,Q9]
     cases wk c.2.1 x.2.2.2.2<;>rfl
 .intro ag t;simp only [qf,bB,Q5]
  unfold zi
  congr 1;rw [Bool.eq_iff_iff];simp;omega
 .rw [qQ];unfold tH;cases eI (Ch c.2.1 c.2.2.1) c.2.2.1 0<;>rfl
theorem Qjt {d:Nat} {c:Cf} (hl:c.2.1.length<=1000) (hf:c.2.2.1.length < 4000000):TK (d+4) c=some (tH c.2.1 c.2.2.1):=by
 rw [e97]
 refine (Qd (fun (t:Bool) (i:Int)=>(t,i)) c.2.2.1 (fun x i t k=>aa (Ch c.2.1 c.2.2.1 x i) (k t) (some false)) (fun _=>some (decide (c.2.2.1.length<=16))) ?_ ?_ (by rw [Q6];omega) false).trans ?_
 .intro ag t i x hx;have hi:=(Z0 hx).1;simp only [yB,bX hx,nn,Q3,hx,Q9,Q4]
  rw [Qn5,Q9]
  unfold nI Ch
  rw [aN (by omega)]
  cases Ai x with
  | false=>rfl
  | true =>
   rw [Zl,Q5,Zg]
   by_cases h0:i=0
   .subst h0
    rw [Z4 (show ¬ ((0:Nat):Int) > 0 by omega),Q5,Vl hl,Q9]
    cases wk c.2.1 x.2.2.2.2<;>rfl
   .rw [Z5 (show (i:Int) > 0 by omega),Q4,FR (by omega) (by omega),nn,Q4,Q3,Z6 (show i - 1 < c.2.2.1.length by omega),Q9,Z4 h0,Bool.false_or]
    rw [show (i:Int) - 1=((i - 1:Nat):Int) by omega,Qpa (Z6 (show i - 1 < c.2.2.1.length by omega))]
    by_cases h:(c.2.2.1[i - 1]).1>=x.1
    .rw [Z5 h,Z4 (show ¬ (c.2.2.1[i - 1]).1 < x.1 by omega)];rfl
    .rw [Z4 h,Z5 (show (c.2.2.1[i - 1]).1 < x.1 by omega),Q5,Vl hl,Q9]
     cases wk c.2.1 x.2.2.2.2<;>rfl
 .intro ag t;simp only [yB,bB,Q5]
  unfold En
  congr 1;rw [Bool.eq_iff_iff];simp;omega
 .rw [qQ];unfold tH;cases eI (Ch c.2.1 c.2.2.1) c.2.2.1 0<;>rfl
def kD (l:List aA):Bool:=decide (1<=l.length/\l.length<=24)&&(rQ l&&(decide (vi l=1)&&(Ex l&&(eI (fun _ i=>wm l i) l 0&&(l.all mI&&(l.all (nW l)&&(l.all nc&&l.all (mY l))))))))
def Ho (c:Cf):Bool:=c.2.2.2==0 || wk c.2.1 c.2.2.2
def eS (c:Cf):Bool:=Bu c.1&&(kD c.2.1&&(tH c.2.1 c.2.2.1&&Ho c))
theorem Qli {l:List aA} (h:l.all mI=true):LZ l:=by
 intro x hx
 have:=Z3 h x hx
 unfold mI at this
 simp only [Zj] at this
 omega
theorem Qsm {d:Nat} {c:Cf} (hl:c.2.1.length<=1000):h_ (d+7) c 5=some (c.2.1.all mI):=by
 rw [show d+7=(d+3)+4 by omega,Bo]
 simp only [Int.reduceBEq,Q4,Q5]
 refine (Qd (fun (t:Int) (i:Int)=>(t,i)) c.2.1 (fun x i t k=>aa (mI x) (k t) (some false)) (fun _=>some true) ?_ ?_ (by rw [Q6];omega) 0).trans ?_
 .intro ag t i x hx;have hi:=(Z0 hx).1;simp only [dO,bX hx,nn,Q3,hx,Q9,Q4];rw [aN (by omega)]
  rw [Qjs,Q9]
  cases mI x<;>rfl
 .intro ag t;simp only [dO,bB,Q5];rfl
 .rw [CL];cases c.2.1.all _<;>rfl
theorem Qsn {d:Nat} {c:Cf} (hl:c.2.1.length<=1000):h_ (d+7) c 7=some (c.2.1.all nc):=by
 rw [show d+7=(d+3)+4 by omega,Bo]
 simp only [Int.reduceBEq,Q4,Q5]
 refine (Qd (fun (t:Int) (i:Int)=>(t,i)) c.2.1 (fun x i t k=>aa (nc x) (k t) (some false)) (fun _=>some true) ?_ ?_ (by rw [Q6];omega) 0).trans ?_
 .intro ag t i x hx;have hi:=(Z0 hx).1;simp only [dz,bX hx,nn,Q3,hx,Q9,Q4];rw [aN (by omega)]
  rw [Qh0,Q9]
  cases nc x<;>rfl
 .intro ag t;simp only [dz,bB,Q5];rfl
 .rw [CL];cases c.2.1.all _<;>rfl
theorem Qso {d:Nat} {c:Cf} (hl:c.2.1.length<=1000):h_ (d+7) c 8=some (c.2.1.all (mY c.2.1)):=by
 rw [show d+7=(d+3)+4 by omega,Bo]
 simp only [Int.reduceBEq,Q4,Q5]
 refine (Qd (fun (t:Bool) (i:Int)=>(t,i)) c.2.1 (fun x i t k=>aa (mY c.2.1 x) (k t) (some false)) (fun _=>some true) ?_ ?_ (by rw [Q6];omega) false).trans ?_
 .intro ag t i x hx
  have hi:=(Z0 hx).1
  simp only [qg,bX hx,Q4]
  rw [show d+3+3=(d+1)+5 by omega,Qh1 hx hl,Q9,aN (by omega)]
  cases mY c.2.1 x<;>rfl
 .intro ag t;simp only [qg,bB,Q5];rfl
 .rw [CL];cases c.2.1.all _<;>rfl
theorem OT {d:Nat} {c:Cf} (hl:c.2.1.length < 4000000) (hf:c.2.2.1.length < 4000000):Jn (d+8) c=some (eS c):=by
 rw [e73]
 unfold zl
 by_cases h1:c.2.1.length<=24
 case neg =>
  rw [Z5 (show ((c.2.1.length:Nat):Int) > 24 by omega),Q4,Q4]
  unfold eS kD
  rw [Z4 (show ¬ (1<=c.2.1.length/\c.2.1.length<=24) by omega)];simp
 rw [Z4 (show ¬ ((c.2.1.length:Nat):Int) > 24 by omega),Q5]
 by_cases h2:c.2.2.1.length<=16
 case neg =>
  rw [Z5 (show ((c.2.2.1.length:Nat):Int) > 16 by omega),Q4]
  unfold eS tH
  rw [Z4 h2];simp
 rw [Z4 (show ¬ ((c.2.2.1.length:Nat):Int) > 16 by omega),Q5]
 have st:∀ (f:Nat) (k:Int) (b:Bool),0<=k->k<=10->h_ (d+7) c k=some b->Q8 (fA (d+7) c (gD (d+7))) (f+1) (false,k)=aa b (Q8 (fA (d+7) c (gD (d+7))) f (false,k+1)) (some false):=by
  intro f k b Jw hk hb
  rw [show Q8 (fA (d+7) c (gD (d+7))) (f+1) (false,k)=fA (d+7) c (gD (d+7)) (Q8 (fA (d+7) c (gD (d+7))) f) (false,k) from rfl]
  simp only [fA]
  rw [Z5 hk,Q4,hb,Q9,wr (by omega) (by omega)]
  cases b<;>rfl
 obtain ⟨f,hfu⟩:∃ f,Qc=f+11:=⟨4194293,Q6⟩
 have H1:h_ (d+7) c 1=some (Bu c.1):=by
  rw [show d+7=(d+3)+4 by omega,Bo];simp only [Int.reduceBEq,Q4];rw [show d+3+3=(d+4)+2 by omega,Qsj,Q9]
 have H2:h_ (d+7) c 2=some (rQ c.2.1&&decide (1<=c.2.1.length/\c.2.1.length<=24)):=by
  rw [show d+7=(d+3)+4 by omega,Bo];simp only [Int.reduceBEq,Q4,Q5];rw [show d+3+3=(d+4)+2 by omega,Qn2 hl,Q9]
 have H3:h_ (d+7) c 3=some (decide (vi c.2.1=1)&&Ex c.2.1):=by
  rw [show d+7=(d+3)+4 by omega,Bo];simp only [Int.reduceBEq,Q4,Q5];rw [show d+3+3=(d+1)+5 by omega,Qcv (by omega),Q9]
 have H4:h_ (d+7) c 4=some (eI (fun _ i=>wm c.2.1 i) c.2.1 0):=by
  rw [show d+7=(d+3)+4 by omega,Bo];simp only [Int.reduceBEq,Q4,Q5];rw [show d+3+3=(d+1)+5 by omega,Qjr h1,Q9]
 have H5:=Qsm (d:=d) (c:=c) (by omega)
 have H7:=Qsn (d:=d) (c:=c) (by omega)
 have H8:=Qso (d:=d) (c:=c) (by omega)
 have H9:h_ (d+7) c 9=some (tH c.2.1 c.2.2.1):=by
  rw [show d+7=(d+3)+4 by omega,Bo];simp only [Int.reduceBEq,Q4,Q5];rw [Qcw (by omega) hf,Q9]
 have H10:h_ (d+7) c 10=some (Ho c):=by
  rw [show d+7=(d+3)+4 by omega,Bo];simp only [Int.reduceBEq,Q5];unfold Ho
  cases (c.2.2.2==0) with
  | true=>rfl
  | false=>rw [Q5,show d+3+3=(d+1)+5 by omega,Vk (by omega),Q9];rfl
 unfold eS kD
 rw [hfu,st _ _ _ (by omega) (by omega) H1]
 cases Bu c.1 with
 | false=>rfl
 | true =>
 rw [Q4,Zg,show (1:Int)+1=2 from rfl,st _ _ _ (by omega) (by omega) H2]
 cases decide (1<=c.2.1.length/\c.2.1.length<=24) with
 | false=>rw [Bool.and_false];rfl
 | true =>
 rw [Bool.and_true]
 cases rQ c.2.1 with
 | false=>rfl
 | true =>
 rw [Q4,Zg,Zg,show (2:Int)+1=3 from rfl,st _ _ _ (by omega) (by omega) H3]
 cases decide (vi c.2.1=1) with
 | false=>rfl
 | true =>
 cases Ex c.2.1 with
 | false=>rfl
 | true =>
 rw [Zg,Q4,Zg,show (3:Int)+1=4 from rfl,st _ _ _ (by omega) (by omega) H4]
 cases eI (fun _ i=>wm c.2.1 i) c.2.1 0 with
 | false=>rfl
 | true =>
 rw [Q4,Zg,show (4:Int)+1=5 from rfl,st _ _ _ (by omega) (by omega) H5]
 cases hr:c.2.1.all mI with
 | false=>rfl
 | true =>
 have bn:=Qli hr
 have H6:h_ (d+7) c 6=some (c.2.1.all (nW c.2.1)):=by
  rw [show d+7=(d+3)+4 by omega,Bo];simp only [Int.reduceBEq,Q4,Q5]
  rw [show d+3+3=(d+2)+4 by omega,Qac (by omega),Q9,show (c.2.1.all fun x=>decide (0<=x.2.2.1/\x.2.2.1<=1000000000))=true from List.all_eq_true.2 (fun x hx=>Z5 (bn x hx)),Q4]
  obtain ⟨r,g1,g2⟩:=Qn4 (d:=d+3) h1 bn
  rw [show d+2+4=d+3+3 by omega,g1,Q9,g2]
 rw [Q4,Zg,show (5:Int)+1=6 from rfl,st _ _ _ (by omega) (by omega) H6]
 cases c.2.1.all (nW c.2.1) with
 | false=>rfl
 | true =>
 rw [Q4,Zg,show (6:Int)+1=7 from rfl,st _ _ _ (by omega) (by omega) H7]
 cases c.2.1.all nc with
 | false=>rfl
 | true =>
 rw [Q4,Zg,show (7:Int)+1=8 from rfl,st _ _ _ (by omega) (by omega) H8]
 cases c.2.1.all (mY c.2.1) with
 | false=>rfl
 | true =>
 rw [Q4,Zg,show (8:Int)+1=9 from rfl,st _ _ _ (by omega) (by omega) H9]
 cases tH c.2.1 c.2.2.1 with
 | false=>rfl
 | true =>
 rw [Q4,Zg,show (9:Int)+1=10 from rfl,st _ _ _ (by omega) (by omega) H10]
 cases Ho c with
 | false=>rfl
 | true =>
 rw [Q4,show Q8 (fA (d+7) c (gD (d+7))) (f+1) (false,(10:Int)+1)=fA (d+7) c (gD (d+7)) (Q8 (fA (d+7) c (gD (d+7))) f) (false,11) from rfl]
 simp only [fA]
 rw [Z4 (show ¬ (11:Int)<=10 by omega),Q5];rfl
theorem Qb8 {α τ β:Type} {p:α->Nat->Bool} {f:α->Nat->τ->τ} {no:Option β} {fin:τ->Option β}:∀ (l:List α) (i:Nat) (t:τ),eg (fun x i t k=>aa (p x i) (k (f x i t)) no) fin l i t=aa (eI p l i) (fin (cF f l i t)) no
 | [],i,t=>rfl
 | x::r,i,t=>by
  simp only [eg,eI,cF]
  cases p x i with
  | true=>simp only [Q4,Zg];exact Qb8 r (i+1) (f x i t)
  | false=>rfl
theorem Qh2 {α σ τ:Type} {f:α->Nat->τ->τ}:∀ (l:List α) (i:Nat) (a:σ) (t:τ),cF (fun x i (s:σ×τ)=>(s.1,f x i s.2)) l i (a,t)=(a,cF f l i t)
 | [],_,_,_=>rfl
 | x::r,i,a,t=>by simp only [cF];exact Qh2 r (i+1) a (f x i t)
theorem Qsp {d:Nat} {c:Cf} (h0:1<=c.2.1.length) (h1:c.2.1.length<=24):TI (d+3) c=some (kD c.2.1):=by
 rw [e96]
 refine (Qd (fun (t:Bool×Int) (i:Int)=>(t.1,t.2,i)) c.2.1 (fun x i t k=>aa (Ah c.2.1 x i&&(mI x&&nc x)) (k (t.1,(if (x.2.1==0)=true then IntKind.i64.wrap (t.2+1) else t.2))) (some false)) (fun t=>yy (d+2) c t.1 t.2) ?_ ?_ (by rw [Q6];omega) (false,0)).trans ?_
 .intro ag t i x hx;have hi:=(Z0 hx).1;simp only [yz,bX hx,nn,Q3,hx,Q9,Q4]
  rw [Qp8,Q9]
  unfold so Ah
  rw [aN (by omega)]
  cases decide (1<=x.1/\x.1<=999) with
  | false=>rfl
  | true =>
  cases (mI x&&nc x) with
  | false=>rw [Bool.and_false,Bool.and_false];rfl
  | true =>
   rw [Bool.and_true,Zl,Q5,Zg,Bool.and_true]
   by_cases h0:i=0
   .subst h0
    rw [Z4 (show ¬ ((0:Nat):Int) > 0 by omega),Q5,Q5]
    cases (x.2.1==0)<;>rfl
   .rw [Z5 (show (i:Int) > 0 by omega),Q4,FR (by omega) (by omega),nn,Q4,Q3,Z6 (show i - 1 < c.2.1.length by omega),Q9,Z4 h0,Bool.false_or]
    rw [show (i:Int) - 1=((i - 1:Nat):Int) by omega,jL (Z6 (show i - 1 < c.2.1.length by omega))]
    by_cases h:(c.2.1[i - 1]).1>=x.1
    .rw [Z5 h,Z4 (show ¬ (c.2.1[i - 1]).1 < x.1 by omega)];rfl
    .rw [Z4 h,Z5 (show (c.2.1[i - 1]).1 < x.1 by omega),Q5]
     cases (x.2.1==0)<;>rfl
 .intro ag t;simp only [yz,bB,Q5]
 .rw [Qb8 (f:=fun (x:aA) _ (t:Bool×Int)=>(t.1,(if (x.2.1==0)=true then IntKind.i64.wrap (t.2+1) else t.2))),Qlf,Vm (p:=fun x=>mI x&&nc x),Qh2 (f:=fun (x:aA) _ (t:Int)=>if (x.2.1==0)=true then IntKind.i64.wrap (t+1) else t)]
  have:=Pn (p:=fun x:aA=>x.2.1==0) c.2.1 0 0 (by omega)
  rw [show ((0:Nat):Int)=0 from rfl] at this
  rw [this,Zo]
  unfold yy
  rw [show (c.2.1.filter fun x=>x.2.1==0).length=vi c.2.1 from rfl]
  have ld:(c.2.1.all fun x=>mI x&&nc x)=(c.2.1.all mI&&c.2.1.all nc):=by
   rw [Bool.eq_iff_iff];simp only [List.all_eq_true,Z8]
   exact ⟨fun h=>⟨fun x hx=>(h x hx).1,fun x hx=>(h x hx).2⟩,fun h x hx=>⟨h.1 x hx,h.2 x hx⟩⟩
  rw [ld]
  unfold kD rQ
  rw [Z5 (show 1<=c.2.1.length/\c.2.1.length<=24 from ⟨h0,h1⟩),Zg]
  cases eI (Ah c.2.1) c.2.1 0 with
  | false=>rfl
  | true =>
  cases hr:c.2.1.all mI with
  | false=>simp [Q5]
  | true =>
  cases c.2.1.all nc with
  | false=>simp [Q5]
  | true =>
  have bn:=Qli hr
  rw [Zg,Zg,Q4]
  by_cases ht:vi c.2.1=1
  case neg=>rw [show ((((vi c.2.1:Nat):Int)) != 1)=true by simp;omega,Q4,Z4 ht];simp
  rw [show ((((vi c.2.1:Nat):Int)) != 1)=false by simp;omega,Q5,Z5 ht]
  refine (Qd (fun (t:Bool) (i:Int)=>(t,i)) c.2.1 (fun x i t k=>aa (wm c.2.1 i&&(nW c.2.1 x&&mY c.2.1 x)) (k t) (some false)) (fun _=>some true) ?_ ?_ (by rw [Q6];omega) false).trans ?_
  .intro ag t i x hx
   have hi:=(Z0 hx).1
   simp only [yw,bX hx,nn,Q3,hx,Q9,Q4]
   rw [Qz9 hi h1,Q9]
   have tail:∀ b1 b2 b3:Bool,kJ (d+2) c ag t (i:Int) x b1 b2 b3 false=aa (mY c.2.1 x) (ag (t,((i+1:Nat):Int))) (some false):=by
    intro b1 b2 b3
    unfold kJ
    rw [Q5]
    simp only [Qle hx (show c.2.1.length<=1000 by omega),Q9,wj]
    unfold kI mY
    rw [aN (by omega)]
    cases gP c.2.1 x.1 with
    | true =>
     simp only [Q4,Zl,Q5,if_true]
     by_cases h:1<=x.2.2.2.2.2.2.2/\x.2.2.2.2.2.2.2<=60
     .rw [Z5 h];rfl
     .rw [Z4 h];rfl
    | false =>
     simp only [Q4,Bool.not_false,Q5,Bool.false_eq_true,if_false]
     by_cases h:x.2.2.2.2.2.2.2=0
     .rw [show (x.2.2.2.2.2.2.2 != 0)=false by simp [h],show (x.2.2.2.2.2.2.2==0)=true by simp [h]];rfl
     .rw [show (x.2.2.2.2.2.2.2 != 0)=true by simp [h],show (x.2.2.2.2.2.2.2==0)=false by simp [h]];rfl
   have bad:∀ b1 b2 b3:Bool,kJ (d+2) c ag t (i:Int) x b1 b2 b3 true=some false:=fun b1 b2 b3=>rfl
   unfold wm
   by_cases h8:(cR c.2.1 9 (i:Int)).length<=8
   case neg=>rw [Z5 (show (((cR c.2.1 9 (i:Int)).length:Nat):Int) > 8 by omega),Q4,bad,Z4 h8];rfl
   have eO:0 < (cR c.2.1 9 (i:Int)).length:=by rw [Vn (by omega)];simp
   rw [Z4 (show ¬ (((cR c.2.1 9 (i:Int)).length:Nat):Int) > 8 by omega),Q5,Z5 h8,Zg,FR (by omega) (by omega),nn,Q4,Q3,Qk (by omega),Q4]
   obtain ⟨m1,m2⟩:=Qgw eO
   obtain ⟨q1,q2⟩:=Vo 9 (i:Int) (by omega) _ m1
   rw [m2,Q9,Z5 q1,Q4,Hl q1 q2,Q9]
   by_cases h:(aV c.2.1 (nU (cR c.2.1 9 (i:Int)))).2.1=0
   case neg=>rw [show ((aV c.2.1 (nU (cR c.2.1 9 (i:Int)))).2.1 != 0)=true by simp [h],Q4,bad,show ((aV c.2.1 (nU (cR c.2.1 9 (i:Int)))).2.1==0)=false by simp [h]];rfl
   rw [show ((aV c.2.1 (nU (cR c.2.1 9 (i:Int)))).2.1 != 0)=false by simp [h],Q5,show ((aV c.2.1 (nU (cR c.2.1 9 (i:Int)))).2.1==0)=true by simp [h],Zg,Qp7 hx h1 bn,Q9]
   unfold nW
   by_cases hs:CN c.2.1 x.1<=x.2.2.1
   .rw [Z5 hs,Z4 (show ¬ x.2.2.1 - CN c.2.1 x.1 < 0 by omega),tail,Zg]
   .rw [Z4 hs,Z5 (show x.2.2.1 - CN c.2.1 x.1 < 0 by omega),bad];rfl
  .intro ag t;simp only [yw,bB,Q5];rfl
  .rw [qQ,Qlf,Vm (p:=fun x=>nW c.2.1 x&&mY c.2.1 x)]
   have Aj:(c.2.1.all fun x=>nW c.2.1 x&&mY c.2.1 x)=(c.2.1.all (nW c.2.1)&&c.2.1.all (mY c.2.1)):=by
    rw [Bool.eq_iff_iff];simp only [List.all_eq_true,Z8]
    exact ⟨fun h=>⟨fun x hx=>(h x hx).1,fun x hx=>(h x hx).2⟩,fun h x hx=>⟨h.1 x hx,h.2 x hx⟩⟩
   rw [Aj]
   have Vq:eI (fun _ i=>wm c.2.1 i) c.2.1 0=true->Ex c.2.1=true:=by
    intro hw
    rw [o_] at hw
    unfold Ex
    rw [List.all_eq_true]
    intro x hx
    obtain ⟨i,hi⟩:=List.getElem?_of_mem hx
    have h1:=hw i x hi
    rw [Zo] at h1
    unfold wm at h1
    simp only [Z8,Zj,beq_iff_eq] at h1
    obtain ⟨w1,w2⟩:=h1
    have e:=Pp (l:=c.2.1) (i:=(i:Int)) (by omega) w1
    rw [jL hi] at e
    by_cases hn:0<=bP c.2.1 x.2.1
    .simp [hn]
    .have e2:cR c.2.1 9 (bP c.2.1 x.2.1)=[]:=by simp only [cR];rw [if_pos (by omega)]
     rw [e,e2] at w2
     rw [show nU [(i:Int)]=(i:Int) from rfl,jL hi] at w2
     simp [w2]
   cases hw:eI (fun _ i=>wm c.2.1 i) c.2.1 0 with
   | false=>simp [Q5]
   | true =>
    rw [Vq hw]
    cases c.2.1.all (nW c.2.1)<;>cases c.2.1.all (mY c.2.1)<;>rfl
theorem OU {d:Nat} {c:Cf} (hs:c.1.size < 4000000) (hf:c.2.2.1.length < 4000000):Jk (d+5) c=some (eS c):=by
 rw [e59,show d+4=(d+1)+3 by omega,Qsk hs,Q9]
 unfold eS
 cases Bu c.1 with
 | false=>rfl
 | true =>
 rw [Q4,show d+1+3=(d+3)+1 by omega,wj,Q9,Zg]
 by_cases h:1<=c.2.1.length/\c.2.1.length<=24
 case neg =>
  rw [Z4 (show ¬ ((1:Int)<=((c.2.1.length:Nat):Int)/\((c.2.1.length:Nat):Int)<=24) by omega),Q5]
  unfold kD
  rw [Z4 h];rfl
 rw [Z5 (show (1:Int)<=((c.2.1.length:Nat):Int)/\((c.2.1.length:Nat):Int)<=24 by omega),Q4,show d+3+1=(d+1)+3 by omega,Qsp h.1 h.2,Q9]
 cases kD c.2.1 with
 | false=>rfl
 | true =>
 rw [Q4,show d+1+3=d+4 by omega,Qjt (by omega) hf,Q9,Zg]
 cases tH c.2.1 c.2.2.1 with
 | false=>rfl
 | true =>
 rw [Q4,Zg]
 unfold Ho
 cases (c.2.2.2==0) with
 | true=>rfl
 | false=>rw [Q5,show d+4=(d+1)+3 by omega,Vl (by omega),Q9,Bool.false_or]
theorem Qwi {l:List aA} {f:Nat} {i:Int} (h:i < 0):cR l f i=[]:=by
 cases f with
 | zero=>rfl
 | succ f=>simp only [cR];rw [if_pos h]
def bQ (l:List aA) (i:Int):Int:=bP l (aV l i).2.1
def cj (l:List aA) (i:Int):List Int:=nT l (aV l i).1
def gd (l:List aA) (i:Int):Nat:=(cR l 9 i).length
def vI (l:List aA) (i:Int):Prop:=0<=i/\i < ((l.length:Nat):Int)
structure Tr (l:List aA):Prop where
 n1:1<=l.length
 ef:l.length<=24
 inj:∀ i j,vI l i->vI l j->(aV l i).1=(aV l j).1->i=j
 pos:∀ i,vI l i->1<=(aV l i).1
 top:∃ t,vI l t/\(aV l t).2.1=0/\∀ j,vI l j->(aV l j).2.1=0->j=t
 Hp:∀ i,vI l i->gd l i<=8/\(aV l (nU (cR l 9 i))).2.1=0
theorem fu {l:List aA} {i:Int} (h:vI l i):l[i.toNat]? = some (aV l i):=Hl h.1 h.2
theorem DQ {l:List aA} {k:Nat} {x:aA} (h:l[k]? = some x):vI l (k:Int):=by
 have:=(Z0 h).1
 exact ⟨by omega,by omega⟩
theorem Qza {l:List aA} {i:Int}:bQ l i < ((l.length:Nat):Int):=Bl
theorem Hq {l:List aA} {i:Int} (h:0<=bQ l i):vI l (bQ l i):=⟨h,Qza⟩
theorem Qzb {l:List aA} {i:Int} (h:0<=bQ l i):(aV l (bQ l i)).1=(aV l i).2.1:=by
 obtain ⟨k,x,h1,h2,h3⟩:=w6 h
 unfold bQ
 rw [h1,jL h2,h3]
theorem Qzc {l:List aA} (T:Tr l) {i:Int} (h:vI l i):bP l (aV l i).1=i:=by
 by_cases h0:0<=bP l (aV l i).1
 .obtain ⟨k,x,h1,h2,h3⟩:=w6 h0
  rw [h1]
  refine T.inj _ _ (DQ h2) h ?_
  rw [jL h2,h3]
 .have:=(Vj (l:=l) (id:=(aV l i).1)).1 (by omega) (aV l i) (Zc (fu h))
  exact absurd rfl this
theorem Qlj {α γ:Type} {c:α->Nat->Bool} {e:α->Nat->γ}:∀ (l:List α) (i j:Nat) (x:α),l[j]? = some x->c x (i+j)=true->e x (i+j)∈fR c e l i
 | [],i,j,x,h,_=>by simp at h
 | y::r,i,0,x,h,hc=>by
  simp only [List.getElem?_cons_zero,Option.some.injEq] at h
  subst h
  simp only [Nat.add_zero] at hc
  simp only [fR,if_pos hc,Nat.add_zero];simp
 | y::r,i,j+1,x,h,hc=>by
  have:=Qlj (c:=c) (e:=e) r (i+1) j x (by simpa using h) (by rw [show i+1+j=i+(j+1) by omega];exact hc)
  rw [show i+1+j=i+(j+1) by omega] at this
  simp only [fR]
  split
  .exact List.mem_cons_of_mem _ this
  .exact this
theorem Qb9 {α:Type} {c:α->Nat->Bool}:∀ (l:List α) (i:Nat),(fR c (fun _ k=>((k:Nat):Int)) l i).Pairwise (· < ·)/\∀ x∈fR c (fun _ k=>((k:Nat):Int)) l i,(i:Int)<=x
 | [],i=>by simp [fR]
 | y::r,i=>by
  obtain ⟨h1,h2⟩:=Qb9 (c:=c) r (i+1)
  simp only [fR]
  split
  .refine ⟨List.pairwise_cons.2 ⟨fun x hx=>by have:=h2 x hx;omega,h1⟩,fun x hx=>?_⟩
   rcases Z2 hx with rfl | hx
   .omega
   .have:=h2 x hx;omega
  .exact ⟨h1,fun x hx=>by have:=h2 x hx;omega⟩
theorem L5 {l:List aA} {i:Int}:(cj l i).Pairwise (· < ·):=(Qb9 l 0).1
theorem Bv {l:List aA} (T:Tr l) {i k:Int} (h:vI l i):k∈cj l i↔vI l k/\bQ l k=i:=by
 constructor
 .intro hk
  obtain ⟨j,x,rfl,h2,h3⟩:=Qld hk
  refine ⟨DQ h2,?_⟩
  unfold bQ
  rw [jL h2,h3,Qzc T h]
 .rintro ⟨hk,rfl⟩
  have e:=Qzb h.1
  have hg:=fu hk
  have hm:=Qlj (c:=fun x _=>x.2.1==(aV l (bQ l k)).1) (e:=fun _ j=>((j:Nat):Int)) l 0 k.toNat _ hg (by rw [e];simp)
  rw [Zo,Int.toNat_of_nonneg hk.1] at hm
  exact hm
theorem Jx {l:List aA} {i:Int} (h:vI l i):1<=gd l i:=by unfold gd;rw [Vn h.1];simp
theorem Hr {l:List aA} (T:Tr l) {i:Int} (h:vI l i):gd l i=1+gd l (bQ l i):=by
 have:=Pp h.1 (T.Hp i h).1
 unfold gd
 rw [this,Z9]
 unfold bQ;omega
theorem qR {l:List aA} (T:Tr l) {i k:Int} (h:vI l i) (hk:k∈cj l i):vI l k/\bQ l k=i/\gd l k=1+gd l i:=by
 obtain ⟨h1,h2⟩:=(Bv T h).1 hk
 exact ⟨h1,h2,by rw [Hr T h1,h2]⟩
theorem Qzd {l:List aA} (T:Tr l) {i:Int} (h:vI l i) (hp:bQ l i < 0):(aV l i).2.1=0:=by
 have e:=Pp h.1 (T.Hp i h).1
 have e2:cR l 9 (bP l (aV l i).2.1)=[]:=Qwi hp
 have:=(T.Hp i h).2
 rw [e,e2] at this
 exact this
def jO (l:List aA):Int:=fy (fun x:aA=>x.2.1==0) l 0
theorem Hs {l:List aA} (T:Tr l):vI l (jO l)/\(aV l (jO l)).2.1=0/\bQ l (jO l) < 0/\∀ j,vI l j->bQ l j < 0->j=jO l:=by
 obtain ⟨t,t1,t2,t3⟩:=T.top
 have h0:0<=jO l:=by
  unfold jO
  rcases Int.lt_or_le (fy (fun x:aA=>x.2.1==0) l 0) 0 with h | h
  .have:=K8.1 h (aV l t) (Zc (fu t1))
   simp [t2] at this
  .exact h
 obtain ⟨k,x,h1,h2,h3,_⟩:=Ju h0
 have e:jO l=(k:Int):=by unfold jO;rw [h1];simp
 have hv:vI l (jO l):=by rw [e];exact DQ h2
 have hz:(aV l (jO l)).2.1=0:=by rw [e,jL h2];simpa using h3
 have hp:bQ l (jO l) < 0:=by
  unfold bQ
  rw [hz,Vj]
  intro y hy
  obtain ⟨i,hi⟩:=List.getElem?_of_mem hy
  have:=T.pos _ (DQ hi)
  rw [jL hi] at this;omega
 exact ⟨hv,hz,hp,fun j hj hjp=>by rw [t3 j hj (Qzd T hj hjp),t3 _ hv hz]⟩
def dw (l:List aA):Nat->Int->List Int
 | 0,_=>[]
 | f+1,i=>i::(cj l i).flatMap (dw l f)
def L6 (l:List aA):Nat->Int->Int
 | 0,x=>x
 | k+1,x=>bQ l (L6 l k x)
theorem Ez {l:List aA} (T:Tr l):∀ (f:Nat) (a x:Int),vI l a->x∈dw l f a->vI l x/\gd l a<=gd l x/\L6 l (gd l x - gd l a) x=a/\(x≠a->gd l a < gd l x)
 | 0,a,x,_,h=>by simp [dw] at h
 | f+1,a,x,ha,h=>by
  simp only [dw,List.mem_cons,List.mem_flatMap] at h
  rcases h with rfl | ⟨c,hc,hx⟩
  .exact ⟨ha,Zd _,by rw [Nat.sub_self];rfl,fun h=>absurd rfl h⟩
  .obtain ⟨c1,c2,c3⟩:=qR T ha hc
   obtain ⟨x1,x2,x3,_⟩:=Ez T f c x c1 hx
   refine ⟨x1,by omega,?_,fun _=>by omega⟩
   rw [show gd l x - gd l a=(gd l x - gd l c)+1 by omega]
   show bQ l _=a
   rw [x3,c2]
theorem Qsq {l:List aA} (T:Tr l) {f g:Nat} {a b x:Int} (ha:vI l a) (hb:vI l b) (hd:gd l a=gd l b) (h1:x∈dw l f a) (h2:x∈dw l g b):a=b:=by
 have e1:=(Ez T f a x ha h1).2.2.1
 have e2:=(Ez T g b x hb h2).2.2.1
 rw [<- e1,<- e2,hd]
theorem Vr {l:List aA} (T:Tr l):∀ (f:Nat) (a x:Int),vI l a->x∈dw l f a->x≠a->bQ l x∈dw l f a
 | 0,a,x,_,h,_=>by simp [dw] at h
 | f+1,a,x,ha,h,aU=>by
  simp only [dw,List.mem_cons,List.mem_flatMap] at h ⊢
  rcases h with rfl | ⟨c,hc,hx⟩
  .exact absurd rfl aU
  .obtain ⟨c1,c2,c3⟩:=qR T ha hc
   by_cases Ht:x=c
   .left;rw [Ht,c2]
   .right;exact ⟨c,hc,Vr T f c x c1 hx Ht⟩
theorem Vs {l:List aA} (T:Tr l):∀ (f:Nat) (a:Int),vI l a->(dw l f a).Pairwise fun x y=>bQ l x=bQ l y->x < y
 | 0,a,_=>by simp [dw]
 | f+1,a,ha=>by
  simp only [dw]
  rw [List.pairwise_cons]
  constructor
  .intro y hy hp
   obtain ⟨c,hc,hx⟩:=List.mem_flatMap.1 hy
   obtain ⟨c1,c2,c3⟩:=qR T ha hc
   obtain ⟨x1,x2,_,_⟩:=Ez T f c y c1 hx
   have e1:=Hr T ha
   have e2:=Hr T x1
   rw [hp] at e1
   omega
  .rw [List.pairwise_flatMap]
   refine ⟨fun c hc=>Vs T f c (qR T ha hc).1,?_⟩
   refine List.Pairwise.imp_of_mem ?_ L5
   intro c1 c2 SQ w4 au x hx y hy hp
   obtain ⟨v1,p1,d1⟩:=qR T ha SQ
   obtain ⟨v2,p2,d2⟩:=qR T ha w4
   obtain ⟨x1,x2,x3,x4⟩:=Ez T f c1 x v1 hx
   obtain ⟨y1,y2,y3,y4⟩:=Ez T f c2 y v2 hy
   have ex:=Hr T x1
   have ey:=Hr T y1
   rw [hp] at ex
   by_cases Ht:x=c1
   .by_cases L7:y=c2
    .rw [Ht,L7];exact au
    .have:=y4 L7;rw [Ht] at ex;omega
   .have h1:=Vr T f c1 x v1 hx Ht
    by_cases L7:y=c2
    .have:=x4 Ht;rw [<- L7] at d2;omega
    .have h2:=Vr T f c2 y v2 hy L7
     rw [hp] at h1
     have:=Qsq T v1 v2 (by omega) h1 h2
     omega
theorem Qun {l:List aA} (T:Tr l):∀ (f:Nat) (a x k:Int),vI l a->9 - gd l a<=f->x∈dw l f a->k∈cj l x->k∈dw l f a
 | 0,a,x,k,_,_,h,_=>by simp [dw] at h
 | f+1,a,x,k,ha,hf,h,hk=>by
  simp only [dw,List.mem_cons,List.mem_flatMap] at h ⊢
  rcases h with rfl | ⟨c,hc,hx⟩
  .right
   obtain ⟨c1,c2,c3⟩:=qR T ha hk
   have:=(T.Hp k c1).1
   obtain ⟨g,rfl⟩:∃ g,f=g+1:=⟨f - 1,by omega⟩
   exact ⟨k,hk,by simp [dw]⟩
  .right
   obtain ⟨c1,c2,c3⟩:=qR T ha hc
   exact ⟨c,hc,Qun T f c x k c1 (by omega) hx hk⟩
theorem Qpc {l:List aA} (T:Tr l):∀ (f g:Nat) (a:Int),vI l a->9 - gd l a<=f->f<=g->dw l g a=dw l f a
 | 0,g,a,ha,hf,_=>by have:=(T.Hp a ha).1;unfold gd at *;omega
 | f+1,0,a,_,_,hg=>by omega
 | f+1,g+1,a,ha,hf,hg=>by
  simp only [dw]
  congr 1
  have:∀ c∈cj l a,dw l g c=dw l f c:=fun c hc=>by
   obtain ⟨c1,c2,c3⟩:=qR T ha hc
   exact Qpc T f g c c1 (by omega) (by omega)
  have key:∀ L:List Int,(∀ c∈L,dw l g c=dw l f c)->L.flatMap (dw l g)=L.flatMap (dw l f):=by
   intro L
   induction L with
   | nil=>intro _;rfl
   | cons c L ih=>intro h;rw [List.flatMap_cons,List.flatMap_cons,h c (by simp),ih (fun x hx=>h x (by simp [hx]))]
  exact key _ this
def iS (l:List aA) (i:Int):List Int:=dw l 8 i
theorem Jy {l:List aA} (T:Tr l) {i:Int} (h:vI l i):iS l i=i::(cj l i).flatMap (iS l):=by
 have:=Jx h
 have e:=Qpc T 8 9 i h (by omega) (by omega)
 unfold iS
 rw [<- e]
 rfl
def aG (l:List aA):List Int:=iS l (jO l)
theorem Qpd {l:List aA} (T:Tr l):∀ (m:Nat) (x:Int),gd l x<=m->vI l x->x∈aG l
 | 0,x,hm,hx=>by have:=Jx hx;omega
 | m+1,x,hm,hx=>by
  obtain ⟨t1,t2,t3,t4⟩:=Hs T
  by_cases hp:bQ l x < 0
  .rw [t4 x hx hp]
   unfold aG iS;simp [dw]
  .have hv:=Hq (l:=l) (i:=x) (by omega)
   have hd:=Hr T hx
   have:=Qpd T m (bQ l x) (by omega) hv
   have htd:=Jx t1
   exact Qun T 8 (jO l) (bQ l x) x t1 (by omega) this ((Bv T hv).2 ⟨hx,rfl⟩)
theorem jK {l:List aA} (T:Tr l) {x:Int}:x∈aG l↔vI l x :=
 ⟨fun h=>(Ez T 8 _ x (Hs T).1 h).1,fun h=>Qpd T (gd l x) x (Zd _) h⟩
theorem Qh4 {l:List aA} (T:Tr l):(aG l).Pairwise fun x y=>bQ l x=bQ l y->x < y:=Vs T 8 _ (Hs T).1
theorem rP {l:List aA} (T:Tr l):(aG l).Nodup:=by
 rw [List.nodup_iff_pairwise_ne]
 exact (Qh4 T).imp fun h e=>by have:=h (by rw [e]);omega
theorem Hu {l:List aA} (T:Tr l):(aG l).length=l.length:=by
 have h1:=Pq (rP T) (fun x hx=>(jK T).1 hx)
 have h2:((List.range l.length).map fun (k:Nat)=>(k:Int)).length<=(aG l).length:=by
  refine List.Nodup.length_le_of_subset ?_ fun x hx=>?_
  .rw [List.nodup_iff_pairwise_ne,List.pairwise_map]
   exact (List.nodup_iff_pairwise_ne.1 List.nodup_range).imp fun h e=>h (by omega)
  .obtain ⟨k,hk,rfl⟩:=List.mem_map.1 hx
   have:=List.mem_range.1 hk
   exact (jK T).2 ⟨by omega,by omega⟩
 simp at h2
 omega
theorem Vt {l:List aA} (T:Tr l):∀ (m:Nat) (i:Int),gd l i<=m->vI l i->∃ A B,aG l=A++iS l i++B
 | 0,i,hm,hi=>by have:=Jx hi;omega
 | m+1,i,hm,hi=>by
  obtain ⟨t1,t2,t3,t4⟩:=Hs T
  by_cases hp:bQ l i < 0
  .rw [t4 i hi hp]
   exact ⟨[],[],by simp [aG]⟩
  .have hv:=Hq (l:=l) (i:=i) (by omega)
   have hd:=Hr T hi
   obtain ⟨A,B,e⟩:=Vt T m (bQ l i) (by omega) hv
   obtain ⟨K1,K2,ek⟩:=List.append_of_mem ((Bv T hv).2 ⟨hi,rfl⟩)
   rw [Jy T hv,ek,List.flatMap_append,List.flatMap_cons] at e
   exact ⟨A++bQ l i::K1.flatMap (iS l),K2.flatMap (iS l)++B,by rw [e];simp⟩
theorem I9 {l:List aA} (h:rQ l=true):∀ (j i:Nat) (x y:aA),i < j->l[i]? = some x->l[j]? = some y->x.1 < y.1
 | 0,i,x,y,lg,_,_=>by omega
 | j+1,i,x,y,lg,hx,hy=>by
  unfold rQ at h
  rw [o_] at h
  have h1:=h (j+1) y hy
  rw [Zo] at h1
  unfold Ah at h1
  simp only [Z8,Bool.or_eq_true,Zj] at h1
  have hj:j < l.length:=by have:=(Z0 hy).1;omega
  have hz:=Z6 hj
  have h2:(l[j]).1 < y.1:=by
   rcases h1.2 with h | h
   .omega
   .rw [show ((j+1:Nat):Int) - 1=(j:Int) by omega,jL hz] at h;exact h
  rcases Nat.lt_or_ge i j with au | tA
  .have:=I9 (by unfold rQ;rw [o_];exact h) j i x l[j] au hx hz;omega
  .obtain rfl:i=j:=by omega
   rw [hz] at hx;injection hx with hx;rw [<- hx];exact h2
theorem Qze {l:List aA} (h:kD l=true):Tr l:=by
 unfold kD at h
 simp only [Z8,Zj] at h
 obtain ⟨⟨h1,h2⟩,h3,h4,h5,h6,h7,h8,h9,L8⟩:=h
 have inj:∀ i j,vI l i->vI l j->(aV l i).1=(aV l j).1->i=j:=by
  intro i j hi hj e
  have gi:=fu hi
  have gj:=fu hj
  obtain ⟨i0,i1⟩:=hi
  obtain ⟨j0,j1⟩:=hj
  rcases Int.lt_trichotomy i j with au | rfl | au
  .have:=I9 h3 j.toNat i.toNat _ _ (by omega) gi gj;omega
  .rfl
  .have:=I9 h3 i.toNat j.toNat _ _ (by omega) gj gi;omega
 refine ⟨h1,h2,inj,fun i hi=>?_,?_,fun i hi=>?_⟩
 .unfold rQ at h3
  rw [o_] at h3
  have:=h3 _ _ (fu hi)
  unfold Ah at this
  simp only [Z8,Zj] at this
  exact this.1.1
 .unfold vi at h4
  obtain ⟨x,hx⟩:=List.length_eq_one_iff.1 h4
  have fS:x∈l.filter (fun x:aA=>x.2.1==0):=by rw [hx];simp
  have hm:x∈l/\(x.2.1==0)=true:=List.mem_filter.1 fS
  obtain ⟨t,ht⟩:=List.getElem?_of_mem hm.1
  refine ⟨(t:Int),DQ ht,by rw [jL ht];simpa using hm.2,fun j hj hz=>?_⟩
  have hjm:aV l j∈l.filter (fun x=>x.2.1==0):=List.mem_filter.2 ⟨Zc (fu hj),by simp [hz]⟩
  rw [hx,List.mem_singleton] at hjm
  exact inj j t hj (DQ ht) (by rw [hjm,jL ht])
 .rw [o_] at h6
  have:=h6 _ _ (fu hi)
  rw [Zo] at this
  unfold wm at this
  simp only [Z8,Zj,beq_iff_eq] at this
  rw [Int.toNat_of_nonneg hi.1] at this
  exact this
def wo (W:List Int) (x:Int):Int:=fy (fun y=>y==x) W 0
theorem sI {W:List Int} (hn:W.Nodup) {k:Nat} {x:Int} (h:W[k]? = some x):wo W x=(k:Int):=by
 have hm:=Zc h
 rcases Int.lt_or_le (wo W x) 0 with h0 | h0
 .exact absurd hm (Qp4 h0)
 .obtain ⟨j,y,h1,h2,h3,_⟩:=Ju h0
  have e:y=x:=by simpa using h3
  subst e
  unfold wo
  rw [h1,Zo]
  have hj:=(Z0 h2)
  have hk:=(Z0 h)
  obtain ⟨Vu,vj⟩:=hj
  obtain ⟨wY,Ak⟩:=hk
  have:j=k:=(List.getElem_inj hn).1 (vj.trans Ak.symm)
  rw [this]
theorem Qlk {W:List Int} {x:Int} (h:x∉W):wo W x=-1:=by
 have hn:∀ (l:List Int) (i:Nat),x∉l->fy (fun y=>y==x) l i=-1:=by
  intro l
  induction l with
  | nil=>intro i _;rfl
  | cons a r ih =>
   intro i ha
   simp only [List.mem_cons,not_or] at ha
   simp only [fy]
   rw [if_neg (by simp;exact fun e=>ha.1 e.symm)]
   exact ih (i+1) ha.2
 exact hn W 0 h
theorem Qpe {W:List Int} (hn:W.Nodup) {x:Int} (h:x∈W):∃ k:Nat,W[k]? = some x/\wo W x=(k:Int):=by
 obtain ⟨k,hk⟩:=List.getElem?_of_mem h
 exact ⟨k,hk,sI hn hk⟩
def pW (l:List aA) (x:Int):Int:=wo (aG l) x
theorem Cb {l:List aA} (T:Tr l) {x:Int} (h:vI l x):∃ k:Nat,(aG l)[k]? = some x/\pW l x=(k:Int):=Qpe (rP T) ((jK T).2 h)
theorem vk {l:List aA} (T:Tr l) {x:Int} (h:x < 0):pW l x=-1:=Qlk fun hm=>by have:=((jK T).1 hm).1;omega
def vl (l:List aA) (i:Int):Int:=if bQ l i < 0 then -1 else (cj l (bQ l i)).getD ((wo (cj l (bQ l i)) i).toNat+1) (-1)
def wq (l:List aA) (i:Int):Int:=(cj l i).headD (-1)
def nX (l:List aA) (k:Nat) (i:Int):Int:=((k+(iS l i).length:Nat):Int)
def nY (c:Cf) (A:List Int) (fs:List dJ) (tg:List Int) (df:Int):Ld:=(c.1,A.map (aV c.2.1),A.map (fun i=>pW c.2.1 (bQ c.2.1 i)),A.map (fun i=>pW c.2.1 (wq c.2.1 i)),A.map (fun i=>pW c.2.1 (vl c.2.1 i)),A.mapIdx (nX c.2.1),fs,tg,df)
def tgV (c:Cf):List Int:=c.2.2.1.map fun f=>pW c.2.1 (bP c.2.1 f.2.2.2.2)
def vX (c:Cf):Int:=if c.2.2.2=0 then -1 else pW c.2.1 (bP c.2.1 c.2.2.2)
def bU (c:Cf):Ld:=nY c (aG c.2.1) c.2.2.1 (tgV c) (vX c)
structure Gd (c:Cf):Prop where
 nm:Bu c.1=true
 cl:kD c.2.1=true
 fl:tH c.2.1 c.2.2.1=true
 df:Ho c=true
theorem oG {c:Cf} (h:eS c=true):Gd c:=by
 unfold eS at h
 simp only [Z8] at h
 exact ⟨h.1,h.2.1,h.2.2.1,h.2.2.2⟩
theorem Gd.tr {c:Cf} (G:Gd c):Tr c.2.1:=Qze G.cl
theorem Gd.f16 {c:Cf} (G:Gd c):c.2.2.1.length<=16:=by
 have:=G.fl
 unfold tH at this
 simp only [Z8,Zj] at this
 exact this.2
theorem Gd.L9 {c:Cf} (G:Gd c):∀ f∈c.2.2.1,vI c.2.1 (bP c.2.1 f.2.2.2.2)/\gP c.2.1 f.2.2.2.2=true/\Ai f=true:=by
 intro f hf
 have:=G.fl
 unfold tH at this
 simp only [Z8,o_] at this
 obtain ⟨i,hi⟩:=List.getElem?_of_mem hf
 have h1:=this.1 i f hi
 unfold Ch wk at h1
 simp only [Z8,Zj] at h1
 exact ⟨⟨h1.2.2.1,Bl⟩,h1.2.2.2,h1.1⟩
theorem Gd.K4 {c:Cf} (G:Gd c) (h:c.2.2.2≠0):vI c.2.1 (bP c.2.1 c.2.2.2)/\gP c.2.1 c.2.2.2=true:=by
 have:=G.df
 unfold Ho wk at this
 simp only [Z8,Bool.or_eq_true,Zj,beq_iff_eq] at this
 rcases this with h1 | h1
 .exact absurd h1 h
 .exact ⟨⟨h1.1,Bl⟩,h1.2⟩
theorem Qwj {d:Nat} {c:Cf} (T:Tr c.2.1):F9 (d+1) c=some (jO c.2.1):=by
 rw [TP]
 obtain ⟨t1,t2,t3,t4⟩:=Hs T
 have iz:=T.ef
 have t1a:=t1.1
 have t1b:=t1.2
 have key:∀ (m k fuel:Nat),k+m=(jO c.2.1).toNat->m < fuel->Q8 (lD d c (yD d)) fuel (k:Int)=some (jO c.2.1):=by
  intro m
  induction m with
  | zero =>
   intro k fuel hk hf
   obtain ⟨g,rfl⟩:∃ g,fuel=g+1:=⟨fuel - 1,by omega⟩
   have e:(k:Int)=jO c.2.1:=by have:=t1.1;omega
   simp only [Q8,lD]
   rw [e,Z5 t1.1,Q4,fu t1,Q9,t2]
   rfl
  | succ m ih =>
   intro k fuel hk hf
   obtain ⟨g,rfl⟩:∃ g,fuel=g+1:=⟨fuel - 1,by omega⟩
   have hv:vI c.2.1 (k:Int):=⟨by omega,by have:=t1.2;omega⟩
   have hz:(aV c.2.1 (k:Int)).2.1≠0:=by
    intro hz
    obtain ⟨t,_,_,q⟩:=T.top
    have h1:=q _ hv hz
    have h2:=q _ t1 t2
    omega
   simp only [Q8,lD]
   rw [nn,Q4,fu hv,Q9,show ((aV c.2.1 (k:Int)).2.1 != 0)=true by simp [hz],Q4,aN (by omega)]
   exact ih (k+1) g (by omega) (by omega)
 exact key (jO c.2.1).toNat 0 Qc (by omega) (by rw [Q6];have:=t1.2;omega)
theorem Qba {α β γ:Type} {G:α->Option (List γ)} {w:α->List γ} {fin:List γ->Option β} {B:Nat}:∀ (L:List α) (i:Nat) (t:List γ),(∀ x∈L,G x=some (w x)/\(w x).length<=B)->t.length+L.length*B<=10000 ->
  eg (fun x _ t k=>Q1 (G x) fun r=>aa (Nat.ble ((t.length+r.length)*8) Q7) (k (t++r)) none) fin L i t=fin (t++L.flatMap w)
 | [],i,t,_,_=>by simp [eg]
 | x::r,i,t,h,hb=>by
  obtain ⟨h1,h2⟩:=h x (by simp)
  have e:(x::r).length*B=r.length*B+B:=by rw [Z9,Nat.add_mul,Nat.one_mul]
  rw [e] at hb
  simp only [eg]
  rw [h1,Q9,room (by omega),Q4,Qba r (i+1) (t++w x) (fun y hy=>h y (by simp [hy])) (by simp;omega),List.flatMap_cons,List.append_assoc]
theorem Vv {l:List aA} (T:Tr l) {f:Nat} {a:Int} (ha:vI l a):(dw l f a).length<=24:=by
 have hn:(dw l f a).Nodup:=by
  rw [List.nodup_iff_pairwise_ne]
  exact (Vs T f a ha).imp fun h e=>by have:=h (by rw [e]);omega
 have:=Pq hn (fun x hx=>(Ez T f a x ha hx).1)
 have:=T.ef
 omega
theorem Qll {d:Nat} {c:Cf} (T:Tr c.2.1):∀ (f:Nat) (i:Int),vI c.2.1 i->9 - gd c.2.1 i<=f->pM (d+1+f) c i=some (dw c.2.1 f i)
 | 0,i,hv,hf=>by have:=(T.Hp i hv).1;unfold gd at *;omega
 | f+1,i,hv,hf=>by
  have iz:=T.ef
  have hk:=Pj (l:=c.2.1) (id:=(aV c.2.1 i).1)
  rw [show d+1+(f+1)=(d+1+f)+1 by omega,TO]
  have e1:lz (d+1+f) c i=some (cj c.2.1 i):=by
   have:=Pm (d:=d+f) (c:=c) (n:=i.toNat) (fu hv) (by omega)
   rw [Int.toNat_of_nonneg hv.1,show d+f+1=d+1+f by omega] at this
   exact this
  have hb:([i]:List Int).length+(cj c.2.1 i).length*24<=10000:=by
   have:(cj c.2.1 i).length<=24:=by unfold cj;omega
   simp only [Z9,Zb];omega
  rw [e1,Q9]
  refine (Qd (fun (t:List Int) (k:Int)=>(t,k)) (cj c.2.1 i) (fun x _ t k=>Q1 (pM (d+1+f) c x) fun r=>aa (Nat.ble ((t.length+r.length)*8) Q7) (k (t++r)) none) (fun t=>some t) ?_ ?_ (by rw [Q6];unfold cj;omega) [i]).trans ?_
  .intro ag t k x hx
   have hi:=(Z0 hx).1
   have:(cj c.2.1 i).length<=24:=by unfold cj;omega
   simp only [pL,bX hx,nn,Q3,hx,Q9,Q4,tG hx]
   rw [aN (by omega)]
  .intro ag t;simp only [pL,bB,Q5];rfl
  .rw [Qba (w:=dw c.2.1 f) (B:=24) (cj c.2.1 i) 0 [i] (fun x hx=>?_) hb]
   .rfl
   .obtain ⟨c1,c2,c3⟩:=qR T hv hx
    exact ⟨Qll T f x c1 (by omega),Vv T c1⟩
theorem Qzf {d:Nat} {c:Cf} (T:Tr c.2.1) {i:Int} (h:vI c.2.1 i):pM (d+9) c i=some (iS c.2.1 i):=by
 have:=Qll (d:=d) T 8 i h (by have:=Jx h;omega)
 rw [show d+1+8=d+9 by omega] at this
 exact this
theorem Qh6 {α τ:Type} {f:α->Nat->τ->τ}:∀ (A B:List α) (i:Nat) (t:τ),cF f (A++B) i t=cF f B (i+A.length) (cF f A i t)
 | [],B,i,t=>by simp [cF]
 | x::A,B,i,t=>by
  simp only [List.cons_append,cF,Z9]
  rw [Qh6 A B (i+1),show i+1+A.length=i+(A.length+1) by omega]
theorem Vw {α τ:Type} {f:α->Nat->τ->τ}:∀ (A:List α) (i:Nat) (t:τ),(∀ x∈A,∀ k t,f x k t=t)->cF f A i t=t
 | [],i,t,_=>rfl
 | x::A,i,t,h=>by
  simp only [cF]
  rw [h x (by simp)]
  exact Vw A (i+1) t (fun y hy=>h y (by simp [hy]))
theorem Qde {β:Type} {fin:List Int->Option β}:∀ (W:List Int) (i:Nat) (t:List Int),(∀ x∈W,0<=x/\x < ((t.length:Nat):Int)) ->
  eg (fun x i t k=>aa (decide (0<=x)) (aa (Nat.blt x.toNat t.length) (Q1 (t[x.toNat]?) fun _=>k (t.set x.toNat ((i:Nat):Int))) none) none) fin W i t=fin (cF (fun x i t=>t.set x.toNat ((i:Nat):Int)) W i t)
 | [],i,t,_=>rfl
 | x::r,i,t,h=>by
  obtain ⟨h1,h2⟩:=h x (by simp)
  simp only [eg,cF]
  rw [Z5 h1,Q4,Qk (by omega),Q4,Z6 (show x.toNat < t.length by omega),Q9]
  exact Qde r (i+1) _ (fun y hy=>by rw [List.length_set];exact h y (by simp [hy]))
theorem Vx:∀ (W:List Int) (i:Nat) (t:List Int),(cF (fun x i t=>t.set x.toNat ((i:Nat):Int)) W i t).length=t.length
 | [],i,t=>rfl
 | x::r,i,t=>by simp only [cF];rw [Vx r,List.length_set]
theorem Qlm:∀ (W:List Int) (i:Nat) (t:List Int) (j:Nat),(∀ x∈W,0<=x)->((j:Int)∉W)->(cF (fun x i t=>t.set x.toNat ((i:Nat):Int)) W i t)[j]? = t[j]?
 | [],i,t,j,_,_=>rfl
 | x::r,i,t,j,h0,hj=>by
  simp only [List.mem_cons,not_or] at hj
  have:=h0 x (by simp)
  simp only [cF]
  rw [Qlm r (i+1) _ j (fun y hy=>h0 y (by simp [hy])) hj.2,List.getElem?_set_ne (by omega)]
theorem Quo:∀ (W:List Int) (i:Nat) (t:List Int) (k:Nat) (x:Int),W.Nodup->(∀ x∈W,0<=x/\x < ((t.length:Nat):Int))->W[k]? = some x->(cF (fun x i t=>t.set x.toNat ((i:Nat):Int)) W i t)[x.toNat]? = some ((i+k:Nat):Int)
 | [],i,t,k,x,_,_,h=>by simp at h
 | y::r,i,t,0,x,hn,h0,h=>by
  simp only [List.getElem?_cons_zero,Option.some.injEq] at h
  subst h
  obtain ⟨q1,q2⟩:=List.nodup_cons.1 hn
  obtain ⟨p1,p2⟩:=h0 y (by simp)
  simp only [cF]
  rw [Qlm r (i+1) _ y.toNat (fun z hz=>(h0 z (by simp [hz])).1) (by rw [Int.toNat_of_nonneg p1];exact q1),List.getElem?_set_self (by omega)]
  simp
 | y::r,i,t,k+1,x,hn,h0,h=>by
  obtain ⟨q1,q2⟩:=List.nodup_cons.1 hn
  simp only [cF]
  rw [Quo r (i+1) _ k x q2 (fun z hz=>by rw [List.length_set];exact h0 z (by simp [hz])) (by simpa using h)]
  congr 2;omega
def nZ (l:List aA):List Int:=cF (fun x i t=>t.set x.toNat ((i:Nat):Int)) (aG l) 0 (List.replicate l.length 0)
theorem Qwk {l:List aA}:(nZ l).length=l.length:=by unfold nZ;rw [Vx];simp
theorem Qwl {l:List aA} (T:Tr l) {x:Int} (h:vI l x):(nZ l)[x.toNat]? = some (pW l x)/\x.toNat < (nZ l).length:=by
 obtain ⟨k,h1,h2⟩:=Cb T h
 refine ⟨?_,by rw [Qwk];have:=h.1;have:=h.2;omega⟩
 unfold nZ
 rw [Quo (aG l) 0 _ k x (rP T) (fun y hy=>by have:=(jK T).1 hy;simp;exact this) h1,h2,Zo]
theorem Vy {α γ β:Type} {e:α->γ} {fin:List γ->Option β} {w:Nat}:∀ (l:List α) (i:Nat) (t:List γ),(t.length+l.length)*w<=100000000 ->
  eg (fun x _ t k=>aa (Nat.ble ((t.length+[e x].length)*w) Q7) (k (t++[e x])) none) fin l i t=fin (t++l.map e)
 | [],i,t,_=>by simp [eg]
 | x::r,i,t,h=>by
  simp only [eg]
  rw [room (by
   have:(t.length+[e x].length)*w<=(t.length+(x::r).length)*w:=Zk w (by simp)
   omega),Q4]
  rw [Vy r (i+1) (t++[e x]) (by
   refine Nat.le_trans (Zk w ?_) h
   simp;omega)]
  simp
theorem Qwm {K:List Int} {i:Int} {g:Int->Int} (hn:K.Nodup) (hi:i∈K) (hg:g (-1)=-1) :
  cF (fun x k t=>if x=i/\k+1 < K.length then g (K.getD (k+1) 0) else t) K 0 (-1)=g (K.getD ((wo K i).toNat+1) (-1)):=by
 obtain ⟨K1,K2,e⟩:=List.append_of_mem hi
 have hp:wo K i=(K1.length:Int):=sI hn (by rw [e];simp)
 have hn':=hn
 rw [e,Zn] at hn'
 obtain ⟨n1,n2,n3⟩:=hn'
 have h0:cF (fun x k t=>if x=i/\k+1 < K.length then g (K.getD (k+1) 0) else t) K 0 (-1)=cF (fun x k t=>if x=i/\k+1 < K.length then g (K.getD (k+1) 0) else t) (K1++i::K2) 0 (-1):=by rw [<- e]
 rw [h0,Qh6,Vw K1 0 (-1) (fun x hx k t=>if_neg (fun h=>n3 x hx i (by simp) h.1)),Zo]
 show cF (fun x k t=>if x=i/\k+1 < K.length then g (K.getD (k+1) 0) else t) K2 (K1.length+1) (if i=i/\K1.length+1 < K.length then g (K.getD (K1.length+1) 0) else -1)=_
 rw [Vw K2 _ _ (fun x hx k t=>if_neg (fun (h:x=i/\k+1 < K.length)=>(List.nodup_cons.1 n2).1 (h.1▸hx))),hp,Q3]
 by_cases h:K1.length+1 < K.length
 .rw [if_pos ⟨rfl,h⟩,Zr,Zr,Z6 h];rfl
 .rw [if_neg (fun hc=>h hc.2),Zr,List.getElem?_eq_none (by omega)];exact hg.symm
theorem Qln {l:List aA} {i:Int}:(cj l i).Nodup:=by
 rw [List.nodup_iff_pairwise_ne];exact L5.imp fun h e=>by omega
theorem L_ {l:List aA} (T:Tr l) {x:Int} (h:vI l x) {α:Type} {K:Int->Option α}:aa (Nat.blt x.toNat (nZ l).length) (Q1 ((nZ l)[x.toNat]?) K) none=K (pW l x):=by
 obtain ⟨h1,h2⟩:=Qwl T h
 rw [Qk h2,Q4,h1,Q9]
theorem Vz {l:List aA} (T:Tr l) {i:Int}:(cj l i).length<=24:=by
 have:=Pj (l:=l) (id:=(aV l i).1)
 have:=T.ef
 unfold cj;omega
theorem Qzg {d:Nat} {c:Cf} (T:Tr c.2.1) {i:Int} (hi:vI c.2.1 i) (hp:0<=bQ c.2.1 i) {kx:Int->Int->Option Ld} :
  Q8 (lK d (nZ c.2.1) i (cj c.2.1 (bQ c.2.1 i)) kx) Qc ((-1),0)=kx (pW c.2.1 (vl c.2.1 i)) ((cj c.2.1 (bQ c.2.1 i)).length:Int):=by
 have hv:=Hq hp
 have hl:=Vz T (i:=bQ c.2.1 i)
 refine (Qd (fun (t:Int) (k:Int)=>(t,k)) (cj c.2.1 (bQ c.2.1 i)) (fun x k t cont=>cont (if x=i/\k+1 < (cj c.2.1 (bQ c.2.1 i)).length then pW c.2.1 ((cj c.2.1 (bQ c.2.1 i)).getD (k+1) 0) else t)) (fun t=>kx t ((cj c.2.1 (bQ c.2.1 i)).length:Int)) ?_ ?_ (by rw [Q6];omega) (-1)).trans ?_
 .intro ag t k x hx
  have hk:=(Z0 hx).1
  simp only [lK,bX hx,nn,Q3,hx,Q9,Q4,tG hx]
  rw [aN (by omega)]
  unfold pQ
  rw [aN (by omega)]
  by_cases he:x=i
  .rw [show (x==i)=true by simp [he],Q4]
   by_cases au:k+1 < (cj c.2.1 (bQ c.2.1 i)).length
   .have hm:=Z6 au
    have Jz:=(qR T hv (Zc hm)).1
    rw [Z5 (show ((k+1:Nat):Int) < (((cj c.2.1 (bQ c.2.1 i)).length:Nat):Int) by omega),Q4,nn,Q4,Q3,Qk au,Q4,hm,Q9,Z5 Jz.1,Q4,L_ T Jz,if_pos ⟨he,au⟩,Zr,hm]
    rfl
   .rw [Z4 (show ¬ ((k+1:Nat):Int) < (((cj c.2.1 (bQ c.2.1 i)).length:Nat):Int) by omega),Q5,if_neg (fun h=>au h.2)]
  .rw [show (x==i)=false by simp [he],Q5,Q5,if_neg (fun h=>he h.1)]
 .intro ag t;simp only [lK,bB,Q5]
 .rw [xe (f:=fun x k t=>if x=i/\k+1 < (cj c.2.1 (bQ c.2.1 i)).length then pW c.2.1 ((cj c.2.1 (bQ c.2.1 i)).getD (k+1) 0) else t),Qwm (g:=pW c.2.1) Qln ((Bv T hv).2 ⟨hi,rfl⟩) (vk T (by omega))]
  unfold vl
  rw [if_neg (by omega)]
theorem Qh8 {d:Nat} {c:Cf} {i:Int} (T:Tr c.2.1) (h:vI c.2.1 i):lz (d+1) c i=some (cj c.2.1 i):=by
 have iz:=T.ef
 have:=Pm (d:=d) (c:=c) (n:=i.toNat) (fu h) (by omega)
 rw [Int.toNat_of_nonneg h.1] at this
 exact this
theorem Qph {c:Cf} {A:List Int} {i:Int} {fs:List dJ} {tg:List Int} {df:Int}:nY c (A++[i]) fs tg df=(c.1,A.map (aV c.2.1)++[aV c.2.1 i],A.map (fun i=>pW c.2.1 (bQ c.2.1 i))++[pW c.2.1 (bQ c.2.1 i)],A.map (fun i=>pW c.2.1 (wq c.2.1 i))++[pW c.2.1 (wq c.2.1 i)],A.map (fun i=>pW c.2.1 (vl c.2.1 i))++[pW c.2.1 (vl c.2.1 i)],A.mapIdx (nX c.2.1)++[nX c.2.1 A.length i],fs,tg,df):=by
 unfold nY
 simp [List.mapIdx_concat]
theorem Qup {d:Nat} {c:Cf} (T:Tr c.2.1) {A:List Int} {i:Int} (hi:vI c.2.1 i) (hA:A.length<=24) {fs:List dJ} {tg:List Int} {df:Int} {ag:Int×Ld->Option Ld} {b:Bool} :
  lJ (d+9) c (nZ c.2.1) ag (A.length:Int) (nY c A fs tg df) i (aV c.2.1 i) (pW c.2.1 (bQ c.2.1 i)) (pW c.2.1 (vl c.2.1 i)) b=ag (((A.length+1:Nat):Int),nY c (A++[i]) fs tg df):=by
 have fin:∀ bb,lI (d+9) c ag (A.length:Int) (nY c A fs tg df) i (aV c.2.1 i) (pW c.2.1 (bQ c.2.1 i)) (pW c.2.1 (vl c.2.1 i)) (pW c.2.1 (wq c.2.1 i)) bb=ag (((A.length+1:Nat):Int),nY c (A++[i]) fs tg df):=by
  intro bb
  unfold lI
  rw [Qzf T hi,Q9,aN (by omega),Qph]
  have hs:=Vv T (f:=8) hi
  simp only [nY,List.length_map,List.length_mapIdx,Z9,Zb]
  rw [room (by omega),Q4,Q4,Q4,Q4,wr (by unfold iS;omega) (by unfold iS;omega)]
  rw [show (A.length:Int)+(((iS c.2.1 i).length:Nat):Int)=nX c.2.1 A.length i by unfold nX;omega]
 unfold lJ
 rw [show d+9=d+8+1 from rfl,Qh8 T hi,Q9]
 cases hk:cj c.2.1 i with
 | nil =>
  rw [Z4 (show ¬ ((([]:List Int).length:Nat):Int) > 0 by simp),Q5]
  have:=fin false
  rw [show wq c.2.1 i=-1 by unfold wq;rw [hk];rfl,vk T (show (-1:Int) < 0 by omega)] at this
  exact this
 | cons k r =>
  have hv:=(qR T hi (show k∈cj c.2.1 i by rw [hk];simp)).1
  have hl:(k::r).length<=24:=by rw [<- hk];exact Vz T
  rw [Z5 (show (((k::r).length:Nat):Int) > 0 by simp),Q4,Qk (by simp),Q4,List.getElem?_cons_zero,Q9,Z5 hv.1,Q4,L_ T hv]
  have:=fin true
  rw [show wq c.2.1 i=k by unfold wq;rw [hk];rfl] at this
  exact this
theorem Quq {d:Nat} {c:Cf} (T:Tr c.2.1) {fs:List dJ}:∀ (B A:List Int) (fuel:Nat),aG c.2.1=A++B->B.length < fuel->Q8 (ji (d+9) c (aG c.2.1) (nZ c.2.1) (lG (d+9) c (nZ c.2.1))) fuel ((A.length:Int),nY c A fs [] (-1))=Q8 (lE (d+9) c (nZ c.2.1) (pN (d+9) c (nZ c.2.1))) Qc (0,nY c (aG c.2.1) fs [] (-1))
 | B,A,0,_,h=>by omega
 | [],A,fuel+1,e,h=>by
  rw [List.append_nil] at e
  simp only [Q8,ji]
  rw [e,bB,Q5]
  unfold lG
  rfl
 | i::B,A,fuel+1,e,h=>by
  have hlen:A.length+(B.length+1)=(aG c.2.1).length:=by rw [e];simp
  have iz:=T.ef
  have hW:=Hu T
  have hi:vI c.2.1 i:=(jK T).1 (by rw [e];simp)
  have hg:(aG c.2.1)[A.length]? = some i:=by rw [e];simp
  have next:=Quq (d:=d) T (fs:=fs) B (A++[i]) fuel (by rw [e];simp) (by simpa using h)
  rw [show ((A++[i]).length:Int)=((A.length+1:Nat):Int) by simp] at next
  simp only [Q8,ji]
  rw [Z5 (show (A.length:Int) < (((aG c.2.1).length:Nat):Int) by omega),Q4,nn,Q4,Q3,Qk (show A.length < (aG c.2.1).length by omega),Q4,hg,Q9,Z5 hi.1,Q4,fu hi,Q9,show (nY c A fs [] (-1)).2.1.length=A.length by simp [nY],room (by simp;omega),Q4,Q4,Q9,show d+9=d+8+1 from rfl,Jh (by omega),Q9]
  rw [show bP c.2.1 (aV c.2.1 i).2.1=bQ c.2.1 i from rfl]
  by_cases hp:0<=bQ c.2.1 i
  .have hv:=Hq hp
   rw [show decide (bQ c.2.1 i>=0)=true from Z5 hp,Q4,Q4,L_ T hv,Qh8 T hv,Q9,Qzg T hi hp]
   unfold yE
   rw [show d+8+1=d+9 from rfl,Qup T hi (by omega)]
   exact next
  .rw [show decide (bQ c.2.1 i>=0)=false from Z4 hp,Q5]
   have e1:pW c.2.1 (bQ c.2.1 i)=-1:=vk T (by omega)
   have e2:pW c.2.1 (vl c.2.1 i)=-1:=by unfold vl;rw [if_pos (by omega)];exact vk T (by omega)
   have:=Qup (d:=d) T hi (A:=A) (by omega) (fs:=fs) (tg:=[]) (df:=-1) (b:=false) (ag:=Q8 (ji (d+9) c (aG c.2.1) (nZ c.2.1) (lG (d+9) c (nZ c.2.1))) fuel)
   rw [e1,e2] at this
   rw [show d+8+1=d+9 from rfl,this]
   exact next
theorem ZS {d:Nat} {c:Cf} (G:Gd c):Cp (d+10) c=some (bU c):=by
 have T:=G.tr
 have iz:=T.ef
 have hW:=Hu T
 have Ce:=G.f16
 rw [TQ,show d+9=d+8+1 from rfl,Qwj T,Q9,show d+8+1=d+9 from rfl,Qzf T (Hs T).1,Q9,show iS c.2.1 (jO c.2.1)=aG c.2.1 from rfl,nn,Q4,Q4,Q3,show (Nat.ble (aG c.2.1).length (aG c.2.1).length&&Nat.ble ((aG c.2.1).length*8) Q7)=true by rw [Z8,Nat.ble_eq,Nat.ble_eq];unfold Q7;omega,Q4]
 refine (Qd (fun (t:List Int) (k:Int)=>(k,t)) (aG c.2.1) (fun x i t k=>aa (decide (0<=x)) (aa (Nat.blt x.toNat t.length) (Q1 (t[x.toNat]?) fun _=>k (t.set x.toNat ((i:Nat):Int))) none) none) (pR (d+9) c (aG c.2.1)) ?_ ?_ (by rw [Q6];omega) (List.replicate (aG c.2.1).length 0)).trans ?_
 .intro ag t k x hx
  have hk:=(Z0 hx).1
  simp only [pS,bX hx,nn,Q3,hx,Q9,Q4,tG hx]
  rw [aN (by omega)]
 .intro ag t;simp only [pS,bB,Q5]
 .rw [Qde (aG c.2.1) 0 _ (fun x hx=>by have:=(jK T).1 hx;rw [List.length_replicate,hW];exact this)]
  rw [show cF (fun (x:Int) (i:Nat) (t:List Int)=>t.set x.toNat ((i:Nat):Int)) (aG c.2.1) 0 (List.replicate (aG c.2.1).length 0)=nZ c.2.1 by unfold nZ;rw [hW]]
  unfold pR
  rw [room (by simp;omega),Q4]
  have:=Quq (d:=d) T (fs:=([]:List dJ)++c.2.2.1) (aG c.2.1) [] Qc rfl (by rw [Q6];omega)
  refine this.trans ?_
  refine (Qd (fun (t:List Int) (k:Int)=>(k,nY c (aG c.2.1) (([]:List dJ)++c.2.2.1) t (-1))) c.2.2.1 (fun f _ t k=>aa (Nat.ble ((t.length+[pW c.2.1 (bP c.2.1 f.2.2.2.2)].length)*8) Q7) (k (t++[pW c.2.1 (bP c.2.1 f.2.2.2.2)])) none) (fun t=>some (nY c (aG c.2.1) c.2.2.1 t (vX c))) ?_ ?_ (by rw [Q6];omega) []).trans ?_
  .intro ag t k f hx
   have hk:=(Z0 hx).1
   obtain ⟨v1,_⟩:=G.L9 f (Zc hx)
   simp only [lE,bX hx,nn,Q3,hx,Q9,Q4]
   rw [show d+9=d+8+1 from rfl,Jh (by omega),Q9,Z5 v1.1,Q4,L_ T v1,aN (by omega)]
   rfl
  .intro ag t
   simp only [lE,bB,Q5]
   unfold pN vX
   by_cases h:c.2.2.2=0
   .rw [show (c.2.2.2 != 0)=false by simp [h],Q5,if_pos h];rfl
   .obtain ⟨v1,_⟩:=G.K4 h
    rw [show (c.2.2.2 != 0)=true by simp [h],Q4,show d+9=d+8+1 from rfl,Jh (by omega),Q9,Z5 v1.1,Q4,L_ T v1,if_neg h];rfl
  .rw [Vy (e:=fun f:dJ=>pW c.2.1 (bP c.2.1 f.2.2.2.2)) (w:=8) c.2.2.1 0 [] (by simp;omega)]
   rfl
theorem cg (l:List UInt8):(⟨l.toArray⟩:ByteArray).size=l.length:=(rfl)
theorem Ok.cat {α:Type} {a b:ByteArray} {x:Option α} {Q:α->Prop} (ha:a.size<=100000) (hb:b.size<=100000) (h:Ok x Q):Ok (aa (Nat.ble (a.size+b.size) 9223372036854775807) x none) Q:=by
 rw [Qz6 (by omega)];exact h
theorem Qur {u:Nat} (h:u < 10):Go.Lib.decDigits u=[UInt8.ofNat (48+u)]:=by rw [Go.Lib.decDigits,dif_pos h]
theorem Qwn {u:Nat} (h:¬ u < 10):Go.Lib.decDigits u=Go.Lib.decDigits (u / 10)++[UInt8.ofNat (48+u % 10)]:=by rw [Go.Lib.decDigits,dif_neg h]
theorem Qus:∀ (j u:Nat),u < 10 ^ (j+1)->1<=(Go.Lib.decDigits u).length/\(Go.Lib.decDigits u).length<=j+1
 | 0,u,h=>by rw [Qur (by omega)];simp
 | j+1,u,h=>by
  by_cases h2:u < 10
  .rw [Qur h2];simp
  .have:=Qus j (u / 10) (by rw [Nat.pow_succ] at h;omega)
   rw [Qwn h2];simp;omega
theorem EA {d:Nat} {n:Int} (h0:0<=n) (h:n<=1000000000000):Ok (j6 (d+1) n) fun s=>s.size<=20:=by
 obtain ⟨m,rfl⟩:=Int.eq_ofNat_of_zero_le h0
 rw [UF]
 unfold Cv
 have e:Go.Lib.itoa (m:Int)=Go.Lib.decDigits m:=by unfold Go.Lib.itoa;rw [if_neg (by omega)];rfl
 rw [Z5 (by omega),Z5 (by omega),Bool.and_self,Q4,e]
 refine Ok.some ?_
 rw [cg]
 have:=(Qus 19 m (by omega)).2
 exact this
theorem Ma {d:Nat} {n:Int} (h0:0<=n) (h:n<=1000000000):Ok (qw (d+2) n) fun s=>s.size<=21:=by
 obtain ⟨m,rfl⟩:=Int.eq_ofNat_of_zero_le h0
 have e2:((m:Int)).tdiv 1000000=((m / 1000000:Nat):Int):=rfl
 have e4:((m:Int)).tdiv 1000=((m / 1000:Nat):Int):=rfl
 have r0:∀ b,Ok (l_ (d+1) (m:Int) b) fun s=>s.size<=21:=by
  intro b
  unfold l_
  rw [e4,wr (n:=((m / 1000:Nat):Int)) (by omega) (by omega)]
  refine Ok.aa (fun _=>?_) (fun _=>?_)
  .refine Ok.bind (EA (by omega) (by omega)) fun s hs=>?_
   refine Ok.cat (by omega) (by (try simp only [Za,cg,Z9,Zb] at *);omega) (Ok.some ?_)
   (try simp only [Za,cg,Z9,Zb] at *);omega
  .exact Ok.bind (EA (by omega) (by omega)) fun s hs=>Ok.some (by omega)
 have r1:∀ b,Ok (mc (d+1) (m:Int) b) fun s=>s.size<=21:=by
  intro b
  unfold mc
  rw [e2,wr (n:=((m / 1000000:Nat):Int)) (by omega) (by omega)]
  refine Ok.aa (fun _=>?_) (fun _=>Ok.aa (fun _=>r0 _) (fun _=>r0 _))
  refine Ok.bind (EA (by omega) (by omega)) fun s hs=>?_
  refine Ok.cat (by omega) (by (try simp only [Za,cg,Z9,Zb] at *);omega) (Ok.some ?_)
  (try simp only [Za,cg,Z9,Zb] at *);omega
 rw [UI]
 exact Ok.aa (fun _=>r1 _) (fun _=>r1 _)
def VA (x:aA):Prop:=(0<=x.1/\x.1<=1000000000)/\(0<=x.2.2.1/\x.2.2.1<=1000000000)/\(0<=x.2.2.2.1/\x.2.2.2.1<=1000000000)/\(0<=x.2.2.2.2.1/\x.2.2.2.2.1<=1000000000)/\(0<=x.2.2.2.2.2.1/\x.2.2.2.2.2.1<=1000000000)/\(0<=x.2.2.2.2.2.2.1/\x.2.2.2.2.2.2.1<=1000000000)
theorem Qbb {d:Nat} {x:aA} (h:VA x):Ok (Cy (d+3) x) fun s=>s.size<=1000:=by
 obtain ⟨h1,h2,h3,h4,h5,h6⟩:=h
 rw [UJ]
 refine Ok.bind (EA h1.1 (by omega)) fun r2 g2=>?_
 refine Ok.cat (by (try simp only [Za,cg,Z9,Zb] at *);omega) (by (try simp only [Za,cg,Z9,Zb] at *);omega) ?_
 refine Ok.cat (by (try simp only [Za,cg,Z9,Zb] at *);omega) (by (try simp only [Za,cg,Z9,Zb] at *);omega) ?_
 refine Ok.bind (Ma h2.1 h2.2) fun r3 g3=>?_
 refine Ok.cat (by (try simp only [Za,cg,Z9,Zb] at *);omega) (by (try simp only [Za,cg,Z9,Zb] at *);omega) ?_
 refine Ok.cat (by (try simp only [Za,cg,Z9,Zb] at *);omega) (by (try simp only [Za,cg,Z9,Zb] at *);omega) ?_
 refine Ok.bind (Ma h3.1 h3.2) fun r4 g4=>?_
 refine Ok.cat (by (try simp only [Za,cg,Z9,Zb] at *);omega) (by (try simp only [Za,cg,Z9,Zb] at *);omega) ?_
 refine Ok.cat (by (try simp only [Za,cg,Z9,Zb] at *);omega) (by (try simp only [Za,cg,Z9,Zb] at *);omega) ?_
 refine Ok.bind (Ma h4.1 h4.2) fun r5 g5=>?_
 refine Ok.cat (by (try simp only [Za,cg,Z9,Zb] at *);omega) (by (try simp only [Za,cg,Z9,Zb] at *);omega) ?_
 refine Ok.cat (by (try simp only [Za,cg,Z9,Zb] at *);omega) (by (try simp only [Za,cg,Z9,Zb] at *);omega) ?_
 refine Ok.bind (Ma h5.1 h5.2) fun r6 g6=>?_
 refine Ok.cat (by (try simp only [Za,cg,Z9,Zb] at *);omega) (by (try simp only [Za,cg,Z9,Zb] at *);omega) ?_
 refine Ok.cat (by (try simp only [Za,cg,Z9,Zb] at *);omega) (by (try simp only [Za,cg,Z9,Zb] at *);omega) ?_
 refine Ok.bind (EA h6.1 (by omega)) fun r7 g7=>?_
 refine Ok.cat (by (try simp only [Za,cg,Z9,Zb] at *);omega) (by (try simp only [Za,cg,Z9,Zb] at *);omega) (Ok.some ?_)
 (try simp only [Za,cg,Z9,Zb] at *);omega
def Mb:ByteArray:=⟨#[48,49,50,51,52,53,54,55,56,57,97,98,99,100,101,102]⟩
theorem Qlp:Mb.size=16:=rfl
theorem VC {n:Nat} (h:n<=4294967295):IntKind.i64.wrap ((BitVec.ofInt IntKind.i64.bits (n:Int) &&& BitVec.ofInt IntKind.i64.bits 15).toNat:Int)=((n % 16:Nat):Int):=by
 have hb:IntKind.i64.bits=64:=rfl
 have e1:(BitVec.ofInt IntKind.i64.bits (n:Int)).toNat=n:=by
  rw [hb,BitVec.toNat_ofInt];omega
 have e2:(BitVec.ofInt IntKind.i64.bits 15).toNat=2 ^ 4 - 1:=by decide
 rw [BitVec.toNat_and,e1,e2,Nat.and_two_pow_sub_one_eq_mod,wr (by omega) (by omega)]
theorem Qh9 {d:Nat} {n:Int} (h0:0<=n) (h:n<=65535):Ok (CA (d+2) n) fun r=>r.1.size<=1000:=by
 rw [UN,Z4 (by omega),Q5,Z4 (by omega),Q5]
 refine Ok.bind (P:=fun r=>r.1.size<=1000) ?_ fun r hr=>Ok.some hr
 rw [UM,Z4 (by omega),Q5,Z4 (show ¬ n > 4294967295 by omega)]
 unfold qz
 rw [Q5]
 have fin:∀ s:ByteArray,s.size<=200->Ok (mg d s) fun r=>r.1.size<=1000:=by
  intro s hs
  unfold mg
  refine Ok.cat (by (try simp only [Za,cg,Z9,Zb] at *);omega) (by (try simp only [Za,cg,Z9,Zb] at *);omega) (Ok.some ?_)
  (try simp only [Za,cg,Z9,Zb] at *);omega
 refine mH (fun m (st:Int×ByteArray)=>0<=st.1/\st.1<=65535/\(st.1 < 16 ^ m\/bl st.2=[])/\(m<=5)/\(bl st.2=[]->m=5)/\st.2.size+m*16<=100) ?_ Qc 5 _ (by rw [Q6];omega) ⟨h0,h,Or.inr rfl,by omega,fun _=>rfl,by simp only;rw [show (⟨#[]⟩:ByteArray).size=0 from rfl];omega⟩
 rintro m ⟨n,s⟩ ag ⟨h1,h2,h3,h4,h5,h6⟩ ez
 simp only at h1 h2 h3 h4 h5 h6
 obtain ⟨k,rfl⟩:=Int.eq_ofNat_of_zero_le h1
 have Ce:k % 16 < 16:=Nat.mod_lt _ (by omega)
 simp only [zL]
 have step:∀ b,(bl s=[]\/0 < k)->Ok (jo d (mg d) ag (k:Int) s b true) fun r=>r.1.size<=1000:=by
  intro b hb
  unfold jo
  rw [Q4,VC (by omega)]
  have e2:((k:Int)).fdiv (2 ^ (min (4:Int).toNat IntKind.i64.bits))=((k / 16:Nat):Int):=by
   have:(2:Int) ^ (min (4:Int).toNat IntKind.i64.bits)=16:=rfl
   rw [this,Int.fdiv_eq_ediv_of_nonneg _ (by omega)];rfl
  rw [e2,aN (by omega)]
  change Ok (aa _ (aa _ (aa (Nat.ble _ _&&Nat.ble _ Mb.size) (aa (Nat.ble ((Mb.extract _ _).size+_) _) (ag (_,Mb.extract _ _++s)) _) _) _) _) _
  simp only [Q3,nn,Q4]
  have hz:(Mb.extract (k % 16) (k % 16+1)).size=1:=by rw [ByteArray.size_extract,Qlp];omega
  rw [Qwe (by omega) (by rw [Qlp];omega),Qz6 (by omega)]
  have hm:0 < m:=by
   rcases Nat.eq_zero_or_pos m with hm | hm
   .subst hm
    rcases hb with hb | hb
    .exact absurd (h5 hb) (by omega)
    .rcases h3 with h3 | h3
     .simp at h3;omega
     .exact absurd (h5 h3) (by omega)
   .exact hm
  obtain ⟨m',rfl⟩:∃ m',m=m'+1:=⟨m - 1,by omega⟩
  refine ez m' _ (by omega) ⟨by simp only;omega,by simp only;omega,Or.inl ?_,by omega,fun h=>?_,?_⟩
  .simp only
   rcases h3 with h3 | h3
   .have:k < 16 ^ m'*16:=by rw [Int.pow_succ] at h3;exact_mod_cast h3
    have:k / 16 < 16 ^ m':=Nat.div_lt_of_lt_mul (by rw [Nat.mul_comm];exact this)
    exact_mod_cast this
   .have:=h5 h3
    obtain rfl:m'=4:=by omega
    have:k / 16 < 16 ^ 4:=by omega
    exact_mod_cast this
  .have:=congrArg List.length h
   simp only at this
   rw [<- Quk,Za,hz] at this
   simp at this
  .simp only
   rw [Za,hz];omega
 refine Ok.aa (fun h=>step _ (Or.inr (by simpa using h))) (fun _=>?_)
 rw [Pf,Qz5 []]
 by_cases hb:bl s=[]
 .rw [Z5 hb];exact step _ (Or.inl hb)
 .rw [Z4 hb]
  unfold jo
  rw [Q5]
  exact fin s (by omega)
theorem Qha {d:Nat} {x:dJ} (h:Ai x=true) (ht:0<=x.2.2.2.2/\x.2.2.2.2<=1000000):Ok (GU (d+3) x) fun s=>s.size<=10000:=by
 unfold Ai at h
 simp only [Z8,Zj] at h
 obtain ⟨⟨h1,h2,h3,h4,h5,h6,h7,h8⟩,_⟩:=h
 rw [UP]
 refine Ok.bind (Qh9 h7 h8) fun r2 g2=>?_
 refine Ok.bind (Qh9 h5 h6) fun r3 g3=>?_
 refine Ok.bind (EA (by omega) (by omega)) fun r4 g4=>?_
 refine Ok.cat (by (try simp only [Za,cg,Z9,Zb] at *);omega) (by (try simp only [Za,cg,Z9,Zb] at *);omega) ?_
 refine Ok.cat (by (try simp only [Za,cg,Z9,Zb] at *);omega) (by (try simp only [Za,cg,Z9,Zb] at *);omega) ?_
 rw [UO,Q9,Z5 h3,Q4]
 have k_:x.2.1.toNat < 4:=by omega
 change Ok (aa (Nat.blt x.2.1.toNat 4) _ none) _
 rw [Qk k_,Q4]
 refine Ok.bind (P:=fun s=>s.size<=10) ?_ fun s6 g6=>?_
 .have:x.2.1.toNat < 4:=by omega
  match x.2.1.toNat,this with
  | 0,_=>exact Ok.some (by decide)
  | 1,_=>exact Ok.some (by decide)
  | 2,_=>exact Ok.some (by decide)
  | 3,_=>exact Ok.some (by decide)
 refine Ok.cat (by (try simp only [Za,cg,Z9,Zb] at *);omega) (by (try simp only [Za,cg,Z9,Zb] at *);omega) ?_
 refine Ok.cat (by (try simp only [Za,cg,Z9,Zb] at *);omega) (by (try simp only [Za,cg,Z9,Zb] at *);omega) ?_
 refine Ok.cat (by (try simp only [Za,cg,Z9,Zb] at *);omega) (by (try simp only [Za,cg,Z9,Zb] at *);omega) ?_
 refine Ok.cat (by (try simp only [Za,cg,Z9,Zb] at *);omega) (by (try simp only [Za,cg,Z9,Zb] at *);omega) ?_
 refine Ok.cat (by (try simp only [Za,cg,Z9,Zb] at *);omega) (by (try simp only [Za,cg,Z9,Zb] at *);omega) ?_
 refine Ok.cat (by (try simp only [Za,cg,Z9,Zb] at *);omega) (by (try simp only [Za,cg,Z9,Zb] at *);omega) ?_
 refine Ok.bind (EA ht.1 (by omega)) fun r7 g7=>?_
 refine Ok.cat (by (try simp only [Za,cg,Z9,Zb] at *);omega) (by (try simp only [Za,cg,Z9,Zb] at *);omega) ?_
 refine Ok.cat (by (try simp only [Za,cg,Z9,Zb] at *);omega) (by (try simp only [Za,cg,Z9,Zb] at *);omega) (Ok.some ?_)
 (try simp only [Za,cg,Z9,Zb] at *);omega
abbrev Pr:=Cf×List ByteArray×List Int×List Int×List Int
theorem JA {d:Nat} {p:Pr} {n:Int} {s:ByteArray} (h0:0<=n) (h1:n<=100) (hs:s.size<=90000) (hl:p.2.1.length<=1000):Ok (nQ (d+2) p n s) fun r=>r.1=p.1/\r.2.1.length=p.2.1.length+1/\r.2.2=p.2.2:=by
 rw [UH,UG]
 refine Ok.bind (P:=fun r=>r.size<=5000) ?_ fun r hr=>?_
 .unfold Cw
  rw [Z5 h0,Z5 (show n<=1000000 by omega),Zg,Zg,show Nat.ble (⟨#[32,32]⟩:ByteArray).size 1000000=true from by decide,Q4]
  refine Ok.some ?_
  rw [cg]
  have:∀ (l:List UInt8) (k:Nat),(Go.Lib.repeatL l k).length=l.length*k:=by
   intro l k
   induction k with
   | zero=>simp [Go.Lib.repeatL]
   | succ k ih=>simp only [Go.Lib.repeatL,Zf,ih,Nat.mul_succ];omega
  rw [this]
  have:(⟨#[32,32]⟩:ByteArray).data.toList.length=2:=rfl
  rw [this];omega
 .refine Ok.cat (by omega) (by omega) ?_
  rw [room (by simp;omega),Q4]
  exact Ok.some ⟨rfl,by simp,rfl⟩
end Go.Proofs.YtcoimfbmgjhcjabGreatDoor
