/-
  What the cursor's functions and the small ones give by value. And what stood behind it in 9 texts.
  Conditions: said at the theorems.
-/
import Derived.Test.YtcoimfbmgjhcjaaGreatDoorFnExactSetRatesRes
import Derived.Test.YtcoimfbmgjhcjaaGreatDoorRepW
import Derived.Laws.Strings
set_option linter.all false
namespace Go.Proofs.YtcoimfbmgjhcjaaGreatDoor
open Go.Ev Go.Pv
theorem vL {d:Nat} {x y z:Int}:i_ (d+1) x y z=some (decide (y<=x/\x<=z)):=by
 rw [e72];simp only [uE];congr 1;rw [Bool.eq_iff_iff];simp
theorem Qon {d:Nat} {x y:Int}:Oc (d+1) x y=some (min x y):=by
 rw [e81];simp only [uE];congr 1;split<;>simp_all<;>omega
def bl (s:ByteArray):List UInt8:=s.data.toList
theorem ZD (s:ByteArray):s.size=(bl s).length:=rfl
theorem Qyl (l:List UInt8):bl ⟨l.toArray⟩=l:=by simp [bl]
theorem Ow (a b:ByteArray):(a.toList==b.toList)=decide (bl a=bl b):=by
 rw [ByteArray.toList_eq,ByteArray.toList_eq]
 by_cases h:bl a=bl b
 .rw [Z5 h];simpa [bl] using h
 .rw [Z4 h];simpa [bl] using h
theorem K5 {a b:Nat} (h:a<=b):Nat.ble a b=true:=by rw [Nat.ble_eq];exact h
theorem Qvw {α:Type} {a b n:Nat} {x y:Option α} (h1:a<=b) (h2:b<=n):aa (Nat.ble a b&&Nat.ble b n) x y=x:=by rw [K5 h1,K5 h2];rfl
theorem ZE {α:Type} {a b:Nat} {x y:Option α} (h:a+b<=9223372036854775807):aa (Nat.ble (a+b) 9223372036854775807) x y=x:=by rw [K5 h];rfl
theorem Ox {α τ:Type} {p:α->Bool}:∀ (l:List α) (i:Nat) (t:τ),d_ (fun x _ t k=>aa (p x) (some true) (k t)) (fun _=>some false) l i t=some (l.any p)
 | [],i,t=>rfl
 | x::r,i,t=>by
  simp only [d_,List.any_cons]
  cases p x with
  | true=>rfl
  | false=>exact Ox r (i+1) t
def KW:List ByteArray:=[(⟨#[113,100,105,115,99]⟩:ByteArray),(⟨#[100,101,102,97,117,108,116]⟩:ByteArray),(⟨#[99,108,97,115,115]⟩:ByteArray),(⟨#[114,97,116,101]⟩:ByteArray),(⟨#[99,101,105,108]⟩:ByteArray),(⟨#[98,117,114,115,116]⟩:ByteArray),(⟨#[99,98,117,114,115,116]⟩:ByteArray),(⟨#[112,114,105,111]⟩:ByteArray),(⟨#[108,105,109,105,116]⟩:ByteArray),(⟨#[102,105,108,116,101,114]⟩:ByteArray),(⟨#[115,111,117,114,99,101]⟩:ByteArray),(⟨#[100,101,115,116]⟩:ByteArray),(⟨#[112,111,114,116]⟩:ByteArray),(⟨#[109,97,114,107]⟩:ByteArray)]
def sm (c:UInt8):Bool:=decide (97<=c.toNat/\c.toNat<=122)
theorem Qop {d:Nat} {c:UInt8}:FP (d+1) (c.toNat:Int)=some (sm c):=by
 rw [S6];unfold sm;simp only [uE];congr 1;rw [Bool.eq_iff_iff];simp;omega
def K6 (s:ByteArray):Bool:=KW.any fun w=>decide (bl w=bl s)
theorem Qvx {d:Nat} {s:ByteArray}:FR (d+1) s=some (K6 s):=by
 rw [S7]
 refine (Qb (fun (t:Bool) (i:Int)=>(t,i)) KW (fun w _ t k=>aa (decide (bl w=bl s)) (some true) (k t)) (fun _=>some false) ?_ ?_ (by rw [Q6];decide) false).trans (Ox KW 0 _)
 .intro ag t i x hx
  have hi:=(Z0 hx).1
  have h14:KW.length=14:=rfl
  simp only [pM]
  change aa (decide ((i:Int) < 14)) (aa (decide (0<=(i:Int))) (Q1 (KW[(i:Int).toNat]?) _) none) _=_
  rw [Z5 (show (i:Int) < 14 by omega),Q4,nn,Q4,Q3,hx,Q9,Ow,aN (by omega)]
 .intro ag t
  simp only [pM]
  rw [Z4 (show ¬ ((KW.length:Nat):Int) < 14 by decide),Q5];rfl
theorem Qs6 {d:Nat} {s:ByteArray}:Fm (d+2) s=some (K6 s):=by
 rw [SA,Sz,Q9,Sy]
 have:∀ X:Option Bool,X=some (K6 s)->Q1 X (fun r3=>some r3)=some (K6 s):=fun X h=>by rw [h];rfl
 refine this _ ?_
 refine (Qb (fun (t:Bool) (i:Int)=>(t,i)) KW (fun w _ t k=>aa (decide (bl w=bl s)) (some true) (k t)) (fun _=>some false) ?_ ?_ (by rw [Q6];decide) false).trans (Ox KW 0 _)
 .intro ag t i x hx
  have hi:=(Z0 hx).1
  have h14:KW.length=14:=rfl
  simp only [oV]
  change aa (decide ((i:Int) < ((KW.length:Nat):Int))) (aa (decide (0<=(i:Int))) (Q1 (KW[(i:Int).toNat]?) _) none) _=_
  rw [Z5 (show (i:Int) < ((KW.length:Nat):Int) by omega),Q4,nn,Q4,Q3,hx,Q9,Ow,aN (by omega)]
 .intro ag t
  simp only [oV]
  change aa (decide (((KW.length:Nat):Int) < ((KW.length:Nat):Int))) _ _=_
  rw [bB,Q5];rfl
theorem Oy {f:Nat} (h0:f≠172) (h1:f≠187):IJ f=none/\Ov f=none:=by
 constructor
 .unfold IJ;split<;>simp_all
 .unfold Ov;split<;>simp_all
theorem extAll:lV Tryz.prog Qc:=by
 refine ⟨⟨fun f v h=>?_,fun f h=>?_,fun f h=>?_⟩,fun f e h=>?_⟩
 .by_cases zA:f=172
  .subst zA
   have h':IJ 172=some v:=h
   have h2:some (fun (a:Int)=>BP a)=some v:=h'
   injection h2 with h2
   subst h2
   exact ⟨_,rfl,Qwv⟩
  .by_cases uF:f=187
   .subst uF
    have h':IJ 187=some v:=h
    have h2:some (fun (a:ByteArray×Int)=>BQ a.1 a.2)=some v:=h'
    injection h2 with h2
    subst h2
    exact ⟨_,rfl,Qzh⟩
   .have:IJ f=some v:=h
    rw [(Oy zA uF).1] at this;simp at this
 .by_cases zA:f=172
  .subst zA
   have h2:some (fun (a:Int)=>BP a)=none:=h
   simp at h2
  .by_cases uF:f=187
   .subst uF
    have h2:some (fun (a:ByteArray×Int)=>BQ a.1 a.2)=none:=h
    simp at h2
   .exact (Oy zA uF).2
 .by_cases zA:f=172
  .subst zA
   have h2:false=true:=h
   simp at h2
  .by_cases uF:f=187
   .subst uF
    have h2:false=true:=h
    simp at h2
   .exact (Oy zA uF).1
 .by_cases zA:f=172
  .subst zA
   have h2:some Gv=some e:=h
   injection h2 with h2
   subst h2
   exact Qtc
  .by_cases uF:f=187
   .subst uF
    have h2:some Gw=some e:=h
    injection h2 with h2
    subst h2
    exact Qwx
   .have h2:Ov f=some e:=h
    rw [(Oy zA uF).2] at h2;simp at h2
abbrev aC:=Int×Int×Int×Int×Int×Int×Int×Int
abbrev dU:=Int×Int×Int×Int×Int
abbrev Cf:=ByteArray×List aC×List dU×Int
abbrev Ld:=ByteArray×List aC×List Int×List Int×List Int×List Int×List dU×List Int×Int
abbrev Tk:=List Int×List Int
def fm {α:Type} (p:α->Bool):List α->Nat->Int
 | [],_=>-1
 | x::r,i=>if p x=true then (i:Int) else fm p r (i+1)
theorem DP {α τ:Type} {p:α->Bool}:∀ (l:List α) (i:Nat) (t:τ),d_ (fun x i t k=>aa (p x) (some ((i:Nat):Int)) (k t)) (fun _=>some (-1)) l i t=some (fm p l i)
 | [],i,t=>rfl
 | x::r,i,t=>by
  simp only [d_,fm]
  cases p x with
  | true=>rfl
  | false=>simp only [Q5,Bool.false_eq_true,if_false];exact DP r (i+1) t
theorem Kl {α:Type} {p:α->Bool}:∀ {l:List α} {i:Nat},fm p l i < 0↔∀ x∈l,p x=false
 | [],i=>by simp [fm]
 | x::r,i=>by
  simp only [fm,List.mem_cons,forall_eq_or_imp]
  cases p x with
  | true=>simp
  | false=>simp only [Bool.false_eq_true,if_false,true_and];exact Kl
theorem IK {α:Type} {p:α->Bool}:∀ {l:List α} {i:Nat},0<=fm p l i->∃ (k:Nat) (x:α),fm p l i=((i+k:Nat):Int)/\l[k]? = some x/\p x=true/\∀ j y,j < k->l[j]? = some y->p y=false
 | [],i,h=>by simp [fm] at h
 | x::r,i,h=>by
  simp only [fm] at h ⊢
  cases hp:p x with
  | true=>exact ⟨0,x,by simp,rfl,hp,fun j y hj=>by omega⟩
  | false =>
   simp only [hp,Bool.false_eq_true,if_false] at h ⊢
   obtain ⟨k,y,h1,h2,h3,h4⟩:=IK h
   refine ⟨k+1,y,by rw [h1];congr 1;omega,h2,h3,fun j z hj hz=>?_⟩
   cases j with
   | zero=>simp at hz;subst hz;exact hp
   | succ j=>exact h4 j z (by omega) (by simpa using hz)
theorem ZF {α τ β:Type} {p:α->Bool} {b1 b2:Option β}:∀ (l:List α) (i:Nat) (t:τ),d_ (fun x _ t k=>aa (p x) b1 (k t)) (fun _=>b2) l i t=aa (l.any p) b1 b2
 | [],i,t=>rfl
 | x::r,i,t=>by
  simp only [d_,List.any_cons]
  cases p x with
  | true=>rfl
  | false=>exact ZF r (i+1) t
def bE (l:List aC) (id:Int):Int:=fm (fun x=>x.1==id) l 0
def nH (l:List aC) (id:Int):List Int:=fL (fun x _=>x.2.1==id) (fun _ k=>((k:Nat):Int)) l 0
def ic (l:List aC) (id:Int):Bool := !(l.any fun x=>x.2.1==id)
theorem K7 {α γ:Type} {c:α->Bool} {e:α->Nat->γ}:∀ (l:List α) (i:Nat),((fL (fun x _=>c x) e l i).length==0) = !(l.any c)
 | [],i=>rfl
 | x::r,i=>by
  simp only [fL,List.any_cons]
  by_cases h:c x=true
  .rw [if_pos h,h];simp
  .rw [if_neg h,Bool.eq_false_iff.2 h,Bool.false_or];exact K7 r (i+1)
theorem ZG {l:List aC} {id:Int}:((((nH l id).length:Nat):Int)==0)=ic l id:=by
 have:=K7 (c:=fun x:aC=>x.2.1==id) (e:=fun _ k=>((k:Nat):Int)) l 0
 unfold nH ic
 rw [<- this,Bool.eq_iff_iff,beq_iff_eq,beq_iff_eq];omega
theorem Oz {l:List aC} {id:Int}:(nH l id).length<=l.length:=Ue _ _
theorem ZH {l:List aC} {id n:Int} (h:n∈nH l id):∃ (k:Nat) (x:aC),n=(k:Int)/\l[k]? = some x/\x.2.1=id:=by
 obtain ⟨j,x,h1,h2,h3⟩:=Uf _ _ h
 exact ⟨j,x,by simpa using h3,h1,by simpa using h2⟩
theorem AK {l:List aC} {id:Int} (h:0<=bE l id):∃ (k:Nat) (x:aC),bE l id=(k:Int)/\l[k]? = some x/\x.1=id:=by
 obtain ⟨k,x,h1,h2,h3,_⟩:=IK h
 exact ⟨k,x,by unfold bE;simpa using h1,h2,by simpa using h3⟩
theorem OA {l:List aC} {id:Int}:bE l id < 0↔∀ x∈l,x.1≠id:=by
 unfold bE;rw [Kl];simp
theorem N6 {d:Nat} {c:Cf} {id:Int} (hl:c.2.1.length < 4000000):ID (d+3) c id=some (bE c.2.1 id):=by
 rw [e61]
 refine (Qb (fun (t:Int) (i:Int)=>(t,i)) c.2.1 (fun x i t k=>aa (x.1==id) (some ((i:Nat):Int)) (k t)) (fun _=>some (-1)) ?_ ?_ (by rw [Q6];omega) 0).trans (DP c.2.1 0 _)
 .intro ag t i x hx;have hi:=(Z0 hx).1;simp only [jd,bW hx,nn,Q3,hx,Q9,Q4];rw [aN (by omega)]
 .intro ag t;simp only [jd,bB,Q5];rfl
theorem IC {d:Nat} {c:Cf} {id:Int} (hl:c.2.1.length < 4000000):DB (d+1) c id=some (bE c.2.1 id):=by
 rw [e58]
 refine (Qb (fun (t:Int) (i:Int)=>(t,i)) c.2.1 (fun x i t k=>aa (x.1==id) (some ((i:Nat):Int)) (k t)) (fun _=>some (-1)) ?_ ?_ (by rw [Q6];omega) 0).trans (DP c.2.1 0 _)
 .intro ag t i x hx;have hi:=(Z0 hx).1;simp only [xu,bW hx,nn,Q3,hx,Q9,Q4];rw [aN (by omega)]
 .intro ag t;simp only [xu,bB,Q5];rfl
theorem Ug {d:Nat} {c:Cf} {n:Nat} {y:aC} (hn:c.2.1[n]? = some y) (hl:c.2.1.length < 4000000):tY (d+4) c (n:Int)=some (ic c.2.1 y.1):=by
 rw [Tn]
 refine (Qb (fun (t:Int) (i:Int)=>(t,i)) c.2.1 (fun x i t k=>aa (x.2.1==y.1) (some false) (k t)) (fun _=>some true) ?_ ?_ (by rw [Q6];omega) 0).trans ?_
 .intro ag t i x hx;have hi:=(Z0 hx).1;simp only [eg,bW hx,nn,Q3,hx,Q9,Q4];rw [aN (by omega)]
  rw [hn,Q9];rfl
 .intro ag t;simp only [eg,bB,Q5];rfl
 .rw [ZF];unfold ic;cases c.2.1.any _<;>rfl
theorem ZI {d:Nat} {c:Cf} {n:Nat} {y:aC} (hn:c.2.1[n]? = some y) (hl:c.2.1.length<=1000):ye (d+1) c (n:Int)=some (nH c.2.1 y.1):=by
 rw [Ti]
 refine (Qb (fun (t:List Int) (i:Int)=>(t,i)) c.2.1 (fun x i t k=>aa (x.2.1==y.1) (aa (Nat.ble ((t.length+[((i:Nat):Int)].length)*8) Q7) (k (t++[((i:Nat):Int)])) none) (k t)) (fun t=>some t) ?_ ?_ (by rw [Q6];omega) []).trans ?_
 .intro ag t i x hx;have hi:=(Z0 hx).1;simp only [pY,bW hx,nn,Q3,hx,Q9,Q4];rw [aN (by omega)]
  rw [hn,Q9]
 .intro ag t;simp only [pY,bB,Q5];rfl
 .exact DQ (c:=fun x _=>x.2.1==y.1) (e:=fun (_:aC) (k:Nat)=>((k:Nat):Int)) (w:=8) c.2.1 0 [] (by simp;omega)
theorem OB {d:Nat} {c:Cf} {n:Nat} {y:aC} (hn:c.2.1[n]? = some y) (hl:c.2.1.length<=1000):kT (d+1) c (n:Int)=some (nH c.2.1 y.1):=by
 rw [SE]
 refine (Qb (fun (t:List Int) (i:Int)=>(t,i)) c.2.1 (fun x i t k=>aa (x.2.1==y.1) (aa (Nat.ble ((t.length+[((i:Nat):Int)].length)*8) Q7) (k (t++[((i:Nat):Int)])) none) (k t)) (fun t=>some t) ?_ ?_ (by rw [Q6];omega) []).trans ?_
 .intro ag t i x hx;have hi:=(Z0 hx).1;simp only [oW,bW hx,nn,Q3,hx,Q9,Q4];rw [aN (by omega)]
  rw [hn,Q9]
 .intro ag t;simp only [oW,bB,Q5];rfl
 .exact DQ (c:=fun x _=>x.2.1==y.1) (e:=fun (_:aC) (k:Nat)=>((k:Nat):Int)) (w:=8) c.2.1 0 [] (by simp;omega)
theorem ZJ {d:Nat} {c:Cf} {n:Nat} {y:aC} (hn:c.2.1[n]? = some y) (hl:c.2.1.length<=1000):th (d+2) c (n:Int)=some (ic c.2.1 y.1):=by
 rw [SG,OB hn hl,Q9,ZG]
def vM (l:List aC) (id:Int):Bool:=decide (0<=bE l id)&&ic l id
theorem Uh {d:Nat} {c:Cf} {id:Int} (hl:c.2.1.length<=1000):yg (d+5) c id=some (vM c.2.1 id):=by
 rw [Tp,N6 (by omega),Q9]
 unfold vM
 by_cases h:0<=bE c.2.1 id
 .obtain ⟨k,x,h1,h2,h3⟩:=AK h
  rw [Z5 h,Q4,h1,Ug h2 (by omega),Q9,h3,Zg]
 .rw [Z4 h];rfl
theorem Ui {d:Nat} {c:Cf} {id:Int} (hl:c.2.1.length<=1000):Kz (d+3) c id=some (vM c.2.1 id):=by
 rw [e79,IC (by omega),Q9]
 unfold vM
 by_cases h:0<=bE c.2.1 id
 .obtain ⟨k,x,h1,h2,h3⟩:=AK h
  rw [Z5 h,Q4,h1,ZJ h2 hl,Q9,h3,Zg]
 .rw [Z4 h];rfl
def AV (s:ByteArray):Bool:=decide (1<=s.size/\s.size<=8)&&((bl s).all sm && !K6 s)
theorem Qs7 {d:Nat} {s:ByteArray}:FT (d+2) s=some (AV s):=by
 rw [S8]
 unfold AV pP
 by_cases h0:((s.size:Nat):Int) < 1
 .rw [Z5 h0,Q4,Q4,Z4 (by omega)];rfl
 rw [Z4 h0,Q5]
 by_cases h2:((s.size:Nat):Int) > 8
 .rw [Z5 h2,Q4,Z4 (by omega)];rfl
 rw [Z4 h2,Q5,Z5 (show 1<=s.size/\s.size<=8 by omega),Zg]
 have hs:(bl s).length < 4194304:=by rw [<- ZD];omega
 refine (Qb (fun (t:Bool) (i:Int)=>(t,i)) (bl s) (fun x _ t k=>aa (sm x) (k t) (some false)) (pN (d+1) s) ?_ ?_ (by rw [Q6];exact hs) false).trans ?_
 .intro ag t i x hx
  have hi:=(Z0 hx).1
  have rT:s.data.toList[i]? = some x:=hx
  have bf:s.size=(bl s).length:=rfl
  simp only [pO]
  rw [Z5 (show (i:Int) < ((s.size:Nat):Int) by omega),Q4,nn,Q4,Q3,rT,Q9,Qop,Q9,aN (by omega)]
  cases sm x<;>rfl
 .intro ag t
  simp only [pO]
  rw [show ((s.size:Nat):Int)=(((bl s).length:Nat):Int) from rfl,bB,Q5]
 .rw [BW]
  cases (bl s).all sm with
  | false=>rfl
  | true =>
   rw [Q4,Zg]
   unfold pN
   rw [Qvx,Q9]
theorem Qs8 {d:Nat} {s:ByteArray} (hs:s.size < 4000000):SB (d+3) s=some (AV s):=by
 rw [e76]
 unfold AV
 have bf:s.size=(bl s).length:=rfl
 refine (Qb (fun (t:Bool) (i:Int)=>(t,i)) (bl s) (fun x _ t k=>aa (sm x) (k t) (some false)) (xl (d+2) s) ?_ ?_ (by rw [Q6];omega) false).trans ?_
 .intro ag t i x hx
  have hi:=(Z0 hx).1
  have rT:s.data.toList[i]? = some x:=hx
  simp only [xm]
  rw [Z5 (show (i:Int) < ((s.size:Nat):Int) by omega),Q4,nn,Q4,Q3,rT,Q9,Q4,Q9,aN (by omega)]
  unfold sm
  by_cases h1:(x.toNat:Int) < 97
  .rw [Z5 h1,Q4,Z4 (by omega)];rfl
  .rw [Z4 h1,Q5]
   by_cases h2:(x.toNat:Int) > 122
   .rw [Z5 h2,Q4,Z4 (by omega)];rfl
   .rw [Z4 h2,Q5,Z5 (by omega)];rfl
 .intro ag t
  simp only [xm]
  rw [show ((s.size:Nat):Int)=(((bl s).length:Nat):Int) from rfl,bB,Q5]
 .rw [BW]
  cases (bl s).all sm with
  | false=>rw [Q5,Bool.false_and,Bool.and_false]
  | true =>
   rw [Q4,Zg]
   unfold xl
   rw [vL,Q9]
   by_cases h:1<=s.size/\s.size<=8
   .rw [Z5 (show (1:Int)<=((s.size:Nat):Int)/\((s.size:Nat):Int)<=8 by omega),Q4,Qs6,Q9,Z5 h,Zg]
   .rw [Z4 (show ¬ ((1:Int)<=((s.size:Nat):Int)/\((s.size:Nat):Int)<=8) by omega),Q5,Z4 h];rfl
def zc8:aC:=(0,0,0,0,0,0,0,0)
def aU (l:List aC) (i:Int):aC:=l.getD i.toNat zc8
def eJ {α:Type} (p:α->Nat->Bool):List α->Nat->Bool
 | [],_=>true
 | x::r,i=>p x i&&eJ p r (i+1)
theorem qp {α τ β:Type} {p:α->Nat->Bool} {no:Option β} {fin:τ->Option β}:∀ (l:List α) (i:Nat) (t:τ),d_ (fun x i t k=>aa (p x i) (k t) no) fin l i t=aa (eJ p l i) (fin t) no
 | [],i,t=>rfl
 | x::r,i,t=>by
  simp only [d_,eJ]
  cases p x i with
  | true=>simp only [Q4,Zg];exact qp r (i+1) t
  | false=>rfl
theorem rU {α:Type} {p:α->Nat->Bool}:∀ {l:List α} {i:Nat},eJ p l i=true↔∀ j x,l[j]? = some x->p x (i+j)=true
 | [],i=>by simp [eJ]
 | x::r,i=>by
  simp only [eJ,Z8,rU (l:=r)]
  constructor
  .rintro ⟨h1,h2⟩ j y hy
   cases j with
   | zero=>simp at hy;subst hy;exact h1
   | succ j=>have:=h2 j y (by simpa using hy);rw [show i+(j+1)=i+1+j by omega];exact this
  .intro h
   exact ⟨h 0 x rfl,fun j y hy=>by have:=h (j+1) y (by simpa using hy);rw [show i+1+j=i+(j+1) by omega];exact this⟩
theorem ZK {α:Type} {p q:α->Nat->Bool} {l:List α} {i:Nat}:eJ (fun x j=>p x j&&q x j) l i=(eJ p l i&&eJ q l i):=by
 rw [Bool.eq_iff_iff,Z8,rU,rU,rU]
 simp only [Z8]
 exact ⟨fun h=>⟨fun j x hx=>(h j x hx).1,fun j x hx=>(h j x hx).2⟩,fun h j x hx=>⟨h.1 j x hx,h.2 j x hx⟩⟩
theorem Uj {α:Type} {p:α->Bool}:∀ {l:List α} {i:Nat},eJ (fun x _=>p x) l i=l.all p
 | [],_=>rfl
 | x::r,i=>by simp only [eJ,List.all_cons];rw [Uj (l:=r)]
def zB (l:List aC) (x:aC) (i:Nat):Bool:=decide (1<=x.1/\x.1<=999)&&(decide (i=0) || decide ((aU l ((i:Int) - 1)).1 < x.1))
def uG (l:List aC):Nat:=(l.filter fun x=>x.2.1==0).length
def DR (l:List aC):Bool:=l.all fun x=>x.2.1==0 || decide (0<=bE l x.2.1)
def cN (l:List aC):Nat->Int->List Int
 | 0,_=>[]
 | f+1,i=>if i < 0 then [] else i::cN l f (bE l (aU l i).2.1)
def nI (u:List Int):Int:=u.getD (u.length - 1) 0
def vN (l:List aC) (i:Nat):Bool:=decide ((cN l 9 i).length<=8)&&((aU l (nI (cN l 9 i))).2.1==0)
theorem kM {l:List aC} {n:Nat} {x:aC} (h:l[n]? = some x):aU l (n:Int)=x:=by unfold aU;rw [Q3,Zr,h];rfl
theorem Gx {l:List aC} {i:Int} (h0:0<=i) (h:i < ((l.length:Nat):Int)):l[i.toNat]? = some (aU l i):=by
 have:i.toNat < l.length:=by omega
 unfold aU;rw [Zr,Z6 this];rfl
theorem wL {l:List aC} {id:Int}:bE l id < ((l.length:Nat):Int):=by
 by_cases h:0<=bE l id
 .obtain ⟨k,x,h1,h2,_⟩:=AK h
  have:=(Z0 h2).1
  omega
 .omega
theorem Qyn {d:Nat} {n:Int}:FU (d+1) n=some (decide (1<=n/\n<=999)):=by
 rw [S9]
 by_cases h:n>=1
 .rw [Z5 h,Q4];congr 1;rw [Bool.eq_iff_iff];simp;omega
 .rw [Z4 h,Q5];congr 1;symm;rw [decide_eq_false_iff_not];omega
def rm (l:List aC):Bool:=eJ (zB l) l 0
theorem IL {i:Nat} (h:i < 9223372036854775807) (h0:0 < i):IntKind.i64.wrap ((i:Int) - 1)=((i - 1:Nat):Int):=by rw [wr (by omega) (by omega)];omega
theorem Qmp {d:Nat} {c:Cf} (hl:c.2.1.length < 4000000):FV (d+2) c=some (rm c.2.1&&decide (1<=c.2.1.length/\c.2.1.length<=24)):=by
 rw [S_]
 refine (Qb (fun (t:Bool) (i:Int)=>(t,i)) c.2.1 (fun x i t k=>aa (zB c.2.1 x i) (k t) (some false)) (fun _=>some (decide (1<=c.2.1.length/\c.2.1.length<=24))) ?_ ?_ (by rw [Q6];omega) false).trans ?_
 .intro ag t i x hx
  have hi:=(Z0 hx).1
  simp only [pQ,bW hx,nn,Q3,hx,Q9,Q4]
  rw [Qyn,Q9,aN (by omega)]
  unfold zB
  cases decide (1<=x.1/\x.1<=999) with
  | false=>rfl
  | true =>
   rw [Zl,Q5,Zg]
   by_cases h0:i=0
   .subst h0;rfl
   .rw [Z5 (show (i:Int) > 0 by omega),Q4,IL (by omega) (by omega),nn,Q4,Q3,Z6 (show i - 1 < c.2.1.length by omega),Q9,Z4 h0,Bool.false_or]
    rw [show (i:Int) - 1=((i - 1:Nat):Int) by omega,kM (Z6 (show i - 1 < c.2.1.length by omega))]
    by_cases h:x.1<=(c.2.1[i - 1]).1
    .rw [Z5 h,Z4 (by omega)];rfl
    .rw [Z4 h,Z5 (by omega)];rfl
 .intro ag t
  simp only [pQ,bB,Q5]
  unfold x_
  by_cases h:((c.2.1.length:Nat):Int)>=1
  .rw [Z5 h,Q4];congr 1;rw [Bool.eq_iff_iff];simp;omega
  .rw [Z4 h,Q5];congr 1;symm;rw [decide_eq_false_iff_not];omega
 .rw [qp];unfold rm;cases eJ (zB c.2.1) c.2.1 0<;>rfl
theorem OC {α:Type} {p:α->Bool}:∀ (l:List α) (i t:Nat),t+l.length < 4000000->cE (fun x _ (t:Int)=>if p x=true then IntKind.i64.wrap (t+1) else t) l i (t:Int)=((t+(l.filter p).length:Nat):Int)
 | [],i,t,_=>by simp [cE]
 | x::r,i,t,h=>by
  simp only [Z9] at h
  simp only [cE,List.filter_cons]
  cases p x with
  | true =>
   simp only [if_true]
   rw [aN (by omega),OC r (i+1) (t+1) (by omega)]
   simp;omega
  | false=>simp only [Bool.false_eq_true,if_false];exact OC r (i+1) t (by omega)
theorem Qgn {d:Nat} {c:Cf} (hl:c.2.1.length<=1000):Ok (FX (d+4) c) fun r=>((((r.length:Nat):Int))==0)=DR c.2.1:=by
 rw [Ta]
 refine ⟨fL (fun x _ => !(x.2.1==0 || decide (0<=bE c.2.1 x.2.1))) (fun _ k=>((k:Nat):Int)) c.2.1 0,?_,?_⟩
 .refine (Qb (fun (t:List Int) (i:Int)=>(t,i)) c.2.1 (fun x i t k=>aa (!(x.2.1==0 || decide (0<=bE c.2.1 x.2.1))) (aa (Nat.ble ((t.length+[((i:Nat):Int)].length)*8) Q7) (k (t++[((i:Nat):Int)])) none) (k t)) (fun t=>some t) ?_ ?_ (by rw [Q6];omega) []).trans ?_
  .intro ag t i x hx;have hi:=(Z0 hx).1;simp only [pS,bW hx,nn,Q3,hx,Q9,Q4]
   unfold pR
   rw [aN (by omega)]
   by_cases h:x.2.1=0
   .rw [show (x.2.1 != 0)=false by simp [h],Q5,Q5,show (x.2.1==0)=true by simp [h],Bool.true_or];rfl
   .rw [show (x.2.1 != 0)=true by simp [h],Q4,N6 (by omega),Q9,show (x.2.1==0)=false by simp [h],Bool.false_or]
    by_cases h2:bE c.2.1 x.2.1 < 0
    .rw [Z5 h2,Q4,Z4 (by omega)];rfl
    .rw [Z4 h2,Q5,Z5 (by omega)];rfl
  .intro ag t;simp only [pS,bB,Q5];rfl
  .exact DQ (c:=fun x _ => !(x.2.1==0 || decide (0<=bE c.2.1 x.2.1))) (e:=fun (_:aC) (k:Nat)=>((k:Nat):Int)) (w:=8) c.2.1 0 [] (by simp;omega)
 .have:=K7 (c:=fun x:aC => !(x.2.1==0 || decide (0<=bE c.2.1 x.2.1))) (e:=fun _ k=>((k:Nat):Int)) c.2.1 0
  unfold DR
  rw [show (c.2.1.all fun x=>x.2.1==0 || decide (0<=bE c.2.1 x.2.1)) = !(c.2.1.any fun x => !(x.2.1==0 || decide (0<=bE c.2.1 x.2.1))) by simp [List.all_eq_not_any_not],<- this]
  simp only []
  rw [Bool.eq_iff_iff,beq_iff_eq,beq_iff_eq]
  omega
theorem Qco {d:Nat} {c:Cf} (hl:c.2.1.length<=1000):FY (d+5) c=some (decide (uG c.2.1=1)&&DR c.2.1):=by
 rw [Tb]
 refine (Qb (fun (t:Int) (i:Int)=>(t,i)) c.2.1 (fun x _ t k=>k (if (x.2.1==0)=true then IntKind.i64.wrap (t+1) else t)) (pT (d+4) c) ?_ ?_ (by rw [Q6];omega) 0).trans ?_
 .intro ag t i x hx;have hi:=(Z0 hx).1;simp only [pU,bW hx,nn,Q3,hx,Q9,Q4];rw [aN (by omega)]
  cases (x.2.1==0)<;>rfl
 .intro ag t;simp only [pU,bB,Q5]
 .rw [wQ (f:=fun (x:aC) _ (t:Int)=>if (x.2.1==0)=true then IntKind.i64.wrap (t+1) else t)]
  have:=OC (p:=fun x:aC=>x.2.1==0) c.2.1 0 0 (by omega)
  rw [show ((0:Nat):Int)=0 from rfl] at this
  rw [this,Zo]
  unfold pT
  rw [show (c.2.1.filter fun x=>x.2.1==0).length=uG c.2.1 from rfl]
  by_cases h:uG c.2.1=1
  .rw [show (((uG c.2.1:Nat):Int)==1)=true by rw [beq_iff_eq];omega,Q4,Z5 h,Zg]
   obtain ⟨r,h1,h2⟩:=Qgn (d:=d) hl
   rw [h1,Q9,h2]
  .rw [show (((uG c.2.1:Nat):Int)==1)=false by rw [beq_eq_false_iff_ne];omega,Q5,Z4 h];rfl
theorem OD {l:List aC}:∀ (f g:Nat) (i:Int),(cN l f i).length < f->f<=g->cN l g i=cN l f i
 | 0,g,i,h,_=>by omega
 | f+1,0,i,h,hg=>by omega
 | f+1,g+1,i,h,hg=>by
  simp only [cN] at h ⊢
  by_cases hi:i < 0
  .rw [if_pos hi,if_pos hi]
  .rw [if_neg hi] at h ⊢
   rw [if_neg hi,OD f g _ (by simpa using h) (by omega)]
theorem Uk {l:List aC} {f:Nat} {i:Int} (h:0<=i):cN l (f+1) i=i::cN l f (bE l (aU l i).2.1):=by
 simp only [cN];rw [if_neg (by omega)]
theorem OE {l:List aC} {i:Int} (h0:0<=i) (h:(cN l 9 i).length<=8):(cN l 9 i)=i::cN l 9 (bE l (aU l i).2.1):=by
 have e:cN l 9 i=i::cN l 8 (bE l (aU l i).2.1):=by
  conv=>lhs;unfold cN
  rw [if_neg (by omega)]
 rw [e] at h ⊢
 simp only [Z9] at h
 rw [OD 8 9 _ (by omega) (by omega)]
theorem Ul {l:List aC}:∀ (f:Nat) (i:Int),i < ((l.length:Nat):Int)->∀ n∈cN l f i,0<=n/\n < ((l.length:Nat):Int)
 | 0,_,_,n,hn=>by simp [cN] at hn
 | f+1,i,h,n,hn=>by
  simp only [cN] at hn
  split at hn
  .simp at hn
  .rcases Z2 hn with rfl | hn
   .exact ⟨by omega,h⟩
   .exact Ul f _ wL n hn
theorem ZL {l:List Int} {n:Int} (h:fm (fun x=>x==n) l 0 < 0):n∉l:=by
 rw [Kl] at h
 intro hm
 have:=h n hm
 simp at this
theorem Yn {d:Nat} {l:List Int} {n:Int} (hl:l.length < 4000000):wG (d+1) l n=some (fm (fun x=>x==n) l 0):=by
 rw [Tc]
 refine (Qb (fun (t:Int) (i:Int)=>(t,i)) l (fun x i t k=>aa (n==x) (some ((i:Nat):Int)) (k t)) (fun _=>some (-1)) ?_ ?_ (by rw [Q6];omega) 0).trans ?_
 .intro ag t i x hx;have hi:=(Z0 hx).1;simp only [pV,bW hx,nn,Q3,hx,Q9,Q4];rw [aN (by omega)]
 .intro ag t;simp only [pV,bB,Q5];rfl
 .rw [show (fun (x:Int) (i:Nat) (t:Int) (k:Int->Option Int)=>aa (n==x) (some ((i:Nat):Int)) (k t))=fun x i t k=>aa (x==n) (some ((i:Nat):Int)) (k t) by funext x i t k;rw [BEq.comm]]
  exact DP l 0 _
theorem Qmq {d:Nat} {l:List Int} {n:Int} (hl:l.length < 4000000):F0 (d+2) l n=some (decide (0<=fm (fun x=>x==n) l 0)):=by
 rw [Td,Yn hl,Q9]
theorem OF {l:List Int} {n:Nat} (h:l.Nodup) (h2:∀ x∈l,0<=x/\x < (n:Int)):l.length<=n:=by
 have:=List.Nodup.length_le_of_subset (l₂:=(List.range n).map fun (k:Nat)=>(k:Int)) h (fun x hx=>by
  obtain ⟨h3,h4⟩:=h2 x hx
  exact List.mem_map.2 ⟨x.toNat,List.mem_range.2 (by omega),by omega⟩)
 simpa using this
theorem Qs9 {d:Nat} {c:Cf} {i:Nat} (hi:i < c.2.1.length) (hl:c.2.1.length<=24):Ok (F1 (d+4) c (i:Int)) fun r=>(r.2=true->cN c.2.1 (r.1.length+1) (i:Int)=r.1/\0 < r.1.length)/\(r.2=false->8 < (cN c.2.1 9 (i:Int)).length):=by
 rw [Te]
 refine lW (fun m (st:Int×List Int×Bool×List Int)=>m=24 - st.2.2.2.length/\st.1 < ((c.2.1.length:Nat):Int)/\st.2.2.2.Nodup/\(∀ x∈st.2.2.2,0<=x/\x < ((c.2.1.length:Nat):Int))/\(∀ f,cN c.2.1 (st.2.2.2.length+f) (i:Int)=st.2.2.2++cN c.2.1 f st.1)/\(st.2.2.2=[]->st.1=(i:Int)) /\
  ((cN c.2.1 9 (i:Int)).length<=8->(cN c.2.1 9 st.1).length<=8/\∀ y∈st.2.2.2,(cN c.2.1 9 st.1).length < (cN c.2.1 9 y).length)) ?_ _ 24 _ (by rw [Q6];omega) ⟨rfl,by simp only;omega,by simp,by simp,fun f=>by simp,fun _=>rfl,fun h=>⟨h,by simp⟩⟩
 rintro m ⟨n,l5,b,out⟩ ag ⟨hm,hn,hnd,nJ,oP,eR,hlen⟩ eu
 simp only at hm hn hnd nJ oP eR hlen
 have hol:=OF hnd nJ
 simp only [yd]
 by_cases h0:n>=0
 case neg =>
  rw [Z4 h0,Q5]
  unfold yb
  refine Ok.some ⟨fun _=>?_,fun h=>by simp at h⟩
  have:=oP 1
  simp only [cN,if_pos (show n < 0 by omega),List.append_nil] at this
  refine ⟨this,?_⟩
  rcases Nat.eq_zero_or_pos out.length with h | h
  .have:=eR (List.eq_nil_of_length_eq_zero h);omega
  .exact h
 rw [Z5 h0,Q4,Qmq (by omega),Q9]
 by_cases hc:0<=fm (fun x=>x==n) out 0
 .rw [Z5 hc,Q4]
  refine Ok.some ⟨fun h=>by simp at h,fun _=>?_⟩
  rcases Nat.lt_or_ge 8 (cN c.2.1 9 (i:Int)).length with h | h
  .exact h
  .obtain ⟨g1,g2⟩:=hlen h
   obtain ⟨k,x,e1,e2,e3,_⟩:=IK hc
   have hx:x=n:=by simpa using e3
   have:=g2 x (Zc e2)
   rw [hx] at this;omega
 .have DS:=ZL (by omega:fm (fun x=>x==n) out 0 < 0)
  have au:(out++[n]).length<=c.2.1.length:=OF (by
   rw [Zn]
   exact ⟨hnd,by simp,fun a ha b hb e=>by simp at hb;subst hb;subst e;exact DS ha⟩) (fun x hx=>by
   rcases List.mem_append.1 hx with h | h
   .exact nJ x h
   .simp at h;subst h;exact ⟨h0,hn⟩)
  simp only [Zf,Z9,Zb] at au
  rw [Z4 hc,Q5,room (by simp;omega),Q4,Q4,Gx h0 hn,Q9,N6 (by omega),Q9]
  refine eu (24 - (out++[n]).length) _ (by simp;omega) ⟨rfl,wL,?_,?_,fun f=>?_,fun h=>by simp at h,fun h=>?_⟩
  .rw [Zn]
   exact ⟨hnd,by simp,fun a ha b hb e=>by simp at hb;subst hb;subst e;exact DS ha⟩
  .intro x hx
   rcases List.mem_append.1 hx with h | h
   .exact nJ x h
   .simp at h;subst h;exact ⟨h0,hn⟩
  .have:=oP (f+1)
   rw [Uk h0] at this
   simp only [Zf,Z9,Zb]
   rw [show out.length+(0+1)+f=out.length+(f+1) by omega,this];simp
  .obtain ⟨g1,g2⟩:=hlen h
   have g3:=OE h0 g1
   have g4:=congrArg List.length g3
   simp only [Z9] at g4
   refine ⟨by simp only;omega,fun y hy=>?_⟩
   simp only
   rcases List.mem_append.1 hy with hy | hy
   .have:=g2 y hy;omega
   .simp at hy;subst hy;omega
theorem ZM {l:List aC}:∀ (f g:Nat) (i:Int),f<=g->(cN l f i).length<=(cN l g i).length
 | 0,_,_,_=>by simp [cN]
 | f+1,0,_,h=>by omega
 | f+1,g+1,i,h=>by
  simp only [cN]
  split
  .simp
  .have:=ZM (l:=l) f g (bE l (aU l i).2.1) (by omega);simp;omega
theorem ZN {u:List Int} (h:0 < u.length):nI u∈u/\u[u.length - 1]? = some (nI u):=by
 have e:u[u.length - 1]? = some (nI u):=by
  unfold nI;rw [Zr,Z6 (show u.length - 1 < u.length by omega)];rfl
 exact ⟨Zc e,e⟩
theorem Qjk {d:Nat} {c:Cf} (hl:c.2.1.length<=24):F3 (d+5) c=some (eJ (fun _ i=>vN c.2.1 i) c.2.1 0):=by
 rw [Tf]
 refine (Qb (fun (t:Bool) (i:Int)=>(t,i)) c.2.1 (fun x i t k=>aa (vN c.2.1 i) (k t) (some false)) (fun _=>some true) ?_ ?_ (by rw [Q6];omega) false).trans ?_
 .intro ag t i x hx
  have hi:=(Z0 hx).1
  simp only [pX,bW hx,Q4]
  obtain ⟨r,hr,r1,r2⟩:=Qs9 (d:=d) (c:=c) (i:=i) hi hl
  rw [hr,Q9]
  unfold vN
  cases hb:r.2 with
  | false =>
   have:=r2 hb
   rw [Bool.not_false,Q4,Z4 (by omega)];rfl
  | true =>
   obtain ⟨e1,e2⟩:=r1 hb
   rw [Zl,Q5]
   by_cases h8:r.1.length<=8
   .have e3:cN c.2.1 9 (i:Int)=r.1:=by
     rw [OD (r.1.length+1) 9 _ (by rw [e1];omega) (by omega)];exact e1
    rw [e3,Z5 h8,Z4 (by omega),Q5,Zg,IL (by omega) (by omega),nn,Q4,Q3,Qo (by omega),Q4]
    obtain ⟨m1,m2⟩:=ZN e2
    rw [m2,Q9]
    rw [<- e3] at m1
    obtain ⟨q1,q2⟩:=Ul 9 (i:Int) (by omega) _ m1
    rw [e3] at q1 q2
    rw [Z5 q1,Q4,Gx q1 q2,Q9,aN (by omega)]
    by_cases h:(aU c.2.1 (nI r.1)).2.1=0
    .rw [show ((aU c.2.1 (nI r.1)).2.1 != 0)=false by simp [h],Q5,show ((aU c.2.1 (nI r.1)).2.1==0)=true by simp [h]];rfl
    .rw [show ((aU c.2.1 (nI r.1)).2.1 != 0)=true by simp [h],Q4,show ((aU c.2.1 (nI r.1)).2.1==0)=false by simp [h]];rfl
   .have:8 < (cN c.2.1 9 (i:Int)).length:=by
     rcases Nat.lt_or_ge (r.1.length+1) 9 with g | g
     .omega
     .have g1:=ZM (l:=c.2.1) 9 (r.1.length+1) (i:Int) g
      rcases Nat.lt_or_ge 8 (cN c.2.1 9 (i:Int)).length with g2 | g2
      .exact g2
      .have:=OD (l:=c.2.1) 9 (r.1.length+1) (i:Int) (by omega) g
       rw [e1] at this
       have:=congrArg List.length this
       omega
    rw [Z5 (show ((r.1.length:Nat):Int) > 8 by omega),Q4,Z4 (show ¬ (cN c.2.1 9 (i:Int)).length<=8 by omega)];rfl
 .intro ag t;simp only [pX,bB,Q5];rfl
 .rw [qp];cases eJ _ c.2.1 0<;>rfl
theorem Qyo {d:Nat} {c:Cf} {i:Nat} (hi:i < c.2.1.length) (hl:c.2.1.length<=24):Fp (d+2) c (i:Int)=some (cN c.2.1 9 (i:Int)):=by
 rw [SD]
 have key:∀ (f fuel:Nat) (n:Int) (out:List Int),out.length+f=9->f < fuel->n < ((c.2.1.length:Nat):Int)->Q8 (kS (d+1) c (kQ (d+1))) fuel (n,out)=some (out++cN c.2.1 f n):=by
  intro f
  induction f with
  | zero =>
   intro fuel n out h1 h2 h3
   obtain ⟨g,rfl⟩:∃ g,fuel=g+1:=⟨fuel - 1,by omega⟩
   simp only [Q8,kS]
   unfold kR kQ
   rw [Z4 (show ¬ ((out.length:Nat):Int)<=8 by omega),Q5]
   simp [cN,Qt9]
  | succ f ih =>
   intro fuel n out h1 h2 h3
   obtain ⟨g,rfl⟩:∃ g,fuel=g+1:=⟨fuel - 1,by omega⟩
   simp only [Q8,kS]
   unfold kR
   by_cases hn:n>=0
   .rw [Z5 hn,Q4,Z5 (show ((out.length:Nat):Int)<=8 by omega),Q4,room (by simp;omega),Q4,Q4,Gx hn h3,Q9,IC (by omega),Q9,ih g _ _ (by simp;omega) (by omega) wL]
    simp only [cN,if_neg (show ¬ n < 0 by omega)]
    simp
   .rw [Z4 hn,Q5,Q5]
    unfold kQ
    simp only [cN,if_pos (show n < 0 by omega)]
    simp
 exact key 9 Qd (i:Int) [] rfl (by rw [Q6];omega) (by omega)
theorem ZO {α:Type} {g:α->Int} {B:Nat}:∀ (l:List α) (i:Nat) (t:Int),(∀ x∈l,0<=g x/\g x<=(B:Int))->0<=t->t+((l.length*B:Nat):Int)<=9223372036854775807->cE (fun x _ (t:Int)=>IntKind.i64.wrap (t+g x)) l i t=t+(l.map g).sum/\t<=t+(l.map g).sum/\t+(l.map g).sum<=t+((l.length*B:Nat):Int)
 | [],i,t,_,_,_=>by simp [cE]
 | x::r,i,t,h,ht,hs=>by
  obtain ⟨h1,h2⟩:=h x (by simp)
  have e:((x::r).length*B:Nat)=r.length*B+B:=by rw [Z9,Nat.add_mul,Nat.one_mul]
  rw [e] at hs ⊢
  obtain ⟨g1,g2,g3⟩:=ZO r (i+1) (t+g x) (fun y hy=>h y (by simp [hy])) (by omega) (by omega)
  simp only [cE,List.map_cons,List.sum_cons]
  rw [wr (by omega) (by omega),g1]
  omega
theorem ZP {α:Type} {g:α->Int} {B:Nat}:∀ (l:List α) (i:Nat) (t:Int),(∀ x∈l,0<=g x/\g x<=(B:Int))->t<=9223372036854775807->-9223372036854775808<=t - ((l.length*B:Nat):Int)->cE (fun x _ (t:Int)=>IntKind.i64.wrap (t - g x)) l i t=t - (l.map g).sum
 | [],i,t,_,_,_=>by simp [cE]
 | x::r,i,t,h,ht,hs=>by
  obtain ⟨h1,h2⟩:=h x (by simp)
  have e:((x::r).length*B:Nat)=r.length*B+B:=by rw [Z9,Nat.add_mul,Nat.one_mul]
  rw [e] at hs
  simp only [cE,List.map_cons,List.sum_cons]
  rw [wr (by omega) (by omega),ZP r (i+1) (t - g x) (fun y hy=>h y (by simp [hy])) (by omega) (by omega)]
  omega
def K8 (l:List aC):Prop:=∀ x∈l,0<=x.2.2.1/\x.2.2.1<=1000000000
def BX (l:List aC) (id:Int):Int:=((nH l id).map fun k=>(aU l k).2.2.1).sum
theorem Um {l:List aC} {id:Int} {i:Nat} {n:Int} (h:(nH l id)[i]? = some n):0<=n/\l[n.toNat]? = some (aU l n)/\(aU l n).2.1=id/\aU l n∈l:=by
 obtain ⟨k,x,rfl,h2,h3⟩:=ZH (Zc h)
 rw [kM h2,Q3]
 exact ⟨by omega,h2,h3,Zc h2⟩
theorem ZQ {l:List aC} {id:Int} (hr:K8 l):∀ n∈nH l id,0<=(aU l n).2.2.1/\(aU l n).2.2.1<=((1000000000:Nat):Int):=by
 intro n hn
 obtain ⟨i,hi⟩:=List.getElem?_of_mem hn
 exact hr _ (Um hi).2.2.2
theorem Qgr {d:Nat} {c:Cf} {n:Nat} {y:aC} (hn:c.2.1[n]? = some y) (hl:c.2.1.length<=24) (hr:K8 c.2.1):F8 (d+2) c (n:Int)=some (BX c.2.1 y.1):=by
 have hk:=Oz (l:=c.2.1) (id:=y.1)
 have hm:(nH c.2.1 y.1).length*1000000000<=24*1000000000:=Zk _ (by omega)
 rw [Tj,ZI hn (by omega),Q9]
 refine (Qb (fun (t:Int) (i:Int)=>(t,i)) (nH c.2.1 y.1) (fun x _ t k=>k (IntKind.i64.wrap (t+(aU c.2.1 x).2.2.1))) (fun t=>some t) ?_ ?_ (by rw [Q6];omega) 0).trans ?_
 .intro ag t i x hx
  have hi:=(Z0 hx).1
  obtain ⟨k1,k2,k3,k4⟩:=Um hx
  simp only [pZ,bW hx,nn,Q3,hx,Q9,Q4,sU hx]
  rw [Z5 k1,Q4,k2,Q9,aN (by omega)]
 .intro ag t;simp only [pZ,bB,Q5];rfl
 .rw [wQ (f:=fun (x:Int) _ (t:Int)=>IntKind.i64.wrap (t+(aU c.2.1 x).2.2.1)),(ZO (nH c.2.1 y.1) 0 0 (ZQ hr) (by omega) (by omega)).1,Int.zero_add];rfl
theorem Qou {d:Nat} {c:Cf} {n:Nat} {y:aC} (hn:c.2.1[n]? = some y) (hl:c.2.1.length<=24) (hr:K8 c.2.1):Ft (d+2) c (n:Int)=some (y.2.2.1 - BX c.2.1 y.1):=by
 have hk:=Oz (l:=c.2.1) (id:=y.1)
 have hm:(nH c.2.1 y.1).length*1000000000<=24*1000000000:=Zk _ (by omega)
 have hy:=hr y (Zc hn)
 rw [SF,nn,Q4,Q3,hn,Q9,OB hn (by omega),Q9]
 refine (Qb (fun (t:Int) (i:Int)=>(t,i)) (nH c.2.1 y.1) (fun x _ t k=>k (IntKind.i64.wrap (t - (aU c.2.1 x).2.2.1))) (fun t=>some t) ?_ ?_ (by rw [Q6];omega) y.2.2.1).trans ?_
 .intro ag t i x hx
  have hi:=(Z0 hx).1
  obtain ⟨k1,k2,k3,k4⟩:=Um hx
  simp only [oX,bW hx,nn,Q3,hx,Q9,Q4,sU hx]
  rw [Z5 k1,Q4,k2,Q9,aN (by omega)]
 .intro ag t;simp only [oX,bB,Q5];rfl
 .rw [wQ (f:=fun (x:Int) _ (t:Int)=>IntKind.i64.wrap (t - (aU c.2.1 x).2.2.1)),ZP (nH c.2.1 y.1) 0 y.2.2.1 (ZQ hr) (by omega) (by omega)];rfl
def lX (x:aC):Bool:=decide (1<=x.2.2.1/\x.2.2.1<=100000/\x.2.2.1<=x.2.2.2.1/\x.2.2.2.1<=100000)
def mM (x:aC):Bool:=decide (1500<=x.2.2.2.2.1/\x.2.2.2.2.1<=1000000/\1500<=x.2.2.2.2.2.1/\x.2.2.2.2.2.1<=1000000/\0<=x.2.2.2.2.2.2.1/\x.2.2.2.2.2.2.1<=7)
def nK (l:List aC) (x:aC):Bool:=decide (BX l x.1<=x.2.2.1)
def nL (l:List aC) (x:aC):Bool:=if ic l x.1=true then decide (1<=x.2.2.2.2.2.2.2/\x.2.2.2.2.2.2.2<=60) else x.2.2.2.2.2.2.2==0
theorem Qjl {d:Nat} {x:aC}:F4 (d+1) x=some (lX x):=by
 rw [Tg];unfold lX
 simp only [uE];congr 1;rw [Bool.eq_iff_iff];simp
theorem Qgt {d:Nat} {x:aC}:Ga (d+1) x=some (mM x):=by
 rw [Tm];unfold mM
 simp only [uE];congr 1;rw [Bool.eq_iff_iff];simp
theorem Qov {d:Nat} {x:aC}:Fo (d+2) x=some (decide (1<=x.1/\x.1<=999)&&(lX x&&mM x)):=by
 rw [SC];unfold lX mM
 simp only [vL,Q9,uE];congr 1;rw [Bool.eq_iff_iff];simp;omega
theorem Qgu {d:Nat} {c:Cf} {n:Nat} {y:aC} (hn:c.2.1[n]? = some y) (hl:c.2.1.length<=1000):Gb (d+5) c (n:Int)=some (nL c.2.1 y):=by
 rw [To,nn,Q4,Q3,hn,Q9,Ug hn (by omega),Q9]
 unfold nL
 cases ic c.2.1 y.1 with
 | false=>rfl
 | true =>
  rw [if_pos rfl,Q4]
  simp only [uE];congr 1;rw [Bool.eq_iff_iff];simp
theorem Qa9 {d:Nat} {c:Cf} (hl:c.2.1.length<=1000):F5 (d+4) c=some (c.2.1.all fun x=>decide (0<=x.2.2.1/\x.2.2.1<=1000000000)):=by
 rw [Th]
 refine (Qb (fun (t:Int) (i:Int)=>(t,i)) c.2.1 (fun x i t k=>aa (decide (0<=x.2.2.1/\x.2.2.1<=1000000000)) (k t) (some false)) (fun _=>some true) ?_ ?_ (by rw [Q6];omega) 0).trans ?_
 .intro ag t i x hx;have hi:=(Z0 hx).1;simp only [ef,bW hx,nn,Q3,hx,Q9,Q4];rw [aN (by omega)]
  by_cases h1:x.2.2.1 < 0
  .rw [Z5 h1,Q4,Z4 (show ¬ (0<=x.2.2.1/\x.2.2.1<=1000000000) by omega),Q5];rfl
  .rw [Z4 h1,Q5]
   by_cases h2:x.2.2.1 > 1000000000
   .rw [Z5 h2,Q4,Z4 (show ¬ (0<=x.2.2.1/\x.2.2.1<=1000000000) by omega),Q5];rfl
   .rw [Z4 h2,Q5,Z5 (show 0<=x.2.2.1/\x.2.2.1<=1000000000 by omega),Q4]
 .intro ag t;simp only [ef,bB,Q5];rfl
 .rw [BW];cases c.2.1.all _<;>rfl
theorem Qmr {d:Nat} {c:Cf} (hl:c.2.1.length<=24) (hr:K8 c.2.1):Ok (F_ (d+3) c) fun r=>((((r.length:Nat):Int))==0)=c.2.1.all (nK c.2.1):=by
 rw [Tl]
 refine ⟨fL (fun x _ => !nK c.2.1 x) (fun _ k=>((k:Nat):Int)) c.2.1 0,?_,?_⟩
 .refine (Qb (fun (t:List Int) (i:Int)=>(t,i)) c.2.1 (fun x i t k=>aa (!nK c.2.1 x) (aa (Nat.ble ((t.length+[((i:Nat):Int)].length)*8) Q7) (k (t++[((i:Nat):Int)])) none) (k t)) (fun t=>some t) ?_ ?_ (by rw [Q6];omega) []).trans ?_
  .intro ag t i x hx;have hi:=(Z0 hx).1;simp only [p5,bW hx,nn,Q3,hx,Q9,Q4]
   rw [Qgr hx hl hr,Q9,aN (by omega)]
   unfold nK
   by_cases h2:BX c.2.1 x.1<=x.2.2.1
   .rw [Z5 h2,Z4 (show ¬ BX c.2.1 x.1 > x.2.2.1 by omega)];rfl
   .rw [Z4 h2,Z5 (show BX c.2.1 x.1 > x.2.2.1 by omega)];rfl
  .intro ag t;simp only [p5,bB,Q5];rfl
  .exact DQ (c:=fun x _ => !nK c.2.1 x) (e:=fun (_:aC) (k:Nat)=>((k:Nat):Int)) (w:=8) c.2.1 0 [] (by simp;omega)
 .have:=K7 (c:=fun x:aC => !nK c.2.1 x) (e:=fun _ k=>((k:Nat):Int)) c.2.1 0
  rw [show c.2.1.all (nK c.2.1) = !(c.2.1.any fun x => !nK c.2.1 x) by simp [List.all_eq_not_any_not],<- this]
  simp only []
  rw [Bool.eq_iff_iff,beq_iff_eq,beq_iff_eq]
  omega
theorem Qvy {v m:Int} (h1:0<=v) (h2:v<=65535) (h3:0<=m) (h4:m<=65535) :
  ((IntKind.i64.wrap ((BitVec.ofInt IntKind.i64.bits v &&& ~~~BitVec.ofInt IntKind.i64.bits m).toNat:Int))==0)=((IntKind.i64.wrap ((BitVec.ofInt IntKind.i64.bits v &&& BitVec.ofInt IntKind.i64.bits m).toNat:Int))==v):=by
 obtain ⟨a,rfl⟩:=Int.eq_ofNat_of_zero_le h1
 obtain ⟨b,rfl⟩:=Int.eq_ofNat_of_zero_le h3
 have ha:a < 2 ^ 64:=by omega
 have hb:b < 2 ^ 64:=by omega
 have e1:(BitVec.ofInt IntKind.i64.bits (a:Int))=BitVec.ofNat 64 a:=by show BitVec.ofInt 64 (a:Int)=_;simp
 have e2:(BitVec.ofInt IntKind.i64.bits (b:Int))=BitVec.ofNat 64 b:=by show BitVec.ofInt 64 (b:Int)=_;simp
 have t1:(BitVec.ofInt IntKind.i64.bits (a:Int) &&& ~~~BitVec.ofInt IntKind.i64.bits (b:Int)).toNat=(BitVec.ofNat 64 a &&& ~~~BitVec.ofNat 64 b).toNat:=by rw [e1,e2];rfl
 have t2:(BitVec.ofInt IntKind.i64.bits (a:Int) &&& BitVec.ofInt IntKind.i64.bits (b:Int)).toNat=(BitVec.ofNat 64 a &&& BitVec.ofNat 64 b).toNat:=by rw [e1,e2];rfl
 rw [t1,t2]
 have IM:(BitVec.ofNat 64 a).toNat=a:=by rw [BitVec.toNat_ofNat,Nat.mod_eq_of_lt ha]
 have l1:(BitVec.ofNat 64 a &&& ~~~BitVec.ofNat 64 b).toNat<=a:=by
  rw [BitVec.toNat_and,IM];exact Nat.and_le_left
 have l2:(BitVec.ofNat 64 a &&& BitVec.ofNat 64 b).toNat<=a:=by
  rw [BitVec.toNat_and,IM];exact Nat.and_le_left
 rw [wr (by omega) (by omega),wr (by omega) (by omega),Bool.eq_iff_iff,beq_iff_eq,beq_iff_eq]
 have key:(BitVec.ofNat 64 a &&& ~~~BitVec.ofNat 64 b)=0#64↔(BitVec.ofNat 64 a &&& BitVec.ofNat 64 b)=BitVec.ofNat 64 a:=by
  constructor
  .intro h
   apply BitVec.eq_of_getLsbD_eq
   intro i hi
   have:=congrArg (fun x=>x.getLsbD i) h
   simp only [BitVec.getLsbD_and,BitVec.getLsbD_not,BitVec.getLsbD_zero,hi,decide_true,Zg] at this ⊢
   revert this
   cases (BitVec.ofNat 64 a).getLsbD i<;>cases (BitVec.ofNat 64 b).getLsbD i<;>simp
  .intro h
   apply BitVec.eq_of_getLsbD_eq
   intro i hi
   have:=congrArg (fun x=>x.getLsbD i) h
   simp only [BitVec.getLsbD_and,BitVec.getLsbD_not,BitVec.getLsbD_zero,hi,decide_true,Zg] at this ⊢
   revert this
   cases (BitVec.ofNat 64 a).getLsbD i<;>cases (BitVec.ofNat 64 b).getLsbD i<;>simp
 constructor
 .intro h
  have h':(BitVec.ofNat 64 a &&& ~~~BitVec.ofNat 64 b)=0#64:=by apply BitVec.eq_of_toNat_eq;simp only [BitVec.toNat_ofNat];omega
  rw [key.1 h',IM]
 .intro h
  have h':(BitVec.ofNat 64 a &&& BitVec.ofNat 64 b)=BitVec.ofNat 64 a:=by apply BitVec.eq_of_toNat_eq;rw [IM];omega
  rw [key.2 h'];rfl
def zC (x:dU):Bool:=decide (1<=x.1/\x.1<=99/\0<=x.2.1/\x.2.1<=3/\0<=x.2.2.1/\x.2.2.1<=65535/\0<=x.2.2.2.1/\x.2.2.2.1<=65535)&&((IntKind.i64.wrap ((BitVec.ofInt IntKind.i64.bits x.2.2.2.1 &&& BitVec.ofInt IntKind.i64.bits x.2.2.1).toNat:Int))==x.2.2.2.1)
theorem Qms {d:Nat} {x:dU}:Fw (d+2) x=some (zC x):=by
 rw [SI];unfold zC
 simp only [vL,Q9,uE];congr 1;rw [Bool.eq_iff_iff];simp;omega
theorem Qeo {d:Nat} {x:dU}:Gc (d+1) x=some (zC x):=by
 rw [Tq];unfold zC
 by_cases h:1<=x.1/\x.1<=99/\0<=x.2.1/\x.2.1<=3/\0<=x.2.2.1/\x.2.2.1<=65535/\0<=x.2.2.2.1/\x.2.2.2.1<=65535
 .obtain ⟨h1,h2,h3,h4,h5,h6,h7,h8⟩:=h
  rw [Z5 (show _/\_ from ⟨h1,h2,h3,h4,h5,h6,h7,h8⟩),Zg,Qvy h7 h8 h5 h6]
  simp only [uE]
  rw [if_pos (by simp;omega),if_pos (by simp;omega),if_pos (by simp;omega),if_pos (by simp;omega),if_pos (by simp;omega),if_pos (by simp;omega),if_pos (by simp;omega),if_pos (by simp;omega)]
 .rw [Z4 h,Bool.false_and]
  simp only [uE];congr 1
  rw [Bool.eq_false_iff]
  intro hc
  refine h ?_
  (repeat' split at hc)<;>simp_all
  all_goals omega
def zf5:dU:=(0,0,0,0,0)
def Gy (l:List dU) (i:Int):dU:=l.getD i.toNat zf5
theorem ZR {l:List dU} {n:Nat} {x:dU} (h:l[n]? = some x):Gy l (n:Int)=x:=by unfold Gy;rw [Q3,Zr,h];rfl
def DT (l:List aC) (fs:List dU) (x:dU) (i:Nat):Bool:=zC x&&((decide (i=0) || decide ((Gy fs ((i:Int) - 1)).1 < x.1))&&vM l x.2.2.2.2)
def vO (l:List aC) (fs:List dU):Bool:=eJ (DT l fs) fs 0&&decide (fs.length<=16)
theorem Qcp {d:Nat} {c:Cf} (hl:c.2.1.length<=1000) (hf:c.2.2.1.length < 4000000):Ge (d+6) c=some (vO c.2.1 c.2.2.1):=by
 rw [Tt]
 refine (Qb (fun (t:Bool) (i:Int)=>(t,i)) c.2.2.1 (fun x i t k=>aa (DT c.2.1 c.2.2.1 x i) (k t) (some false)) (fun _=>some (decide (c.2.2.1.length<=16))) ?_ ?_ (by rw [Q6];omega) false).trans ?_
 .intro ag t i x hx;have hi:=(Z0 hx).1;simp only [p6,bW hx,nn,Q3,hx,Q9,Q4]
  rw [Qeo,Q9]
  unfold je DT
  rw [aN (by omega)]
  cases zC x with
  | false=>rfl
  | true =>
   rw [Zl,Q5,Zg]
   by_cases h0:i=0
   .subst h0
    rw [Z4 (show ¬ ((0:Nat):Int) > 0 by omega),Q5,Uh hl,Q9]
    cases vM c.2.1 x.2.2.2.2<;>rfl
   .rw [Z5 (show (i:Int) > 0 by omega),Q4,IL (by omega) (by omega),nn,Q4,Q3,Z6 (show i - 1 < c.2.2.1.length by omega),Q9,Z4 h0,Bool.false_or]
    rw [show (i:Int) - 1=((i - 1:Nat):Int) by omega,ZR (Z6 (show i - 1 < c.2.2.1.length by omega))]
    by_cases h:x.1<=(c.2.2.1[i - 1]).1
    .rw [Z5 h,Z4 (show ¬ (c.2.2.1[i - 1]).1 < x.1 by omega)];rfl
    .rw [Z4 h,Z5 (show (c.2.2.1[i - 1]).1 < x.1 by omega),Q5,Uh hl,Q9]
     cases vM c.2.1 x.2.2.2.2<;>rfl
 .intro ag t;simp only [p6,bB,Q5]
  unfold yh
  congr 1;rw [Bool.eq_iff_iff];simp;omega
 .rw [qp];unfold vO;cases eJ (DT c.2.1 c.2.2.1) c.2.2.1 0<;>rfl
theorem Qjm {d:Nat} {c:Cf} (hl:c.2.1.length<=1000) (hf:c.2.2.1.length < 4000000):SJ (d+4) c=some (vO c.2.1 c.2.2.1):=by
 rw [e78]
 refine (Qb (fun (t:Bool) (i:Int)=>(t,i)) c.2.2.1 (fun x i t k=>aa (DT c.2.1 c.2.2.1 x i) (k t) (some false)) (fun _=>some (decide (c.2.2.1.length<=16))) ?_ ?_ (by rw [Q6];omega) false).trans ?_
 .intro ag t i x hx;have hi:=(Z0 hx).1;simp only [xC,bW hx,nn,Q3,hx,Q9,Q4]
  rw [Qms,Q9]
  unfold nk DT
  rw [aN (by omega)]
  cases zC x with
  | false=>rfl
  | true =>
   rw [Zl,Q5,Zg]
   by_cases h0:i=0
   .subst h0
    rw [Z4 (show ¬ ((0:Nat):Int) > 0 by omega),Q5,Ui hl,Q9]
    cases vM c.2.1 x.2.2.2.2<;>rfl
   .rw [Z5 (show (i:Int) > 0 by omega),Q4,IL (by omega) (by omega),nn,Q4,Q3,Z6 (show i - 1 < c.2.2.1.length by omega),Q9,Z4 h0,Bool.false_or]
    rw [show (i:Int) - 1=((i - 1:Nat):Int) by omega,ZR (Z6 (show i - 1 < c.2.2.1.length by omega))]
    by_cases h:(c.2.2.1[i - 1]).1>=x.1
    .rw [Z5 h,Z4 (show ¬ (c.2.2.1[i - 1]).1 < x.1 by omega)];rfl
    .rw [Z4 h,Z5 (show (c.2.2.1[i - 1]).1 < x.1 by omega),Q5,Ui hl,Q9]
     cases vM c.2.1 x.2.2.2.2<;>rfl
 .intro ag t;simp only [xC,bB,Q5]
  unfold DD
  congr 1;rw [Bool.eq_iff_iff];simp;omega
 .rw [qp];unfold vO;cases eJ (DT c.2.1 c.2.2.1) c.2.2.1 0<;>rfl
def kC (l:List aC):Bool:=decide (1<=l.length/\l.length<=24)&&(rm l&&(decide (uG l=1)&&(DR l&&(eJ (fun _ i=>vN l i) l 0&&(l.all lX&&(l.all (nK l)&&(l.all mM&&l.all (nL l))))))))
def Gz (c:Cf):Bool:=c.2.2.2==0 || vM c.2.1 c.2.2.2
def gb (c:Cf):Bool:=AV c.1&&(kC c.2.1&&(vO c.2.1 c.2.2.1&&Gz c))
theorem ZS {l:List aC} (h:l.all lX=true):K8 l:=by
 intro x hx
 have:=Z3 h x hx
 unfold lX at this
 simp only [Zj] at this
 omega
theorem Qsa {d:Nat} {c:Cf} (hl:c.2.1.length<=1000):t_ (d+7) c 5=some (c.2.1.all lX):=by
 rw [show d+7=(d+3)+4 by omega,AO]
 simp only [Int.reduceBEq,Q4,Q5]
 refine (Qb (fun (t:Int) (i:Int)=>(t,i)) c.2.1 (fun x i t k=>aa (lX x) (k t) (some false)) (fun _=>some true) ?_ ?_ (by rw [Q6];omega) 0).trans ?_
 .intro ag t i x hx;have hi:=(Z0 hx).1;simp only [eN,bW hx,nn,Q3,hx,Q9,Q4];rw [aN (by omega)]
  rw [Qjl,Q9]
  cases lX x<;>rfl
 .intro ag t;simp only [eN,bB,Q5];rfl
 .rw [BW];cases c.2.1.all _<;>rfl
theorem Qsb {d:Nat} {c:Cf} (hl:c.2.1.length<=1000):t_ (d+7) c 7=some (c.2.1.all mM):=by
 rw [show d+7=(d+3)+4 by omega,AO]
 simp only [Int.reduceBEq,Q4,Q5]
 refine (Qb (fun (t:Int) (i:Int)=>(t,i)) c.2.1 (fun x i t k=>aa (mM x) (k t) (some false)) (fun _=>some true) ?_ ?_ (by rw [Q6];omega) 0).trans ?_
 .intro ag t i x hx;have hi:=(Z0 hx).1;simp only [eo,bW hx,nn,Q3,hx,Q9,Q4];rw [aN (by omega)]
  rw [Qgt,Q9]
  cases mM x<;>rfl
 .intro ag t;simp only [eo,bB,Q5];rfl
 .rw [BW];cases c.2.1.all _<;>rfl
theorem Qsc {d:Nat} {c:Cf} (hl:c.2.1.length<=1000):t_ (d+7) c 8=some (c.2.1.all (nL c.2.1)):=by
 rw [show d+7=(d+3)+4 by omega,AO]
 simp only [Int.reduceBEq,Q4,Q5]
 refine (Qb (fun (t:Bool) (i:Int)=>(t,i)) c.2.1 (fun x i t k=>aa (nL c.2.1 x) (k t) (some false)) (fun _=>some true) ?_ ?_ (by rw [Q6];omega) false).trans ?_
 .intro ag t i x hx
  have hi:=(Z0 hx).1
  simp only [yj,bW hx,Q4]
  rw [show d+3+3=(d+1)+5 by omega,Qgu hx hl,Q9,aN (by omega)]
  cases nL c.2.1 x<;>rfl
 .intro ag t;simp only [yj,bB,Q5];rfl
 .rw [BW];cases c.2.1.all _<;>rfl
theorem YI {d:Nat} {c:Cf} (hl:c.2.1.length < 4000000) (hf:c.2.2.1.length < 4000000):Od (d+8) c=some (gb c):=by
 rw [e43]
 unfold yq
 by_cases h1:c.2.1.length<=24
 case neg =>
  rw [Z5 (show ((c.2.1.length:Nat):Int) > 24 by omega),Q4,Q4]
  unfold gb kC
  rw [Z4 (show ¬ (1<=c.2.1.length/\c.2.1.length<=24) by omega)];simp
 rw [Z4 (show ¬ ((c.2.1.length:Nat):Int) > 24 by omega),Q5]
 by_cases h2:c.2.2.1.length<=16
 case neg =>
  rw [Z5 (show ((c.2.2.1.length:Nat):Int) > 16 by omega),Q4]
  unfold gb vO
  rw [Z4 h2];simp
 rw [Z4 (show ¬ ((c.2.2.1.length:Nat):Int) > 16 by omega),Q5]
 have st:∀ (f:Nat) (k:Int) (b:Bool),0<=k->k<=10->t_ (d+7) c k=some b->Q8 (fq (d+7) c (gk (d+7))) (f+1) (false,k)=aa b (Q8 (fq (d+7) c (gk (d+7))) f (false,k+1)) (some false):=by
  intro f k b IN hk hb
  rw [show Q8 (fq (d+7) c (gk (d+7))) (f+1) (false,k)=fq (d+7) c (gk (d+7)) (Q8 (fq (d+7) c (gk (d+7))) f) (false,k) from rfl]
  simp only [fq]
  rw [Z5 hk,Q4,hb,Q9,wr (by omega) (by omega)]
  cases b<;>rfl
 obtain ⟨f,hfu⟩:∃ f,Qd=f+11:=⟨4194293,Q6⟩
 have H1:t_ (d+7) c 1=some (AV c.1):=by
  rw [show d+7=(d+3)+4 by omega,AO];simp only [Int.reduceBEq,Q4];rw [show d+3+3=(d+4)+2 by omega,Qs7,Q9]
 have H2:t_ (d+7) c 2=some (rm c.2.1&&decide (1<=c.2.1.length/\c.2.1.length<=24)):=by
  rw [show d+7=(d+3)+4 by omega,AO];simp only [Int.reduceBEq,Q4,Q5];rw [show d+3+3=(d+4)+2 by omega,Qmp hl,Q9]
 have H3:t_ (d+7) c 3=some (decide (uG c.2.1=1)&&DR c.2.1):=by
  rw [show d+7=(d+3)+4 by omega,AO];simp only [Int.reduceBEq,Q4,Q5];rw [show d+3+3=(d+1)+5 by omega,Qco (by omega),Q9]
 have H4:t_ (d+7) c 4=some (eJ (fun _ i=>vN c.2.1 i) c.2.1 0):=by
  rw [show d+7=(d+3)+4 by omega,AO];simp only [Int.reduceBEq,Q4,Q5];rw [show d+3+3=(d+1)+5 by omega,Qjk h1,Q9]
 have H5:=Qsa (d:=d) (c:=c) (by omega)
 have H7:=Qsb (d:=d) (c:=c) (by omega)
 have H8:=Qsc (d:=d) (c:=c) (by omega)
 have H9:t_ (d+7) c 9=some (vO c.2.1 c.2.2.1):=by
  rw [show d+7=(d+3)+4 by omega,AO];simp only [Int.reduceBEq,Q4,Q5];rw [Qcp (by omega) hf,Q9]
 have H10:t_ (d+7) c 10=some (Gz c):=by
  rw [show d+7=(d+3)+4 by omega,AO];simp only [Int.reduceBEq,Q5];unfold Gz
  cases (c.2.2.2==0) with
  | true=>rfl
  | false=>rw [Q5,show d+3+3=(d+1)+5 by omega,Uh (by omega),Q9];rfl
 unfold gb kC
 rw [hfu,st _ _ _ (by omega) (by omega) H1]
 cases AV c.1 with
 | false=>rfl
 | true =>
 rw [Q4,Zg,show (1:Int)+1=2 from rfl,st _ _ _ (by omega) (by omega) H2]
 cases decide (1<=c.2.1.length/\c.2.1.length<=24) with
 | false=>rw [Bool.and_false];rfl
 | true =>
 rw [Bool.and_true]
 cases rm c.2.1 with
 | false=>rfl
 | true =>
 rw [Q4,Zg,Zg,show (2:Int)+1=3 from rfl,st _ _ _ (by omega) (by omega) H3]
 cases decide (uG c.2.1=1) with
 | false=>rfl
 | true =>
 cases DR c.2.1 with
 | false=>rfl
 | true =>
 rw [Zg,Q4,Zg,show (3:Int)+1=4 from rfl,st _ _ _ (by omega) (by omega) H4]
 cases eJ (fun _ i=>vN c.2.1 i) c.2.1 0 with
 | false=>rfl
 | true =>
 rw [Q4,Zg,show (4:Int)+1=5 from rfl,st _ _ _ (by omega) (by omega) H5]
 cases hr:c.2.1.all lX with
 | false=>rfl
 | true =>
 have bn:=ZS hr
 have H6:t_ (d+7) c 6=some (c.2.1.all (nK c.2.1)):=by
  rw [show d+7=(d+3)+4 by omega,AO];simp only [Int.reduceBEq,Q4,Q5]
  rw [show d+3+3=(d+2)+4 by omega,Qa9 (by omega),Q9,show (c.2.1.all fun x=>decide (0<=x.2.2.1/\x.2.2.1<=1000000000))=true from List.all_eq_true.2 (fun x hx=>Z5 (bn x hx)),Q4]
  obtain ⟨r,g1,g2⟩:=Qmr (d:=d+3) h1 bn
  rw [show d+2+4=d+3+3 by omega,g1,Q9,g2]
 rw [Q4,Zg,show (5:Int)+1=6 from rfl,st _ _ _ (by omega) (by omega) H6]
 cases c.2.1.all (nK c.2.1) with
 | false=>rfl
 | true =>
 rw [Q4,Zg,show (6:Int)+1=7 from rfl,st _ _ _ (by omega) (by omega) H7]
 cases c.2.1.all mM with
 | false=>rfl
 | true =>
 rw [Q4,Zg,show (7:Int)+1=8 from rfl,st _ _ _ (by omega) (by omega) H8]
 cases c.2.1.all (nL c.2.1) with
 | false=>rfl
 | true =>
 rw [Q4,Zg,show (8:Int)+1=9 from rfl,st _ _ _ (by omega) (by omega) H9]
 cases vO c.2.1 c.2.2.1 with
 | false=>rfl
 | true =>
 rw [Q4,Zg,show (9:Int)+1=10 from rfl,st _ _ _ (by omega) (by omega) H10]
 cases Gz c with
 | false=>rfl
 | true =>
 rw [Q4,show Q8 (fq (d+7) c (gk (d+7))) (f+1) (false,(10:Int)+1)=fq (d+7) c (gk (d+7)) (Q8 (fq (d+7) c (gk (d+7))) f) (false,11) from rfl]
 simp only [fq]
 rw [Z4 (show ¬ (11:Int)<=10 by omega),Q5];rfl
theorem ZT {α τ β:Type} {p:α->Nat->Bool} {f:α->Nat->τ->τ} {no:Option β} {fin:τ->Option β}:∀ (l:List α) (i:Nat) (t:τ),d_ (fun x i t k=>aa (p x i) (k (f x i t)) no) fin l i t=aa (eJ p l i) (fin (cE f l i t)) no
 | [],i,t=>rfl
 | x::r,i,t=>by
  simp only [d_,eJ,cE]
  cases p x i with
  | true=>simp only [Q4,Zg];exact ZT r (i+1) (f x i t)
  | false=>rfl
theorem ZU {α σ τ:Type} {f:α->Nat->τ->τ}:∀ (l:List α) (i:Nat) (a:σ) (t:τ),cE (fun x i (s:σ×τ)=>(s.1,f x i s.2)) l i (a,t)=(a,cE f l i t)
 | [],_,_,_=>rfl
 | x::r,i,a,t=>by simp only [cE];exact ZU r (i+1) a (f x i t)
theorem Qsd {d:Nat} {c:Cf} (h0:1<=c.2.1.length) (h1:c.2.1.length<=24):SH (d+3) c=some (kC c.2.1):=by
 rw [e77]
 refine (Qb (fun (t:Bool×Int) (i:Int)=>(t.1,t.2,i)) c.2.1 (fun x i t k=>aa (zB c.2.1 x i&&(lX x&&mM x)) (k (t.1,(if (x.2.1==0)=true then IntKind.i64.wrap (t.2+1) else t.2))) (some false)) (fun t=>xz (d+2) c t.1 t.2) ?_ ?_ (by rw [Q6];omega) (false,0)).trans ?_
 .intro ag t i x hx;have hi:=(Z0 hx).1;simp only [xA,bW hx,nn,Q3,hx,Q9,Q4]
  rw [Qov,Q9]
  unfold rH zB
  rw [aN (by omega)]
  cases decide (1<=x.1/\x.1<=999) with
  | false=>rfl
  | true =>
  cases (lX x&&mM x) with
  | false=>rw [Bool.and_false,Bool.and_false];rfl
  | true =>
   rw [Bool.and_true,Zl,Q5,Zg,Bool.and_true]
   by_cases h0:i=0
   .subst h0
    rw [Z4 (show ¬ ((0:Nat):Int) > 0 by omega),Q5,Q5]
    cases (x.2.1==0)<;>rfl
   .rw [Z5 (show (i:Int) > 0 by omega),Q4,IL (by omega) (by omega),nn,Q4,Q3,Z6 (show i - 1 < c.2.1.length by omega),Q9,Z4 h0,Bool.false_or]
    rw [show (i:Int) - 1=((i - 1:Nat):Int) by omega,kM (Z6 (show i - 1 < c.2.1.length by omega))]
    by_cases h:(c.2.1[i - 1]).1>=x.1
    .rw [Z5 h,Z4 (show ¬ (c.2.1[i - 1]).1 < x.1 by omega)];rfl
    .rw [Z4 h,Z5 (show (c.2.1[i - 1]).1 < x.1 by omega),Q5]
     cases (x.2.1==0)<;>rfl
 .intro ag t;simp only [xA,bB,Q5]
 .rw [ZT (f:=fun (x:aC) _ (t:Bool×Int)=>(t.1,(if (x.2.1==0)=true then IntKind.i64.wrap (t.2+1) else t.2))),ZK,Uj (p:=fun x=>lX x&&mM x),ZU (f:=fun (x:aC) _ (t:Int)=>if (x.2.1==0)=true then IntKind.i64.wrap (t+1) else t)]
  have:=OC (p:=fun x:aC=>x.2.1==0) c.2.1 0 0 (by omega)
  rw [show ((0:Nat):Int)=0 from rfl] at this
  rw [this,Zo]
  unfold xz
  rw [show (c.2.1.filter fun x=>x.2.1==0).length=uG c.2.1 from rfl]
  have kH:(c.2.1.all fun x=>lX x&&mM x)=(c.2.1.all lX&&c.2.1.all mM):=by
   rw [Bool.eq_iff_iff];simp only [List.all_eq_true,Z8]
   exact ⟨fun h=>⟨fun x hx=>(h x hx).1,fun x hx=>(h x hx).2⟩,fun h x hx=>⟨h.1 x hx,h.2 x hx⟩⟩
  rw [kH]
  unfold kC rm
  rw [Z5 (show 1<=c.2.1.length/\c.2.1.length<=24 from ⟨h0,h1⟩),Zg]
  cases eJ (zB c.2.1) c.2.1 0 with
  | false=>rfl
  | true =>
  cases hr:c.2.1.all lX with
  | false=>simp [Q5]
  | true =>
  cases c.2.1.all mM with
  | false=>simp [Q5]
  | true =>
  have bn:=ZS hr
  rw [Zg,Zg,Q4]
  by_cases ht:uG c.2.1=1
  case neg=>rw [show ((((uG c.2.1:Nat):Int)) != 1)=true by simp;omega,Q4,Z4 ht];simp
  rw [show ((((uG c.2.1:Nat):Int)) != 1)=false by simp;omega,Q5,Z5 ht]
  refine (Qb (fun (t:Bool) (i:Int)=>(t,i)) c.2.1 (fun x i t k=>aa (vN c.2.1 i&&(nK c.2.1 x&&nL c.2.1 x)) (k t) (some false)) (fun _=>some true) ?_ ?_ (by rw [Q6];omega) false).trans ?_
  .intro ag t i x hx
   have hi:=(Z0 hx).1
   simp only [xx,bW hx,nn,Q3,hx,Q9,Q4]
   rw [Qyo hi h1,Q9]
   have tail:∀ b1 b2 b3:Bool,j4 (d+2) c ag t (i:Int) x b1 b2 b3 false=aa (nL c.2.1 x) (ag (t,((i+1:Nat):Int))) (some false):=by
    intro b1 b2 b3
    unfold j4
    rw [Q5]
    simp only [ZJ hx (show c.2.1.length<=1000 by omega),Q9,vL]
    unfold jZ nL
    rw [aN (by omega)]
    cases ic c.2.1 x.1 with
    | true =>
     simp only [Q4,Zl,Q5,if_true]
     by_cases h:1<=x.2.2.2.2.2.2.2/\x.2.2.2.2.2.2.2<=60
     .rw [Z5 h];rfl
     .rw [Z4 h];rfl
    | false =>
     simp only [Q4,Bool.not_false,Q5,Bool.false_eq_true,if_false]
     by_cases h:x.2.2.2.2.2.2.2=0
     .rw [show (x.2.2.2.2.2.2.2 != 0)=false by simp [h],show (x.2.2.2.2.2.2.2==0)=true by simp [h]];rfl
     .rw [show (x.2.2.2.2.2.2.2 != 0)=true by simp [h],show (x.2.2.2.2.2.2.2==0)=false by simp [h]];rfl
   have bad:∀ b1 b2 b3:Bool,j4 (d+2) c ag t (i:Int) x b1 b2 b3 true=some false:=fun b1 b2 b3=>rfl
   unfold vN
   by_cases h8:(cN c.2.1 9 (i:Int)).length<=8
   case neg=>rw [Z5 (show (((cN c.2.1 9 (i:Int)).length:Nat):Int) > 8 by omega),Q4,bad,Z4 h8];rfl
   have eO:0 < (cN c.2.1 9 (i:Int)).length:=by rw [Uk (by omega)];simp
   rw [Z4 (show ¬ (((cN c.2.1 9 (i:Int)).length:Nat):Int) > 8 by omega),Q5,Z5 h8,Zg,IL (by omega) (by omega),nn,Q4,Q3,Qo (by omega),Q4]
   obtain ⟨m1,m2⟩:=ZN eO
   obtain ⟨q1,q2⟩:=Ul 9 (i:Int) (by omega) _ m1
   rw [m2,Q9,Z5 q1,Q4,Gx q1 q2,Q9]
   by_cases h:(aU c.2.1 (nI (cN c.2.1 9 (i:Int)))).2.1=0
   case neg=>rw [show ((aU c.2.1 (nI (cN c.2.1 9 (i:Int)))).2.1 != 0)=true by simp [h],Q4,bad,show ((aU c.2.1 (nI (cN c.2.1 9 (i:Int)))).2.1==0)=false by simp [h]];rfl
   rw [show ((aU c.2.1 (nI (cN c.2.1 9 (i:Int)))).2.1 != 0)=false by simp [h],Q5,show ((aU c.2.1 (nI (cN c.2.1 9 (i:Int)))).2.1==0)=true by simp [h],Zg,Qou hx h1 bn,Q9]
   unfold nK
   by_cases hs:BX c.2.1 x.1<=x.2.2.1
   .rw [Z5 hs,Z4 (show ¬ x.2.2.1 - BX c.2.1 x.1 < 0 by omega),tail,Zg]
   .rw [Z4 hs,Z5 (show x.2.2.1 - BX c.2.1 x.1 < 0 by omega),bad];rfl
  .intro ag t;simp only [xx,bB,Q5];rfl
  .rw [qp,ZK,Uj (p:=fun x=>nK c.2.1 x&&nL c.2.1 x)]
   have zD:(c.2.1.all fun x=>nK c.2.1 x&&nL c.2.1 x)=(c.2.1.all (nK c.2.1)&&c.2.1.all (nL c.2.1)):=by
    rw [Bool.eq_iff_iff];simp only [List.all_eq_true,Z8]
    exact ⟨fun h=>⟨fun x hx=>(h x hx).1,fun x hx=>(h x hx).2⟩,fun h x hx=>⟨h.1 x hx,h.2 x hx⟩⟩
   rw [zD]
   have Un:eJ (fun _ i=>vN c.2.1 i) c.2.1 0=true->DR c.2.1=true:=by
    intro hw
    rw [rU] at hw
    unfold DR
    rw [List.all_eq_true]
    intro x hx
    obtain ⟨i,hi⟩:=List.getElem?_of_mem hx
    have h1:=hw i x hi
    rw [Zo] at h1
    unfold vN at h1
    simp only [Z8,Zj,beq_iff_eq] at h1
    obtain ⟨w1,w2⟩:=h1
    have e:=OE (l:=c.2.1) (i:=(i:Int)) (by omega) w1
    rw [kM hi] at e
    by_cases hn:0<=bE c.2.1 x.2.1
    .simp [hn]
    .have e2:cN c.2.1 9 (bE c.2.1 x.2.1)=[]:=by simp only [cN];rw [if_pos (by omega)]
     rw [e,e2] at w2
     rw [show nI [(i:Int)]=(i:Int) from rfl,kM hi] at w2
     simp [w2]
   cases hw:eJ (fun _ i=>vN c.2.1 i) c.2.1 0 with
   | false=>simp [Q5]
   | true =>
    rw [Un hw]
    cases c.2.1.all (nK c.2.1)<;>cases c.2.1.all (nL c.2.1)<;>rfl
theorem YJ {d:Nat} {c:Cf} (hs:c.1.size < 4000000) (hf:c.2.2.1.length < 4000000):N8 (d+5) c=some (gb c):=by
 rw [e36,show d+4=(d+1)+3 by omega,Qs8 hs,Q9]
 unfold gb
 cases AV c.1 with
 | false=>rfl
 | true =>
 rw [Q4,show d+1+3=(d+3)+1 by omega,vL,Q9,Zg]
 by_cases h:1<=c.2.1.length/\c.2.1.length<=24
 case neg =>
  rw [Z4 (show ¬ ((1:Int)<=((c.2.1.length:Nat):Int)/\((c.2.1.length:Nat):Int)<=24) by omega),Q5]
  unfold kC
  rw [Z4 h];rfl
 rw [Z5 (show (1:Int)<=((c.2.1.length:Nat):Int)/\((c.2.1.length:Nat):Int)<=24 by omega),Q4,show d+3+1=(d+1)+3 by omega,Qsd h.1 h.2,Q9]
 cases kC c.2.1 with
 | false=>rfl
 | true =>
 rw [Q4,show d+1+3=d+4 by omega,Qjm (by omega) hf,Q9,Zg]
 cases vO c.2.1 c.2.2.1 with
 | false=>rfl
 | true =>
 rw [Q4,Zg]
 unfold Gz
 cases (c.2.2.2==0) with
 | true=>rfl
 | false=>rw [Q5,show d+4=(d+1)+3 by omega,Ui (by omega),Q9,Bool.false_or]
theorem Qw0 {l:List aC} {f:Nat} {i:Int} (h:i < 0):cN l f i=[]:=by
 cases f with
 | zero=>rfl
 | succ f=>simp only [cN];rw [if_pos h]
def bO (l:List aC) (i:Int):Int:=bE l (aU l i).2.1
def cg (l:List aC) (i:Int):List Int:=nH l (aU l i).1
def fT (l:List aC) (i:Int):Nat:=(cN l 9 i).length
def vI (l:List aC) (i:Int):Prop:=0<=i/\i < ((l.length:Nat):Int)
structure Tr (l:List aC):Prop where
 n1:1<=l.length
 eG:l.length<=24
 inj:∀ i j,vI l i->vI l j->(aU l i).1=(aU l j).1->i=j
 pos:∀ i,vI l i->1<=(aU l i).1
 top:∃ t,vI l t/\(aU l t).2.1=0/\∀ j,vI l j->(aU l j).2.1=0->j=t
 GA:∀ i,vI l i->fT l i<=8/\(aU l (nI (cN l 9 i))).2.1=0
theorem eZ {l:List aC} {i:Int} (h:vI l i):l[i.toNat]? = some (aU l i):=Gx h.1 h.2
theorem De {l:List aC} {k:Nat} {x:aC} (h:l[k]? = some x):vI l (k:Int):=by
 have:=(Z0 h).1
 exact ⟨by omega,by omega⟩
theorem Qyp {l:List aC} {i:Int}:bO l i < ((l.length:Nat):Int):=wL
theorem GB {l:List aC} {i:Int} (h:0<=bO l i):vI l (bO l i):=⟨h,Qyp⟩
theorem Qyq {l:List aC} {i:Int} (h:0<=bO l i):(aU l (bO l i)).1=(aU l i).2.1:=by
 obtain ⟨k,x,h1,h2,h3⟩:=AK h
 unfold bO
 rw [h1,kM h2,h3]
theorem Qyr {l:List aC} (T:Tr l) {i:Int} (h:vI l i):bE l (aU l i).1=i:=by
 by_cases h0:0<=bE l (aU l i).1
 .obtain ⟨k,x,h1,h2,h3⟩:=AK h0
  rw [h1]
  refine T.inj _ _ (De h2) h ?_
  rw [kM h2,h3]
 .have:=(OA (l:=l) (id:=(aU l i).1)).1 (by omega) (aU l i) (Zc (eZ h))
  exact absurd rfl this
theorem ZV {α γ:Type} {c:α->Nat->Bool} {e:α->Nat->γ}:∀ (l:List α) (i j:Nat) (x:α),l[j]? = some x->c x (i+j)=true->e x (i+j)∈fL c e l i
 | [],i,j,x,h,_=>by simp at h
 | y::r,i,0,x,h,hc=>by
  simp only [List.getElem?_cons_zero,Option.some.injEq] at h
  subst h
  simp only [Nat.add_zero] at hc
  simp only [fL,if_pos hc,Nat.add_zero];simp
 | y::r,i,j+1,x,h,hc=>by
  have:=ZV (c:=c) (e:=e) r (i+1) j x (by simpa using h) (by rw [show i+1+j=i+(j+1) by omega];exact hc)
  rw [show i+1+j=i+(j+1) by omega] at this
  simp only [fL]
  split
  .exact List.mem_cons_of_mem _ this
  .exact this
theorem ZW {α:Type} {c:α->Nat->Bool}:∀ (l:List α) (i:Nat),(fL c (fun _ k=>((k:Nat):Int)) l i).Pairwise (· < ·)/\∀ x∈fL c (fun _ k=>((k:Nat):Int)) l i,(i:Int)<=x
 | [],i=>by simp [fL]
 | y::r,i=>by
  obtain ⟨h1,h2⟩:=ZW (c:=c) r (i+1)
  simp only [fL]
  split
  .refine ⟨List.pairwise_cons.2 ⟨fun x hx=>by have:=h2 x hx;omega,h1⟩,fun x hx=>?_⟩
   rcases Z2 hx with rfl | hx
   .omega
   .have:=h2 x hx;omega
  .exact ⟨h1,fun x hx=>by have:=h2 x hx;omega⟩
theorem K9 {l:List aC} {i:Int}:(cg l i).Pairwise (· < ·):=(ZW l 0).1
theorem AW {l:List aC} (T:Tr l) {i k:Int} (h:vI l i):k∈cg l i↔vI l k/\bO l k=i:=by
 constructor
 .intro hk
  obtain ⟨j,x,rfl,h2,h3⟩:=ZH hk
  refine ⟨De h2,?_⟩
  unfold bO
  rw [kM h2,h3,Qyr T h]
 .rintro ⟨hk,rfl⟩
  have e:=Qyq h.1
  have hg:=eZ hk
  have hm:=ZV (c:=fun x _=>x.2.1==(aU l (bO l k)).1) (e:=fun _ j=>((j:Nat):Int)) l 0 k.toNat _ hg (by rw [e];simp)
  rw [Zo,Int.toNat_of_nonneg hk.1] at hm
  exact hm
theorem IP {l:List aC} {i:Int} (h:vI l i):1<=fT l i:=by unfold fT;rw [Uk h.1];simp
theorem GC {l:List aC} (T:Tr l) {i:Int} (h:vI l i):fT l i=1+fT l (bO l i):=by
 have:=OE h.1 (T.GA i h).1
 unfold fT
 rw [this,Z9]
 unfold bO;omega
theorem qq {l:List aC} (T:Tr l) {i k:Int} (h:vI l i) (hk:k∈cg l i):vI l k/\bO l k=i/\fT l k=1+fT l i:=by
 obtain ⟨h1,h2⟩:=(AW T h).1 hk
 exact ⟨h1,h2,by rw [GC T h1,h2]⟩
theorem Qys {l:List aC} (T:Tr l) {i:Int} (h:vI l i) (hp:bO l i < 0):(aU l i).2.1=0:=by
 have e:=OE h.1 (T.GA i h).1
 have e2:cN l 9 (bE l (aU l i).2.1)=[]:=Qw0 hp
 have:=(T.GA i h).2
 rw [e,e2] at this
 exact this
def jB (l:List aC):Int:=fm (fun x:aC=>x.2.1==0) l 0
theorem GD {l:List aC} (T:Tr l):vI l (jB l)/\(aU l (jB l)).2.1=0/\bO l (jB l) < 0/\∀ j,vI l j->bO l j < 0->j=jB l:=by
 obtain ⟨t,t1,t2,t3⟩:=T.top
 have h0:0<=jB l:=by
  unfold jB
  rcases Int.lt_or_le (fm (fun x:aC=>x.2.1==0) l 0) 0 with h | h
  .have:=Kl.1 h (aU l t) (Zc (eZ t1))
   simp [t2] at this
  .exact h
 obtain ⟨k,x,h1,h2,h3,_⟩:=IK h0
 have e:jB l=(k:Int):=by unfold jB;rw [h1];simp
 have hv:vI l (jB l):=by rw [e];exact De h2
 have hz:(aU l (jB l)).2.1=0:=by rw [e,kM h2];simpa using h3
 have hp:bO l (jB l) < 0:=by
  unfold bO
  rw [hz,OA]
  intro y hy
  obtain ⟨i,hi⟩:=List.getElem?_of_mem hy
  have:=T.pos _ (De hi)
  rw [kM hi] at this;omega
 exact ⟨hv,hz,hp,fun j hj hjp=>by rw [t3 j hj (Qys T hj hjp),t3 _ hv hz]⟩
def dh (l:List aC):Nat->Int->List Int
 | 0,_=>[]
 | f+1,i=>i::(cg l i).flatMap (dh l f)
def K_ (l:List aC):Nat->Int->Int
 | 0,x=>x
 | k+1,x=>bO l (K_ l k x)
theorem DU {l:List aC} (T:Tr l):∀ (f:Nat) (a x:Int),vI l a->x∈dh l f a->vI l x/\fT l a<=fT l x/\K_ l (fT l x - fT l a) x=a/\(x≠a->fT l a < fT l x)
 | 0,a,x,_,h=>by simp [dh] at h
 | f+1,a,x,ha,h=>by
  simp only [dh,List.mem_cons,List.mem_flatMap] at h
  rcases h with rfl | ⟨c,hc,hx⟩
  .exact ⟨ha,Zd _,by rw [Nat.sub_self];rfl,fun h=>absurd rfl h⟩
  .obtain ⟨c1,c2,c3⟩:=qq T ha hc
   obtain ⟨x1,x2,x3,_⟩:=DU T f c x c1 hx
   refine ⟨x1,by omega,?_,fun _=>by omega⟩
   rw [show fT l x - fT l a=(fT l x - fT l c)+1 by omega]
   show bO l _=a
   rw [x3,c2]
theorem Qse {l:List aC} (T:Tr l) {f g:Nat} {a b x:Int} (ha:vI l a) (hb:vI l b) (hd:fT l a=fT l b) (h1:x∈dh l f a) (h2:x∈dh l g b):a=b:=by
 have e1:=(DU T f a x ha h1).2.2.1
 have e2:=(DU T g b x hb h2).2.2.1
 rw [<- e1,<- e2,hd]
theorem Uo {l:List aC} (T:Tr l):∀ (f:Nat) (a x:Int),vI l a->x∈dh l f a->x≠a->bO l x∈dh l f a
 | 0,a,x,_,h,_=>by simp [dh] at h
 | f+1,a,x,ha,h,aV=>by
  simp only [dh,List.mem_cons,List.mem_flatMap] at h ⊢
  rcases h with rfl | ⟨c,hc,hx⟩
  .exact absurd rfl aV
  .obtain ⟨c1,c2,c3⟩:=qq T ha hc
   by_cases GF:x=c
   .left;rw [GF,c2]
   .right;exact ⟨c,hc,Uo T f c x c1 hx GF⟩
theorem Up {l:List aC} (T:Tr l):∀ (f:Nat) (a:Int),vI l a->(dh l f a).Pairwise fun x y=>bO l x=bO l y->x < y
 | 0,a,_=>by simp [dh]
 | f+1,a,ha=>by
  simp only [dh]
  rw [List.pairwise_cons]
  constructor
  .intro y hy hp
   obtain ⟨c,hc,hx⟩:=List.mem_flatMap.1 hy
   obtain ⟨c1,c2,c3⟩:=qq T ha hc
   obtain ⟨x1,x2,_,_⟩:=DU T f c y c1 hx
   have e1:=GC T ha
   have e2:=GC T x1
   rw [hp] at e1
   omega
  .rw [List.pairwise_flatMap]
   refine ⟨fun c hc=>Up T f c (qq T ha hc).1,?_⟩
   refine List.Pairwise.imp_of_mem ?_ K9
   intro c1 c2 hc1 Bu au x hx y hy hp
   obtain ⟨v1,p1,d1⟩:=qq T ha hc1
   obtain ⟨v2,p2,d2⟩:=qq T ha Bu
   obtain ⟨x1,x2,x3,x4⟩:=DU T f c1 x v1 hx
   obtain ⟨y1,y2,y3,y4⟩:=DU T f c2 y v2 hy
   have ex:=GC T x1
   have ey:=GC T y1
   rw [hp] at ex
   by_cases GF:x=c1
   .by_cases La:y=c2
    .rw [GF,La];exact au
    .have:=y4 La;rw [GF] at ex;omega
   .have h1:=Uo T f c1 x v1 hx GF
    by_cases La:y=c2
    .have:=x4 GF;rw [<- La] at d2;omega
    .have h2:=Uo T f c2 y v2 hy La
     rw [hp] at h1
     have:=Qse T v1 v2 (by omega) h1 h2
     omega
theorem ZX {l:List aC} (T:Tr l):∀ (f:Nat) (a x k:Int),vI l a->9 - fT l a<=f->x∈dh l f a->k∈cg l x->k∈dh l f a
 | 0,a,x,k,_,_,h,_=>by simp [dh] at h
 | f+1,a,x,k,ha,hf,h,hk=>by
  simp only [dh,List.mem_cons,List.mem_flatMap] at h ⊢
  rcases h with rfl | ⟨c,hc,hx⟩
  .right
   obtain ⟨c1,c2,c3⟩:=qq T ha hk
   have:=(T.GA k c1).1
   obtain ⟨g,rfl⟩:∃ g,f=g+1:=⟨f - 1,by omega⟩
   exact ⟨k,hk,by simp [dh]⟩
  .right
   obtain ⟨c1,c2,c3⟩:=qq T ha hc
   exact ⟨c,hc,ZX T f c x k c1 (by omega) hx hk⟩
theorem ZY {l:List aC} (T:Tr l):∀ (f g:Nat) (a:Int),vI l a->9 - fT l a<=f->f<=g->dh l g a=dh l f a
 | 0,g,a,ha,hf,_=>by have:=(T.GA a ha).1;unfold fT at *;omega
 | f+1,0,a,_,_,hg=>by omega
 | f+1,g+1,a,ha,hf,hg=>by
  simp only [dh]
  congr 1
  have:∀ c∈cg l a,dh l g c=dh l f c:=fun c hc=>by
   obtain ⟨c1,c2,c3⟩:=qq T ha hc
   exact ZY T f g c c1 (by omega) (by omega)
  have key:∀ L:List Int,(∀ c∈L,dh l g c=dh l f c)->L.flatMap (dh l g)=L.flatMap (dh l f):=by
   intro L
   induction L with
   | nil=>intro _;rfl
   | cons c L ih=>intro h;rw [List.flatMap_cons,List.flatMap_cons,h c (by simp),ih (fun x hx=>h x (by simp [hx]))]
  exact key _ this
def iK (l:List aC) (i:Int):List Int:=dh l 8 i
theorem IQ {l:List aC} (T:Tr l) {i:Int} (h:vI l i):iK l i=i::(cg l i).flatMap (iK l):=by
 have:=IP h
 have e:=ZY T 8 9 i h (by omega) (by omega)
 unfold iK
 rw [<- e]
 rfl
def aG (l:List aC):List Int:=iK l (jB l)
theorem ZZ {l:List aC} (T:Tr l):∀ (m:Nat) (x:Int),fT l x<=m->vI l x->x∈aG l
 | 0,x,hm,hx=>by have:=IP hx;omega
 | m+1,x,hm,hx=>by
  obtain ⟨t1,t2,t3,t4⟩:=GD T
  by_cases hp:bO l x < 0
  .rw [t4 x hx hp]
   unfold aG iK;simp [dh]
  .have hv:=GB (l:=l) (i:=x) (by omega)
   have hd:=GC T hx
   have:=ZZ T m (bO l x) (by omega) hv
   have htd:=IP t1
   exact ZX T 8 (jB l) (bO l x) x t1 (by omega) this ((AW T hv).2 ⟨hx,rfl⟩)
theorem jz {l:List aC} (T:Tr l) {x:Int}:x∈aG l↔vI l x :=
 ⟨fun h=>(DU T 8 _ x (GD T).1 h).1,fun h=>ZZ T (fT l x) x (Zd _) h⟩
theorem Z_ {l:List aC} (T:Tr l):(aG l).Pairwise fun x y=>bO l x=bO l y->x < y:=Up T 8 _ (GD T).1
theorem rj {l:List aC} (T:Tr l):(aG l).Nodup:=by
 rw [List.nodup_iff_pairwise_ne]
 exact (Z_ T).imp fun h e=>by have:=h (by rw [e]);omega
theorem GG {l:List aC} (T:Tr l):(aG l).length=l.length:=by
 have h1:=OF (rj T) (fun x hx=>(jz T).1 hx)
 have h2:((List.range l.length).map fun (k:Nat)=>(k:Int)).length<=(aG l).length:=by
  refine List.Nodup.length_le_of_subset ?_ fun x hx=>?_
  .rw [List.nodup_iff_pairwise_ne,List.pairwise_map]
   exact (List.nodup_iff_pairwise_ne.1 List.nodup_range).imp fun h e=>h (by omega)
  .obtain ⟨k,hk,rfl⟩:=List.mem_map.1 hx
   have:=List.mem_range.1 hk
   exact (jz T).2 ⟨by omega,by omega⟩
 simp at h2
 omega
theorem Uq {l:List aC} (T:Tr l):∀ (m:Nat) (i:Int),fT l i<=m->vI l i->∃ A B,aG l=A++iK l i++B
 | 0,i,hm,hi=>by have:=IP hi;omega
 | m+1,i,hm,hi=>by
  obtain ⟨t1,t2,t3,t4⟩:=GD T
  by_cases hp:bO l i < 0
  .rw [t4 i hi hp]
   exact ⟨[],[],by simp [aG]⟩
  .have hv:=GB (l:=l) (i:=i) (by omega)
   have hd:=GC T hi
   obtain ⟨A,B,e⟩:=Uq T m (bO l i) (by omega) hv
   obtain ⟨K1,K2,ek⟩:=List.append_of_mem ((AW T hv).2 ⟨hi,rfl⟩)
   rw [IQ T hv,ek,List.flatMap_append,List.flatMap_cons] at e
   exact ⟨A++bO l i::K1.flatMap (iK l),K2.flatMap (iK l)++B,by rw [e];simp⟩
theorem Kh {l:List aC} (h:rm l=true):∀ (j i:Nat) (x y:aC),i < j->l[i]? = some x->l[j]? = some y->x.1 < y.1
 | 0,i,x,y,nh,_,_=>by omega
 | j+1,i,x,y,nh,hx,hy=>by
  unfold rm at h
  rw [rU] at h
  have h1:=h (j+1) y hy
  rw [Zo] at h1
  unfold zB at h1
  simp only [Z8,Bool.or_eq_true,Zj] at h1
  have hj:j < l.length:=by have:=(Z0 hy).1;omega
  have hz:=Z6 hj
  have h2:(l[j]).1 < y.1:=by
   rcases h1.2 with h | h
   .omega
   .rw [show ((j+1:Nat):Int) - 1=(j:Int) by omega,kM hz] at h;exact h
  rcases Nat.lt_or_ge i j with au | sP
  .have:=Kh (by unfold rm;rw [rU];exact h) j i x l[j] au hx hz;omega
  .obtain rfl:i=j:=by omega
   rw [hz] at hx;injection hx with hx;rw [<- hx];exact h2
theorem Qyt {l:List aC} (h:kC l=true):Tr l:=by
 unfold kC at h
 simp only [Z8,Zj] at h
 obtain ⟨⟨h1,h2⟩,h3,h4,h5,h6,h7,h8,h9,Lb⟩:=h
 have inj:∀ i j,vI l i->vI l j->(aU l i).1=(aU l j).1->i=j:=by
  intro i j hi hj e
  have gi:=eZ hi
  have gj:=eZ hj
  obtain ⟨i0,i1⟩:=hi
  obtain ⟨j0,j1⟩:=hj
  rcases Int.lt_trichotomy i j with au | rfl | au
  .have:=Kh h3 j.toNat i.toNat _ _ (by omega) gi gj;omega
  .rfl
  .have:=Kh h3 i.toNat j.toNat _ _ (by omega) gj gi;omega
 refine ⟨h1,h2,inj,fun i hi=>?_,?_,fun i hi=>?_⟩
 .unfold rm at h3
  rw [rU] at h3
  have:=h3 _ _ (eZ hi)
  unfold zB at this
  simp only [Z8,Zj] at this
  exact this.1.1
 .unfold uG at h4
  obtain ⟨x,hx⟩:=List.length_eq_one_iff.1 h4
  have fM:x∈l.filter (fun x:aC=>x.2.1==0):=by rw [hx];simp
  have hm:x∈l/\(x.2.1==0)=true:=List.mem_filter.1 fM
  obtain ⟨t,ht⟩:=List.getElem?_of_mem hm.1
  refine ⟨(t:Int),De ht,by rw [kM ht];simpa using hm.2,fun j hj hz=>?_⟩
  have hjm:aU l j∈l.filter (fun x=>x.2.1==0):=List.mem_filter.2 ⟨Zc (eZ hj),by simp [hz]⟩
  rw [hx,List.mem_singleton] at hjm
  exact inj j t hj (De ht) (by rw [hjm,kM ht])
 .rw [rU] at h6
  have:=h6 _ _ (eZ hi)
  rw [Zo] at this
  unfold vN at this
  simp only [Z8,Zj,beq_iff_eq] at this
  rw [Int.toNat_of_nonneg hi.1] at this
  exact this
def vr (W:List Int) (x:Int):Int:=fm (fun y=>y==x) W 0
theorem qZ {W:List Int} (hn:W.Nodup) {k:Nat} {x:Int} (h:W[k]? = some x):vr W x=(k:Int):=by
 have hm:=Zc h
 rcases Int.lt_or_le (vr W x) 0 with h0 | h0
 .exact absurd hm (ZL h0)
 .obtain ⟨j,y,h1,h2,h3,_⟩:=IK h0
  have e:y=x:=by simpa using h3
  subst e
  unfold vr
  rw [h1,Zo]
  have hj:=(Z0 h2)
  have hk:=(Z0 h)
  obtain ⟨Ur,uH⟩:=hj
  obtain ⟨wu,zE⟩:=hk
  have:j=k:=(List.getElem_inj hn).1 (uH.trans zE.symm)
  rw [this]
theorem Qlc {W:List Int} {x:Int} (h:x∉W):vr W x=-1:=by
 have hn:∀ (l:List Int) (i:Nat),x∉l->fm (fun y=>y==x) l i=-1:=by
  intro l
  induction l with
  | nil=>intro i _;rfl
  | cons a r ih =>
   intro i ha
   simp only [List.mem_cons,not_or] at ha
   simp only [fm]
   rw [if_neg (by simp;exact fun e=>ha.1 e.symm)]
   exact ih (i+1) ha.2
 exact hn W 0 h
theorem Ym {W:List Int} (hn:W.Nodup) {x:Int} (h:x∈W):∃ k:Nat,W[k]? = some x/\vr W x=(k:Int):=by
 obtain ⟨k,hk⟩:=List.getElem?_of_mem h
 exact ⟨k,hk,qZ hn hk⟩
def pW (l:List aC) (x:Int):Int:=vr (aG l) x
theorem BA {l:List aC} (T:Tr l) {x:Int} (h:vI l x):∃ k:Nat,(aG l)[k]? = some x/\pW l x=(k:Int):=Ym (rj T) ((jz T).2 h)
theorem uI {l:List aC} (T:Tr l) {x:Int} (h:x < 0):pW l x=-1:=Qlc fun hm=>by have:=((jz T).1 hm).1;omega
def uJ (l:List aC) (i:Int):Int:=if bO l i < 0 then -1 else (cg l (bO l i)).getD ((vr (cg l (bO l i)) i).toNat+1) (-1)
def vP (l:List aC) (i:Int):Int:=(cg l i).headD (-1)
def nM (l:List aC) (k:Nat) (i:Int):Int:=((k+(iK l i).length:Nat):Int)
def nN (c:Cf) (A:List Int) (fs:List dU) (tg:List Int) (df:Int):Ld:=(c.1,A.map (aU c.2.1),A.map (fun i=>pW c.2.1 (bO c.2.1 i)),A.map (fun i=>pW c.2.1 (vP c.2.1 i)),A.map (fun i=>pW c.2.1 (uJ c.2.1 i)),A.mapIdx (nM c.2.1),fs,tg,df)
def tgV (c:Cf):List Int:=c.2.2.1.map fun f=>pW c.2.1 (bE c.2.1 f.2.2.2.2)
def vu (c:Cf):Int:=if c.2.2.2=0 then -1 else pW c.2.1 (bE c.2.1 c.2.2.2)
def bU (c:Cf):Ld:=nN c (aG c.2.1) c.2.2.1 (tgV c) (vu c)
structure Gd (c:Cf):Prop where
 nm:AV c.1=true
 cl:kC c.2.1=true
 fl:vO c.2.1 c.2.2.1=true
 df:Gz c=true
theorem q_ {c:Cf} (h:gb c=true):Gd c:=by
 unfold gb at h
 simp only [Z8] at h
 exact ⟨h.1,h.2.1,h.2.2.1,h.2.2.2⟩
theorem Gd.tr {c:Cf} (G:Gd c):Tr c.2.1:=Qyt G.cl
theorem Gd.f16 {c:Cf} (G:Gd c):c.2.2.1.length<=16:=by
 have:=G.fl
 unfold vO at this
 simp only [Z8,Zj] at this
 exact this.2
theorem Gd.Lc {c:Cf} (G:Gd c):∀ f∈c.2.2.1,vI c.2.1 (bE c.2.1 f.2.2.2.2)/\ic c.2.1 f.2.2.2.2=true/\zC f=true:=by
 intro f hf
 have:=G.fl
 unfold vO at this
 simp only [Z8,rU] at this
 obtain ⟨i,hi⟩:=List.getElem?_of_mem hf
 have h1:=this.1 i f hi
 unfold DT vM at h1
 simp only [Z8,Zj] at h1
 exact ⟨⟨h1.2.2.1,wL⟩,h1.2.2.2,h1.1⟩
theorem Gd.Ki {c:Cf} (G:Gd c) (h:c.2.2.2≠0):vI c.2.1 (bE c.2.1 c.2.2.2)/\ic c.2.1 c.2.2.2=true:=by
 have:=G.df
 unfold Gz vM at this
 simp only [Z8,Bool.or_eq_true,Zj,beq_iff_eq] at this
 rcases this with h1 | h1
 .exact absurd h1 h
 .exact ⟨⟨h1.1,wL⟩,h1.2⟩
theorem Qw1 {d:Nat} {c:Cf} (T:Tr c.2.1):Fy (d+1) c=some (jB c.2.1):=by
 rw [SM]
 obtain ⟨t1,t2,t3,t4⟩:=GD T
 have iw:=T.eG
 have t1a:=t1.1
 have t1b:=t1.2
 have key:∀ (m k fuel:Nat),k+m=(jB c.2.1).toNat->m < fuel->Q8 (kW d c (xH d)) fuel (k:Int)=some (jB c.2.1):=by
  intro m
  induction m with
  | zero =>
   intro k fuel hk hf
   obtain ⟨g,rfl⟩:∃ g,fuel=g+1:=⟨fuel - 1,by omega⟩
   have e:(k:Int)=jB c.2.1:=by have:=t1.1;omega
   simp only [Q8,kW]
   rw [e,Z5 t1.1,Q4,eZ t1,Q9,t2]
   rfl
  | succ m ih =>
   intro k fuel hk hf
   obtain ⟨g,rfl⟩:∃ g,fuel=g+1:=⟨fuel - 1,by omega⟩
   have hv:vI c.2.1 (k:Int):=⟨by omega,by have:=t1.2;omega⟩
   have hz:(aU c.2.1 (k:Int)).2.1≠0:=by
    intro hz
    obtain ⟨t,_,_,q⟩:=T.top
    have h1:=q _ hv hz
    have h2:=q _ t1 t2
    omega
   simp only [Q8,kW]
   rw [nn,Q4,eZ hv,Q9,show ((aU c.2.1 (k:Int)).2.1 != 0)=true by simp [hz],Q4,aN (by omega)]
   exact ih (k+1) g (by omega) (by omega)
 exact key (jB c.2.1).toNat 0 Qd (by omega) (by rw [Q6];have:=t1.2;omega)
theorem Qb5 {α β γ:Type} {G:α->Option (List γ)} {w:α->List γ} {fin:List γ->Option β} {B:Nat}:∀ (L:List α) (i:Nat) (t:List γ),(∀ x∈L,G x=some (w x)/\(w x).length<=B)->t.length+L.length*B<=10000 ->
  d_ (fun x _ t k=>Q1 (G x) fun r=>aa (Nat.ble ((t.length+r.length)*8) Q7) (k (t++r)) none) fin L i t=fin (t++L.flatMap w)
 | [],i,t,_,_=>by simp [d_]
 | x::r,i,t,h,hb=>by
  obtain ⟨h1,h2⟩:=h x (by simp)
  have e:(x::r).length*B=r.length*B+B:=by rw [Z9,Nat.add_mul,Nat.one_mul]
  rw [e] at hb
  simp only [d_]
  rw [h1,Q9,room (by omega),Q4,Qb5 r (i+1) (t++w x) (fun y hy=>h y (by simp [hy])) (by simp;omega),List.flatMap_cons,List.append_assoc]
theorem Us {l:List aC} (T:Tr l) {f:Nat} {a:Int} (ha:vI l a):(dh l f a).length<=24:=by
 have hn:(dh l f a).Nodup:=by
  rw [List.nodup_iff_pairwise_ne]
  exact (Up T f a ha).imp fun h e=>by have:=h (by rw [e]);omega
 have:=OF hn (fun x hx=>(DU T f a x ha hx).1)
 have:=T.eG
 omega
theorem Qld {d:Nat} {c:Cf} (T:Tr c.2.1):∀ (f:Nat) (i:Int),vI c.2.1 i->9 - fT c.2.1 i<=f->o5 (d+1+f) c i=some (dh c.2.1 f i)
 | 0,i,hv,hf=>by have:=(T.GA i hv).1;unfold fT at *;omega
 | f+1,i,hv,hf=>by
  have iw:=T.eG
  have hk:=Oz (l:=c.2.1) (id:=(aU c.2.1 i).1)
  rw [show d+1+(f+1)=(d+1+f)+1 by omega,SL]
  have e1:kT (d+1+f) c i=some (cg c.2.1 i):=by
   have:=OB (d:=d+f) (c:=c) (n:=i.toNat) (eZ hv) (by omega)
   rw [Int.toNat_of_nonneg hv.1,show d+f+1=d+1+f by omega] at this
   exact this
  have hb:([i]:List Int).length+(cg c.2.1 i).length*24<=10000:=by
   have:(cg c.2.1 i).length<=24:=by unfold cg;omega
   simp only [Z9,Zb];omega
  rw [e1,Q9]
  refine (Qb (fun (t:List Int) (k:Int)=>(t,k)) (cg c.2.1 i) (fun x _ t k=>Q1 (o5 (d+1+f) c x) fun r=>aa (Nat.ble ((t.length+r.length)*8) Q7) (k (t++r)) none) (fun t=>some t) ?_ ?_ (by rw [Q6];unfold cg;omega) [i]).trans ?_
  .intro ag t k x hx
   have hi:=(Z0 hx).1
   have:(cg c.2.1 i).length<=24:=by unfold cg;omega
   simp only [oZ,bW hx,nn,Q3,hx,Q9,Q4,sU hx]
   rw [aN (by omega)]
  .intro ag t;simp only [oZ,bB,Q5];rfl
  .rw [Qb5 (w:=dh c.2.1 f) (B:=24) (cg c.2.1 i) 0 [i] (fun x hx=>?_) hb]
   .rfl
   .obtain ⟨c1,c2,c3⟩:=qq T hv hx
    exact ⟨Qld T f x c1 (by omega),Us T c1⟩
theorem Qyu {d:Nat} {c:Cf} (T:Tr c.2.1) {i:Int} (h:vI c.2.1 i):o5 (d+9) c i=some (iK c.2.1 i):=by
 have:=Qld (d:=d) T 8 i h (by have:=IP h;omega)
 rw [show d+1+8=d+9 by omega] at this
 exact this
theorem Qh1 {α τ:Type} {f:α->Nat->τ->τ}:∀ (A B:List α) (i:Nat) (t:τ),cE f (A++B) i t=cE f B (i+A.length) (cE f A i t)
 | [],B,i,t=>by simp [cE]
 | x::A,B,i,t=>by
  simp only [List.cons_append,cE,Z9]
  rw [Qh1 A B (i+1),show i+1+A.length=i+(A.length+1) by omega]
theorem Ut {α τ:Type} {f:α->Nat->τ->τ}:∀ (A:List α) (i:Nat) (t:τ),(∀ x∈A,∀ k t,f x k t=t)->cE f A i t=t
 | [],i,t,_=>rfl
 | x::A,i,t,h=>by
  simp only [cE]
  rw [h x (by simp)]
  exact Ut A (i+1) t (fun y hy=>h y (by simp [hy]))
theorem Qd7 {β:Type} {fin:List Int->Option β}:∀ (W:List Int) (i:Nat) (t:List Int),(∀ x∈W,0<=x/\x < ((t.length:Nat):Int)) ->
  d_ (fun x i t k=>aa (decide (0<=x)) (aa (Nat.blt x.toNat t.length) (Q1 (t[x.toNat]?) fun _=>k (t.set x.toNat ((i:Nat):Int))) none) none) fin W i t=fin (cE (fun x i t=>t.set x.toNat ((i:Nat):Int)) W i t)
 | [],i,t,_=>rfl
 | x::r,i,t,h=>by
  obtain ⟨h1,h2⟩:=h x (by simp)
  simp only [d_,cE]
  rw [Z5 h1,Q4,Qo (by omega),Q4,Z6 (show x.toNat < t.length by omega),Q9]
  exact Qd7 r (i+1) _ (fun y hy=>by rw [List.length_set];exact h y (by simp [hy]))
theorem Uu:∀ (W:List Int) (i:Nat) (t:List Int),(cE (fun x i t=>t.set x.toNat ((i:Nat):Int)) W i t).length=t.length
 | [],i,t=>rfl
 | x::r,i,t=>by simp only [cE];rw [Uu r,List.length_set]
theorem Qle:∀ (W:List Int) (i:Nat) (t:List Int) (j:Nat),(∀ x∈W,0<=x)->((j:Int)∉W)->(cE (fun x i t=>t.set x.toNat ((i:Nat):Int)) W i t)[j]? = t[j]?
 | [],i,t,j,_,_=>rfl
 | x::r,i,t,j,h0,hj=>by
  simp only [List.mem_cons,not_or] at hj
  have:=h0 x (by simp)
  simp only [cE]
  rw [Qle r (i+1) _ j (fun y hy=>h0 y (by simp [hy])) hj.2,List.getElem?_set_ne (by omega)]
theorem Qug:∀ (W:List Int) (i:Nat) (t:List Int) (k:Nat) (x:Int),W.Nodup->(∀ x∈W,0<=x/\x < ((t.length:Nat):Int))->W[k]? = some x->(cE (fun x i t=>t.set x.toNat ((i:Nat):Int)) W i t)[x.toNat]? = some ((i+k:Nat):Int)
 | [],i,t,k,x,_,_,h=>by simp at h
 | y::r,i,t,0,x,hn,h0,h=>by
  simp only [List.getElem?_cons_zero,Option.some.injEq] at h
  subst h
  obtain ⟨q1,q2⟩:=List.nodup_cons.1 hn
  obtain ⟨p1,p2⟩:=h0 y (by simp)
  simp only [cE]
  rw [Qle r (i+1) _ y.toNat (fun z hz=>(h0 z (by simp [hz])).1) (by rw [Int.toNat_of_nonneg p1];exact q1),List.getElem?_set_self (by omega)]
  simp
 | y::r,i,t,k+1,x,hn,h0,h=>by
  obtain ⟨q1,q2⟩:=List.nodup_cons.1 hn
  simp only [cE]
  rw [Qug r (i+1) _ k x q2 (fun z hz=>by rw [List.length_set];exact h0 z (by simp [hz])) (by simpa using h)]
  congr 2;omega
def nO (l:List aC):List Int:=cE (fun x i t=>t.set x.toNat ((i:Nat):Int)) (aG l) 0 (List.replicate l.length 0)
theorem Qw2 {l:List aC}:(nO l).length=l.length:=by unfold nO;rw [Uu];simp
theorem Qw3 {l:List aC} (T:Tr l) {x:Int} (h:vI l x):(nO l)[x.toNat]? = some (pW l x)/\x.toNat < (nO l).length:=by
 obtain ⟨k,h1,h2⟩:=BA T h
 refine ⟨?_,by rw [Qw2];have:=h.1;have:=h.2;omega⟩
 unfold nO
 rw [Qug (aG l) 0 _ k x (rj T) (fun y hy=>by have:=(jz T).1 hy;simp;exact this) h1,h2,Zo]
theorem Uv {α γ β:Type} {e:α->γ} {fin:List γ->Option β} {w:Nat}:∀ (l:List α) (i:Nat) (t:List γ),(t.length+l.length)*w<=100000000 ->
  d_ (fun x _ t k=>aa (Nat.ble ((t.length+[e x].length)*w) Q7) (k (t++[e x])) none) fin l i t=fin (t++l.map e)
 | [],i,t,_=>by simp [d_]
 | x::r,i,t,h=>by
  simp only [d_]
  rw [room (by
   have:(t.length+[e x].length)*w<=(t.length+(x::r).length)*w:=Zk w (by simp)
   omega),Q4]
  rw [Uv r (i+1) (t++[e x]) (by
   refine Nat.le_trans (Zk w ?_) h
   simp;omega)]
  simp
theorem Qw4 {K:List Int} {i:Int} {g:Int->Int} (hn:K.Nodup) (hi:i∈K) (hg:g (-1)=-1) :
  cE (fun x k t=>if x=i/\k+1 < K.length then g (K.getD (k+1) 0) else t) K 0 (-1)=g (K.getD ((vr K i).toNat+1) (-1)):=by
 obtain ⟨K1,K2,e⟩:=List.append_of_mem hi
 have hp:vr K i=(K1.length:Int):=qZ hn (by rw [e];simp)
 have hn':=hn
 rw [e,Zn] at hn'
 obtain ⟨n1,n2,n3⟩:=hn'
 have h0:cE (fun x k t=>if x=i/\k+1 < K.length then g (K.getD (k+1) 0) else t) K 0 (-1)=cE (fun x k t=>if x=i/\k+1 < K.length then g (K.getD (k+1) 0) else t) (K1++i::K2) 0 (-1):=by rw [<- e]
 rw [h0,Qh1,Ut K1 0 (-1) (fun x hx k t=>if_neg (fun h=>n3 x hx i (by simp) h.1)),Zo]
 show cE (fun x k t=>if x=i/\k+1 < K.length then g (K.getD (k+1) 0) else t) K2 (K1.length+1) (if i=i/\K1.length+1 < K.length then g (K.getD (K1.length+1) 0) else -1)=_
 rw [Ut K2 _ _ (fun x hx k t=>if_neg (fun (h:x=i/\k+1 < K.length)=>(List.nodup_cons.1 n2).1 (h.1▸hx))),hp,Q3]
 by_cases h:K1.length+1 < K.length
 .rw [if_pos ⟨rfl,h⟩,Zr,Zr,Z6 h];rfl
 .rw [if_neg (fun hc=>h hc.2),Zr,List.getElem?_eq_none (by omega)];exact hg.symm
theorem Qlf {l:List aC} {i:Int}:(cg l i).Nodup:=by
 rw [List.nodup_iff_pairwise_ne];exact K9.imp fun h e=>by omega
theorem Le {l:List aC} (T:Tr l) {x:Int} (h:vI l x) {α:Type} {K:Int->Option α}:aa (Nat.blt x.toNat (nO l).length) (Q1 ((nO l)[x.toNat]?) K) none=K (pW l x):=by
 obtain ⟨h1,h2⟩:=Qw3 T h
 rw [Qo h2,Q4,h1,Q9]
theorem Uw {l:List aC} (T:Tr l) {i:Int}:(cg l i).length<=24:=by
 have:=Oz (l:=l) (id:=(aU l i).1)
 have:=T.eG
 unfold cg;omega
theorem Qyv {d:Nat} {c:Cf} (T:Tr c.2.1) {i:Int} (hi:vI c.2.1 i) (hp:0<=bO c.2.1 i) {kx:Int->Int->Option Ld} :
  Q8 (lg d (nO c.2.1) i (cg c.2.1 (bO c.2.1 i)) kx) Qd ((-1),0)=kx (pW c.2.1 (uJ c.2.1 i)) ((cg c.2.1 (bO c.2.1 i)).length:Int):=by
 have hv:=GB hp
 have hl:=Uw T (i:=bO c.2.1 i)
 refine (Qb (fun (t:Int) (k:Int)=>(t,k)) (cg c.2.1 (bO c.2.1 i)) (fun x k t cont=>cont (if x=i/\k+1 < (cg c.2.1 (bO c.2.1 i)).length then pW c.2.1 ((cg c.2.1 (bO c.2.1 i)).getD (k+1) 0) else t)) (fun t=>kx t ((cg c.2.1 (bO c.2.1 i)).length:Int)) ?_ ?_ (by rw [Q6];omega) (-1)).trans ?_
 .intro ag t k x hx
  have hk:=(Z0 hx).1
  simp only [lg,bW hx,nn,Q3,hx,Q9,Q4,sU hx]
  rw [aN (by omega)]
  unfold o8
  rw [aN (by omega)]
  by_cases he:x=i
  .rw [show (x==i)=true by simp [he],Q4]
   by_cases au:k+1 < (cg c.2.1 (bO c.2.1 i)).length
   .have hm:=Z6 au
    have IS:=(qq T hv (Zc hm)).1
    rw [Z5 (show ((k+1:Nat):Int) < (((cg c.2.1 (bO c.2.1 i)).length:Nat):Int) by omega),Q4,nn,Q4,Q3,Qo au,Q4,hm,Q9,Z5 IS.1,Q4,Le T IS,if_pos ⟨he,au⟩,Zr,hm]
    rfl
   .rw [Z4 (show ¬ ((k+1:Nat):Int) < (((cg c.2.1 (bO c.2.1 i)).length:Nat):Int) by omega),Q5,if_neg (fun h=>au h.2)]
  .rw [show (x==i)=false by simp [he],Q5,Q5,if_neg (fun h=>he h.1)]
 .intro ag t;simp only [lg,bB,Q5]
 .rw [wQ (f:=fun x k t=>if x=i/\k+1 < (cg c.2.1 (bO c.2.1 i)).length then pW c.2.1 ((cg c.2.1 (bO c.2.1 i)).getD (k+1) 0) else t),Qw4 (g:=pW c.2.1) Qlf ((AW T hv).2 ⟨hi,rfl⟩) (uI T (by omega))]
  unfold uJ
  rw [if_neg (by omega)]
theorem Qh3 {d:Nat} {c:Cf} {i:Int} (T:Tr c.2.1) (h:vI c.2.1 i):kT (d+1) c i=some (cg c.2.1 i):=by
 have iw:=T.eG
 have:=OB (d:=d) (c:=c) (n:=i.toNat) (eZ h) (by omega)
 rw [Int.toNat_of_nonneg h.1] at this
 exact this
theorem Qp4 {c:Cf} {A:List Int} {i:Int} {fs:List dU} {tg:List Int} {df:Int}:nN c (A++[i]) fs tg df=(c.1,A.map (aU c.2.1)++[aU c.2.1 i],A.map (fun i=>pW c.2.1 (bO c.2.1 i))++[pW c.2.1 (bO c.2.1 i)],A.map (fun i=>pW c.2.1 (vP c.2.1 i))++[pW c.2.1 (vP c.2.1 i)],A.map (fun i=>pW c.2.1 (uJ c.2.1 i))++[pW c.2.1 (uJ c.2.1 i)],A.mapIdx (nM c.2.1)++[nM c.2.1 A.length i],fs,tg,df):=by
 unfold nN
 simp [List.mapIdx_concat]
theorem Quh {d:Nat} {c:Cf} (T:Tr c.2.1) {A:List Int} {i:Int} (hi:vI c.2.1 i) (hA:A.length<=24) {fs:List dU} {tg:List Int} {df:Int} {ag:Int×Ld->Option Ld} {b:Bool} :
  ld (d+9) c (nO c.2.1) ag (A.length:Int) (nN c A fs tg df) i (aU c.2.1 i) (pW c.2.1 (bO c.2.1 i)) (pW c.2.1 (uJ c.2.1 i)) b=ag (((A.length+1:Nat):Int),nN c (A++[i]) fs tg df):=by
 have fin:∀ bb,k_ (d+9) c ag (A.length:Int) (nN c A fs tg df) i (aU c.2.1 i) (pW c.2.1 (bO c.2.1 i)) (pW c.2.1 (uJ c.2.1 i)) (pW c.2.1 (vP c.2.1 i)) bb=ag (((A.length+1:Nat):Int),nN c (A++[i]) fs tg df):=by
  intro bb
  unfold k_
  rw [Qyu T hi,Q9,aN (by omega),Qp4]
  have hs:=Us T (f:=8) hi
  simp only [nN,List.length_map,List.length_mapIdx,Z9,Zb]
  rw [room (by omega),Q4,Q4,Q4,Q4,wr (by unfold iK;omega) (by unfold iK;omega)]
  rw [show (A.length:Int)+(((iK c.2.1 i).length:Nat):Int)=nM c.2.1 A.length i by unfold nM;omega]
 unfold ld
 rw [show d+9=d+8+1 from rfl,Qh3 T hi,Q9]
 cases hk:cg c.2.1 i with
 | nil =>
  rw [Z4 (show ¬ ((([]:List Int).length:Nat):Int) > 0 by simp),Q5]
  have:=fin false
  rw [show vP c.2.1 i=-1 by unfold vP;rw [hk];rfl,uI T (show (-1:Int) < 0 by omega)] at this
  exact this
 | cons k r =>
  have hv:=(qq T hi (show k∈cg c.2.1 i by rw [hk];simp)).1
  have hl:(k::r).length<=24:=by rw [<- hk];exact Uw T
  rw [Z5 (show (((k::r).length:Nat):Int) > 0 by simp),Q4,Qo (by simp),Q4,List.getElem?_cons_zero,Q9,Z5 hv.1,Q4,Le T hv]
  have:=fin true
  rw [show vP c.2.1 i=k by unfold vP;rw [hk];rfl] at this
  exact this
theorem Qui {d:Nat} {c:Cf} (T:Tr c.2.1) {fs:List dU}:∀ (B A:List Int) (fuel:Nat),aG c.2.1=A++B->B.length < fuel->Q8 (jb (d+9) c (aG c.2.1) (nO c.2.1) (kY (d+9) c (nO c.2.1))) fuel ((A.length:Int),nN c A fs [] (-1))=Q8 (kX (d+9) c (nO c.2.1) (o6 (d+9) c (nO c.2.1))) Qd (0,nN c (aG c.2.1) fs [] (-1))
 | B,A,0,_,h=>by omega
 | [],A,fuel+1,e,h=>by
  rw [List.append_nil] at e
  simp only [Q8,jb]
  rw [e,bB,Q5]
  unfold kY
  rfl
 | i::B,A,fuel+1,e,h=>by
  have hlen:A.length+(B.length+1)=(aG c.2.1).length:=by rw [e];simp
  have iw:=T.eG
  have hW:=GG T
  have hi:vI c.2.1 i:=(jz T).1 (by rw [e];simp)
  have hg:(aG c.2.1)[A.length]? = some i:=by rw [e];simp
  have next:=Qui (d:=d) T (fs:=fs) B (A++[i]) fuel (by rw [e];simp) (by simpa using h)
  rw [show ((A++[i]).length:Int)=((A.length+1:Nat):Int) by simp] at next
  simp only [Q8,jb]
  rw [Z5 (show (A.length:Int) < (((aG c.2.1).length:Nat):Int) by omega),Q4,nn,Q4,Q3,Qo (show A.length < (aG c.2.1).length by omega),Q4,hg,Q9,Z5 hi.1,Q4,eZ hi,Q9,show (nN c A fs [] (-1)).2.1.length=A.length by simp [nN],room (by simp;omega),Q4,Q4,Q9,show d+9=d+8+1 from rfl,IC (by omega),Q9]
  rw [show bE c.2.1 (aU c.2.1 i).2.1=bO c.2.1 i from rfl]
  by_cases hp:0<=bO c.2.1 i
  .have hv:=GB hp
   rw [show decide (bO c.2.1 i>=0)=true from Z5 hp,Q4,Q4,Le T hv,Qh3 T hv,Q9,Qyv T hi hp]
   unfold xI
   rw [show d+8+1=d+9 from rfl,Quh T hi (by omega)]
   exact next
  .rw [show decide (bO c.2.1 i>=0)=false from Z4 hp,Q5]
   have e1:pW c.2.1 (bO c.2.1 i)=-1:=uI T (by omega)
   have e2:pW c.2.1 (uJ c.2.1 i)=-1:=by unfold uJ;rw [if_pos (by omega)];exact uI T (by omega)
   have:=Quh (d:=d) T hi (A:=A) (by omega) (fs:=fs) (tg:=[]) (df:=-1) (b:=false) (ag:=Q8 (jb (d+9) c (aG c.2.1) (nO c.2.1) (kY (d+9) c (nO c.2.1))) fuel)
   rw [e1,e2] at this
   rw [show d+8+1=d+9 from rfl,this]
   exact next
theorem YD {d:Nat} {c:Cf} (G:Gd c):BJ (d+10) c=some (bU c):=by
 have T:=G.tr
 have iw:=T.eG
 have hW:=GG T
 have Fe:=G.f16
 rw [SN,show d+9=d+8+1 from rfl,Qw1 T,Q9,show d+8+1=d+9 from rfl,Qyu T (GD T).1,Q9,show iK c.2.1 (jB c.2.1)=aG c.2.1 from rfl,nn,Q4,Q4,Q3,show (Nat.ble (aG c.2.1).length (aG c.2.1).length&&Nat.ble ((aG c.2.1).length*8) Q7)=true by rw [Z8,Nat.ble_eq,Nat.ble_eq];unfold Q7;omega,Q4]
 refine (Qb (fun (t:List Int) (k:Int)=>(k,t)) (aG c.2.1) (fun x i t k=>aa (decide (0<=x)) (aa (Nat.blt x.toNat t.length) (Q1 (t[x.toNat]?) fun _=>k (t.set x.toNat ((i:Nat):Int))) none) none) (o9 (d+9) c (aG c.2.1)) ?_ ?_ (by rw [Q6];omega) (List.replicate (aG c.2.1).length 0)).trans ?_
 .intro ag t k x hx
  have hk:=(Z0 hx).1
  simp only [o_,bW hx,nn,Q3,hx,Q9,Q4,sU hx]
  rw [aN (by omega)]
 .intro ag t;simp only [o_,bB,Q5]
 .rw [Qd7 (aG c.2.1) 0 _ (fun x hx=>by have:=(jz T).1 hx;rw [List.length_replicate,hW];exact this)]
  rw [show cE (fun (x:Int) (i:Nat) (t:List Int)=>t.set x.toNat ((i:Nat):Int)) (aG c.2.1) 0 (List.replicate (aG c.2.1).length 0)=nO c.2.1 by unfold nO;rw [hW]]
  unfold o9
  rw [room (by simp;omega),Q4]
  have:=Qui (d:=d) T (fs:=([]:List dU)++c.2.2.1) (aG c.2.1) [] Qd rfl (by rw [Q6];omega)
  refine this.trans ?_
  refine (Qb (fun (t:List Int) (k:Int)=>(k,nN c (aG c.2.1) (([]:List dU)++c.2.2.1) t (-1))) c.2.2.1 (fun f _ t k=>aa (Nat.ble ((t.length+[pW c.2.1 (bE c.2.1 f.2.2.2.2)].length)*8) Q7) (k (t++[pW c.2.1 (bE c.2.1 f.2.2.2.2)])) none) (fun t=>some (nN c (aG c.2.1) c.2.2.1 t (vu c))) ?_ ?_ (by rw [Q6];omega) []).trans ?_
  .intro ag t k f hx
   have hk:=(Z0 hx).1
   obtain ⟨v1,_⟩:=G.Lc f (Zc hx)
   simp only [kX,bW hx,nn,Q3,hx,Q9,Q4]
   rw [show d+9=d+8+1 from rfl,IC (by omega),Q9,Z5 v1.1,Q4,Le T v1,aN (by omega)]
   rfl
  .intro ag t
   simp only [kX,bB,Q5]
   unfold o6 vu
   by_cases h:c.2.2.2=0
   .rw [show (c.2.2.2 != 0)=false by simp [h],Q5,if_pos h];rfl
   .obtain ⟨v1,_⟩:=G.Ki h
    rw [show (c.2.2.2 != 0)=true by simp [h],Q4,show d+9=d+8+1 from rfl,IC (by omega),Q9,Z5 v1.1,Q4,Le T v1,if_neg h];rfl
  .rw [Uv (e:=fun f:dU=>pW c.2.1 (bE c.2.1 f.2.2.2.2)) (w:=8) c.2.2.1 0 [] (by simp;omega)]
   rfl
theorem cc (l:List UInt8):(⟨l.toArray⟩:ByteArray).size=l.length:=(rfl)
theorem Ok.cat {α:Type} {a b:ByteArray} {x:Option α} {Q:α->Prop} (ha:a.size<=100000) (hb:b.size<=100000) (h:Ok x Q):Ok (aa (Nat.ble (a.size+b.size) 9223372036854775807) x none) Q:=by
 rw [ZE (by omega)];exact h
theorem Quj {u:Nat} (h:u < 10):Go.Lib.decDigits u=[UInt8.ofNat (48+u)]:=by rw [Go.Lib.decDigits,dif_pos h]
theorem Qw5 {u:Nat} (h:¬ u < 10):Go.Lib.decDigits u=Go.Lib.decDigits (u / 10)++[UInt8.ofNat (48+u % 10)]:=by rw [Go.Lib.decDigits,dif_neg h]
theorem Quk:∀ (j u:Nat),u < 10 ^ (j+1)->1<=(Go.Lib.decDigits u).length/\(Go.Lib.decDigits u).length<=j+1
 | 0,u,h=>by rw [Quj (by omega)];simp
 | j+1,u,h=>by
  by_cases h2:u < 10
  .rw [Quj h2];simp
  .have:=Quk j (u / 10) (by rw [Nat.pow_succ] at h;omega)
   rw [Qw5 h2];simp;omega
theorem DV {d:Nat} {n:Int} (h0:0<=n) (h:n<=1000000000000):Ok (jO (d+1) n) fun s=>s.size<=20:=by
 obtain ⟨m,rfl⟩:=Int.eq_ofNat_of_zero_le h0
 rw [TK]
 unfold BP
 have e:Go.Lib.itoa (m:Int)=Go.Lib.decDigits m:=by unfold Go.Lib.itoa;rw [if_neg (by omega)];rfl
 rw [Z5 (by omega),Z5 (by omega),Bool.and_self,Q4,e]
 refine Ok.some ?_
 rw [cc]
 have:=(Quk 19 m (by omega)).2
 exact this
theorem Lf {d:Nat} {n:Int} (h0:0<=n) (h:n<=1000000000):Ok (qh (d+2) n) fun s=>s.size<=21:=by
 obtain ⟨m,rfl⟩:=Int.eq_ofNat_of_zero_le h0
 have e2:((m:Int)).tdiv 1000000=((m / 1000000:Nat):Int):=rfl
 have e4:((m:Int)).tdiv 1000=((m / 1000:Nat):Int):=rfl
 have r0:∀ b,Ok (lK (d+1) (m:Int) b) fun s=>s.size<=21:=by
  intro b
  unfold lK
  rw [e4,wr (n:=((m / 1000:Nat):Int)) (by omega) (by omega)]
  refine Ok.aa (fun _=>?_) (fun _=>?_)
  .refine Ok.bind (DV (by omega) (by omega)) fun s hs=>?_
   refine Ok.cat (by omega) (by (try simp only [Za,cc,Z9,Zb] at *);omega) (Ok.some ?_)
   (try simp only [Za,cc,Z9,Zb] at *);omega
  .exact Ok.bind (DV (by omega) (by omega)) fun s hs=>Ok.some (by omega)
 have r1:∀ b,Ok (lM (d+1) (m:Int) b) fun s=>s.size<=21:=by
  intro b
  unfold lM
  rw [e2,wr (n:=((m / 1000000:Nat):Int)) (by omega) (by omega)]
  refine Ok.aa (fun _=>?_) (fun _=>Ok.aa (fun _=>r0 _) (fun _=>r0 _))
  refine Ok.bind (DV (by omega) (by omega)) fun s hs=>?_
  refine Ok.cat (by omega) (by (try simp only [Za,cc,Z9,Zb] at *);omega) (Ok.some ?_)
  (try simp only [Za,cc,Z9,Zb] at *);omega
 rw [TO]
 exact Ok.aa (fun _=>r1 _) (fun _=>r1 _)
def Ux (x:aC):Prop:=(0<=x.1/\x.1<=1000000000)/\(0<=x.2.2.1/\x.2.2.1<=1000000000)/\(0<=x.2.2.2.1/\x.2.2.2.1<=1000000000)/\(0<=x.2.2.2.2.1/\x.2.2.2.2.1<=1000000000)/\(0<=x.2.2.2.2.2.1/\x.2.2.2.2.2.1<=1000000000)/\(0<=x.2.2.2.2.2.2.1/\x.2.2.2.2.2.2.1<=1000000000)
theorem Qb6 {d:Nat} {x:aC} (h:Ux x):Ok (BS (d+3) x) fun s=>s.size<=1000:=by
 obtain ⟨h1,h2,h3,h4,h5,h6⟩:=h
 rw [TP]
 refine Ok.bind (DV h1.1 (by omega)) fun r2 g2=>?_
 refine Ok.cat (by (try simp only [Za,cc,Z9,Zb] at *);omega) (by (try simp only [Za,cc,Z9,Zb] at *);omega) ?_
 refine Ok.cat (by (try simp only [Za,cc,Z9,Zb] at *);omega) (by (try simp only [Za,cc,Z9,Zb] at *);omega) ?_
 refine Ok.bind (Lf h2.1 h2.2) fun r3 g3=>?_
 refine Ok.cat (by (try simp only [Za,cc,Z9,Zb] at *);omega) (by (try simp only [Za,cc,Z9,Zb] at *);omega) ?_
 refine Ok.cat (by (try simp only [Za,cc,Z9,Zb] at *);omega) (by (try simp only [Za,cc,Z9,Zb] at *);omega) ?_
 refine Ok.bind (Lf h3.1 h3.2) fun r4 g4=>?_
 refine Ok.cat (by (try simp only [Za,cc,Z9,Zb] at *);omega) (by (try simp only [Za,cc,Z9,Zb] at *);omega) ?_
 refine Ok.cat (by (try simp only [Za,cc,Z9,Zb] at *);omega) (by (try simp only [Za,cc,Z9,Zb] at *);omega) ?_
 refine Ok.bind (Lf h4.1 h4.2) fun r5 g5=>?_
 refine Ok.cat (by (try simp only [Za,cc,Z9,Zb] at *);omega) (by (try simp only [Za,cc,Z9,Zb] at *);omega) ?_
 refine Ok.cat (by (try simp only [Za,cc,Z9,Zb] at *);omega) (by (try simp only [Za,cc,Z9,Zb] at *);omega) ?_
 refine Ok.bind (Lf h5.1 h5.2) fun r6 g6=>?_
 refine Ok.cat (by (try simp only [Za,cc,Z9,Zb] at *);omega) (by (try simp only [Za,cc,Z9,Zb] at *);omega) ?_
 refine Ok.cat (by (try simp only [Za,cc,Z9,Zb] at *);omega) (by (try simp only [Za,cc,Z9,Zb] at *);omega) ?_
 refine Ok.bind (DV h6.1 (by omega)) fun r7 g7=>?_
 refine Ok.cat (by (try simp only [Za,cc,Z9,Zb] at *);omega) (by (try simp only [Za,cc,Z9,Zb] at *);omega) (Ok.some ?_)
 (try simp only [Za,cc,Z9,Zb] at *);omega
def Lg:ByteArray:=⟨#[48,49,50,51,52,53,54,55,56,57,97,98,99,100,101,102]⟩
theorem Qlh:Lg.size=16:=rfl
theorem Uy {n:Nat} (h:n<=4294967295):IntKind.i64.wrap ((BitVec.ofInt IntKind.i64.bits (n:Int) &&& BitVec.ofInt IntKind.i64.bits 15).toNat:Int)=((n % 16:Nat):Int):=by
 have hb:IntKind.i64.bits=64:=rfl
 have e1:(BitVec.ofInt IntKind.i64.bits (n:Int)).toNat=n:=by
  rw [hb,BitVec.toNat_ofInt];omega
 have e2:(BitVec.ofInt IntKind.i64.bits 15).toNat=2 ^ 4 - 1:=by decide
 rw [BitVec.toNat_and,e1,e2,Nat.and_two_pow_sub_one_eq_mod,wr (by omega) (by omega)]
theorem Qh4 {d:Nat} {n:Int} (h0:0<=n) (h:n<=65535):Ok (BU (d+2) n) fun r=>r.1.size<=1000:=by
 rw [TU,Z4 (by omega),Q5,Z4 (by omega),Q5]
 refine Ok.bind (P:=fun r=>r.1.size<=1000) ?_ fun r hr=>Ok.some hr
 rw [TT,Z4 (by omega),Q5,Z4 (show ¬ n > 4294967295 by omega)]
 unfold qj
 rw [Q5]
 have fin:∀ s:ByteArray,s.size<=200->Ok (lP d s) fun r=>r.1.size<=1000:=by
  intro s hs
  unfold lP
  refine Ok.cat (by (try simp only [Za,cc,Z9,Zb] at *);omega) (by (try simp only [Za,cc,Z9,Zb] at *);omega) (Ok.some ?_)
  (try simp only [Za,cc,Z9,Zb] at *);omega
 refine lW (fun m (st:Int×ByteArray)=>0<=st.1/\st.1<=65535/\(st.1 < 16 ^ m\/bl st.2=[])/\(m<=5)/\(bl st.2=[]->m=5)/\st.2.size+m*16<=100) ?_ Qd 5 _ (by rw [Q6];omega) ⟨h0,h,Or.inr rfl,by omega,fun _=>rfl,by simp only;rw [show (⟨#[]⟩:ByteArray).size=0 from rfl];omega⟩
 rintro m ⟨n,s⟩ ag ⟨h1,h2,h3,h4,h5,h6⟩ eu
 simp only at h1 h2 h3 h4 h5 h6
 obtain ⟨k,rfl⟩:=Int.eq_ofNat_of_zero_le h1
 have Fe:k % 16 < 16:=Nat.mod_lt _ (by omega)
 simp only [yL]
 have step:∀ b,(bl s=[]\/0 < k)->Ok (jf d (lP d) ag (k:Int) s b true) fun r=>r.1.size<=1000:=by
  intro b hb
  unfold jf
  rw [Q4,Uy (by omega)]
  have e2:((k:Int)).fdiv (2 ^ (min (4:Int).toNat IntKind.i64.bits))=((k / 16:Nat):Int):=by
   have:(2:Int) ^ (min (4:Int).toNat IntKind.i64.bits)=16:=rfl
   rw [this,Int.fdiv_eq_ediv_of_nonneg _ (by omega)];rfl
  rw [e2,aN (by omega)]
  change Ok (aa _ (aa _ (aa (Nat.ble _ _&&Nat.ble _ Lg.size) (aa (Nat.ble ((Lg.extract _ _).size+_) _) (ag (_,Lg.extract _ _++s)) _) _) _) _) _
  simp only [Q3,nn,Q4]
  have hz:(Lg.extract (k % 16) (k % 16+1)).size=1:=by rw [ByteArray.size_extract,Qlh];omega
  rw [Qvw (by omega) (by rw [Qlh];omega),ZE (by omega)]
  have hm:0 < m:=by
   rcases Nat.eq_zero_or_pos m with hm | hm
   .subst hm
    rcases hb with hb | hb
    .exact absurd (h5 hb) (by omega)
    .rcases h3 with h3 | h3
     .simp at h3;omega
     .exact absurd (h5 h3) (by omega)
   .exact hm
  obtain ⟨m',rfl⟩:∃ m',m=m'+1:=⟨m - 1,by omega⟩
  refine eu m' _ (by omega) ⟨by simp only;omega,by simp only;omega,Or.inl ?_,by omega,fun h=>?_,?_⟩
  .simp only
   rcases h3 with h3 | h3
   .have:k < 16 ^ m'*16:=by rw [Int.pow_succ] at h3;exact_mod_cast h3
    have:k / 16 < 16 ^ m':=Nat.div_lt_of_lt_mul (by rw [Nat.mul_comm];exact this)
    exact_mod_cast this
   .have:=h5 h3
    obtain rfl:m'=4:=by omega
    have:k / 16 < 16 ^ 4:=by omega
    exact_mod_cast this
  .have:=congrArg List.length h
   simp only at this
   rw [<- ZD,Za,hz] at this
   simp at this
  .simp only
   rw [Za,hz];omega
 refine Ok.aa (fun h=>step _ (Or.inr (by simpa using h))) (fun _=>?_)
 rw [Ow,Qyl []]
 by_cases hb:bl s=[]
 .rw [Z5 hb];exact step _ (Or.inl hb)
 .rw [Z4 hb]
  unfold jf
  rw [Q5]
  exact fin s (by omega)
theorem Qh5 {d:Nat} {x:dU} (h:zC x=true) (ht:0<=x.2.2.2.2/\x.2.2.2.2<=1000000):Ok (Gl (d+3) x) fun s=>s.size<=10000:=by
 unfold zC at h
 simp only [Z8,Zj] at h
 obtain ⟨⟨h1,h2,h3,h4,h5,h6,h7,h8⟩,_⟩:=h
 rw [TX]
 refine Ok.bind (Qh4 h7 h8) fun r2 g2=>?_
 refine Ok.bind (Qh4 h5 h6) fun r3 g3=>?_
 refine Ok.bind (DV (by omega) (by omega)) fun r4 g4=>?_
 refine Ok.cat (by (try simp only [Za,cc,Z9,Zb] at *);omega) (by (try simp only [Za,cc,Z9,Zb] at *);omega) ?_
 refine Ok.cat (by (try simp only [Za,cc,Z9,Zb] at *);omega) (by (try simp only [Za,cc,Z9,Zb] at *);omega) ?_
 rw [TW,Q9,Z5 h3,Q4]
 have kG:x.2.1.toNat < 4:=by omega
 change Ok (aa (Nat.blt x.2.1.toNat 4) _ none) _
 rw [Qo kG,Q4]
 refine Ok.bind (P:=fun s=>s.size<=10) ?_ fun s6 g6=>?_
 .have:x.2.1.toNat < 4:=by omega
  match x.2.1.toNat,this with
  | 0,_=>exact Ok.some (by decide)
  | 1,_=>exact Ok.some (by decide)
  | 2,_=>exact Ok.some (by decide)
  | 3,_=>exact Ok.some (by decide)
 refine Ok.cat (by (try simp only [Za,cc,Z9,Zb] at *);omega) (by (try simp only [Za,cc,Z9,Zb] at *);omega) ?_
 refine Ok.cat (by (try simp only [Za,cc,Z9,Zb] at *);omega) (by (try simp only [Za,cc,Z9,Zb] at *);omega) ?_
 refine Ok.cat (by (try simp only [Za,cc,Z9,Zb] at *);omega) (by (try simp only [Za,cc,Z9,Zb] at *);omega) ?_
 refine Ok.cat (by (try simp only [Za,cc,Z9,Zb] at *);omega) (by (try simp only [Za,cc,Z9,Zb] at *);omega) ?_
 refine Ok.cat (by (try simp only [Za,cc,Z9,Zb] at *);omega) (by (try simp only [Za,cc,Z9,Zb] at *);omega) ?_
 refine Ok.cat (by (try simp only [Za,cc,Z9,Zb] at *);omega) (by (try simp only [Za,cc,Z9,Zb] at *);omega) ?_
 refine Ok.bind (DV ht.1 (by omega)) fun r7 g7=>?_
 refine Ok.cat (by (try simp only [Za,cc,Z9,Zb] at *);omega) (by (try simp only [Za,cc,Z9,Zb] at *);omega) ?_
 refine Ok.cat (by (try simp only [Za,cc,Z9,Zb] at *);omega) (by (try simp only [Za,cc,Z9,Zb] at *);omega) (Ok.some ?_)
 (try simp only [Za,cc,Z9,Zb] at *);omega
abbrev Pr:=Cf×List ByteArray×List Int×List Int×List Int
theorem IT {d:Nat} {p:Pr} {n:Int} {s:ByteArray} (h0:0<=n) (h1:n<=100) (hs:s.size<=90000) (hl:p.2.1.length<=1000):Ok (nC (d+2) p n s) fun r=>r.1=p.1/\r.2.1.length=p.2.1.length+1/\r.2.2=p.2.2:=by
 rw [TN,TL]
 refine Ok.bind (P:=fun r=>r.size<=5000) ?_ fun r hr=>?_
 .unfold BQ
  rw [Z5 h0,Z5 (show n<=1000000 by omega),Zg,Zg,show Nat.ble (⟨#[32,32]⟩:ByteArray).size 1000000=true from by decide,Q4]
  refine Ok.some ?_
  rw [cc]
  have:∀ (l:List UInt8) (k:Nat),(Go.Lib.repeatL l k).length=l.length*k:=by
   intro l k
   induction k with
   | zero=>simp [Go.Lib.repeatL]
   | succ k ih=>simp only [Go.Lib.repeatL,Zf,ih,Nat.mul_succ];omega
  rw [this]
  have:(⟨#[32,32]⟩:ByteArray).data.toList.length=2:=rfl
  rw [this];omega
 .refine Ok.cat (by omega) (by omega) ?_
  rw [room (by simp;omega),Q4]
  exact Ok.some ⟨rfl,by simp,rfl⟩
end Go.Proofs.YtcoimfbmgjhcjaaGreatDoor
