/-
  What the cursor's functions and the small ones give by value. And what stood behind it in 9 texts.
  Conditions: said at the theorems.
-/
import Derived.Test.YtcoimfbmgjhcjaaGreatDoorFnExactSetDefaultRes
import Derived.Test.YtcoimfbmgjhcjaaGreatDoorRepW
import Derived.Laws.Strings
set_option linter.all false
namespace Go.Proofs.YtcoimfbmgjhcjaaGreatDoor
open Go.Ev Go.Pv
theorem vG {d:Nat} {x y z:Int}:i_ (d+1) x y z=some (decide (y<=x/\x<=z)):=by
 rw [e72];simp only [uG];congr 1;rw [Bool.eq_iff_iff];simp
theorem Qom {d:Nat} {x y:Int}:Ob (d+1) x y=some (min x y):=by
 rw [e81];simp only [uG];congr 1;split<;>simp_all<;>omega
def bl (s:ByteArray):List UInt8:=s.data.toList
theorem Y_ (s:ByteArray):s.size=(bl s).length:=rfl
theorem Qyg (l:List UInt8):bl ⟨l.toArray⟩=l:=by simp [bl]
theorem Ov (a b:ByteArray):(a.toList==b.toList)=decide (bl a=bl b):=by
 rw [ByteArray.toList_eq,ByteArray.toList_eq]
 by_cases h:bl a=bl b
 .rw [Z5 h];simpa [bl] using h
 .rw [Z4 h];simpa [bl] using h
theorem K4 {a b:Nat} (h:a<=b):Nat.ble a b=true:=by rw [Nat.ble_eq];exact h
theorem Qvs {α:Type} {a b n:Nat} {x y:Option α} (h1:a<=b) (h2:b<=n):aa (Nat.ble a b&&Nat.ble b n) x y=x:=by rw [K4 h1,K4 h2];rfl
theorem Zt {α:Type} {a b:Nat} {x y:Option α} (h:a+b<=9223372036854775807):aa (Nat.ble (a+b) 9223372036854775807) x y=x:=by rw [K4 h];rfl
theorem Ow {α τ:Type} {p:α->Bool}:∀ (l:List α) (i:Nat) (t:τ),dY (fun x _ t k=>aa (p x) (some true) (k t)) (fun _=>some false) l i t=some (l.any p)
 | [],i,t=>rfl
 | x::r,i,t=>by
  simp only [dY,List.any_cons]
  cases p x with
  | true=>rfl
  | false=>exact Ow r (i+1) t
def KW:List ByteArray:=[(⟨#[113,100,105,115,99]⟩:ByteArray),(⟨#[100,101,102,97,117,108,116]⟩:ByteArray),(⟨#[99,108,97,115,115]⟩:ByteArray),(⟨#[114,97,116,101]⟩:ByteArray),(⟨#[99,101,105,108]⟩:ByteArray),(⟨#[98,117,114,115,116]⟩:ByteArray),(⟨#[99,98,117,114,115,116]⟩:ByteArray),(⟨#[112,114,105,111]⟩:ByteArray),(⟨#[108,105,109,105,116]⟩:ByteArray),(⟨#[102,105,108,116,101,114]⟩:ByteArray),(⟨#[115,111,117,114,99,101]⟩:ByteArray),(⟨#[100,101,115,116]⟩:ByteArray),(⟨#[112,111,114,116]⟩:ByteArray),(⟨#[109,97,114,107]⟩:ByteArray)]
def sm (c:UInt8):Bool:=decide (97<=c.toNat/\c.toNat<=122)
theorem Qoo {d:Nat} {c:UInt8}:FP (d+1) (c.toNat:Int)=some (sm c):=by
 rw [SZ];unfold sm;simp only [uG];congr 1;rw [Bool.eq_iff_iff];simp;omega
def K5 (s:ByteArray):Bool:=KW.any fun w=>decide (bl w=bl s)
theorem Qvt {d:Nat} {s:ByteArray}:FR (d+1) s=some (K5 s):=by
 rw [S0]
 refine (Qb (fun (t:Bool) (i:Int)=>(t,i)) KW (fun w _ t k=>aa (decide (bl w=bl s)) (some true) (k t)) (fun _=>some false) ?_ ?_ (by rw [Q6];decide) false).trans (Ow KW 0 _)
 .intro ag t i x hx
  have hi:=(Z0 hx).1
  have h14:KW.length=14:=rfl
  simp only [pL]
  change aa (decide ((i:Int) < 14)) (aa (decide (0<=(i:Int))) (Q1 (KW[(i:Int).toNat]?) _) none) _=_
  rw [Z5 (show (i:Int) < 14 by omega),Q4,nn,Q4,Q3,hx,Q9,Ov,aN (by omega)]
 .intro ag t
  simp only [pL]
  rw [Z4 (show ¬ ((KW.length:Nat):Int) < 14 by decide),Q5];rfl
theorem Qs5 {d:Nat} {s:ByteArray}:Fo (d+2) s=some (K5 s):=by
 rw [Su,Ss,Q9,Sr]
 have:∀ X:Option Bool,X=some (K5 s)->Q1 X (fun r3=>some r3)=some (K5 s):=fun X h=>by rw [h];rfl
 refine this _ ?_
 refine (Qb (fun (t:Bool) (i:Int)=>(t,i)) KW (fun w _ t k=>aa (decide (bl w=bl s)) (some true) (k t)) (fun _=>some false) ?_ ?_ (by rw [Q6];decide) false).trans (Ow KW 0 _)
 .intro ag t i x hx
  have hi:=(Z0 hx).1
  have h14:KW.length=14:=rfl
  simp only [oV]
  change aa (decide ((i:Int) < ((KW.length:Nat):Int))) (aa (decide (0<=(i:Int))) (Q1 (KW[(i:Int).toNat]?) _) none) _=_
  rw [Z5 (show (i:Int) < ((KW.length:Nat):Int) by omega),Q4,nn,Q4,Q3,hx,Q9,Ov,aN (by omega)]
 .intro ag t
  simp only [oV]
  change aa (decide (((KW.length:Nat):Int) < ((KW.length:Nat):Int))) _ _=_
  rw [bB,Q5];rfl
theorem Ox {f:Nat} (h0:f≠172) (h1:f≠187):IF f=none/\Ou f=none:=by
 constructor
 .unfold IF;split<;>simp_all
 .unfold Ou;split<;>simp_all
theorem extAll:lU Tryz.prog Qc:=by
 refine ⟨⟨fun f v h=>?_,fun f h=>?_,fun f h=>?_⟩,fun f e h=>?_⟩
 .by_cases zw:f=172
  .subst zw
   have h':IF 172=some v:=h
   have h2:some (fun (a:Int)=>BP a)=some v:=h'
   injection h2 with h2
   subst h2
   exact ⟨_,rfl,Qws⟩
  .by_cases uH:f=187
   .subst uH
    have h':IF 187=some v:=h
    have h2:some (fun (a:ByteArray×Int)=>BQ a.1 a.2)=some v:=h'
    injection h2 with h2
    subst h2
    exact ⟨_,rfl,Qzf⟩
   .have:IF f=some v:=h
    rw [(Ox zw uH).1] at this;simp at this
 .by_cases zw:f=172
  .subst zw
   have h2:some (fun (a:Int)=>BP a)=none:=h
   simp at h2
  .by_cases uH:f=187
   .subst uH
    have h2:some (fun (a:ByteArray×Int)=>BQ a.1 a.2)=none:=h
    simp at h2
   .exact (Ox zw uH).2
 .by_cases zw:f=172
  .subst zw
   have h2:false=true:=h
   simp at h2
  .by_cases uH:f=187
   .subst uH
    have h2:false=true:=h
    simp at h2
   .exact (Ox zw uH).1
 .by_cases zw:f=172
  .subst zw
   have h2:some Gw=some e:=h
   injection h2 with h2
   subst h2
   exact Qta
  .by_cases uH:f=187
   .subst uH
    have h2:some Gx=some e:=h
    injection h2 with h2
    subst h2
    exact Qwu
   .have h2:Ou f=some e:=h
    rw [(Ox zw uH).2] at h2;simp at h2
abbrev aC:=Int×Int×Int×Int×Int×Int×Int×Int
abbrev dR:=Int×Int×Int×Int×Int
abbrev Cf:=ByteArray×List aC×List dR×Int
abbrev Ld:=ByteArray×List aC×List Int×List Int×List Int×List Int×List dR×List Int×Int
abbrev Tk:=List Int×List Int
def fe {α:Type} (p:α->Bool):List α->Nat->Int
 | [],_=>-1
 | x::r,i=>if p x=true then (i:Int) else fe p r (i+1)
theorem DU {α τ:Type} {p:α->Bool}:∀ (l:List α) (i:Nat) (t:τ),dY (fun x i t k=>aa (p x) (some ((i:Nat):Int)) (k t)) (fun _=>some (-1)) l i t=some (fe p l i)
 | [],i,t=>rfl
 | x::r,i,t=>by
  simp only [dY,fe]
  cases p x with
  | true=>rfl
  | false=>simp only [Q5,Bool.false_eq_true,if_false];exact DU r (i+1) t
theorem Kg {α:Type} {p:α->Bool}:∀ {l:List α} {i:Nat},fe p l i < 0↔∀ x∈l,p x=false
 | [],i=>by simp [fe]
 | x::r,i=>by
  simp only [fe,List.mem_cons,forall_eq_or_imp]
  cases p x with
  | true=>simp
  | false=>simp only [Bool.false_eq_true,if_false,true_and];exact Kg
theorem IG {α:Type} {p:α->Bool}:∀ {l:List α} {i:Nat},0<=fe p l i->∃ (k:Nat) (x:α),fe p l i=((i+k:Nat):Int)/\l[k]? = some x/\p x=true/\∀ j y,j < k->l[j]? = some y->p y=false
 | [],i,h=>by simp [fe] at h
 | x::r,i,h=>by
  simp only [fe] at h ⊢
  cases hp:p x with
  | true=>exact ⟨0,x,by simp,rfl,hp,fun j y hj=>by omega⟩
  | false =>
   simp only [hp,Bool.false_eq_true,if_false] at h ⊢
   obtain ⟨k,y,h1,h2,h3,h4⟩:=IG h
   refine ⟨k+1,y,by rw [h1];congr 1;omega,h2,h3,fun j z hj hz=>?_⟩
   cases j with
   | zero=>simp at hz;subst hz;exact hp
   | succ j=>exact h4 j z (by omega) (by simpa using hz)
theorem Zu {α τ β:Type} {p:α->Bool} {b1 b2:Option β}:∀ (l:List α) (i:Nat) (t:τ),dY (fun x _ t k=>aa (p x) b1 (k t)) (fun _=>b2) l i t=aa (l.any p) b1 b2
 | [],i,t=>rfl
 | x::r,i,t=>by
  simp only [dY,List.any_cons]
  cases p x with
  | true=>rfl
  | false=>exact Zu r (i+1) t
def bU (l:List aC) (id:Int):Int:=fe (fun x=>x.1==id) l 0
def nF (l:List aC) (id:Int):List Int:=fK (fun x _=>x.2.1==id) (fun _ k=>((k:Nat):Int)) l 0
def ic (l:List aC) (id:Int):Bool := !(l.any fun x=>x.2.1==id)
theorem K6 {α γ:Type} {c:α->Bool} {e:α->Nat->γ}:∀ (l:List α) (i:Nat),((fK (fun x _=>c x) e l i).length==0) = !(l.any c)
 | [],i=>rfl
 | x::r,i=>by
  simp only [fK,List.any_cons]
  by_cases h:c x=true
  .rw [if_pos h,h];simp
  .rw [if_neg h,Bool.eq_false_iff.2 h,Bool.false_or];exact K6 r (i+1)
theorem Zv {l:List aC} {id:Int}:((((nF l id).length:Nat):Int)==0)=ic l id:=by
 have:=K6 (c:=fun x:aC=>x.2.1==id) (e:=fun _ k=>((k:Nat):Int)) l 0
 unfold nF ic
 rw [<- this,Bool.eq_iff_iff,beq_iff_eq,beq_iff_eq];omega
theorem Oy {l:List aC} {id:Int}:(nF l id).length<=l.length:=T' _ _
theorem Zw {l:List aC} {id n:Int} (h:n∈nF l id):∃ (k:Nat) (x:aC),n=(k:Int)/\l[k]? = some x/\x.2.1=id:=by
 obtain ⟨j,x,h1,h2,h3⟩:=Uc _ _ h
 exact ⟨j,x,by simpa using h3,h1,by simpa using h2⟩
theorem By {l:List aC} {id:Int} (h:0<=bU l id):∃ (k:Nat) (x:aC),bU l id=(k:Int)/\l[k]? = some x/\x.1=id:=by
 obtain ⟨k,x,h1,h2,h3,_⟩:=IG h
 exact ⟨k,x,by unfold bU;simpa using h1,h2,by simpa using h3⟩
theorem Ud {l:List aC} {id:Int}:bU l id < 0↔∀ x∈l,x.1≠id:=by
 unfold bU;rw [Kg];simp
theorem Ue {d:Nat} {c:Cf} {id:Int} (hl:c.2.1.length < 4000000):KI (d+3) c id=some (bU c.2.1 id):=by
 rw [e61]
 refine (Qb (fun (t:Int) (i:Int)=>(t,i)) c.2.1 (fun x i t k=>aa (x.1==id) (some ((i:Nat):Int)) (k t)) (fun _=>some (-1)) ?_ ?_ (by rw [Q6];omega) 0).trans (DU c.2.1 0 _)
 .intro ag t i x hx;have hi:=(Z0 hx).1;simp only [jd,bW hx,nn,Q3,hx,Q9,Q4];rw [aN (by omega)]
 .intro ag t;simp only [jd,bB,Q5];rfl
theorem K7 {d:Nat} {c:Cf} {id:Int} (hl:c.2.1.length < 4000000):Fq (d+1) c id=some (bU c.2.1 id):=by
 rw [e58]
 refine (Qb (fun (t:Int) (i:Int)=>(t,i)) c.2.1 (fun x i t k=>aa (x.1==id) (some ((i:Nat):Int)) (k t)) (fun _=>some (-1)) ?_ ?_ (by rw [Q6];omega) 0).trans (DU c.2.1 0 _)
 .intro ag t i x hx;have hi:=(Z0 hx).1;simp only [xh,bW hx,nn,Q3,hx,Q9,Q4];rw [aN (by omega)]
 .intro ag t;simp only [xh,bB,Q5];rfl
theorem Uf {d:Nat} {c:Cf} {n:Nat} {y:aC} (hn:c.2.1[n]? = some y) (hl:c.2.1.length < 4000000):tZ (d+4) c (n:Int)=some (ic c.2.1 y.1):=by
 rw [Th]
 refine (Qb (fun (t:Int) (i:Int)=>(t,i)) c.2.1 (fun x i t k=>aa (x.2.1==y.1) (some false) (k t)) (fun _=>some true) ?_ ?_ (by rw [Q6];omega) 0).trans ?_
 .intro ag t i x hx;have hi:=(Z0 hx).1;simp only [d_,bW hx,nn,Q3,hx,Q9,Q4];rw [aN (by omega)]
  rw [hn,Q9];rfl
 .intro ag t;simp only [d_,bB,Q5];rfl
 .rw [Zu];unfold ic;cases c.2.1.any _<;>rfl
theorem Zx {d:Nat} {c:Cf} {n:Nat} {y:aC} (hn:c.2.1[n]? = some y) (hl:c.2.1.length<=1000):xY (d+1) c (n:Int)=some (nF c.2.1 y.1):=by
 rw [Td]
 refine (Qb (fun (t:List Int) (i:Int)=>(t,i)) c.2.1 (fun x i t k=>aa (x.2.1==y.1) (aa (Nat.ble ((t.length+[((i:Nat):Int)].length)*8) Q7) (k (t++[((i:Nat):Int)])) none) (k t)) (fun t=>some t) ?_ ?_ (by rw [Q6];omega) []).trans ?_
 .intro ag t i x hx;have hi:=(Z0 hx).1;simp only [pX,bW hx,nn,Q3,hx,Q9,Q4];rw [aN (by omega)]
  rw [hn,Q9]
 .intro ag t;simp only [pX,bB,Q5];rfl
 .exact DV (c:=fun x _=>x.2.1==y.1) (e:=fun (_:aC) (k:Nat)=>((k:Nat):Int)) (w:=8) c.2.1 0 [] (by simp;omega)
theorem Oz {d:Nat} {c:Cf} {n:Nat} {y:aC} (hn:c.2.1[n]? = some y) (hl:c.2.1.length<=1000):kS (d+1) c (n:Int)=some (nF c.2.1 y.1):=by
 rw [Sy]
 refine (Qb (fun (t:List Int) (i:Int)=>(t,i)) c.2.1 (fun x i t k=>aa (x.2.1==y.1) (aa (Nat.ble ((t.length+[((i:Nat):Int)].length)*8) Q7) (k (t++[((i:Nat):Int)])) none) (k t)) (fun t=>some t) ?_ ?_ (by rw [Q6];omega) []).trans ?_
 .intro ag t i x hx;have hi:=(Z0 hx).1;simp only [oW,bW hx,nn,Q3,hx,Q9,Q4];rw [aN (by omega)]
  rw [hn,Q9]
 .intro ag t;simp only [oW,bB,Q5];rfl
 .exact DV (c:=fun x _=>x.2.1==y.1) (e:=fun (_:aC) (k:Nat)=>((k:Nat):Int)) (w:=8) c.2.1 0 [] (by simp;omega)
theorem Zy {d:Nat} {c:Cf} {n:Nat} {y:aC} (hn:c.2.1[n]? = some y) (hl:c.2.1.length<=1000):tj (d+2) c (n:Int)=some (ic c.2.1 y.1):=by
 rw [SA,Oz hn hl,Q9,Zv]
def vH (l:List aC) (id:Int):Bool:=decide (0<=bU l id)&&ic l id
theorem Ug {d:Nat} {c:Cf} {id:Int} (hl:c.2.1.length<=1000):xZ (d+5) c id=some (vH c.2.1 id):=by
 rw [Tj,Ue (by omega),Q9]
 unfold vH
 by_cases h:0<=bU c.2.1 id
 .obtain ⟨k,x,h1,h2,h3⟩:=By h
  rw [Z5 h,Q4,h1,Uf h2 (by omega),Q9,h3,Zg]
 .rw [Z4 h];rfl
theorem Uh {d:Nat} {c:Cf} {id:Int} (hl:c.2.1.length<=1000):Kw (d+3) c id=some (vH c.2.1 id):=by
 rw [e79,K7 (by omega),Q9]
 unfold vH
 by_cases h:0<=bU c.2.1 id
 .obtain ⟨k,x,h1,h2,h3⟩:=By h
  rw [Z5 h,Q4,h1,Zy h2 hl,Q9,h3,Zg]
 .rw [Z4 h];rfl
def AQ (s:ByteArray):Bool:=decide (1<=s.size/\s.size<=8)&&((bl s).all sm && !K5 s)
theorem Qs6 {d:Nat} {s:ByteArray}:FT (d+2) s=some (AQ s):=by
 rw [S3]
 unfold AQ pO
 by_cases h0:((s.size:Nat):Int) < 1
 .rw [Z5 h0,Q4,Q4,Z4 (by omega)];rfl
 rw [Z4 h0,Q5]
 by_cases h2:((s.size:Nat):Int) > 8
 .rw [Z5 h2,Q4,Z4 (by omega)];rfl
 rw [Z4 h2,Q5,Z5 (show 1<=s.size/\s.size<=8 by omega),Zg]
 have hs:(bl s).length < 4194304:=by rw [<- Y_];omega
 refine (Qb (fun (t:Bool) (i:Int)=>(t,i)) (bl s) (fun x _ t k=>aa (sm x) (k t) (some false)) (pM (d+1) s) ?_ ?_ (by rw [Q6];exact hs) false).trans ?_
 .intro ag t i x hx
  have hi:=(Z0 hx).1
  have rT:s.data.toList[i]? = some x:=hx
  have bf:s.size=(bl s).length:=rfl
  simp only [pN]
  rw [Z5 (show (i:Int) < ((s.size:Nat):Int) by omega),Q4,nn,Q4,Q3,rT,Q9,Qoo,Q9,aN (by omega)]
  cases sm x<;>rfl
 .intro ag t
  simp only [pN]
  rw [show ((s.size:Nat):Int)=(((bl s).length:Nat):Int) from rfl,bB,Q5]
 .rw [BZ]
  cases (bl s).all sm with
  | false=>rfl
  | true =>
   rw [Q4,Zg]
   unfold pM
   rw [Qvt,Q9]
theorem Qs7 {d:Nat} {s:ByteArray} (hs:s.size < 4000000):Sv (d+3) s=some (AQ s):=by
 rw [e76]
 unfold AQ
 have bf:s.size=(bl s).length:=rfl
 refine (Qb (fun (t:Bool) (i:Int)=>(t,i)) (bl s) (fun x _ t k=>aa (sm x) (k t) (some false)) (xd (d+2) s) ?_ ?_ (by rw [Q6];omega) false).trans ?_
 .intro ag t i x hx
  have hi:=(Z0 hx).1
  have rT:s.data.toList[i]? = some x:=hx
  simp only [xe]
  rw [Z5 (show (i:Int) < ((s.size:Nat):Int) by omega),Q4,nn,Q4,Q3,rT,Q9,Q4,Q9,aN (by omega)]
  unfold sm
  by_cases h1:(x.toNat:Int) < 97
  .rw [Z5 h1,Q4,Z4 (by omega)];rfl
  .rw [Z4 h1,Q5]
   by_cases h2:(x.toNat:Int) > 122
   .rw [Z5 h2,Q4,Z4 (by omega)];rfl
   .rw [Z4 h2,Q5,Z5 (by omega)];rfl
 .intro ag t
  simp only [xe]
  rw [show ((s.size:Nat):Int)=(((bl s).length:Nat):Int) from rfl,bB,Q5]
 .rw [BZ]
  cases (bl s).all sm with
  | false=>rw [Q5,Bool.false_and,Bool.and_false]
  | true =>
   rw [Q4,Zg]
   unfold xd
   rw [vG,Q9]
   by_cases h:1<=s.size/\s.size<=8
   .rw [Z5 (show (1:Int)<=((s.size:Nat):Int)/\((s.size:Nat):Int)<=8 by omega),Q4,Qs5,Q9,Z5 h,Zg]
   .rw [Z4 (show ¬ ((1:Int)<=((s.size:Nat):Int)/\((s.size:Nat):Int)<=8) by omega),Q5,Z4 h];rfl
def zc8:aC:=(0,0,0,0,0,0,0,0)
def aW (l:List aC) (i:Int):aC:=l.getD i.toNat zc8
def eF {α:Type} (p:α->Nat->Bool):List α->Nat->Bool
 | [],_=>true
 | x::r,i=>p x i&&eF p r (i+1)
theorem qp {α τ β:Type} {p:α->Nat->Bool} {no:Option β} {fin:τ->Option β}:∀ (l:List α) (i:Nat) (t:τ),dY (fun x i t k=>aa (p x i) (k t) no) fin l i t=aa (eF p l i) (fin t) no
 | [],i,t=>rfl
 | x::r,i,t=>by
  simp only [dY,eF]
  cases p x i with
  | true=>simp only [Q4,Zg];exact qp r (i+1) t
  | false=>rfl
theorem rU {α:Type} {p:α->Nat->Bool}:∀ {l:List α} {i:Nat},eF p l i=true↔∀ j x,l[j]? = some x->p x (i+j)=true
 | [],i=>by simp [eF]
 | x::r,i=>by
  simp only [eF,Z8,rU (l:=r)]
  constructor
  .rintro ⟨h1,h2⟩ j y hy
   cases j with
   | zero=>simp at hy;subst hy;exact h1
   | succ j=>have:=h2 j y (by simpa using hy);rw [show i+(j+1)=i+1+j by omega];exact this
  .intro h
   exact ⟨h 0 x rfl,fun j y hy=>by have:=h (j+1) y (by simpa using hy);rw [show i+1+j=i+(j+1) by omega];exact this⟩
theorem Zz {α:Type} {p q:α->Nat->Bool} {l:List α} {i:Nat}:eF (fun x j=>p x j&&q x j) l i=(eF p l i&&eF q l i):=by
 rw [Bool.eq_iff_iff,Z8,rU,rU,rU]
 simp only [Z8]
 exact ⟨fun h=>⟨fun j x hx=>(h j x hx).1,fun j x hx=>(h j x hx).2⟩,fun h j x hx=>⟨h.1 j x hx,h.2 j x hx⟩⟩
theorem Ui {α:Type} {p:α->Bool}:∀ {l:List α} {i:Nat},eF (fun x _=>p x) l i=l.all p
 | [],_=>rfl
 | x::r,i=>by simp only [eF,List.all_cons];rw [Ui (l:=r)]
def zx (l:List aC) (x:aC) (i:Nat):Bool:=decide (1<=x.1/\x.1<=999)&&(decide (i=0) || decide ((aW l ((i:Int) - 1)).1 < x.1))
def uI (l:List aC):Nat:=(l.filter fun x=>x.2.1==0).length
def DW (l:List aC):Bool:=l.all fun x=>x.2.1==0 || decide (0<=bU l x.2.1)
def cM (l:List aC):Nat->Int->List Int
 | 0,_=>[]
 | f+1,i=>if i < 0 then [] else i::cM l f (bU l (aW l i).2.1)
def nG (u:List Int):Int:=u.getD (u.length - 1) 0
def vJ (l:List aC) (i:Nat):Bool:=decide ((cM l 9 i).length<=8)&&((aW l (nG (cM l 9 i))).2.1==0)
theorem kK {l:List aC} {n:Nat} {x:aC} (h:l[n]? = some x):aW l (n:Int)=x:=by unfold aW;rw [Q3,Zr,h];rfl
theorem Gy {l:List aC} {i:Int} (h0:0<=i) (h:i < ((l.length:Nat):Int)):l[i.toNat]? = some (aW l i):=by
 have:i.toNat < l.length:=by omega
 unfold aW;rw [Zr,Z6 this];rfl
theorem BB {l:List aC} {id:Int}:bU l id < ((l.length:Nat):Int):=by
 by_cases h:0<=bU l id
 .obtain ⟨k,x,h1,h2,_⟩:=By h
  have:=(Z0 h2).1
  omega
 .omega
theorem Qyi {d:Nat} {n:Int}:FU (d+1) n=some (decide (1<=n/\n<=999)):=by
 rw [S4]
 by_cases h:n>=1
 .rw [Z5 h,Q4];congr 1;rw [Bool.eq_iff_iff];simp;omega
 .rw [Z4 h,Q5];congr 1;symm;rw [decide_eq_false_iff_not];omega
def qZ (l:List aC):Bool:=eF (zx l) l 0
theorem II {i:Nat} (h:i < 9223372036854775807) (h0:0 < i):IntKind.i64.wrap ((i:Int) - 1)=((i - 1:Nat):Int):=by rw [wr (by omega) (by omega)];omega
theorem Qmp {d:Nat} {c:Cf} (hl:c.2.1.length < 4000000):FV (d+2) c=some (qZ c.2.1&&decide (1<=c.2.1.length/\c.2.1.length<=24)):=by
 rw [S5]
 refine (Qb (fun (t:Bool) (i:Int)=>(t,i)) c.2.1 (fun x i t k=>aa (zx c.2.1 x i) (k t) (some false)) (fun _=>some (decide (1<=c.2.1.length/\c.2.1.length<=24))) ?_ ?_ (by rw [Q6];omega) false).trans ?_
 .intro ag t i x hx
  have hi:=(Z0 hx).1
  simp only [pP,bW hx,nn,Q3,hx,Q9,Q4]
  rw [Qyi,Q9,aN (by omega)]
  unfold zx
  cases decide (1<=x.1/\x.1<=999) with
  | false=>rfl
  | true =>
   rw [Zl,Q5,Zg]
   by_cases h0:i=0
   .subst h0;rfl
   .rw [Z5 (show (i:Int) > 0 by omega),Q4,II (by omega) (by omega),nn,Q4,Q3,Z6 (show i - 1 < c.2.1.length by omega),Q9,Z4 h0,Bool.false_or]
    rw [show (i:Int) - 1=((i - 1:Nat):Int) by omega,kK (Z6 (show i - 1 < c.2.1.length by omega))]
    by_cases h:x.1<=(c.2.1[i - 1]).1
    .rw [Z5 h,Z4 (by omega)];rfl
    .rw [Z4 h,Z5 (by omega)];rfl
 .intro ag t
  simp only [pP,bB,Q5]
  unfold xT
  by_cases h:((c.2.1.length:Nat):Int)>=1
  .rw [Z5 h,Q4];congr 1;rw [Bool.eq_iff_iff];simp;omega
  .rw [Z4 h,Q5];congr 1;symm;rw [decide_eq_false_iff_not];omega
 .rw [qp];unfold qZ;cases eF (zx c.2.1) c.2.1 0<;>rfl
theorem OA {α:Type} {p:α->Bool}:∀ (l:List α) (i t:Nat),t+l.length < 4000000->cD (fun x _ (t:Int)=>if p x=true then IntKind.i64.wrap (t+1) else t) l i (t:Int)=((t+(l.filter p).length:Nat):Int)
 | [],i,t,_=>by simp [cD]
 | x::r,i,t,h=>by
  simp only [Z9] at h
  simp only [cD,List.filter_cons]
  cases p x with
  | true =>
   simp only [if_true]
   rw [aN (by omega),OA r (i+1) (t+1) (by omega)]
   simp;omega
  | false=>simp only [Bool.false_eq_true,if_false];exact OA r (i+1) t (by omega)
theorem Qgm {d:Nat} {c:Cf} (hl:c.2.1.length<=1000):Ok (FX (d+4) c) fun r=>((((r.length:Nat):Int))==0)=DW c.2.1:=by
 rw [S6]
 refine ⟨fK (fun x _ => !(x.2.1==0 || decide (0<=bU c.2.1 x.2.1))) (fun _ k=>((k:Nat):Int)) c.2.1 0,?_,?_⟩
 .refine (Qb (fun (t:List Int) (i:Int)=>(t,i)) c.2.1 (fun x i t k=>aa (!(x.2.1==0 || decide (0<=bU c.2.1 x.2.1))) (aa (Nat.ble ((t.length+[((i:Nat):Int)].length)*8) Q7) (k (t++[((i:Nat):Int)])) none) (k t)) (fun t=>some t) ?_ ?_ (by rw [Q6];omega) []).trans ?_
  .intro ag t i x hx;have hi:=(Z0 hx).1;simp only [pR,bW hx,nn,Q3,hx,Q9,Q4]
   unfold pQ
   rw [aN (by omega)]
   by_cases h:x.2.1=0
   .rw [show (x.2.1 != 0)=false by simp [h],Q5,Q5,show (x.2.1==0)=true by simp [h],Bool.true_or];rfl
   .rw [show (x.2.1 != 0)=true by simp [h],Q4,Ue (by omega),Q9,show (x.2.1==0)=false by simp [h],Bool.false_or]
    by_cases h2:bU c.2.1 x.2.1 < 0
    .rw [Z5 h2,Q4,Z4 (by omega)];rfl
    .rw [Z4 h2,Q5,Z5 (by omega)];rfl
  .intro ag t;simp only [pR,bB,Q5];rfl
  .exact DV (c:=fun x _ => !(x.2.1==0 || decide (0<=bU c.2.1 x.2.1))) (e:=fun (_:aC) (k:Nat)=>((k:Nat):Int)) (w:=8) c.2.1 0 [] (by simp;omega)
 .have:=K6 (c:=fun x:aC => !(x.2.1==0 || decide (0<=bU c.2.1 x.2.1))) (e:=fun _ k=>((k:Nat):Int)) c.2.1 0
  unfold DW
  rw [show (c.2.1.all fun x=>x.2.1==0 || decide (0<=bU c.2.1 x.2.1)) = !(c.2.1.any fun x => !(x.2.1==0 || decide (0<=bU c.2.1 x.2.1))) by simp [List.all_eq_not_any_not],<- this]
  simp only []
  rw [Bool.eq_iff_iff,beq_iff_eq,beq_iff_eq]
  omega
theorem Qco {d:Nat} {c:Cf} (hl:c.2.1.length<=1000):FY (d+5) c=some (decide (uI c.2.1=1)&&DW c.2.1):=by
 rw [S7]
 refine (Qb (fun (t:Int) (i:Int)=>(t,i)) c.2.1 (fun x _ t k=>k (if (x.2.1==0)=true then IntKind.i64.wrap (t+1) else t)) (pS (d+4) c) ?_ ?_ (by rw [Q6];omega) 0).trans ?_
 .intro ag t i x hx;have hi:=(Z0 hx).1;simp only [pT,bW hx,nn,Q3,hx,Q9,Q4];rw [aN (by omega)]
  cases (x.2.1==0)<;>rfl
 .intro ag t;simp only [pT,bB,Q5]
 .rw [wI (f:=fun (x:aC) _ (t:Int)=>if (x.2.1==0)=true then IntKind.i64.wrap (t+1) else t)]
  have:=OA (p:=fun x:aC=>x.2.1==0) c.2.1 0 0 (by omega)
  rw [show ((0:Nat):Int)=0 from rfl] at this
  rw [this,Zo]
  unfold pS
  rw [show (c.2.1.filter fun x=>x.2.1==0).length=uI c.2.1 from rfl]
  by_cases h:uI c.2.1=1
  .rw [show (((uI c.2.1:Nat):Int)==1)=true by rw [beq_iff_eq];omega,Q4,Z5 h,Zg]
   obtain ⟨r,h1,h2⟩:=Qgm (d:=d) hl
   rw [h1,Q9,h2]
  .rw [show (((uI c.2.1:Nat):Int)==1)=false by rw [beq_eq_false_iff_ne];omega,Q5,Z4 h];rfl
theorem OB {l:List aC}:∀ (f g:Nat) (i:Int),(cM l f i).length < f->f<=g->cM l g i=cM l f i
 | 0,g,i,h,_=>by omega
 | f+1,0,i,h,hg=>by omega
 | f+1,g+1,i,h,hg=>by
  simp only [cM] at h ⊢
  by_cases hi:i < 0
  .rw [if_pos hi,if_pos hi]
  .rw [if_neg hi] at h ⊢
   rw [if_neg hi,OB f g _ (by simpa using h) (by omega)]
theorem Uj {l:List aC} {f:Nat} {i:Int} (h:0<=i):cM l (f+1) i=i::cM l f (bU l (aW l i).2.1):=by
 simp only [cM];rw [if_neg (by omega)]
theorem OC {l:List aC} {i:Int} (h0:0<=i) (h:(cM l 9 i).length<=8):(cM l 9 i)=i::cM l 9 (bU l (aW l i).2.1):=by
 have e:cM l 9 i=i::cM l 8 (bU l (aW l i).2.1):=by
  conv=>lhs;unfold cM
  rw [if_neg (by omega)]
 rw [e] at h ⊢
 simp only [Z9] at h
 rw [OB 8 9 _ (by omega) (by omega)]
theorem Uk {l:List aC}:∀ (f:Nat) (i:Int),i < ((l.length:Nat):Int)->∀ n∈cM l f i,0<=n/\n < ((l.length:Nat):Int)
 | 0,_,_,n,hn=>by simp [cM] at hn
 | f+1,i,h,n,hn=>by
  simp only [cM] at hn
  split at hn
  .simp at hn
  .rcases Z2 hn with rfl | hn
   .exact ⟨by omega,h⟩
   .exact Uk f _ BB n hn
theorem ZA {l:List Int} {n:Int} (h:fe (fun x=>x==n) l 0 < 0):n∉l:=by
 rw [Kg] at h
 intro hm
 have:=h n hm
 simp at this
theorem ZB {d:Nat} {l:List Int} {n:Int} (hl:l.length < 4000000):xV (d+1) l n=some (fe (fun x=>x==n) l 0):=by
 rw [S8]
 refine (Qb (fun (t:Int) (i:Int)=>(t,i)) l (fun x i t k=>aa (n==x) (some ((i:Nat):Int)) (k t)) (fun _=>some (-1)) ?_ ?_ (by rw [Q6];omega) 0).trans ?_
 .intro ag t i x hx;have hi:=(Z0 hx).1;simp only [pU,bW hx,nn,Q3,hx,Q9,Q4];rw [aN (by omega)]
 .intro ag t;simp only [pU,bB,Q5];rfl
 .rw [show (fun (x:Int) (i:Nat) (t:Int) (k:Int->Option Int)=>aa (n==x) (some ((i:Nat):Int)) (k t))=fun x i t k=>aa (x==n) (some ((i:Nat):Int)) (k t) by funext x i t k;rw [BEq.comm]]
  exact DU l 0 _
theorem Qmq {d:Nat} {l:List Int} {n:Int} (hl:l.length < 4000000):F0 (d+2) l n=some (decide (0<=fe (fun x=>x==n) l 0)):=by
 rw [S9,ZB hl,Q9]
theorem OD {l:List Int} {n:Nat} (h:l.Nodup) (h2:∀ x∈l,0<=x/\x < (n:Int)):l.length<=n:=by
 have:=List.Nodup.length_le_of_subset (l₂:=(List.range n).map fun (k:Nat)=>(k:Int)) h (fun x hx=>by
  obtain ⟨h3,h4⟩:=h2 x hx
  exact List.mem_map.2 ⟨x.toNat,List.mem_range.2 (by omega),by omega⟩)
 simpa using this
theorem Qs8 {d:Nat} {c:Cf} {i:Nat} (hi:i < c.2.1.length) (hl:c.2.1.length<=24):Ok (F1 (d+4) c (i:Int)) fun r=>(r.2=true->cM c.2.1 (r.1.length+1) (i:Int)=r.1/\0 < r.1.length)/\(r.2=false->8 < (cM c.2.1 9 (i:Int)).length):=by
 rw [S_]
 refine lV (fun m (st:Int×List Int×Bool×List Int)=>m=24 - st.2.2.2.length/\st.1 < ((c.2.1.length:Nat):Int)/\st.2.2.2.Nodup/\(∀ x∈st.2.2.2,0<=x/\x < ((c.2.1.length:Nat):Int))/\(∀ f,cM c.2.1 (st.2.2.2.length+f) (i:Int)=st.2.2.2++cM c.2.1 f st.1)/\(st.2.2.2=[]->st.1=(i:Int)) /\
  ((cM c.2.1 9 (i:Int)).length<=8->(cM c.2.1 9 st.1).length<=8/\∀ y∈st.2.2.2,(cM c.2.1 9 st.1).length < (cM c.2.1 9 y).length)) ?_ _ 24 _ (by rw [Q6];omega) ⟨rfl,by simp only;omega,by simp,by simp,fun f=>by simp,fun _=>rfl,fun h=>⟨h,by simp⟩⟩
 rintro m ⟨n,l5,b,out⟩ ag ⟨hm,hn,hnd,nH,oO,eO,hlen⟩ eo
 simp only at hm hn hnd nH oO eO hlen
 have hol:=OD hnd nH
 simp only [xX]
 by_cases h0:n>=0
 case neg =>
  rw [Z4 h0,Q5]
  unfold xW
  refine Ok.some ⟨fun _=>?_,fun h=>by simp at h⟩
  have:=oO 1
  simp only [cM,if_pos (show n < 0 by omega),List.append_nil] at this
  refine ⟨this,?_⟩
  rcases Nat.eq_zero_or_pos out.length with h | h
  .have:=eO (List.eq_nil_of_length_eq_zero h);omega
  .exact h
 rw [Z5 h0,Q4,Qmq (by omega),Q9]
 by_cases hc:0<=fe (fun x=>x==n) out 0
 .rw [Z5 hc,Q4]
  refine Ok.some ⟨fun h=>by simp at h,fun _=>?_⟩
  rcases Nat.lt_or_ge 8 (cM c.2.1 9 (i:Int)).length with h | h
  .exact h
  .obtain ⟨g1,g2⟩:=hlen h
   obtain ⟨k,x,e1,e2,e3,_⟩:=IG hc
   have hx:x=n:=by simpa using e3
   have:=g2 x (Zc e2)
   rw [hx] at this;omega
 .have DX:=ZA (by omega:fe (fun x=>x==n) out 0 < 0)
  have au:(out++[n]).length<=c.2.1.length:=OD (by
   rw [Zn]
   exact ⟨hnd,by simp,fun a ha b hb e=>by simp at hb;subst hb;subst e;exact DX ha⟩) (fun x hx=>by
   rcases List.mem_append.1 hx with h | h
   .exact nH x h
   .simp at h;subst h;exact ⟨h0,hn⟩)
  simp only [Zf,Z9,Zb] at au
  rw [Z4 hc,Q5,room (by simp;omega),Q4,Q4,Gy h0 hn,Q9,Ue (by omega),Q9]
  refine eo (24 - (out++[n]).length) _ (by simp;omega) ⟨rfl,BB,?_,?_,fun f=>?_,fun h=>by simp at h,fun h=>?_⟩
  .rw [Zn]
   exact ⟨hnd,by simp,fun a ha b hb e=>by simp at hb;subst hb;subst e;exact DX ha⟩
  .intro x hx
   rcases List.mem_append.1 hx with h | h
   .exact nH x h
   .simp at h;subst h;exact ⟨h0,hn⟩
  .have:=oO (f+1)
   rw [Uj h0] at this
   simp only [Zf,Z9,Zb]
   rw [show out.length+(0+1)+f=out.length+(f+1) by omega,this];simp
  .obtain ⟨g1,g2⟩:=hlen h
   have g3:=OC h0 g1
   have g4:=congrArg List.length g3
   simp only [Z9] at g4
   refine ⟨by simp only;omega,fun y hy=>?_⟩
   simp only
   rcases List.mem_append.1 hy with hy | hy
   .have:=g2 y hy;omega
   .simp at hy;subst hy;omega
theorem ZC {l:List aC}:∀ (f g:Nat) (i:Int),f<=g->(cM l f i).length<=(cM l g i).length
 | 0,_,_,_=>by simp [cM]
 | f+1,0,_,h=>by omega
 | f+1,g+1,i,h=>by
  simp only [cM]
  split
  .simp
  .have:=ZC (l:=l) f g (bU l (aW l i).2.1) (by omega);simp;omega
theorem ZD {u:List Int} (h:0 < u.length):nG u∈u/\u[u.length - 1]? = some (nG u):=by
 have e:u[u.length - 1]? = some (nG u):=by
  unfold nG;rw [Zr,Z6 (show u.length - 1 < u.length by omega)];rfl
 exact ⟨Zc e,e⟩
theorem Qjl {d:Nat} {c:Cf} (hl:c.2.1.length<=24):F3 (d+5) c=some (eF (fun _ i=>vJ c.2.1 i) c.2.1 0):=by
 rw [Ta]
 refine (Qb (fun (t:Bool) (i:Int)=>(t,i)) c.2.1 (fun x i t k=>aa (vJ c.2.1 i) (k t) (some false)) (fun _=>some true) ?_ ?_ (by rw [Q6];omega) false).trans ?_
 .intro ag t i x hx
  have hi:=(Z0 hx).1
  simp only [pV,bW hx,Q4]
  obtain ⟨r,hr,r1,r2⟩:=Qs8 (d:=d) (c:=c) (i:=i) hi hl
  rw [hr,Q9]
  unfold vJ
  cases hb:r.2 with
  | false =>
   have:=r2 hb
   rw [Bool.not_false,Q4,Z4 (by omega)];rfl
  | true =>
   obtain ⟨e1,e2⟩:=r1 hb
   rw [Zl,Q5]
   by_cases h8:r.1.length<=8
   .have e3:cM c.2.1 9 (i:Int)=r.1:=by
     rw [OB (r.1.length+1) 9 _ (by rw [e1];omega) (by omega)];exact e1
    rw [e3,Z5 h8,Z4 (by omega),Q5,Zg,II (by omega) (by omega),nn,Q4,Q3,Qp (by omega),Q4]
    obtain ⟨m1,m2⟩:=ZD e2
    rw [m2,Q9]
    rw [<- e3] at m1
    obtain ⟨q1,q2⟩:=Uk 9 (i:Int) (by omega) _ m1
    rw [e3] at q1 q2
    rw [Z5 q1,Q4,Gy q1 q2,Q9,aN (by omega)]
    by_cases h:(aW c.2.1 (nG r.1)).2.1=0
    .rw [show ((aW c.2.1 (nG r.1)).2.1 != 0)=false by simp [h],Q5,show ((aW c.2.1 (nG r.1)).2.1==0)=true by simp [h]];rfl
    .rw [show ((aW c.2.1 (nG r.1)).2.1 != 0)=true by simp [h],Q4,show ((aW c.2.1 (nG r.1)).2.1==0)=false by simp [h]];rfl
   .have:8 < (cM c.2.1 9 (i:Int)).length:=by
     rcases Nat.lt_or_ge (r.1.length+1) 9 with g | g
     .omega
     .have g1:=ZC (l:=c.2.1) 9 (r.1.length+1) (i:Int) g
      rcases Nat.lt_or_ge 8 (cM c.2.1 9 (i:Int)).length with g2 | g2
      .exact g2
      .have:=OB (l:=c.2.1) 9 (r.1.length+1) (i:Int) (by omega) g
       rw [e1] at this
       have:=congrArg List.length this
       omega
    rw [Z5 (show ((r.1.length:Nat):Int) > 8 by omega),Q4,Z4 (show ¬ (cM c.2.1 9 (i:Int)).length<=8 by omega)];rfl
 .intro ag t;simp only [pV,bB,Q5];rfl
 .rw [qp];cases eF _ c.2.1 0<;>rfl
theorem Qyj {d:Nat} {c:Cf} {i:Nat} (hi:i < c.2.1.length) (hl:c.2.1.length<=24):Fs (d+2) c (i:Int)=some (cM c.2.1 9 (i:Int)):=by
 rw [Sx]
 have key:∀ (f fuel:Nat) (n:Int) (out:List Int),out.length+f=9->f < fuel->n < ((c.2.1.length:Nat):Int)->Q8 (kR (d+1) c (kP (d+1))) fuel (n,out)=some (out++cM c.2.1 f n):=by
  intro f
  induction f with
  | zero =>
   intro fuel n out h1 h2 h3
   obtain ⟨g,rfl⟩:∃ g,fuel=g+1:=⟨fuel - 1,by omega⟩
   simp only [Q8,kR]
   unfold kQ kP
   rw [Z4 (show ¬ ((out.length:Nat):Int)<=8 by omega),Q5]
   simp [cM,Qt7]
  | succ f ih =>
   intro fuel n out h1 h2 h3
   obtain ⟨g,rfl⟩:∃ g,fuel=g+1:=⟨fuel - 1,by omega⟩
   simp only [Q8,kR]
   unfold kQ
   by_cases hn:n>=0
   .rw [Z5 hn,Q4,Z5 (show ((out.length:Nat):Int)<=8 by omega),Q4,room (by simp;omega),Q4,Q4,Gy hn h3,Q9,K7 (by omega),Q9,ih g _ _ (by simp;omega) (by omega) BB]
    simp only [cM,if_neg (show ¬ n < 0 by omega)]
    simp
   .rw [Z4 hn,Q5,Q5]
    unfold kP
    simp only [cM,if_pos (show n < 0 by omega)]
    simp
 exact key 9 Qd (i:Int) [] rfl (by rw [Q6];omega) (by omega)
theorem ZE {α:Type} {g:α->Int} {B:Nat}:∀ (l:List α) (i:Nat) (t:Int),(∀ x∈l,0<=g x/\g x<=(B:Int))->0<=t->t+((l.length*B:Nat):Int)<=9223372036854775807->cD (fun x _ (t:Int)=>IntKind.i64.wrap (t+g x)) l i t=t+(l.map g).sum/\t<=t+(l.map g).sum/\t+(l.map g).sum<=t+((l.length*B:Nat):Int)
 | [],i,t,_,_,_=>by simp [cD]
 | x::r,i,t,h,ht,hs=>by
  obtain ⟨h1,h2⟩:=h x (by simp)
  have e:((x::r).length*B:Nat)=r.length*B+B:=by rw [Z9,Nat.add_mul,Nat.one_mul]
  rw [e] at hs ⊢
  obtain ⟨g1,g2,g3⟩:=ZE r (i+1) (t+g x) (fun y hy=>h y (by simp [hy])) (by omega) (by omega)
  simp only [cD,List.map_cons,List.sum_cons]
  rw [wr (by omega) (by omega),g1]
  omega
theorem ZF {α:Type} {g:α->Int} {B:Nat}:∀ (l:List α) (i:Nat) (t:Int),(∀ x∈l,0<=g x/\g x<=(B:Int))->t<=9223372036854775807->-9223372036854775808<=t - ((l.length*B:Nat):Int)->cD (fun x _ (t:Int)=>IntKind.i64.wrap (t - g x)) l i t=t - (l.map g).sum
 | [],i,t,_,_,_=>by simp [cD]
 | x::r,i,t,h,ht,hs=>by
  obtain ⟨h1,h2⟩:=h x (by simp)
  have e:((x::r).length*B:Nat)=r.length*B+B:=by rw [Z9,Nat.add_mul,Nat.one_mul]
  rw [e] at hs
  simp only [cD,List.map_cons,List.sum_cons]
  rw [wr (by omega) (by omega),ZF r (i+1) (t - g x) (fun y hy=>h y (by simp [hy])) (by omega) (by omega)]
  omega
def K8 (l:List aC):Prop:=∀ x∈l,0<=x.2.2.1/\x.2.2.1<=1000000000
def B3 (l:List aC) (id:Int):Int:=((nF l id).map fun k=>(aW l k).2.2.1).sum
theorem Ul {l:List aC} {id:Int} {i:Nat} {n:Int} (h:(nF l id)[i]? = some n):0<=n/\l[n.toNat]? = some (aW l n)/\(aW l n).2.1=id/\aW l n∈l:=by
 obtain ⟨k,x,rfl,h2,h3⟩:=Zw (Zc h)
 rw [kK h2,Q3]
 exact ⟨by omega,h2,h3,Zc h2⟩
theorem ZG {l:List aC} {id:Int} (hr:K8 l):∀ n∈nF l id,0<=(aW l n).2.2.1/\(aW l n).2.2.1<=((1000000000:Nat):Int):=by
 intro n hn
 obtain ⟨i,hi⟩:=List.getElem?_of_mem hn
 exact hr _ (Ul hi).2.2.2
theorem Qgq {d:Nat} {c:Cf} {n:Nat} {y:aC} (hn:c.2.1[n]? = some y) (hl:c.2.1.length<=24) (hr:K8 c.2.1):F8 (d+2) c (n:Int)=some (B3 c.2.1 y.1):=by
 have hk:=Oy (l:=c.2.1) (id:=y.1)
 have hm:(nF c.2.1 y.1).length*1000000000<=24*1000000000:=Zk _ (by omega)
 rw [Te,Zx hn (by omega),Q9]
 refine (Qb (fun (t:Int) (i:Int)=>(t,i)) (nF c.2.1 y.1) (fun x _ t k=>k (IntKind.i64.wrap (t+(aW c.2.1 x).2.2.1))) (fun t=>some t) ?_ ?_ (by rw [Q6];omega) 0).trans ?_
 .intro ag t i x hx
  have hi:=(Z0 hx).1
  obtain ⟨k1,k2,k3,k4⟩:=Ul hx
  simp only [pY,bW hx,nn,Q3,hx,Q9,Q4,sV hx]
  rw [Z5 k1,Q4,k2,Q9,aN (by omega)]
 .intro ag t;simp only [pY,bB,Q5];rfl
 .rw [wI (f:=fun (x:Int) _ (t:Int)=>IntKind.i64.wrap (t+(aW c.2.1 x).2.2.1)),(ZE (nF c.2.1 y.1) 0 0 (ZG hr) (by omega) (by omega)).1,Int.zero_add];rfl
theorem Qot {d:Nat} {c:Cf} {n:Nat} {y:aC} (hn:c.2.1[n]? = some y) (hl:c.2.1.length<=24) (hr:K8 c.2.1):Fv (d+2) c (n:Int)=some (y.2.2.1 - B3 c.2.1 y.1):=by
 have hk:=Oy (l:=c.2.1) (id:=y.1)
 have hm:(nF c.2.1 y.1).length*1000000000<=24*1000000000:=Zk _ (by omega)
 have hy:=hr y (Zc hn)
 rw [Sz,nn,Q4,Q3,hn,Q9,Oz hn (by omega),Q9]
 refine (Qb (fun (t:Int) (i:Int)=>(t,i)) (nF c.2.1 y.1) (fun x _ t k=>k (IntKind.i64.wrap (t - (aW c.2.1 x).2.2.1))) (fun t=>some t) ?_ ?_ (by rw [Q6];omega) y.2.2.1).trans ?_
 .intro ag t i x hx
  have hi:=(Z0 hx).1
  obtain ⟨k1,k2,k3,k4⟩:=Ul hx
  simp only [oX,bW hx,nn,Q3,hx,Q9,Q4,sV hx]
  rw [Z5 k1,Q4,k2,Q9,aN (by omega)]
 .intro ag t;simp only [oX,bB,Q5];rfl
 .rw [wI (f:=fun (x:Int) _ (t:Int)=>IntKind.i64.wrap (t - (aW c.2.1 x).2.2.1)),ZF (nF c.2.1 y.1) 0 y.2.2.1 (ZG hr) (by omega) (by omega)];rfl
def lW (x:aC):Bool:=decide (1<=x.2.2.1/\x.2.2.1<=100000/\x.2.2.1<=x.2.2.2.1/\x.2.2.2.1<=100000)
def mJ (x:aC):Bool:=decide (1500<=x.2.2.2.2.1/\x.2.2.2.2.1<=1000000/\1500<=x.2.2.2.2.2.1/\x.2.2.2.2.2.1<=1000000/\0<=x.2.2.2.2.2.2.1/\x.2.2.2.2.2.2.1<=7)
def nI (l:List aC) (x:aC):Bool:=decide (B3 l x.1<=x.2.2.1)
def nJ (l:List aC) (x:aC):Bool:=if ic l x.1=true then decide (1<=x.2.2.2.2.2.2.2/\x.2.2.2.2.2.2.2<=60) else x.2.2.2.2.2.2.2==0
theorem Qjm {d:Nat} {x:aC}:F4 (d+1) x=some (lW x):=by
 rw [Tb];unfold lW
 simp only [uG];congr 1;rw [Bool.eq_iff_iff];simp
theorem Qgs {d:Nat} {x:aC}:Ga (d+1) x=some (mJ x):=by
 rw [Tg];unfold mJ
 simp only [uG];congr 1;rw [Bool.eq_iff_iff];simp
theorem Qou {d:Nat} {x:aC}:Fp (d+2) x=some (decide (1<=x.1/\x.1<=999)&&(lW x&&mJ x)):=by
 rw [Sw];unfold lW mJ
 simp only [vG,Q9,uG];congr 1;rw [Bool.eq_iff_iff];simp;omega
theorem Qgt {d:Nat} {c:Cf} {n:Nat} {y:aC} (hn:c.2.1[n]? = some y) (hl:c.2.1.length<=1000):Gb (d+5) c (n:Int)=some (nJ c.2.1 y):=by
 rw [Ti,nn,Q4,Q3,hn,Q9,Uf hn (by omega),Q9]
 unfold nJ
 cases ic c.2.1 y.1 with
 | false=>rfl
 | true =>
  rw [if_pos rfl,Q4]
  simp only [uG];congr 1;rw [Bool.eq_iff_iff];simp
theorem Qa8 {d:Nat} {c:Cf} (hl:c.2.1.length<=1000):F5 (d+4) c=some (c.2.1.all fun x=>decide (0<=x.2.2.1/\x.2.2.1<=1000000000)):=by
 rw [Tc]
 refine (Qb (fun (t:Int) (i:Int)=>(t,i)) c.2.1 (fun x i t k=>aa (decide (0<=x.2.2.1/\x.2.2.1<=1000000000)) (k t) (some false)) (fun _=>some true) ?_ ?_ (by rw [Q6];omega) 0).trans ?_
 .intro ag t i x hx;have hi:=(Z0 hx).1;simp only [dZ,bW hx,nn,Q3,hx,Q9,Q4];rw [aN (by omega)]
  by_cases h1:x.2.2.1 < 0
  .rw [Z5 h1,Q4,Z4 (show ¬ (0<=x.2.2.1/\x.2.2.1<=1000000000) by omega),Q5];rfl
  .rw [Z4 h1,Q5]
   by_cases h2:x.2.2.1 > 1000000000
   .rw [Z5 h2,Q4,Z4 (show ¬ (0<=x.2.2.1/\x.2.2.1<=1000000000) by omega),Q5];rfl
   .rw [Z4 h2,Q5,Z5 (show 0<=x.2.2.1/\x.2.2.1<=1000000000 by omega),Q4]
 .intro ag t;simp only [dZ,bB,Q5];rfl
 .rw [BZ];cases c.2.1.all _<;>rfl
theorem Qmr {d:Nat} {c:Cf} (hl:c.2.1.length<=24) (hr:K8 c.2.1):Ok (F_ (d+3) c) fun r=>((((r.length:Nat):Int))==0)=c.2.1.all (nI c.2.1):=by
 rw [Tf]
 refine ⟨fK (fun x _ => !nI c.2.1 x) (fun _ k=>((k:Nat):Int)) c.2.1 0,?_,?_⟩
 .refine (Qb (fun (t:List Int) (i:Int)=>(t,i)) c.2.1 (fun x i t k=>aa (!nI c.2.1 x) (aa (Nat.ble ((t.length+[((i:Nat):Int)].length)*8) Q7) (k (t++[((i:Nat):Int)])) none) (k t)) (fun t=>some t) ?_ ?_ (by rw [Q6];omega) []).trans ?_
  .intro ag t i x hx;have hi:=(Z0 hx).1;simp only [pZ,bW hx,nn,Q3,hx,Q9,Q4]
   rw [Qgq hx hl hr,Q9,aN (by omega)]
   unfold nI
   by_cases h2:B3 c.2.1 x.1<=x.2.2.1
   .rw [Z5 h2,Z4 (show ¬ B3 c.2.1 x.1 > x.2.2.1 by omega)];rfl
   .rw [Z4 h2,Z5 (show B3 c.2.1 x.1 > x.2.2.1 by omega)];rfl
  .intro ag t;simp only [pZ,bB,Q5];rfl
  .exact DV (c:=fun x _ => !nI c.2.1 x) (e:=fun (_:aC) (k:Nat)=>((k:Nat):Int)) (w:=8) c.2.1 0 [] (by simp;omega)
 .have:=K6 (c:=fun x:aC => !nI c.2.1 x) (e:=fun _ k=>((k:Nat):Int)) c.2.1 0
  rw [show c.2.1.all (nI c.2.1) = !(c.2.1.any fun x => !nI c.2.1 x) by simp [List.all_eq_not_any_not],<- this]
  simp only []
  rw [Bool.eq_iff_iff,beq_iff_eq,beq_iff_eq]
  omega
theorem Qvu {v m:Int} (h1:0<=v) (h2:v<=65535) (h3:0<=m) (h4:m<=65535) :
  ((IntKind.i64.wrap ((BitVec.ofInt IntKind.i64.bits v &&& ~~~BitVec.ofInt IntKind.i64.bits m).toNat:Int))==0)=((IntKind.i64.wrap ((BitVec.ofInt IntKind.i64.bits v &&& BitVec.ofInt IntKind.i64.bits m).toNat:Int))==v):=by
 obtain ⟨a,rfl⟩:=Int.eq_ofNat_of_zero_le h1
 obtain ⟨b,rfl⟩:=Int.eq_ofNat_of_zero_le h3
 have ha:a < 2 ^ 64:=by omega
 have hb:b < 2 ^ 64:=by omega
 have e1:(BitVec.ofInt IntKind.i64.bits (a:Int))=BitVec.ofNat 64 a:=by show BitVec.ofInt 64 (a:Int)=_;simp
 have e2:(BitVec.ofInt IntKind.i64.bits (b:Int))=BitVec.ofNat 64 b:=by show BitVec.ofInt 64 (b:Int)=_;simp
 have t1:(BitVec.ofInt IntKind.i64.bits (a:Int) &&& ~~~BitVec.ofInt IntKind.i64.bits (b:Int)).toNat=(BitVec.ofNat 64 a &&& ~~~BitVec.ofNat 64 b).toNat:=by rw [e1,e2];rfl
 have t2:(BitVec.ofInt IntKind.i64.bits (a:Int) &&& BitVec.ofInt IntKind.i64.bits (b:Int)).toNat=(BitVec.ofNat 64 a &&& BitVec.ofNat 64 b).toNat:=by rw [e1,e2];rfl
 rw [t1,t2]
 have IJ:(BitVec.ofNat 64 a).toNat=a:=by rw [BitVec.toNat_ofNat,Nat.mod_eq_of_lt ha]
 have l1:(BitVec.ofNat 64 a &&& ~~~BitVec.ofNat 64 b).toNat<=a:=by
  rw [BitVec.toNat_and,IJ];exact Nat.and_le_left
 have l2:(BitVec.ofNat 64 a &&& BitVec.ofNat 64 b).toNat<=a:=by
  rw [BitVec.toNat_and,IJ];exact Nat.and_le_left
 rw [wr (by omega) (by omega),wr (by omega) (by omega),Bool.eq_iff_iff,beq_iff_eq,beq_iff_eq]
 have key:(BitVec.ofNat 64 a &&& ~~~BitVec.ofNat 64 b)=0#64↔(BitVec.ofNat 64 a &&& BitVec.ofNat 64 b)=BitVec.ofNat 64 a:=by
  constructor
  .intro h
   apply BitVec.eq_of_getLsbD_eq
   intro i hi
   have:=congrArg (fun x=>x.getLsbD i) h
   simp only [BitVec.getLsbD_and,BitVec.getLsbD_not,BitVec.getLsbD_zero,hi,decide_true,Zg] at this ⊢
   revert this
   cases (BitVec.ofNat 64 a).getLsbD i<;>cases (BitVec.ofNat 64 b).getLsbD i<;>simp
  .intro h
   apply BitVec.eq_of_getLsbD_eq
   intro i hi
   have:=congrArg (fun x=>x.getLsbD i) h
   simp only [BitVec.getLsbD_and,BitVec.getLsbD_not,BitVec.getLsbD_zero,hi,decide_true,Zg] at this ⊢
   revert this
   cases (BitVec.ofNat 64 a).getLsbD i<;>cases (BitVec.ofNat 64 b).getLsbD i<;>simp
 constructor
 .intro h
  have h':(BitVec.ofNat 64 a &&& ~~~BitVec.ofNat 64 b)=0#64:=by apply BitVec.eq_of_toNat_eq;simp only [BitVec.toNat_ofNat];omega
  rw [key.1 h',IJ]
 .intro h
  have h':(BitVec.ofNat 64 a &&& BitVec.ofNat 64 b)=BitVec.ofNat 64 a:=by apply BitVec.eq_of_toNat_eq;rw [IJ];omega
  rw [key.2 h'];rfl
def zy (x:dR):Bool:=decide (1<=x.1/\x.1<=99/\0<=x.2.1/\x.2.1<=3/\0<=x.2.2.1/\x.2.2.1<=65535/\0<=x.2.2.2.1/\x.2.2.2.1<=65535)&&((IntKind.i64.wrap ((BitVec.ofInt IntKind.i64.bits x.2.2.2.1 &&& BitVec.ofInt IntKind.i64.bits x.2.2.1).toNat:Int))==x.2.2.2.1)
theorem Qms {d:Nat} {x:dR}:Fx (d+2) x=some (zy x):=by
 rw [SC];unfold zy
 simp only [vG,Q9,uG];congr 1;rw [Bool.eq_iff_iff];simp;omega
theorem Qen {d:Nat} {x:dR}:Gc (d+1) x=some (zy x):=by
 rw [Tl];unfold zy
 by_cases h:1<=x.1/\x.1<=99/\0<=x.2.1/\x.2.1<=3/\0<=x.2.2.1/\x.2.2.1<=65535/\0<=x.2.2.2.1/\x.2.2.2.1<=65535
 .obtain ⟨h1,h2,h3,h4,h5,h6,h7,h8⟩:=h
  rw [Z5 (show _/\_ from ⟨h1,h2,h3,h4,h5,h6,h7,h8⟩),Zg,Qvu h7 h8 h5 h6]
  simp only [uG]
  rw [if_pos (by simp;omega),if_pos (by simp;omega),if_pos (by simp;omega),if_pos (by simp;omega),if_pos (by simp;omega),if_pos (by simp;omega),if_pos (by simp;omega),if_pos (by simp;omega)]
 .rw [Z4 h,Bool.false_and]
  simp only [uG];congr 1
  rw [Bool.eq_false_iff]
  intro hc
  refine h ?_
  (repeat' split at hc)<;>simp_all
  all_goals omega
def zf5:dR:=(0,0,0,0,0)
def Gz (l:List dR) (i:Int):dR:=l.getD i.toNat zf5
theorem ZH {l:List dR} {n:Nat} {x:dR} (h:l[n]? = some x):Gz l (n:Int)=x:=by unfold Gz;rw [Q3,Zr,h];rfl
def DY (l:List aC) (fs:List dR) (x:dR) (i:Nat):Bool:=zy x&&((decide (i=0) || decide ((Gz fs ((i:Int) - 1)).1 < x.1))&&vH l x.2.2.2.2)
def vK (l:List aC) (fs:List dR):Bool:=eF (DY l fs) fs 0&&decide (fs.length<=16)
theorem Qcp {d:Nat} {c:Cf} (hl:c.2.1.length<=1000) (hf:c.2.2.1.length < 4000000):Ge (d+6) c=some (vK c.2.1 c.2.2.1):=by
 rw [Tm]
 refine (Qb (fun (t:Bool) (i:Int)=>(t,i)) c.2.2.1 (fun x i t k=>aa (DY c.2.1 c.2.2.1 x i) (k t) (some false)) (fun _=>some (decide (c.2.2.1.length<=16))) ?_ ?_ (by rw [Q6];omega) false).trans ?_
 .intro ag t i x hx;have hi:=(Z0 hx).1;simp only [p5,bW hx,nn,Q3,hx,Q9,Q4]
  rw [Qen,Q9]
  unfold je DY
  rw [aN (by omega)]
  cases zy x with
  | false=>rfl
  | true =>
   rw [Zl,Q5,Zg]
   by_cases h0:i=0
   .subst h0
    rw [Z4 (show ¬ ((0:Nat):Int) > 0 by omega),Q5,Ug hl,Q9]
    cases vH c.2.1 x.2.2.2.2<;>rfl
   .rw [Z5 (show (i:Int) > 0 by omega),Q4,II (by omega) (by omega),nn,Q4,Q3,Z6 (show i - 1 < c.2.2.1.length by omega),Q9,Z4 h0,Bool.false_or]
    rw [show (i:Int) - 1=((i - 1:Nat):Int) by omega,ZH (Z6 (show i - 1 < c.2.2.1.length by omega))]
    by_cases h:x.1<=(c.2.2.1[i - 1]).1
    .rw [Z5 h,Z4 (show ¬ (c.2.2.1[i - 1]).1 < x.1 by omega)];rfl
    .rw [Z4 h,Z5 (show (c.2.2.1[i - 1]).1 < x.1 by omega),Q5,Ug hl,Q9]
     cases vH c.2.1 x.2.2.2.2<;>rfl
 .intro ag t;simp only [p5,bB,Q5]
  unfold x_
  congr 1;rw [Bool.eq_iff_iff];simp;omega
 .rw [qp];unfold vK;cases eF (DY c.2.1 c.2.2.1) c.2.2.1 0<;>rfl
theorem Qjn {d:Nat} {c:Cf} (hl:c.2.1.length<=1000) (hf:c.2.2.1.length < 4000000):SD (d+4) c=some (vK c.2.1 c.2.2.1):=by
 rw [e78]
 refine (Qb (fun (t:Bool) (i:Int)=>(t,i)) c.2.2.1 (fun x i t k=>aa (DY c.2.1 c.2.2.1 x i) (k t) (some false)) (fun _=>some (decide (c.2.2.1.length<=16))) ?_ ?_ (by rw [Q6];omega) false).trans ?_
 .intro ag t i x hx;have hi:=(Z0 hx).1;simp only [xw,bW hx,nn,Q3,hx,Q9,Q4]
  rw [Qms,Q9]
  unfold nj DY
  rw [aN (by omega)]
  cases zy x with
  | false=>rfl
  | true =>
   rw [Zl,Q5,Zg]
   by_cases h0:i=0
   .subst h0
    rw [Z4 (show ¬ ((0:Nat):Int) > 0 by omega),Q5,Uh hl,Q9]
    cases vH c.2.1 x.2.2.2.2<;>rfl
   .rw [Z5 (show (i:Int) > 0 by omega),Q4,II (by omega) (by omega),nn,Q4,Q3,Z6 (show i - 1 < c.2.2.1.length by omega),Q9,Z4 h0,Bool.false_or]
    rw [show (i:Int) - 1=((i - 1:Nat):Int) by omega,ZH (Z6 (show i - 1 < c.2.2.1.length by omega))]
    by_cases h:(c.2.2.1[i - 1]).1>=x.1
    .rw [Z5 h,Z4 (show ¬ (c.2.2.1[i - 1]).1 < x.1 by omega)];rfl
    .rw [Z4 h,Z5 (show (c.2.2.1[i - 1]).1 < x.1 by omega),Q5,Uh hl,Q9]
     cases vH c.2.1 x.2.2.2.2<;>rfl
 .intro ag t;simp only [xw,bB,Q5]
  unfold DF
  congr 1;rw [Bool.eq_iff_iff];simp;omega
 .rw [qp];unfold vK;cases eF (DY c.2.1 c.2.2.1) c.2.2.1 0<;>rfl
def kE (l:List aC):Bool:=decide (1<=l.length/\l.length<=24)&&(qZ l&&(decide (uI l=1)&&(DW l&&(eF (fun _ i=>vJ l i) l 0&&(l.all lW&&(l.all (nI l)&&(l.all mJ&&l.all (nJ l))))))))
def GA (c:Cf):Bool:=c.2.2.2==0 || vH c.2.1 c.2.2.2
def ga (c:Cf):Bool:=AQ c.1&&(kE c.2.1&&(vK c.2.1 c.2.2.1&&GA c))
theorem ZI {l:List aC} (h:l.all lW=true):K8 l:=by
 intro x hx
 have:=Z3 h x hx
 unfold lW at this
 simp only [Zj] at this
 omega
theorem Qs9 {d:Nat} {c:Cf} (hl:c.2.1.length<=1000):ua (d+7) c 5=some (c.2.1.all lW):=by
 rw [show d+7=(d+3)+4 by omega,AM]
 simp only [Int.reduceBEq,Q4,Q5]
 refine (Qb (fun (t:Int) (i:Int)=>(t,i)) c.2.1 (fun x i t k=>aa (lW x) (k t) (some false)) (fun _=>some true) ?_ ?_ (by rw [Q6];omega) 0).trans ?_
 .intro ag t i x hx;have hi:=(Z0 hx).1;simp only [eL,bW hx,nn,Q3,hx,Q9,Q4];rw [aN (by omega)]
  rw [Qjm,Q9]
  cases lW x<;>rfl
 .intro ag t;simp only [eL,bB,Q5];rfl
 .rw [BZ];cases c.2.1.all _<;>rfl
theorem Qsa {d:Nat} {c:Cf} (hl:c.2.1.length<=1000):ua (d+7) c 7=some (c.2.1.all mJ):=by
 rw [show d+7=(d+3)+4 by omega,AM]
 simp only [Int.reduceBEq,Q4,Q5]
 refine (Qb (fun (t:Int) (i:Int)=>(t,i)) c.2.1 (fun x i t k=>aa (mJ x) (k t) (some false)) (fun _=>some true) ?_ ?_ (by rw [Q6];omega) 0).trans ?_
 .intro ag t i x hx;have hi:=(Z0 hx).1;simp only [ef,bW hx,nn,Q3,hx,Q9,Q4];rw [aN (by omega)]
  rw [Qgs,Q9]
  cases mJ x<;>rfl
 .intro ag t;simp only [ef,bB,Q5];rfl
 .rw [BZ];cases c.2.1.all _<;>rfl
theorem Qsb {d:Nat} {c:Cf} (hl:c.2.1.length<=1000):ua (d+7) c 8=some (c.2.1.all (nJ c.2.1)):=by
 rw [show d+7=(d+3)+4 by omega,AM]
 simp only [Int.reduceBEq,Q4,Q5]
 refine (Qb (fun (t:Bool) (i:Int)=>(t,i)) c.2.1 (fun x i t k=>aa (nJ c.2.1 x) (k t) (some false)) (fun _=>some true) ?_ ?_ (by rw [Q6];omega) false).trans ?_
 .intro ag t i x hx
  have hi:=(Z0 hx).1
  simp only [ya,bW hx,Q4]
  rw [show d+3+3=(d+1)+5 by omega,Qgt hx hl,Q9,aN (by omega)]
  cases nJ c.2.1 x<;>rfl
 .intro ag t;simp only [ya,bB,Q5];rfl
 .rw [BZ];cases c.2.1.all _<;>rfl
theorem Yy {d:Nat} {c:Cf} (hl:c.2.1.length < 4000000) (hf:c.2.2.1.length < 4000000):Oc (d+8) c=some (ga c):=by
 rw [e43]
 unfold ye
 by_cases h1:c.2.1.length<=24
 case neg =>
  rw [Z5 (show ((c.2.1.length:Nat):Int) > 24 by omega),Q4,Q4]
  unfold ga kE
  rw [Z4 (show ¬ (1<=c.2.1.length/\c.2.1.length<=24) by omega)];simp
 rw [Z4 (show ¬ ((c.2.1.length:Nat):Int) > 24 by omega),Q5]
 by_cases h2:c.2.2.1.length<=16
 case neg =>
  rw [Z5 (show ((c.2.2.1.length:Nat):Int) > 16 by omega),Q4]
  unfold ga vK
  rw [Z4 h2];simp
 rw [Z4 (show ¬ ((c.2.2.1.length:Nat):Int) > 16 by omega),Q5]
 have st:∀ (f:Nat) (k:Int) (b:Bool),0<=k->k<=10->ua (d+7) c k=some b->Q8 (ff (d+7) c (gh (d+7))) (f+1) (false,k)=aa b (Q8 (ff (d+7) c (gh (d+7))) f (false,k+1)) (some false):=by
  intro f k b IK hk hb
  rw [show Q8 (ff (d+7) c (gh (d+7))) (f+1) (false,k)=ff (d+7) c (gh (d+7)) (Q8 (ff (d+7) c (gh (d+7))) f) (false,k) from rfl]
  simp only [ff]
  rw [Z5 hk,Q4,hb,Q9,wr (by omega) (by omega)]
  cases b<;>rfl
 obtain ⟨f,hfu⟩:∃ f,Qd=f+11:=⟨4194293,Q6⟩
 have H1:ua (d+7) c 1=some (AQ c.1):=by
  rw [show d+7=(d+3)+4 by omega,AM];simp only [Int.reduceBEq,Q4];rw [show d+3+3=(d+4)+2 by omega,Qs6,Q9]
 have H2:ua (d+7) c 2=some (qZ c.2.1&&decide (1<=c.2.1.length/\c.2.1.length<=24)):=by
  rw [show d+7=(d+3)+4 by omega,AM];simp only [Int.reduceBEq,Q4,Q5];rw [show d+3+3=(d+4)+2 by omega,Qmp hl,Q9]
 have H3:ua (d+7) c 3=some (decide (uI c.2.1=1)&&DW c.2.1):=by
  rw [show d+7=(d+3)+4 by omega,AM];simp only [Int.reduceBEq,Q4,Q5];rw [show d+3+3=(d+1)+5 by omega,Qco (by omega),Q9]
 have H4:ua (d+7) c 4=some (eF (fun _ i=>vJ c.2.1 i) c.2.1 0):=by
  rw [show d+7=(d+3)+4 by omega,AM];simp only [Int.reduceBEq,Q4,Q5];rw [show d+3+3=(d+1)+5 by omega,Qjl h1,Q9]
 have H5:=Qs9 (d:=d) (c:=c) (by omega)
 have H7:=Qsa (d:=d) (c:=c) (by omega)
 have H8:=Qsb (d:=d) (c:=c) (by omega)
 have H9:ua (d+7) c 9=some (vK c.2.1 c.2.2.1):=by
  rw [show d+7=(d+3)+4 by omega,AM];simp only [Int.reduceBEq,Q4,Q5];rw [Qcp (by omega) hf,Q9]
 have H10:ua (d+7) c 10=some (GA c):=by
  rw [show d+7=(d+3)+4 by omega,AM];simp only [Int.reduceBEq,Q5];unfold GA
  cases (c.2.2.2==0) with
  | true=>rfl
  | false=>rw [Q5,show d+3+3=(d+1)+5 by omega,Ug (by omega),Q9];rfl
 unfold ga kE
 rw [hfu,st _ _ _ (by omega) (by omega) H1]
 cases AQ c.1 with
 | false=>rfl
 | true =>
 rw [Q4,Zg,show (1:Int)+1=2 from rfl,st _ _ _ (by omega) (by omega) H2]
 cases decide (1<=c.2.1.length/\c.2.1.length<=24) with
 | false=>rw [Bool.and_false];rfl
 | true =>
 rw [Bool.and_true]
 cases qZ c.2.1 with
 | false=>rfl
 | true =>
 rw [Q4,Zg,Zg,show (2:Int)+1=3 from rfl,st _ _ _ (by omega) (by omega) H3]
 cases decide (uI c.2.1=1) with
 | false=>rfl
 | true =>
 cases DW c.2.1 with
 | false=>rfl
 | true =>
 rw [Zg,Q4,Zg,show (3:Int)+1=4 from rfl,st _ _ _ (by omega) (by omega) H4]
 cases eF (fun _ i=>vJ c.2.1 i) c.2.1 0 with
 | false=>rfl
 | true =>
 rw [Q4,Zg,show (4:Int)+1=5 from rfl,st _ _ _ (by omega) (by omega) H5]
 cases hr:c.2.1.all lW with
 | false=>rfl
 | true =>
 have bn:=ZI hr
 have H6:ua (d+7) c 6=some (c.2.1.all (nI c.2.1)):=by
  rw [show d+7=(d+3)+4 by omega,AM];simp only [Int.reduceBEq,Q4,Q5]
  rw [show d+3+3=(d+2)+4 by omega,Qa8 (by omega),Q9,show (c.2.1.all fun x=>decide (0<=x.2.2.1/\x.2.2.1<=1000000000))=true from List.all_eq_true.2 (fun x hx=>Z5 (bn x hx)),Q4]
  obtain ⟨r,g1,g2⟩:=Qmr (d:=d+3) h1 bn
  rw [show d+2+4=d+3+3 by omega,g1,Q9,g2]
 rw [Q4,Zg,show (5:Int)+1=6 from rfl,st _ _ _ (by omega) (by omega) H6]
 cases c.2.1.all (nI c.2.1) with
 | false=>rfl
 | true =>
 rw [Q4,Zg,show (6:Int)+1=7 from rfl,st _ _ _ (by omega) (by omega) H7]
 cases c.2.1.all mJ with
 | false=>rfl
 | true =>
 rw [Q4,Zg,show (7:Int)+1=8 from rfl,st _ _ _ (by omega) (by omega) H8]
 cases c.2.1.all (nJ c.2.1) with
 | false=>rfl
 | true =>
 rw [Q4,Zg,show (8:Int)+1=9 from rfl,st _ _ _ (by omega) (by omega) H9]
 cases vK c.2.1 c.2.2.1 with
 | false=>rfl
 | true =>
 rw [Q4,Zg,show (9:Int)+1=10 from rfl,st _ _ _ (by omega) (by omega) H10]
 cases GA c with
 | false=>rfl
 | true =>
 rw [Q4,show Q8 (ff (d+7) c (gh (d+7))) (f+1) (false,(10:Int)+1)=ff (d+7) c (gh (d+7)) (Q8 (ff (d+7) c (gh (d+7))) f) (false,11) from rfl]
 simp only [ff]
 rw [Z4 (show ¬ (11:Int)<=10 by omega),Q5];rfl
theorem ZJ {α τ β:Type} {p:α->Nat->Bool} {f:α->Nat->τ->τ} {no:Option β} {fin:τ->Option β}:∀ (l:List α) (i:Nat) (t:τ),dY (fun x i t k=>aa (p x i) (k (f x i t)) no) fin l i t=aa (eF p l i) (fin (cD f l i t)) no
 | [],i,t=>rfl
 | x::r,i,t=>by
  simp only [dY,eF,cD]
  cases p x i with
  | true=>simp only [Q4,Zg];exact ZJ r (i+1) (f x i t)
  | false=>rfl
theorem ZK {α σ τ:Type} {f:α->Nat->τ->τ}:∀ (l:List α) (i:Nat) (a:σ) (t:τ),cD (fun x i (s:σ×τ)=>(s.1,f x i s.2)) l i (a,t)=(a,cD f l i t)
 | [],_,_,_=>rfl
 | x::r,i,a,t=>by simp only [cD];exact ZK r (i+1) a (f x i t)
theorem Qsc {d:Nat} {c:Cf} (h0:1<=c.2.1.length) (h1:c.2.1.length<=24):SB (d+3) c=some (kE c.2.1):=by
 rw [e77]
 refine (Qb (fun (t:Bool×Int) (i:Int)=>(t.1,t.2,i)) c.2.1 (fun x i t k=>aa (zx c.2.1 x i&&(lW x&&mJ x)) (k (t.1,(if (x.2.1==0)=true then IntKind.i64.wrap (t.2+1) else t.2))) (some false)) (fun t=>xm (d+2) c t.1 t.2) ?_ ?_ (by rw [Q6];omega) (false,0)).trans ?_
 .intro ag t i x hx;have hi:=(Z0 hx).1;simp only [xq,bW hx,nn,Q3,hx,Q9,Q4]
  rw [Qou,Q9]
  unfold rF zx
  rw [aN (by omega)]
  cases decide (1<=x.1/\x.1<=999) with
  | false=>rfl
  | true =>
  cases (lW x&&mJ x) with
  | false=>rw [Bool.and_false,Bool.and_false];rfl
  | true =>
   rw [Bool.and_true,Zl,Q5,Zg,Bool.and_true]
   by_cases h0:i=0
   .subst h0
    rw [Z4 (show ¬ ((0:Nat):Int) > 0 by omega),Q5,Q5]
    cases (x.2.1==0)<;>rfl
   .rw [Z5 (show (i:Int) > 0 by omega),Q4,II (by omega) (by omega),nn,Q4,Q3,Z6 (show i - 1 < c.2.1.length by omega),Q9,Z4 h0,Bool.false_or]
    rw [show (i:Int) - 1=((i - 1:Nat):Int) by omega,kK (Z6 (show i - 1 < c.2.1.length by omega))]
    by_cases h:(c.2.1[i - 1]).1>=x.1
    .rw [Z5 h,Z4 (show ¬ (c.2.1[i - 1]).1 < x.1 by omega)];rfl
    .rw [Z4 h,Z5 (show (c.2.1[i - 1]).1 < x.1 by omega),Q5]
     cases (x.2.1==0)<;>rfl
 .intro ag t;simp only [xq,bB,Q5]
 .rw [ZJ (f:=fun (x:aC) _ (t:Bool×Int)=>(t.1,(if (x.2.1==0)=true then IntKind.i64.wrap (t.2+1) else t.2))),Zz,Ui (p:=fun x=>lW x&&mJ x),ZK (f:=fun (x:aC) _ (t:Int)=>if (x.2.1==0)=true then IntKind.i64.wrap (t+1) else t)]
  have:=OA (p:=fun x:aC=>x.2.1==0) c.2.1 0 0 (by omega)
  rw [show ((0:Nat):Int)=0 from rfl] at this
  rw [this,Zo]
  unfold xm
  rw [show (c.2.1.filter fun x=>x.2.1==0).length=uI c.2.1 from rfl]
  have kJ:(c.2.1.all fun x=>lW x&&mJ x)=(c.2.1.all lW&&c.2.1.all mJ):=by
   rw [Bool.eq_iff_iff];simp only [List.all_eq_true,Z8]
   exact ⟨fun h=>⟨fun x hx=>(h x hx).1,fun x hx=>(h x hx).2⟩,fun h x hx=>⟨h.1 x hx,h.2 x hx⟩⟩
  rw [kJ]
  unfold kE qZ
  rw [Z5 (show 1<=c.2.1.length/\c.2.1.length<=24 from ⟨h0,h1⟩),Zg]
  cases eF (zx c.2.1) c.2.1 0 with
  | false=>rfl
  | true =>
  cases hr:c.2.1.all lW with
  | false=>simp [Q5]
  | true =>
  cases c.2.1.all mJ with
  | false=>simp [Q5]
  | true =>
  have bn:=ZI hr
  rw [Zg,Zg,Q4]
  by_cases ht:uI c.2.1=1
  case neg=>rw [show ((((uI c.2.1:Nat):Int)) != 1)=true by simp;omega,Q4,Z4 ht];simp
  rw [show ((((uI c.2.1:Nat):Int)) != 1)=false by simp;omega,Q5,Z5 ht]
  refine (Qb (fun (t:Bool) (i:Int)=>(t,i)) c.2.1 (fun x i t k=>aa (vJ c.2.1 i&&(nI c.2.1 x&&nJ c.2.1 x)) (k t) (some false)) (fun _=>some true) ?_ ?_ (by rw [Q6];omega) false).trans ?_
  .intro ag t i x hx
   have hi:=(Z0 hx).1
   simp only [xk,bW hx,nn,Q3,hx,Q9,Q4]
   rw [Qyj hi h1,Q9]
   have tail:∀ b1 b2 b3:Bool,j5 (d+2) c ag t (i:Int) x b1 b2 b3 false=aa (nJ c.2.1 x) (ag (t,((i+1:Nat):Int))) (some false):=by
    intro b1 b2 b3
    unfold j5
    rw [Q5]
    simp only [Zy hx (show c.2.1.length<=1000 by omega),Q9,vG]
    unfold j4 nJ
    rw [aN (by omega)]
    cases ic c.2.1 x.1 with
    | true =>
     simp only [Q4,Zl,Q5,if_true]
     by_cases h:1<=x.2.2.2.2.2.2.2/\x.2.2.2.2.2.2.2<=60
     .rw [Z5 h];rfl
     .rw [Z4 h];rfl
    | false =>
     simp only [Q4,Bool.not_false,Q5,Bool.false_eq_true,if_false]
     by_cases h:x.2.2.2.2.2.2.2=0
     .rw [show (x.2.2.2.2.2.2.2 != 0)=false by simp [h],show (x.2.2.2.2.2.2.2==0)=true by simp [h]];rfl
     .rw [show (x.2.2.2.2.2.2.2 != 0)=true by simp [h],show (x.2.2.2.2.2.2.2==0)=false by simp [h]];rfl
   have bad:∀ b1 b2 b3:Bool,j5 (d+2) c ag t (i:Int) x b1 b2 b3 true=some false:=fun b1 b2 b3=>rfl
   unfold vJ
   by_cases h8:(cM c.2.1 9 (i:Int)).length<=8
   case neg=>rw [Z5 (show (((cM c.2.1 9 (i:Int)).length:Nat):Int) > 8 by omega),Q4,bad,Z4 h8];rfl
   have eM:0 < (cM c.2.1 9 (i:Int)).length:=by rw [Uj (by omega)];simp
   rw [Z4 (show ¬ (((cM c.2.1 9 (i:Int)).length:Nat):Int) > 8 by omega),Q5,Z5 h8,Zg,II (by omega) (by omega),nn,Q4,Q3,Qp (by omega),Q4]
   obtain ⟨m1,m2⟩:=ZD eM
   obtain ⟨q1,q2⟩:=Uk 9 (i:Int) (by omega) _ m1
   rw [m2,Q9,Z5 q1,Q4,Gy q1 q2,Q9]
   by_cases h:(aW c.2.1 (nG (cM c.2.1 9 (i:Int)))).2.1=0
   case neg=>rw [show ((aW c.2.1 (nG (cM c.2.1 9 (i:Int)))).2.1 != 0)=true by simp [h],Q4,bad,show ((aW c.2.1 (nG (cM c.2.1 9 (i:Int)))).2.1==0)=false by simp [h]];rfl
   rw [show ((aW c.2.1 (nG (cM c.2.1 9 (i:Int)))).2.1 != 0)=false by simp [h],Q5,show ((aW c.2.1 (nG (cM c.2.1 9 (i:Int)))).2.1==0)=true by simp [h],Zg,Qot hx h1 bn,Q9]
   unfold nI
   by_cases hs:B3 c.2.1 x.1<=x.2.2.1
   .rw [Z5 hs,Z4 (show ¬ x.2.2.1 - B3 c.2.1 x.1 < 0 by omega),tail,Zg]
   .rw [Z4 hs,Z5 (show x.2.2.1 - B3 c.2.1 x.1 < 0 by omega),bad];rfl
  .intro ag t;simp only [xk,bB,Q5];rfl
  .rw [qp,Zz,Ui (p:=fun x=>nI c.2.1 x&&nJ c.2.1 x)]
   have zA:(c.2.1.all fun x=>nI c.2.1 x&&nJ c.2.1 x)=(c.2.1.all (nI c.2.1)&&c.2.1.all (nJ c.2.1)):=by
    rw [Bool.eq_iff_iff];simp only [List.all_eq_true,Z8]
    exact ⟨fun h=>⟨fun x hx=>(h x hx).1,fun x hx=>(h x hx).2⟩,fun h x hx=>⟨h.1 x hx,h.2 x hx⟩⟩
   rw [zA]
   have Um:eF (fun _ i=>vJ c.2.1 i) c.2.1 0=true->DW c.2.1=true:=by
    intro hw
    rw [rU] at hw
    unfold DW
    rw [List.all_eq_true]
    intro x hx
    obtain ⟨i,hi⟩:=List.getElem?_of_mem hx
    have h1:=hw i x hi
    rw [Zo] at h1
    unfold vJ at h1
    simp only [Z8,Zj,beq_iff_eq] at h1
    obtain ⟨w1,w2⟩:=h1
    have e:=OC (l:=c.2.1) (i:=(i:Int)) (by omega) w1
    rw [kK hi] at e
    by_cases hn:0<=bU c.2.1 x.2.1
    .simp [hn]
    .have e2:cM c.2.1 9 (bU c.2.1 x.2.1)=[]:=by simp only [cM];rw [if_pos (by omega)]
     rw [e,e2] at w2
     rw [show nG [(i:Int)]=(i:Int) from rfl,kK hi] at w2
     simp [w2]
   cases hw:eF (fun _ i=>vJ c.2.1 i) c.2.1 0 with
   | false=>simp [Q5]
   | true =>
    rw [Um hw]
    cases c.2.1.all (nI c.2.1)<;>cases c.2.1.all (nJ c.2.1)<;>rfl
theorem Yz {d:Nat} {c:Cf} (hs:c.1.size < 4000000) (hf:c.2.2.1.length < 4000000):N8 (d+5) c=some (ga c):=by
 rw [e36,show d+4=(d+1)+3 by omega,Qs7 hs,Q9]
 unfold ga
 cases AQ c.1 with
 | false=>rfl
 | true =>
 rw [Q4,show d+1+3=(d+3)+1 by omega,vG,Q9,Zg]
 by_cases h:1<=c.2.1.length/\c.2.1.length<=24
 case neg =>
  rw [Z4 (show ¬ ((1:Int)<=((c.2.1.length:Nat):Int)/\((c.2.1.length:Nat):Int)<=24) by omega),Q5]
  unfold kE
  rw [Z4 h];rfl
 rw [Z5 (show (1:Int)<=((c.2.1.length:Nat):Int)/\((c.2.1.length:Nat):Int)<=24 by omega),Q4,show d+3+1=(d+1)+3 by omega,Qsc h.1 h.2,Q9]
 cases kE c.2.1 with
 | false=>rfl
 | true =>
 rw [Q4,show d+1+3=d+4 by omega,Qjn (by omega) hf,Q9,Zg]
 cases vK c.2.1 c.2.2.1 with
 | false=>rfl
 | true =>
 rw [Q4,Zg]
 unfold GA
 cases (c.2.2.2==0) with
 | true=>rfl
 | false=>rw [Q5,show d+4=(d+1)+3 by omega,Uh (by omega),Q9,Bool.false_or]
theorem Qvw {l:List aC} {f:Nat} {i:Int} (h:i < 0):cM l f i=[]:=by
 cases f with
 | zero=>rfl
 | succ f=>simp only [cM];rw [if_pos h]
def bN (l:List aC) (i:Int):Int:=bU l (aW l i).2.1
def cg (l:List aC) (i:Int):List Int:=nF l (aW l i).1
def fS (l:List aC) (i:Int):Nat:=(cM l 9 i).length
def vI (l:List aC) (i:Int):Prop:=0<=i/\i < ((l.length:Nat):Int)
structure Tr (l:List aC):Prop where
 n1:1<=l.length
 fE:l.length<=24
 inj:∀ i j,vI l i->vI l j->(aW l i).1=(aW l j).1->i=j
 pos:∀ i,vI l i->1<=(aW l i).1
 top:∃ t,vI l t/\(aW l t).2.1=0/\∀ j,vI l j->(aW l j).2.1=0->j=t
 GB:∀ i,vI l i->fS l i<=8/\(aW l (nG (cM l 9 i))).2.1=0
theorem fu {l:List aC} {i:Int} (h:vI l i):l[i.toNat]? = some (aW l i):=Gy h.1 h.2
theorem Dd {l:List aC} {k:Nat} {x:aC} (h:l[k]? = some x):vI l (k:Int):=by
 have:=(Z0 h).1
 exact ⟨by omega,by omega⟩
theorem Qyk {l:List aC} {i:Int}:bN l i < ((l.length:Nat):Int):=BB
theorem GC {l:List aC} {i:Int} (h:0<=bN l i):vI l (bN l i):=⟨h,Qyk⟩
theorem Qyl {l:List aC} {i:Int} (h:0<=bN l i):(aW l (bN l i)).1=(aW l i).2.1:=by
 obtain ⟨k,x,h1,h2,h3⟩:=By h
 unfold bN
 rw [h1,kK h2,h3]
theorem Qym {l:List aC} (T:Tr l) {i:Int} (h:vI l i):bU l (aW l i).1=i:=by
 by_cases h0:0<=bU l (aW l i).1
 .obtain ⟨k,x,h1,h2,h3⟩:=By h0
  rw [h1]
  refine T.inj _ _ (Dd h2) h ?_
  rw [kK h2,h3]
 .have:=(Ud (l:=l) (id:=(aW l i).1)).1 (by omega) (aW l i) (Zc (fu h))
  exact absurd rfl this
theorem ZL {α γ:Type} {c:α->Nat->Bool} {e:α->Nat->γ}:∀ (l:List α) (i j:Nat) (x:α),l[j]? = some x->c x (i+j)=true->e x (i+j)∈fK c e l i
 | [],i,j,x,h,_=>by simp at h
 | y::r,i,0,x,h,hc=>by
  simp only [List.getElem?_cons_zero,Option.some.injEq] at h
  subst h
  simp only [Nat.add_zero] at hc
  simp only [fK,if_pos hc,Nat.add_zero];simp
 | y::r,i,j+1,x,h,hc=>by
  have:=ZL (c:=c) (e:=e) r (i+1) j x (by simpa using h) (by rw [show i+1+j=i+(j+1) by omega];exact hc)
  rw [show i+1+j=i+(j+1) by omega] at this
  simp only [fK]
  split
  .exact List.mem_cons_of_mem _ this
  .exact this
theorem ZM {α:Type} {c:α->Nat->Bool}:∀ (l:List α) (i:Nat),(fK c (fun _ k=>((k:Nat):Int)) l i).Pairwise (· < ·)/\∀ x∈fK c (fun _ k=>((k:Nat):Int)) l i,(i:Int)<=x
 | [],i=>by simp [fK]
 | y::r,i=>by
  obtain ⟨h1,h2⟩:=ZM (c:=c) r (i+1)
  simp only [fK]
  split
  .refine ⟨List.pairwise_cons.2 ⟨fun x hx=>by have:=h2 x hx;omega,h1⟩,fun x hx=>?_⟩
   rcases Z2 hx with rfl | hx
   .omega
   .have:=h2 x hx;omega
  .exact ⟨h1,fun x hx=>by have:=h2 x hx;omega⟩
theorem K9 {l:List aC} {i:Int}:(cg l i).Pairwise (· < ·):=(ZM l 0).1
theorem AS {l:List aC} (T:Tr l) {i k:Int} (h:vI l i):k∈cg l i↔vI l k/\bN l k=i:=by
 constructor
 .intro hk
  obtain ⟨j,x,rfl,h2,h3⟩:=Zw hk
  refine ⟨Dd h2,?_⟩
  unfold bN
  rw [kK h2,h3,Qym T h]
 .rintro ⟨hk,rfl⟩
  have e:=Qyl h.1
  have hg:=fu hk
  have hm:=ZL (c:=fun x _=>x.2.1==(aW l (bN l k)).1) (e:=fun _ j=>((j:Nat):Int)) l 0 k.toNat _ hg (by rw [e];simp)
  rw [Zo,Int.toNat_of_nonneg hk.1] at hm
  exact hm
theorem IL {l:List aC} {i:Int} (h:vI l i):1<=fS l i:=by unfold fS;rw [Uj h.1];simp
theorem GD {l:List aC} (T:Tr l) {i:Int} (h:vI l i):fS l i=1+fS l (bN l i):=by
 have:=OC h.1 (T.GB i h).1
 unfold fS
 rw [this,Z9]
 unfold bN;omega
theorem qq {l:List aC} (T:Tr l) {i k:Int} (h:vI l i) (hk:k∈cg l i):vI l k/\bN l k=i/\fS l k=1+fS l i:=by
 obtain ⟨h1,h2⟩:=(AS T h).1 hk
 exact ⟨h1,h2,by rw [GD T h1,h2]⟩
theorem Qyn {l:List aC} (T:Tr l) {i:Int} (h:vI l i) (hp:bN l i < 0):(aW l i).2.1=0:=by
 have e:=OC h.1 (T.GB i h).1
 have e2:cM l 9 (bU l (aW l i).2.1)=[]:=Qvw hp
 have:=(T.GB i h).2
 rw [e,e2] at this
 exact this
def jB (l:List aC):Int:=fe (fun x:aC=>x.2.1==0) l 0
theorem GF {l:List aC} (T:Tr l):vI l (jB l)/\(aW l (jB l)).2.1=0/\bN l (jB l) < 0/\∀ j,vI l j->bN l j < 0->j=jB l:=by
 obtain ⟨t,t1,t2,t3⟩:=T.top
 have h0:0<=jB l:=by
  unfold jB
  rcases Int.lt_or_le (fe (fun x:aC=>x.2.1==0) l 0) 0 with h | h
  .have:=Kg.1 h (aW l t) (Zc (fu t1))
   simp [t2] at this
  .exact h
 obtain ⟨k,x,h1,h2,h3,_⟩:=IG h0
 have e:jB l=(k:Int):=by unfold jB;rw [h1];simp
 have hv:vI l (jB l):=by rw [e];exact Dd h2
 have hz:(aW l (jB l)).2.1=0:=by rw [e,kK h2];simpa using h3
 have hp:bN l (jB l) < 0:=by
  unfold bN
  rw [hz,Ud]
  intro y hy
  obtain ⟨i,hi⟩:=List.getElem?_of_mem hy
  have:=T.pos _ (Dd hi)
  rw [kK hi] at this;omega
 exact ⟨hv,hz,hp,fun j hj hjp=>by rw [t3 j hj (Qyn T hj hjp),t3 _ hv hz]⟩
def de (l:List aC):Nat->Int->List Int
 | 0,_=>[]
 | f+1,i=>i::(cg l i).flatMap (de l f)
def K_ (l:List aC):Nat->Int->Int
 | 0,x=>x
 | k+1,x=>bN l (K_ l k x)
theorem DZ {l:List aC} (T:Tr l):∀ (f:Nat) (a x:Int),vI l a->x∈de l f a->vI l x/\fS l a<=fS l x/\K_ l (fS l x - fS l a) x=a/\(x≠a->fS l a < fS l x)
 | 0,a,x,_,h=>by simp [de] at h
 | f+1,a,x,ha,h=>by
  simp only [de,List.mem_cons,List.mem_flatMap] at h
  rcases h with rfl | ⟨c,hc,hx⟩
  .exact ⟨ha,Zd _,by rw [Nat.sub_self];rfl,fun h=>absurd rfl h⟩
  .obtain ⟨c1,c2,c3⟩:=qq T ha hc
   obtain ⟨x1,x2,x3,_⟩:=DZ T f c x c1 hx
   refine ⟨x1,by omega,?_,fun _=>by omega⟩
   rw [show fS l x - fS l a=(fS l x - fS l c)+1 by omega]
   show bN l _=a
   rw [x3,c2]
theorem Qsd {l:List aC} (T:Tr l) {f g:Nat} {a b x:Int} (ha:vI l a) (hb:vI l b) (hd:fS l a=fS l b) (h1:x∈de l f a) (h2:x∈de l g b):a=b:=by
 have e1:=(DZ T f a x ha h1).2.2.1
 have e2:=(DZ T g b x hb h2).2.2.1
 rw [<- e1,<- e2,hd]
theorem Un {l:List aC} (T:Tr l):∀ (f:Nat) (a x:Int),vI l a->x∈de l f a->x≠a->bN l x∈de l f a
 | 0,a,x,_,h,_=>by simp [de] at h
 | f+1,a,x,ha,h,aU=>by
  simp only [de,List.mem_cons,List.mem_flatMap] at h ⊢
  rcases h with rfl | ⟨c,hc,hx⟩
  .exact absurd rfl aU
  .obtain ⟨c1,c2,c3⟩:=qq T ha hc
   by_cases GG:x=c
   .left;rw [GG,c2]
   .right;exact ⟨c,hc,Un T f c x c1 hx GG⟩
theorem Uo {l:List aC} (T:Tr l):∀ (f:Nat) (a:Int),vI l a->(de l f a).Pairwise fun x y=>bN l x=bN l y->x < y
 | 0,a,_=>by simp [de]
 | f+1,a,ha=>by
  simp only [de]
  rw [List.pairwise_cons]
  constructor
  .intro y hy hp
   obtain ⟨c,hc,hx⟩:=List.mem_flatMap.1 hy
   obtain ⟨c1,c2,c3⟩:=qq T ha hc
   obtain ⟨x1,x2,_,_⟩:=DZ T f c y c1 hx
   have e1:=GD T ha
   have e2:=GD T x1
   rw [hp] at e1
   omega
  .rw [List.pairwise_flatMap]
   refine ⟨fun c hc=>Uo T f c (qq T ha hc).1,?_⟩
   refine List.Pairwise.imp_of_mem ?_ K9
   intro c1 c2 hc1 Br au x hx y hy hp
   obtain ⟨v1,p1,d1⟩:=qq T ha hc1
   obtain ⟨v2,p2,d2⟩:=qq T ha Br
   obtain ⟨x1,x2,x3,x4⟩:=DZ T f c1 x v1 hx
   obtain ⟨y1,y2,y3,y4⟩:=DZ T f c2 y v2 hy
   have ex:=GD T x1
   have ey:=GD T y1
   rw [hp] at ex
   by_cases GG:x=c1
   .by_cases La:y=c2
    .rw [GG,La];exact au
    .have:=y4 La;rw [GG] at ex;omega
   .have h1:=Un T f c1 x v1 hx GG
    by_cases La:y=c2
    .have:=x4 GG;rw [<- La] at d2;omega
    .have h2:=Un T f c2 y v2 hy La
     rw [hp] at h1
     have:=Qsd T v1 v2 (by omega) h1 h2
     omega
theorem ZN {l:List aC} (T:Tr l):∀ (f:Nat) (a x k:Int),vI l a->9 - fS l a<=f->x∈de l f a->k∈cg l x->k∈de l f a
 | 0,a,x,k,_,_,h,_=>by simp [de] at h
 | f+1,a,x,k,ha,hf,h,hk=>by
  simp only [de,List.mem_cons,List.mem_flatMap] at h ⊢
  rcases h with rfl | ⟨c,hc,hx⟩
  .right
   obtain ⟨c1,c2,c3⟩:=qq T ha hk
   have:=(T.GB k c1).1
   obtain ⟨g,rfl⟩:∃ g,f=g+1:=⟨f - 1,by omega⟩
   exact ⟨k,hk,by simp [de]⟩
  .right
   obtain ⟨c1,c2,c3⟩:=qq T ha hc
   exact ⟨c,hc,ZN T f c x k c1 (by omega) hx hk⟩
theorem ZO {l:List aC} (T:Tr l):∀ (f g:Nat) (a:Int),vI l a->9 - fS l a<=f->f<=g->de l g a=de l f a
 | 0,g,a,ha,hf,_=>by have:=(T.GB a ha).1;unfold fS at *;omega
 | f+1,0,a,_,_,hg=>by omega
 | f+1,g+1,a,ha,hf,hg=>by
  simp only [de]
  congr 1
  have:∀ c∈cg l a,de l g c=de l f c:=fun c hc=>by
   obtain ⟨c1,c2,c3⟩:=qq T ha hc
   exact ZO T f g c c1 (by omega) (by omega)
  have key:∀ L:List Int,(∀ c∈L,de l g c=de l f c)->L.flatMap (de l g)=L.flatMap (de l f):=by
   intro L
   induction L with
   | nil=>intro _;rfl
   | cons c L ih=>intro h;rw [List.flatMap_cons,List.flatMap_cons,h c (by simp),ih (fun x hx=>h x (by simp [hx]))]
  exact key _ this
def iK (l:List aC) (i:Int):List Int:=de l 8 i
theorem IM {l:List aC} (T:Tr l) {i:Int} (h:vI l i):iK l i=i::(cg l i).flatMap (iK l):=by
 have:=IL h
 have e:=ZO T 8 9 i h (by omega) (by omega)
 unfold iK
 rw [<- e]
 rfl
def aG (l:List aC):List Int:=iK l (jB l)
theorem ZP {l:List aC} (T:Tr l):∀ (m:Nat) (x:Int),fS l x<=m->vI l x->x∈aG l
 | 0,x,hm,hx=>by have:=IL hx;omega
 | m+1,x,hm,hx=>by
  obtain ⟨t1,t2,t3,t4⟩:=GF T
  by_cases hp:bN l x < 0
  .rw [t4 x hx hp]
   unfold aG iK;simp [de]
  .have hv:=GC (l:=l) (i:=x) (by omega)
   have hd:=GD T hx
   have:=ZP T m (bN l x) (by omega) hv
   have htd:=IL t1
   exact ZN T 8 (jB l) (bN l x) x t1 (by omega) this ((AS T hv).2 ⟨hx,rfl⟩)
theorem jz {l:List aC} (T:Tr l) {x:Int}:x∈aG l↔vI l x :=
 ⟨fun h=>(DZ T 8 _ x (GF T).1 h).1,fun h=>ZP T (fS l x) x (Zd _) h⟩
theorem ZQ {l:List aC} (T:Tr l):(aG l).Pairwise fun x y=>bN l x=bN l y->x < y:=Uo T 8 _ (GF T).1
theorem qY {l:List aC} (T:Tr l):(aG l).Nodup:=by
 rw [List.nodup_iff_pairwise_ne]
 exact (ZQ T).imp fun h e=>by have:=h (by rw [e]);omega
theorem GH {l:List aC} (T:Tr l):(aG l).length=l.length:=by
 have h1:=OD (qY T) (fun x hx=>(jz T).1 hx)
 have h2:((List.range l.length).map fun (k:Nat)=>(k:Int)).length<=(aG l).length:=by
  refine List.Nodup.length_le_of_subset ?_ fun x hx=>?_
  .rw [List.nodup_iff_pairwise_ne,List.pairwise_map]
   exact (List.nodup_iff_pairwise_ne.1 List.nodup_range).imp fun h e=>h (by omega)
  .obtain ⟨k,hk,rfl⟩:=List.mem_map.1 hx
   have:=List.mem_range.1 hk
   exact (jz T).2 ⟨by omega,by omega⟩
 simp at h2
 omega
theorem Up {l:List aC} (T:Tr l):∀ (m:Nat) (i:Int),fS l i<=m->vI l i->∃ A B,aG l=A++iK l i++B
 | 0,i,hm,hi=>by have:=IL hi;omega
 | m+1,i,hm,hi=>by
  obtain ⟨t1,t2,t3,t4⟩:=GF T
  by_cases hp:bN l i < 0
  .rw [t4 i hi hp]
   exact ⟨[],[],by simp [aG]⟩
  .have hv:=GC (l:=l) (i:=i) (by omega)
   have hd:=GD T hi
   obtain ⟨A,B,e⟩:=Up T m (bN l i) (by omega) hv
   obtain ⟨K1,K2,ek⟩:=List.append_of_mem ((AS T hv).2 ⟨hi,rfl⟩)
   rw [IM T hv,ek,List.flatMap_append,List.flatMap_cons] at e
   exact ⟨A++bN l i::K1.flatMap (iK l),K2.flatMap (iK l)++B,by rw [e];simp⟩
theorem J' {l:List aC} (h:qZ l=true):∀ (j i:Nat) (x y:aC),i < j->l[i]? = some x->l[j]? = some y->x.1 < y.1
 | 0,i,x,y,ng,_,_=>by omega
 | j+1,i,x,y,ng,hx,hy=>by
  unfold qZ at h
  rw [rU] at h
  have h1:=h (j+1) y hy
  rw [Zo] at h1
  unfold zx at h1
  simp only [Z8,Bool.or_eq_true,Zj] at h1
  have hj:j < l.length:=by have:=(Z0 hy).1;omega
  have hz:=Z6 hj
  have h2:(l[j]).1 < y.1:=by
   rcases h1.2 with h | h
   .omega
   .rw [show ((j+1:Nat):Int) - 1=(j:Int) by omega,kK hz] at h;exact h
  rcases Nat.lt_or_ge i j with au | sQ
  .have:=J' (by unfold qZ;rw [rU];exact h) j i x l[j] au hx hz;omega
  .obtain rfl:i=j:=by omega
   rw [hz] at hx;injection hx with hx;rw [<- hx];exact h2
theorem ZR {l:List aC} (h:kE l=true):Tr l:=by
 unfold kE at h
 simp only [Z8,Zj] at h
 obtain ⟨⟨h1,h2⟩,h3,h4,h5,h6,h7,h8,h9,Lb⟩:=h
 have inj:∀ i j,vI l i->vI l j->(aW l i).1=(aW l j).1->i=j:=by
  intro i j hi hj e
  have gi:=fu hi
  have gj:=fu hj
  obtain ⟨i0,i1⟩:=hi
  obtain ⟨j0,j1⟩:=hj
  rcases Int.lt_trichotomy i j with au | rfl | au
  .have:=J' h3 j.toNat i.toNat _ _ (by omega) gi gj;omega
  .rfl
  .have:=J' h3 i.toNat j.toNat _ _ (by omega) gj gi;omega
 refine ⟨h1,h2,inj,fun i hi=>?_,?_,fun i hi=>?_⟩
 .unfold qZ at h3
  rw [rU] at h3
  have:=h3 _ _ (fu hi)
  unfold zx at this
  simp only [Z8,Zj] at this
  exact this.1.1
 .unfold uI at h4
  obtain ⟨x,hx⟩:=List.length_eq_one_iff.1 h4
  have fL:x∈l.filter (fun x:aC=>x.2.1==0):=by rw [hx];simp
  have hm:x∈l/\(x.2.1==0)=true:=List.mem_filter.1 fL
  obtain ⟨t,ht⟩:=List.getElem?_of_mem hm.1
  refine ⟨(t:Int),Dd ht,by rw [kK ht];simpa using hm.2,fun j hj hz=>?_⟩
  have ZS:aW l j∈l.filter (fun x=>x.2.1==0):=List.mem_filter.2 ⟨Zc (fu hj),by simp [hz]⟩
  rw [hx,List.mem_singleton] at ZS
  exact inj j t hj (Dd ht) (by rw [ZS,kK ht])
 .rw [rU] at h6
  have:=h6 _ _ (fu hi)
  rw [Zo] at this
  unfold vJ at this
  simp only [Z8,Zj,beq_iff_eq] at this
  rw [Int.toNat_of_nonneg hi.1] at this
  exact this
def vL (W:List Int) (x:Int):Int:=fe (fun y=>y==x) W 0
theorem rV {W:List Int} (hn:W.Nodup) {k:Nat} {x:Int} (h:W[k]? = some x):vL W x=(k:Int):=by
 have hm:=Zc h
 rcases Int.lt_or_le (vL W x) 0 with h0 | h0
 .exact absurd hm (ZA h0)
 .obtain ⟨j,y,h1,h2,h3,_⟩:=IG h0
  have e:y=x:=by simpa using h3
  subst e
  unfold vL
  rw [h1,Zo]
  have hj:=(Z0 h2)
  have hk:=(Z0 h)
  obtain ⟨Uq,uJ⟩:=hj
  obtain ⟨wo,zB⟩:=hk
  have:j=k:=(List.getElem_inj hn).1 (uJ.trans zB.symm)
  rw [this]
theorem ZT {W:List Int} {x:Int} (h:x∉W):vL W x=-1:=by
 have hn:∀ (l:List Int) (i:Nat),x∉l->fe (fun y=>y==x) l i=-1:=by
  intro l
  induction l with
  | nil=>intro i _;rfl
  | cons a r ih =>
   intro i ha
   simp only [List.mem_cons,not_or] at ha
   simp only [fe]
   rw [if_neg (by simp;exact fun e=>ha.1 e.symm)]
   exact ih (i+1) ha.2
 exact hn W 0 h
theorem ZU {W:List Int} (hn:W.Nodup) {x:Int} (h:x∈W):∃ k:Nat,W[k]? = some x/\vL W x=(k:Int):=by
 obtain ⟨k,hk⟩:=List.getElem?_of_mem h
 exact ⟨k,hk,rV hn hk⟩
def pW (l:List aC) (x:Int):Int:=vL (aG l) x
theorem Bx {l:List aC} (T:Tr l) {x:Int} (h:vI l x):∃ k:Nat,(aG l)[k]? = some x/\pW l x=(k:Int):=ZU (qY T) ((jz T).2 h)
theorem uK {l:List aC} (T:Tr l) {x:Int} (h:x < 0):pW l x=-1:=ZT fun hm=>by have:=((jz T).1 hm).1;omega
def uL (l:List aC) (i:Int):Int:=if bN l i < 0 then -1 else (cg l (bN l i)).getD ((vL (cg l (bN l i)) i).toNat+1) (-1)
def vM (l:List aC) (i:Int):Int:=(cg l i).headD (-1)
def nK (l:List aC) (k:Nat) (i:Int):Int:=((k+(iK l i).length:Nat):Int)
def nL (c:Cf) (A:List Int) (fs:List dR) (tg:List Int) (df:Int):Ld:=(c.1,A.map (aW c.2.1),A.map (fun i=>pW c.2.1 (bN c.2.1 i)),A.map (fun i=>pW c.2.1 (vM c.2.1 i)),A.map (fun i=>pW c.2.1 (uL c.2.1 i)),A.mapIdx (nK c.2.1),fs,tg,df)
def tgV (c:Cf):List Int:=c.2.2.1.map fun f=>pW c.2.1 (bU c.2.1 f.2.2.2.2)
def vu (c:Cf):Int:=if c.2.2.2=0 then -1 else pW c.2.1 (bU c.2.1 c.2.2.2)
def bS (c:Cf):Ld:=nL c (aG c.2.1) c.2.2.1 (tgV c) (vu c)
structure Gd (c:Cf):Prop where
 nm:AQ c.1=true
 cl:kE c.2.1=true
 fl:vK c.2.1 c.2.2.1=true
 df:GA c=true
theorem q_ {c:Cf} (h:ga c=true):Gd c:=by
 unfold ga at h
 simp only [Z8] at h
 exact ⟨h.1,h.2.1,h.2.2.1,h.2.2.2⟩
theorem Gd.tr {c:Cf} (G:Gd c):Tr c.2.1:=ZR G.cl
theorem Gd.f16 {c:Cf} (G:Gd c):c.2.2.1.length<=16:=by
 have:=G.fl
 unfold vK at this
 simp only [Z8,Zj] at this
 exact this.2
theorem Gd.Lc {c:Cf} (G:Gd c):∀ f∈c.2.2.1,vI c.2.1 (bU c.2.1 f.2.2.2.2)/\ic c.2.1 f.2.2.2.2=true/\zy f=true:=by
 intro f hf
 have:=G.fl
 unfold vK at this
 simp only [Z8,rU] at this
 obtain ⟨i,hi⟩:=List.getElem?_of_mem hf
 have h1:=this.1 i f hi
 unfold DY vH at h1
 simp only [Z8,Zj] at h1
 exact ⟨⟨h1.2.2.1,BB⟩,h1.2.2.2,h1.1⟩
theorem Gd.Ka {c:Cf} (G:Gd c) (h:c.2.2.2≠0):vI c.2.1 (bU c.2.1 c.2.2.2)/\ic c.2.1 c.2.2.2=true:=by
 have:=G.df
 unfold GA vH at this
 simp only [Z8,Bool.or_eq_true,Zj,beq_iff_eq] at this
 rcases this with h1 | h1
 .exact absurd h1 h
 .exact ⟨⟨h1.1,BB⟩,h1.2⟩
theorem Qvx {d:Nat} {c:Cf} (T:Tr c.2.1):Fz (d+1) c=some (jB c.2.1):=by
 rw [SG]
 obtain ⟨t1,t2,t3,t4⟩:=GF T
 have iw:=T.fE
 have t1a:=t1.1
 have t1b:=t1.2
 have key:∀ (m k fuel:Nat),k+m=(jB c.2.1).toNat->m < fuel->Q8 (kV d c (xB d)) fuel (k:Int)=some (jB c.2.1):=by
  intro m
  induction m with
  | zero =>
   intro k fuel hk hf
   obtain ⟨g,rfl⟩:∃ g,fuel=g+1:=⟨fuel - 1,by omega⟩
   have e:(k:Int)=jB c.2.1:=by have:=t1.1;omega
   simp only [Q8,kV]
   rw [e,Z5 t1.1,Q4,fu t1,Q9,t2]
   rfl
  | succ m ih =>
   intro k fuel hk hf
   obtain ⟨g,rfl⟩:∃ g,fuel=g+1:=⟨fuel - 1,by omega⟩
   have hv:vI c.2.1 (k:Int):=⟨by omega,by have:=t1.2;omega⟩
   have hz:(aW c.2.1 (k:Int)).2.1≠0:=by
    intro hz
    obtain ⟨t,_,_,q⟩:=T.top
    have h1:=q _ hv hz
    have h2:=q _ t1 t2
    omega
   simp only [Q8,kV]
   rw [nn,Q4,fu hv,Q9,show ((aW c.2.1 (k:Int)).2.1 != 0)=true by simp [hz],Q4,aN (by omega)]
   exact ih (k+1) g (by omega) (by omega)
 exact key (jB c.2.1).toNat 0 Qd (by omega) (by rw [Q6];have:=t1.2;omega)
theorem ZV {α β γ:Type} {G:α->Option (List γ)} {w:α->List γ} {fin:List γ->Option β} {B:Nat}:∀ (L:List α) (i:Nat) (t:List γ),(∀ x∈L,G x=some (w x)/\(w x).length<=B)->t.length+L.length*B<=10000 ->
  dY (fun x _ t k=>Q1 (G x) fun r=>aa (Nat.ble ((t.length+r.length)*8) Q7) (k (t++r)) none) fin L i t=fin (t++L.flatMap w)
 | [],i,t,_,_=>by simp [dY]
 | x::r,i,t,h,hb=>by
  obtain ⟨h1,h2⟩:=h x (by simp)
  have e:(x::r).length*B=r.length*B+B:=by rw [Z9,Nat.add_mul,Nat.one_mul]
  rw [e] at hb
  simp only [dY]
  rw [h1,Q9,room (by omega),Q4,ZV r (i+1) (t++w x) (fun y hy=>h y (by simp [hy])) (by simp;omega),List.flatMap_cons,List.append_assoc]
theorem Ur {l:List aC} (T:Tr l) {f:Nat} {a:Int} (ha:vI l a):(de l f a).length<=24:=by
 have hn:(de l f a).Nodup:=by
  rw [List.nodup_iff_pairwise_ne]
  exact (Uo T f a ha).imp fun h e=>by have:=h (by rw [e]);omega
 have:=OD hn (fun x hx=>(DZ T f a x ha hx).1)
 have:=T.fE
 omega
theorem ZW {d:Nat} {c:Cf} (T:Tr c.2.1):∀ (f:Nat) (i:Int),vI c.2.1 i->9 - fS c.2.1 i<=f->o5 (d+1+f) c i=some (de c.2.1 f i)
 | 0,i,hv,hf=>by have:=(T.GB i hv).1;unfold fS at *;omega
 | f+1,i,hv,hf=>by
  have iw:=T.fE
  have hk:=Oy (l:=c.2.1) (id:=(aW c.2.1 i).1)
  rw [show d+1+(f+1)=(d+1+f)+1 by omega,SF]
  have e1:kS (d+1+f) c i=some (cg c.2.1 i):=by
   have:=Oz (d:=d+f) (c:=c) (n:=i.toNat) (fu hv) (by omega)
   rw [Int.toNat_of_nonneg hv.1,show d+f+1=d+1+f by omega] at this
   exact this
  have hb:([i]:List Int).length+(cg c.2.1 i).length*24<=10000:=by
   have:(cg c.2.1 i).length<=24:=by unfold cg;omega
   simp only [Z9,Zb];omega
  rw [e1,Q9]
  refine (Qb (fun (t:List Int) (k:Int)=>(t,k)) (cg c.2.1 i) (fun x _ t k=>Q1 (o5 (d+1+f) c x) fun r=>aa (Nat.ble ((t.length+r.length)*8) Q7) (k (t++r)) none) (fun t=>some t) ?_ ?_ (by rw [Q6];unfold cg;omega) [i]).trans ?_
  .intro ag t k x hx
   have hi:=(Z0 hx).1
   have:(cg c.2.1 i).length<=24:=by unfold cg;omega
   simp only [oZ,bW hx,nn,Q3,hx,Q9,Q4,sV hx]
   rw [aN (by omega)]
  .intro ag t;simp only [oZ,bB,Q5];rfl
  .rw [ZV (w:=de c.2.1 f) (B:=24) (cg c.2.1 i) 0 [i] (fun x hx=>?_) hb]
   .rfl
   .obtain ⟨c1,c2,c3⟩:=qq T hv hx
    exact ⟨ZW T f x c1 (by omega),Ur T c1⟩
theorem ZX {d:Nat} {c:Cf} (T:Tr c.2.1) {i:Int} (h:vI c.2.1 i):o5 (d+9) c i=some (iK c.2.1 i):=by
 have:=ZW (d:=d) T 8 i h (by have:=IL h;omega)
 rw [show d+1+8=d+9 by omega] at this
 exact this
theorem ZY {α τ:Type} {f:α->Nat->τ->τ}:∀ (A B:List α) (i:Nat) (t:τ),cD f (A++B) i t=cD f B (i+A.length) (cD f A i t)
 | [],B,i,t=>by simp [cD]
 | x::A,B,i,t=>by
  simp only [List.cons_append,cD,Z9]
  rw [ZY A B (i+1),show i+1+A.length=i+(A.length+1) by omega]
theorem Us {α τ:Type} {f:α->Nat->τ->τ}:∀ (A:List α) (i:Nat) (t:τ),(∀ x∈A,∀ k t,f x k t=t)->cD f A i t=t
 | [],i,t,_=>rfl
 | x::A,i,t,h=>by
  simp only [cD]
  rw [h x (by simp)]
  exact Us A (i+1) t (fun y hy=>h y (by simp [hy]))
theorem ZZ {β:Type} {fin:List Int->Option β}:∀ (W:List Int) (i:Nat) (t:List Int),(∀ x∈W,0<=x/\x < ((t.length:Nat):Int)) ->
  dY (fun x i t k=>aa (decide (0<=x)) (aa (Nat.blt x.toNat t.length) (Q1 (t[x.toNat]?) fun _=>k (t.set x.toNat ((i:Nat):Int))) none) none) fin W i t=fin (cD (fun x i t=>t.set x.toNat ((i:Nat):Int)) W i t)
 | [],i,t,_=>rfl
 | x::r,i,t,h=>by
  obtain ⟨h1,h2⟩:=h x (by simp)
  simp only [dY,cD]
  rw [Z5 h1,Q4,Qp (by omega),Q4,Z6 (show x.toNat < t.length by omega),Q9]
  exact ZZ r (i+1) _ (fun y hy=>by rw [List.length_set];exact h y (by simp [hy]))
theorem Ut:∀ (W:List Int) (i:Nat) (t:List Int),(cD (fun x i t=>t.set x.toNat ((i:Nat):Int)) W i t).length=t.length
 | [],i,t=>rfl
 | x::r,i,t=>by simp only [cD];rw [Ut r,List.length_set]
theorem Z_:∀ (W:List Int) (i:Nat) (t:List Int) (j:Nat),(∀ x∈W,0<=x)->((j:Int)∉W)->(cD (fun x i t=>t.set x.toNat ((i:Nat):Int)) W i t)[j]? = t[j]?
 | [],i,t,j,_,_=>rfl
 | x::r,i,t,j,h0,hj=>by
  simp only [List.mem_cons,not_or] at hj
  have:=h0 x (by simp)
  simp only [cD]
  rw [Z_ r (i+1) _ j (fun y hy=>h0 y (by simp [hy])) hj.2,List.getElem?_set_ne (by omega)]
theorem Qud:∀ (W:List Int) (i:Nat) (t:List Int) (k:Nat) (x:Int),W.Nodup->(∀ x∈W,0<=x/\x < ((t.length:Nat):Int))->W[k]? = some x->(cD (fun x i t=>t.set x.toNat ((i:Nat):Int)) W i t)[x.toNat]? = some ((i+k:Nat):Int)
 | [],i,t,k,x,_,_,h=>by simp at h
 | y::r,i,t,0,x,hn,h0,h=>by
  simp only [List.getElem?_cons_zero,Option.some.injEq] at h
  subst h
  obtain ⟨q1,q2⟩:=List.nodup_cons.1 hn
  obtain ⟨p1,p2⟩:=h0 y (by simp)
  simp only [cD]
  rw [Z_ r (i+1) _ y.toNat (fun z hz=>(h0 z (by simp [hz])).1) (by rw [Int.toNat_of_nonneg p1];exact q1),List.getElem?_set_self (by omega)]
  simp
 | y::r,i,t,k+1,x,hn,h0,h=>by
  obtain ⟨q1,q2⟩:=List.nodup_cons.1 hn
  simp only [cD]
  rw [Qud r (i+1) _ k x q2 (fun z hz=>by rw [List.length_set];exact h0 z (by simp [hz])) (by simpa using h)]
  congr 2;omega
def nM (l:List aC):List Int:=cD (fun x i t=>t.set x.toNat ((i:Nat):Int)) (aG l) 0 (List.replicate l.length 0)
theorem Qvy {l:List aC}:(nM l).length=l.length:=by unfold nM;rw [Ut];simp
theorem Qvz {l:List aC} (T:Tr l) {x:Int} (h:vI l x):(nM l)[x.toNat]? = some (pW l x)/\x.toNat < (nM l).length:=by
 obtain ⟨k,h1,h2⟩:=Bx T h
 refine ⟨?_,by rw [Qvy];have:=h.1;have:=h.2;omega⟩
 unfold nM
 rw [Qud (aG l) 0 _ k x (qY T) (fun y hy=>by have:=(jz T).1 hy;simp;exact this) h1,h2,Zo]
theorem Uu {α γ β:Type} {e:α->γ} {fin:List γ->Option β} {w:Nat}:∀ (l:List α) (i:Nat) (t:List γ),(t.length+l.length)*w<=100000000 ->
  dY (fun x _ t k=>aa (Nat.ble ((t.length+[e x].length)*w) Q7) (k (t++[e x])) none) fin l i t=fin (t++l.map e)
 | [],i,t,_=>by simp [dY]
 | x::r,i,t,h=>by
  simp only [dY]
  rw [room (by
   have:(t.length+[e x].length)*w<=(t.length+(x::r).length)*w:=Zk w (by simp)
   omega),Q4]
  rw [Uu r (i+1) (t++[e x]) (by
   refine Nat.le_trans (Zk w ?_) h
   simp;omega)]
  simp
theorem Qw0 {K:List Int} {i:Int} {g:Int->Int} (hn:K.Nodup) (hi:i∈K) (hg:g (-1)=-1) :
  cD (fun x k t=>if x=i/\k+1 < K.length then g (K.getD (k+1) 0) else t) K 0 (-1)=g (K.getD ((vL K i).toNat+1) (-1)):=by
 obtain ⟨K1,K2,e⟩:=List.append_of_mem hi
 have hp:vL K i=(K1.length:Int):=rV hn (by rw [e];simp)
 have hn':=hn
 rw [e,Zn] at hn'
 obtain ⟨n1,n2,n3⟩:=hn'
 have h0:cD (fun x k t=>if x=i/\k+1 < K.length then g (K.getD (k+1) 0) else t) K 0 (-1)=cD (fun x k t=>if x=i/\k+1 < K.length then g (K.getD (k+1) 0) else t) (K1++i::K2) 0 (-1):=by rw [<- e]
 rw [h0,ZY,Us K1 0 (-1) (fun x hx k t=>if_neg (fun h=>n3 x hx i (by simp) h.1)),Zo]
 show cD (fun x k t=>if x=i/\k+1 < K.length then g (K.getD (k+1) 0) else t) K2 (K1.length+1) (if i=i/\K1.length+1 < K.length then g (K.getD (K1.length+1) 0) else -1)=_
 rw [Us K2 _ _ (fun x hx k t=>if_neg (fun (h:x=i/\k+1 < K.length)=>(List.nodup_cons.1 n2).1 (h.1▸hx))),hp,Q3]
 by_cases h:K1.length+1 < K.length
 .rw [if_pos ⟨rfl,h⟩,Zr,Zr,Z6 h];rfl
 .rw [if_neg (fun hc=>h hc.2),Zr,List.getElem?_eq_none (by omega)];exact hg.symm
theorem Qle {l:List aC} {i:Int}:(cg l i).Nodup:=by
 rw [List.nodup_iff_pairwise_ne];exact K9.imp fun h e=>by omega
theorem Le {l:List aC} (T:Tr l) {x:Int} (h:vI l x) {α:Type} {K:Int->Option α}:aa (Nat.blt x.toNat (nM l).length) (Q1 ((nM l)[x.toNat]?) K) none=K (pW l x):=by
 obtain ⟨h1,h2⟩:=Qvz T h
 rw [Qp h2,Q4,h1,Q9]
theorem Uv {l:List aC} (T:Tr l) {i:Int}:(cg l i).length<=24:=by
 have:=Oy (l:=l) (id:=(aW l i).1)
 have:=T.fE
 unfold cg;omega
theorem Qyq {d:Nat} {c:Cf} (T:Tr c.2.1) {i:Int} (hi:vI c.2.1 i) (hp:0<=bN c.2.1 i) {kx:Int->Int->Option Ld} :
  Q8 (ld d (nM c.2.1) i (cg c.2.1 (bN c.2.1 i)) kx) Qd ((-1),0)=kx (pW c.2.1 (uL c.2.1 i)) ((cg c.2.1 (bN c.2.1 i)).length:Int):=by
 have hv:=GC hp
 have hl:=Uv T (i:=bN c.2.1 i)
 refine (Qb (fun (t:Int) (k:Int)=>(t,k)) (cg c.2.1 (bN c.2.1 i)) (fun x k t cont=>cont (if x=i/\k+1 < (cg c.2.1 (bN c.2.1 i)).length then pW c.2.1 ((cg c.2.1 (bN c.2.1 i)).getD (k+1) 0) else t)) (fun t=>kx t ((cg c.2.1 (bN c.2.1 i)).length:Int)) ?_ ?_ (by rw [Q6];omega) (-1)).trans ?_
 .intro ag t k x hx
  have hk:=(Z0 hx).1
  simp only [ld,bW hx,nn,Q3,hx,Q9,Q4,sV hx]
  rw [aN (by omega)]
  unfold o7
  rw [aN (by omega)]
  by_cases he:x=i
  .rw [show (x==i)=true by simp [he],Q4]
   by_cases au:k+1 < (cg c.2.1 (bN c.2.1 i)).length
   .have hm:=Z6 au
    have IN:=(qq T hv (Zc hm)).1
    rw [Z5 (show ((k+1:Nat):Int) < (((cg c.2.1 (bN c.2.1 i)).length:Nat):Int) by omega),Q4,nn,Q4,Q3,Qp au,Q4,hm,Q9,Z5 IN.1,Q4,Le T IN,if_pos ⟨he,au⟩,Zr,hm]
    rfl
   .rw [Z4 (show ¬ ((k+1:Nat):Int) < (((cg c.2.1 (bN c.2.1 i)).length:Nat):Int) by omega),Q5,if_neg (fun h=>au h.2)]
  .rw [show (x==i)=false by simp [he],Q5,Q5,if_neg (fun h=>he h.1)]
 .intro ag t;simp only [ld,bB,Q5]
 .rw [wI (f:=fun x k t=>if x=i/\k+1 < (cg c.2.1 (bN c.2.1 i)).length then pW c.2.1 ((cg c.2.1 (bN c.2.1 i)).getD (k+1) 0) else t),Qw0 (g:=pW c.2.1) Qle ((AS T hv).2 ⟨hi,rfl⟩) (uK T (by omega))]
  unfold uL
  rw [if_neg (by omega)]
theorem Qh2 {d:Nat} {c:Cf} {i:Int} (T:Tr c.2.1) (h:vI c.2.1 i):kS (d+1) c i=some (cg c.2.1 i):=by
 have iw:=T.fE
 have:=Oz (d:=d) (c:=c) (n:=i.toNat) (fu h) (by omega)
 rw [Int.toNat_of_nonneg h.1] at this
 exact this
theorem Qp3 {c:Cf} {A:List Int} {i:Int} {fs:List dR} {tg:List Int} {df:Int}:nL c (A++[i]) fs tg df=(c.1,A.map (aW c.2.1)++[aW c.2.1 i],A.map (fun i=>pW c.2.1 (bN c.2.1 i))++[pW c.2.1 (bN c.2.1 i)],A.map (fun i=>pW c.2.1 (vM c.2.1 i))++[pW c.2.1 (vM c.2.1 i)],A.map (fun i=>pW c.2.1 (uL c.2.1 i))++[pW c.2.1 (uL c.2.1 i)],A.mapIdx (nK c.2.1)++[nK c.2.1 A.length i],fs,tg,df):=by
 unfold nL
 simp [List.mapIdx_concat]
theorem Que {d:Nat} {c:Cf} (T:Tr c.2.1) {A:List Int} {i:Int} (hi:vI c.2.1 i) (hA:A.length<=24) {fs:List dR} {tg:List Int} {df:Int} {ag:Int×Ld->Option Ld} {b:Bool} :
  k_ (d+9) c (nM c.2.1) ag (A.length:Int) (nL c A fs tg df) i (aW c.2.1 i) (pW c.2.1 (bN c.2.1 i)) (pW c.2.1 (uL c.2.1 i)) b=ag (((A.length+1:Nat):Int),nL c (A++[i]) fs tg df):=by
 have fin:∀ bb,kZ (d+9) c ag (A.length:Int) (nL c A fs tg df) i (aW c.2.1 i) (pW c.2.1 (bN c.2.1 i)) (pW c.2.1 (uL c.2.1 i)) (pW c.2.1 (vM c.2.1 i)) bb=ag (((A.length+1:Nat):Int),nL c (A++[i]) fs tg df):=by
  intro bb
  unfold kZ
  rw [ZX T hi,Q9,aN (by omega),Qp3]
  have hs:=Ur T (f:=8) hi
  simp only [nL,List.length_map,List.length_mapIdx,Z9,Zb]
  rw [room (by omega),Q4,Q4,Q4,Q4,wr (by unfold iK;omega) (by unfold iK;omega)]
  rw [show (A.length:Int)+(((iK c.2.1 i).length:Nat):Int)=nK c.2.1 A.length i by unfold nK;omega]
 unfold k_
 rw [show d+9=d+8+1 from rfl,Qh2 T hi,Q9]
 cases hk:cg c.2.1 i with
 | nil =>
  rw [Z4 (show ¬ ((([]:List Int).length:Nat):Int) > 0 by simp),Q5]
  have:=fin false
  rw [show vM c.2.1 i=-1 by unfold vM;rw [hk];rfl,uK T (show (-1:Int) < 0 by omega)] at this
  exact this
 | cons k r =>
  have hv:=(qq T hi (show k∈cg c.2.1 i by rw [hk];simp)).1
  have hl:(k::r).length<=24:=by rw [<- hk];exact Uv T
  rw [Z5 (show (((k::r).length:Nat):Int) > 0 by simp),Q4,Qp (by simp),Q4,List.getElem?_cons_zero,Q9,Z5 hv.1,Q4,Le T hv]
  have:=fin true
  rw [show vM c.2.1 i=k by unfold vM;rw [hk];rfl] at this
  exact this
theorem Quf {d:Nat} {c:Cf} (T:Tr c.2.1) {fs:List dR}:∀ (B A:List Int) (fuel:Nat),aG c.2.1=A++B->B.length < fuel->Q8 (jb (d+9) c (aG c.2.1) (nM c.2.1) (kX (d+9) c (nM c.2.1))) fuel ((A.length:Int),nL c A fs [] (-1))=Q8 (kW (d+9) c (nM c.2.1) (o6 (d+9) c (nM c.2.1))) Qd (0,nL c (aG c.2.1) fs [] (-1))
 | B,A,0,_,h=>by omega
 | [],A,fuel+1,e,h=>by
  rw [List.append_nil] at e
  simp only [Q8,jb]
  rw [e,bB,Q5]
  unfold kX
  rfl
 | i::B,A,fuel+1,e,h=>by
  have hlen:A.length+(B.length+1)=(aG c.2.1).length:=by rw [e];simp
  have iw:=T.fE
  have hW:=GH T
  have hi:vI c.2.1 i:=(jz T).1 (by rw [e];simp)
  have hg:(aG c.2.1)[A.length]? = some i:=by rw [e];simp
  have next:=Quf (d:=d) T (fs:=fs) B (A++[i]) fuel (by rw [e];simp) (by simpa using h)
  rw [show ((A++[i]).length:Int)=((A.length+1:Nat):Int) by simp] at next
  simp only [Q8,jb]
  rw [Z5 (show (A.length:Int) < (((aG c.2.1).length:Nat):Int) by omega),Q4,nn,Q4,Q3,Qp (show A.length < (aG c.2.1).length by omega),Q4,hg,Q9,Z5 hi.1,Q4,fu hi,Q9,show (nL c A fs [] (-1)).2.1.length=A.length by simp [nL],room (by simp;omega),Q4,Q4,Q9,show d+9=d+8+1 from rfl,K7 (by omega),Q9]
  rw [show bU c.2.1 (aW c.2.1 i).2.1=bN c.2.1 i from rfl]
  by_cases hp:0<=bN c.2.1 i
  .have hv:=GC hp
   rw [show decide (bN c.2.1 i>=0)=true from Z5 hp,Q4,Q4,Le T hv,Qh2 T hv,Q9,Qyq T hi hp]
   unfold xC
   rw [show d+8+1=d+9 from rfl,Que T hi (by omega)]
   exact next
  .rw [show decide (bN c.2.1 i>=0)=false from Z4 hp,Q5]
   have e1:pW c.2.1 (bN c.2.1 i)=-1:=uK T (by omega)
   have e2:pW c.2.1 (uL c.2.1 i)=-1:=by unfold uL;rw [if_pos (by omega)];exact uK T (by omega)
   have:=Que (d:=d) T hi (A:=A) (by omega) (fs:=fs) (tg:=[]) (df:=-1) (b:=false) (ag:=Q8 (jb (d+9) c (aG c.2.1) (nM c.2.1) (kX (d+9) c (nM c.2.1))) fuel)
   rw [e1,e2] at this
   rw [show d+8+1=d+9 from rfl,this]
   exact next
theorem Yv {d:Nat} {c:Cf} (G:Gd c):BJ (d+10) c=some (bS c):=by
 have T:=G.tr
 have iw:=T.fE
 have hW:=GH T
 have Fi:=G.f16
 rw [SH,show d+9=d+8+1 from rfl,Qvx T,Q9,show d+8+1=d+9 from rfl,ZX T (GF T).1,Q9,show iK c.2.1 (jB c.2.1)=aG c.2.1 from rfl,nn,Q4,Q4,Q3,show (Nat.ble (aG c.2.1).length (aG c.2.1).length&&Nat.ble ((aG c.2.1).length*8) Q7)=true by rw [Z8,Nat.ble_eq,Nat.ble_eq];unfold Q7;omega,Q4]
 refine (Qb (fun (t:List Int) (k:Int)=>(k,t)) (aG c.2.1) (fun x i t k=>aa (decide (0<=x)) (aa (Nat.blt x.toNat t.length) (Q1 (t[x.toNat]?) fun _=>k (t.set x.toNat ((i:Nat):Int))) none) none) (o8 (d+9) c (aG c.2.1)) ?_ ?_ (by rw [Q6];omega) (List.replicate (aG c.2.1).length 0)).trans ?_
 .intro ag t k x hx
  have hk:=(Z0 hx).1
  simp only [o9,bW hx,nn,Q3,hx,Q9,Q4,sV hx]
  rw [aN (by omega)]
 .intro ag t;simp only [o9,bB,Q5]
 .rw [ZZ (aG c.2.1) 0 _ (fun x hx=>by have:=(jz T).1 hx;rw [List.length_replicate,hW];exact this)]
  rw [show cD (fun (x:Int) (i:Nat) (t:List Int)=>t.set x.toNat ((i:Nat):Int)) (aG c.2.1) 0 (List.replicate (aG c.2.1).length 0)=nM c.2.1 by unfold nM;rw [hW]]
  unfold o8
  rw [room (by simp;omega),Q4]
  have:=Quf (d:=d) T (fs:=([]:List dR)++c.2.2.1) (aG c.2.1) [] Qd rfl (by rw [Q6];omega)
  refine this.trans ?_
  refine (Qb (fun (t:List Int) (k:Int)=>(k,nL c (aG c.2.1) (([]:List dR)++c.2.2.1) t (-1))) c.2.2.1 (fun f _ t k=>aa (Nat.ble ((t.length+[pW c.2.1 (bU c.2.1 f.2.2.2.2)].length)*8) Q7) (k (t++[pW c.2.1 (bU c.2.1 f.2.2.2.2)])) none) (fun t=>some (nL c (aG c.2.1) c.2.2.1 t (vu c))) ?_ ?_ (by rw [Q6];omega) []).trans ?_
  .intro ag t k f hx
   have hk:=(Z0 hx).1
   obtain ⟨v1,_⟩:=G.Lc f (Zc hx)
   simp only [kW,bW hx,nn,Q3,hx,Q9,Q4]
   rw [show d+9=d+8+1 from rfl,K7 (by omega),Q9,Z5 v1.1,Q4,Le T v1,aN (by omega)]
   rfl
  .intro ag t
   simp only [kW,bB,Q5]
   unfold o6 vu
   by_cases h:c.2.2.2=0
   .rw [show (c.2.2.2 != 0)=false by simp [h],Q5,if_pos h];rfl
   .obtain ⟨v1,_⟩:=G.Ka h
    rw [show (c.2.2.2 != 0)=true by simp [h],Q4,show d+9=d+8+1 from rfl,K7 (by omega),Q9,Z5 v1.1,Q4,Le T v1,if_neg h];rfl
  .rw [Uu (e:=fun f:dR=>pW c.2.1 (bU c.2.1 f.2.2.2.2)) (w:=8) c.2.2.1 0 [] (by simp;omega)]
   rfl
theorem cc (l:List UInt8):(⟨l.toArray⟩:ByteArray).size=l.length:=(rfl)
theorem Ok.cat {α:Type} {a b:ByteArray} {x:Option α} {Q:α->Prop} (ha:a.size<=100000) (hb:b.size<=100000) (h:Ok x Q):Ok (aa (Nat.ble (a.size+b.size) 9223372036854775807) x none) Q:=by
 rw [Zt (by omega)];exact h
theorem Qug {u:Nat} (h:u < 10):Go.Lib.decDigits u=[UInt8.ofNat (48+u)]:=by rw [Go.Lib.decDigits,dif_pos h]
theorem Qw1 {u:Nat} (h:¬ u < 10):Go.Lib.decDigits u=Go.Lib.decDigits (u / 10)++[UInt8.ofNat (48+u % 10)]:=by rw [Go.Lib.decDigits,dif_neg h]
theorem Quh:∀ (j u:Nat),u < 10 ^ (j+1)->1<=(Go.Lib.decDigits u).length/\(Go.Lib.decDigits u).length<=j+1
 | 0,u,h=>by rw [Qug (by omega)];simp
 | j+1,u,h=>by
  by_cases h2:u < 10
  .rw [Qug h2];simp
  .have:=Quh j (u / 10) (by rw [Nat.pow_succ] at h;omega)
   rw [Qw1 h2];simp;omega
theorem D4 {d:Nat} {n:Int} (h0:0<=n) (h:n<=1000000000000):Ok (jP (d+1) n) fun s=>s.size<=20:=by
 obtain ⟨m,rfl⟩:=Int.eq_ofNat_of_zero_le h0
 rw [TF]
 unfold BP
 have e:Go.Lib.itoa (m:Int)=Go.Lib.decDigits m:=by unfold Go.Lib.itoa;rw [if_neg (by omega)];rfl
 rw [Z5 (by omega),Z5 (by omega),Bool.and_self,Q4,e]
 refine Ok.some ?_
 rw [cc]
 have:=(Quh 19 m (by omega)).2
 exact this
theorem Lf {d:Nat} {n:Int} (h0:0<=n) (h:n<=1000000000):Ok (qg (d+2) n) fun s=>s.size<=21:=by
 obtain ⟨m,rfl⟩:=Int.eq_ofNat_of_zero_le h0
 have e2:((m:Int)).tdiv 1000000=((m / 1000000:Nat):Int):=rfl
 have e4:((m:Int)).tdiv 1000=((m / 1000:Nat):Int):=rfl
 have r0:∀ b,Ok (lH (d+1) (m:Int) b) fun s=>s.size<=21:=by
  intro b
  unfold lH
  rw [e4,wr (n:=((m / 1000:Nat):Int)) (by omega) (by omega)]
  refine Ok.aa (fun _=>?_) (fun _=>?_)
  .refine Ok.bind (D4 (by omega) (by omega)) fun s hs=>?_
   refine Ok.cat (by omega) (by (try simp only [Za,cc,Z9,Zb] at *);omega) (Ok.some ?_)
   (try simp only [Za,cc,Z9,Zb] at *);omega
  .exact Ok.bind (D4 (by omega) (by omega)) fun s hs=>Ok.some (by omega)
 have r1:∀ b,Ok (lI (d+1) (m:Int) b) fun s=>s.size<=21:=by
  intro b
  unfold lI
  rw [e2,wr (n:=((m / 1000000:Nat):Int)) (by omega) (by omega)]
  refine Ok.aa (fun _=>?_) (fun _=>Ok.aa (fun _=>r0 _) (fun _=>r0 _))
  refine Ok.bind (D4 (by omega) (by omega)) fun s hs=>?_
  refine Ok.cat (by omega) (by (try simp only [Za,cc,Z9,Zb] at *);omega) (Ok.some ?_)
  (try simp only [Za,cc,Z9,Zb] at *);omega
 rw [TI]
 exact Ok.aa (fun _=>r1 _) (fun _=>r1 _)
def Uw (x:aC):Prop:=(0<=x.1/\x.1<=1000000000)/\(0<=x.2.2.1/\x.2.2.1<=1000000000)/\(0<=x.2.2.2.1/\x.2.2.2.1<=1000000000)/\(0<=x.2.2.2.2.1/\x.2.2.2.2.1<=1000000000)/\(0<=x.2.2.2.2.2.1/\x.2.2.2.2.2.1<=1000000000)/\(0<=x.2.2.2.2.2.2.1/\x.2.2.2.2.2.2.1<=1000000000)
theorem Qb6 {d:Nat} {x:aC} (h:Uw x):Ok (BS (d+3) x) fun s=>s.size<=1000:=by
 obtain ⟨h1,h2,h3,h4,h5,h6⟩:=h
 rw [TJ]
 refine Ok.bind (D4 h1.1 (by omega)) fun r2 g2=>?_
 refine Ok.cat (by (try simp only [Za,cc,Z9,Zb] at *);omega) (by (try simp only [Za,cc,Z9,Zb] at *);omega) ?_
 refine Ok.cat (by (try simp only [Za,cc,Z9,Zb] at *);omega) (by (try simp only [Za,cc,Z9,Zb] at *);omega) ?_
 refine Ok.bind (Lf h2.1 h2.2) fun r3 g3=>?_
 refine Ok.cat (by (try simp only [Za,cc,Z9,Zb] at *);omega) (by (try simp only [Za,cc,Z9,Zb] at *);omega) ?_
 refine Ok.cat (by (try simp only [Za,cc,Z9,Zb] at *);omega) (by (try simp only [Za,cc,Z9,Zb] at *);omega) ?_
 refine Ok.bind (Lf h3.1 h3.2) fun r4 g4=>?_
 refine Ok.cat (by (try simp only [Za,cc,Z9,Zb] at *);omega) (by (try simp only [Za,cc,Z9,Zb] at *);omega) ?_
 refine Ok.cat (by (try simp only [Za,cc,Z9,Zb] at *);omega) (by (try simp only [Za,cc,Z9,Zb] at *);omega) ?_
 refine Ok.bind (Lf h4.1 h4.2) fun r5 g5=>?_
 refine Ok.cat (by (try simp only [Za,cc,Z9,Zb] at *);omega) (by (try simp only [Za,cc,Z9,Zb] at *);omega) ?_
 refine Ok.cat (by (try simp only [Za,cc,Z9,Zb] at *);omega) (by (try simp only [Za,cc,Z9,Zb] at *);omega) ?_
 refine Ok.bind (Lf h5.1 h5.2) fun r6 g6=>?_
 refine Ok.cat (by (try simp only [Za,cc,Z9,Zb] at *);omega) (by (try simp only [Za,cc,Z9,Zb] at *);omega) ?_
 refine Ok.cat (by (try simp only [Za,cc,Z9,Zb] at *);omega) (by (try simp only [Za,cc,Z9,Zb] at *);omega) ?_
 refine Ok.bind (D4 h6.1 (by omega)) fun r7 g7=>?_
 refine Ok.cat (by (try simp only [Za,cc,Z9,Zb] at *);omega) (by (try simp only [Za,cc,Z9,Zb] at *);omega) (Ok.some ?_)
 (try simp only [Za,cc,Z9,Zb] at *);omega
def Lg:ByteArray:=⟨#[48,49,50,51,52,53,54,55,56,57,97,98,99,100,101,102]⟩
theorem Qlg:Lg.size=16:=rfl
theorem Ux {n:Nat} (h:n<=4294967295):IntKind.i64.wrap ((BitVec.ofInt IntKind.i64.bits (n:Int) &&& BitVec.ofInt IntKind.i64.bits 15).toNat:Int)=((n % 16:Nat):Int):=by
 have hb:IntKind.i64.bits=64:=rfl
 have e1:(BitVec.ofInt IntKind.i64.bits (n:Int)).toNat=n:=by
  rw [hb,BitVec.toNat_ofInt];omega
 have e2:(BitVec.ofInt IntKind.i64.bits 15).toNat=2 ^ 4 - 1:=by decide
 rw [BitVec.toNat_and,e1,e2,Nat.and_two_pow_sub_one_eq_mod,wr (by omega) (by omega)]
theorem Qh3 {d:Nat} {n:Int} (h0:0<=n) (h:n<=65535):Ok (BU (d+2) n) fun r=>r.1.size<=1000:=by
 rw [TO,Z4 (by omega),Q5,Z4 (by omega),Q5]
 refine Ok.bind (P:=fun r=>r.1.size<=1000) ?_ fun r hr=>Ok.some hr
 rw [TN,Z4 (by omega),Q5,Z4 (show ¬ n > 4294967295 by omega)]
 unfold qi
 rw [Q5]
 have fin:∀ s:ByteArray,s.size<=200->Ok (lM d s) fun r=>r.1.size<=1000:=by
  intro s hs
  unfold lM
  refine Ok.cat (by (try simp only [Za,cc,Z9,Zb] at *);omega) (by (try simp only [Za,cc,Z9,Zb] at *);omega) (Ok.some ?_)
  (try simp only [Za,cc,Z9,Zb] at *);omega
 refine lV (fun m (st:Int×ByteArray)=>0<=st.1/\st.1<=65535/\(st.1 < 16 ^ m\/bl st.2=[])/\(m<=5)/\(bl st.2=[]->m=5)/\st.2.size+m*16<=100) ?_ Qd 5 _ (by rw [Q6];omega) ⟨h0,h,Or.inr rfl,by omega,fun _=>rfl,by simp only;rw [show (⟨#[]⟩:ByteArray).size=0 from rfl];omega⟩
 rintro m ⟨n,s⟩ ag ⟨h1,h2,h3,h4,h5,h6⟩ eo
 simp only at h1 h2 h3 h4 h5 h6
 obtain ⟨k,rfl⟩:=Int.eq_ofNat_of_zero_le h1
 have Fi:k % 16 < 16:=Nat.mod_lt _ (by omega)
 simp only [yF]
 have step:∀ b,(bl s=[]\/0 < k)->Ok (jf d (lM d) ag (k:Int) s b true) fun r=>r.1.size<=1000:=by
  intro b hb
  unfold jf
  rw [Q4,Ux (by omega)]
  have e2:((k:Int)).fdiv (2 ^ (min (4:Int).toNat IntKind.i64.bits))=((k / 16:Nat):Int):=by
   have:(2:Int) ^ (min (4:Int).toNat IntKind.i64.bits)=16:=rfl
   rw [this,Int.fdiv_eq_ediv_of_nonneg _ (by omega)];rfl
  rw [e2,aN (by omega)]
  change Ok (aa _ (aa _ (aa (Nat.ble _ _&&Nat.ble _ Lg.size) (aa (Nat.ble ((Lg.extract _ _).size+_) _) (ag (_,Lg.extract _ _++s)) _) _) _) _) _
  simp only [Q3,nn,Q4]
  have hz:(Lg.extract (k % 16) (k % 16+1)).size=1:=by rw [ByteArray.size_extract,Qlg];omega
  rw [Qvs (by omega) (by rw [Qlg];omega),Zt (by omega)]
  have hm:0 < m:=by
   rcases Nat.eq_zero_or_pos m with hm | hm
   .subst hm
    rcases hb with hb | hb
    .exact absurd (h5 hb) (by omega)
    .rcases h3 with h3 | h3
     .simp at h3;omega
     .exact absurd (h5 h3) (by omega)
   .exact hm
  obtain ⟨m',rfl⟩:∃ m',m=m'+1:=⟨m - 1,by omega⟩
  refine eo m' _ (by omega) ⟨by simp only;omega,by simp only;omega,Or.inl ?_,by omega,fun h=>?_,?_⟩
  .simp only
   rcases h3 with h3 | h3
   .have:k < 16 ^ m'*16:=by rw [Int.pow_succ] at h3;exact_mod_cast h3
    have:k / 16 < 16 ^ m':=Nat.div_lt_of_lt_mul (by rw [Nat.mul_comm];exact this)
    exact_mod_cast this
   .have:=h5 h3
    obtain rfl:m'=4:=by omega
    have:k / 16 < 16 ^ 4:=by omega
    exact_mod_cast this
  .have:=congrArg List.length h
   simp only at this
   rw [<- Y_,Za,hz] at this
   simp at this
  .simp only
   rw [Za,hz];omega
 refine Ok.aa (fun h=>step _ (Or.inr (by simpa using h))) (fun _=>?_)
 rw [Ov,Qyg []]
 by_cases hb:bl s=[]
 .rw [Z5 hb];exact step _ (Or.inl hb)
 .rw [Z4 hb]
  unfold jf
  rw [Q5]
  exact fin s (by omega)
theorem Qh4 {d:Nat} {x:dR} (h:zy x=true) (ht:0<=x.2.2.2.2/\x.2.2.2.2<=1000000):Ok (Gl (d+3) x) fun s=>s.size<=10000:=by
 unfold zy at h
 simp only [Z8,Zj] at h
 obtain ⟨⟨h1,h2,h3,h4,h5,h6,h7,h8⟩,_⟩:=h
 rw [TQ]
 refine Ok.bind (Qh3 h7 h8) fun r2 g2=>?_
 refine Ok.bind (Qh3 h5 h6) fun r3 g3=>?_
 refine Ok.bind (D4 (by omega) (by omega)) fun r4 g4=>?_
 refine Ok.cat (by (try simp only [Za,cc,Z9,Zb] at *);omega) (by (try simp only [Za,cc,Z9,Zb] at *);omega) ?_
 refine Ok.cat (by (try simp only [Za,cc,Z9,Zb] at *);omega) (by (try simp only [Za,cc,Z9,Zb] at *);omega) ?_
 rw [TP,Q9,Z5 h3,Q4]
 have kI:x.2.1.toNat < 4:=by omega
 change Ok (aa (Nat.blt x.2.1.toNat 4) _ none) _
 rw [Qp kI,Q4]
 refine Ok.bind (P:=fun s=>s.size<=10) ?_ fun s6 g6=>?_
 .have:x.2.1.toNat < 4:=by omega
  match x.2.1.toNat,this with
  | 0,_=>exact Ok.some (by decide)
  | 1,_=>exact Ok.some (by decide)
  | 2,_=>exact Ok.some (by decide)
  | 3,_=>exact Ok.some (by decide)
 refine Ok.cat (by (try simp only [Za,cc,Z9,Zb] at *);omega) (by (try simp only [Za,cc,Z9,Zb] at *);omega) ?_
 refine Ok.cat (by (try simp only [Za,cc,Z9,Zb] at *);omega) (by (try simp only [Za,cc,Z9,Zb] at *);omega) ?_
 refine Ok.cat (by (try simp only [Za,cc,Z9,Zb] at *);omega) (by (try simp only [Za,cc,Z9,Zb] at *);omega) ?_
 refine Ok.cat (by (try simp only [Za,cc,Z9,Zb] at *);omega) (by (try simp only [Za,cc,Z9,Zb] at *);omega) ?_
 refine Ok.cat (by (try simp only [Za,cc,Z9,Zb] at *);omega) (by (try simp only [Za,cc,Z9,Zb] at *);omega) ?_
 refine Ok.cat (by (try simp only [Za,cc,Z9,Zb] at *);omega) (by (try simp only [Za,cc,Z9,Zb] at *);omega) ?_
 refine Ok.bind (D4 ht.1 (by omega)) fun r7 g7=>?_
 refine Ok.cat (by (try simp only [Za,cc,Z9,Zb] at *);omega) (by (try simp only [Za,cc,Z9,Zb] at *);omega) ?_
 refine Ok.cat (by (try simp only [Za,cc,Z9,Zb] at *);omega) (by (try simp only [Za,cc,Z9,Zb] at *);omega) (Ok.some ?_)
 (try simp only [Za,cc,Z9,Zb] at *);omega
abbrev Pr:=Cf×List ByteArray×List Int×List Int×List Int
theorem IP {d:Nat} {p:Pr} {n:Int} {s:ByteArray} (h0:0<=n) (h1:n<=100) (hs:s.size<=90000) (hl:p.2.1.length<=1000):Ok (nA (d+2) p n s) fun r=>r.1=p.1/\r.2.1.length=p.2.1.length+1/\r.2.2=p.2.2:=by
 rw [TH,TG]
 refine Ok.bind (P:=fun r=>r.size<=5000) ?_ fun r hr=>?_
 .unfold BQ
  rw [Z5 h0,Z5 (show n<=1000000 by omega),Zg,Zg,show Nat.ble (⟨#[32,32]⟩:ByteArray).size 1000000=true from by decide,Q4]
  refine Ok.some ?_
  rw [cc]
  have:∀ (l:List UInt8) (k:Nat),(Go.Lib.repeatL l k).length=l.length*k:=by
   intro l k
   induction k with
   | zero=>simp [Go.Lib.repeatL]
   | succ k ih=>simp only [Go.Lib.repeatL,Zf,ih,Nat.mul_succ];omega
  rw [this]
  have:(⟨#[32,32]⟩:ByteArray).data.toList.length=2:=rfl
  rw [this];omega
 .refine Ok.cat (by omega) (by omega) ?_
  rw [room (by simp;omega),Q4]
  exact Ok.some ⟨rfl,by simp,rfl⟩
end Go.Proofs.YtcoimfbmgjhcjaaGreatDoor
