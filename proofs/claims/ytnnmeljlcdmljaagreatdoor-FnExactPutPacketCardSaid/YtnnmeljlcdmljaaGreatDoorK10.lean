/-
  What the cursor's functions and the small ones give by value. And what stood behind it in 9 texts.
  Conditions: said at the theorems.
-/
import Derived.Test.YtnnmeljlcdmljaaGreatDoorFnExactPutPacketRes
import Derived.Test.YtnnmeljlcdmljaaGreatDoorRepW
import Derived.Laws.Strings
set_option linter.all false
namespace Go.Proofs.YtnnmeljlcdmljaaGreatDoor
open Go.Ev Go.Pv
theorem Q57 {d:Nat} {x y z:Int}:g75 (d+1) x y z=some (decide (y≤x∧x≤z)):=by
 rw [e75];simp only [Q5a];congr 1;rw [Bool.eq_iff_iff];simp
def bl (s:ByteArray):List UInt8:=s.data.toList
theorem Qto (s:ByteArray):s.size=(bl s).length:=rfl
theorem Qxt (l:List UInt8):bl ⟨l.toArray⟩=l:=by simp [bl]
theorem Qri (a b:ByteArray):(a.toList==b.toList)=decide (bl a=bl b):=by
 rw [ByteArray.toList_eq,ByteArray.toList_eq]
 by_cases h:bl a=bl b
 ·rw [Z5 h];simpa [bl] using h
 ·rw [Z4 h];simpa [bl] using h
theorem Qo3 {a b:Nat} (h:a≤b):Nat.ble a b=true:=by rw [Nat.ble_eq];exact h
theorem Qv4 {α:Type} {a b n:Nat} {x y:Option α} (h1:a≤b) (h2:b≤n):oif (Nat.ble a b&&Nat.ble b n) x y=x:=by rw [Qo3 h1,Qo3 h2];rfl
theorem Qxu {α:Type} {a b:Nat} {x y:Option α} (h:a+b≤9223372036854775807):oif (Nat.ble (a+b) 9223372036854775807) x y=x:=by rw [Qo3 h];rfl
theorem Q7p {α τ:Type} {p:α→Bool}:∀ (l:List α) (i:Nat) (t:τ),Q03 (fun x _ t k=>oif (p x) (some true) (k t)) (fun _=>some false) l i t=some (l.any p)
 | [],i,t=>rfl
 | x::r,i,t=>by
  simp only [Q03,List.any_cons]
  cases p x with
  | true=>rfl
  | false=>exact Q7p r (i+1) t
def KW:List ByteArray:=[(⟨#[113,100,105,115,99]⟩:ByteArray),(⟨#[100,101,102,97,117,108,116]⟩:ByteArray),(⟨#[99,108,97,115,115]⟩:ByteArray),(⟨#[114,97,116,101]⟩:ByteArray),(⟨#[99,101,105,108]⟩:ByteArray),(⟨#[98,117,114,115,116]⟩:ByteArray),(⟨#[99,98,117,114,115,116]⟩:ByteArray),(⟨#[112,114,105,111]⟩:ByteArray),(⟨#[108,105,109,105,116]⟩:ByteArray),(⟨#[102,105,108,116,101,114]⟩:ByteArray),(⟨#[115,111,117,114,99,101]⟩:ByteArray),(⟨#[100,101,115,116]⟩:ByteArray),(⟨#[112,111,114,116]⟩:ByteArray),(⟨#[109,97,114,107]⟩:ByteArray)]
def sm (c:UInt8):Bool:=decide (97≤c.toNat∧c.toNat≤122)
theorem Qo4 {d:Nat} {c:UInt8}:g165 (d+1) (c.toNat:Int)=some (sm c):=by
 rw [e165];unfold sm;simp only [Q5a];congr 1;rw [Bool.eq_iff_iff];simp;omega
def kyB (s:ByteArray):Bool:=KW.any fun w=>decide (bl w=bl s)
theorem Qv5 {d:Nat} {s:ByteArray}:g166 (d+1) s=some (kyB s):=by
 rw [e166]
 refine (Qc (fun (t:Bool) (i:Int)=>(t,i)) KW (fun w _ t k=>oif (decide (bl w=bl s)) (some true) (k t)) (fun _=>some false) ?_ ?_ (by rw [Q6];decide) false).trans (Q7p KW 0 _)
 ·intro ag t i x hx
  have hi:=(Z0 hx).1
  have h14:KW.length=14:=rfl
  simp only [l166_0]
  change oif (decide ((i:Int) < 14)) (oif (decide (0≤(i:Int))) (Q1 (KW[(i:Int).toNat]?) _) none) _=_
  rw [Z5 (show (i:Int) < 14 by omega),Q4,nn,Q4,Q3,hx,Q8,Qri,wr1 (by omega)]
 ·intro ag t
  simp only [l166_0]
  rw [Z4 (show ¬ ((KW.length:Nat):Int) < 14 by decide),Q5];rfl
theorem Qrj {d:Nat} {s:ByteArray}:g128 (d+2) s=some (kyB s):=by
 rw [e128,e164,Q8,e163]
 have:∀ X:Option Bool,X=some (kyB s)→Q1 X (fun r3=>some r3)=some (kyB s):=fun X h=>by rw [h];rfl
 refine this _ ?_
 refine (Qc (fun (t:Bool) (i:Int)=>(t,i)) KW (fun w _ t k=>oif (decide (bl w=bl s)) (some true) (k t)) (fun _=>some false) ?_ ?_ (by rw [Q6];decide) false).trans (Q7p KW 0 _)
 ·intro ag t i x hx
  have hi:=(Z0 hx).1
  have h14:KW.length=14:=rfl
  simp only [l163_0]
  change oif (decide ((i:Int) < ((KW.length:Nat):Int))) (oif (decide (0≤(i:Int))) (Q1 (KW[(i:Int).toNat]?) _) none) _=_
  rw [Z5 (show (i:Int) < ((KW.length:Nat):Int) by omega),Q4,nn,Q4,Q3,hx,Q8,Qri,wr1 (by omega)]
 ·intro ag t
  simp only [l163_0]
  change oif (decide (((KW.length:Nat):Int) < ((KW.length:Nat):Int))) _ _=_
  rw [ltn,Q5];rfl
theorem Qa6 {f:Nat} (h0:f≠179) (h1:f≠190):Qct f=none∧Qrh f=none:=by
 constructor
 ·unfold Qct;split<;>simp_all
 ·unfold Qrh;split<;>simp_all
theorem extAll:ExtAll Tryz.prog Qb:=by
 refine ⟨⟨fun f v h=>?_,fun f h=>?_,fun f h=>?_⟩,fun f e h=>?_⟩
 ·by_cases h0':f=179
  ·subst h0'
   have h':Qct 179=some v:=h
   have h2:some (fun (a:Int)=>Qf7 a)=some v:=h'
   injection h2 with h2
   subst h2
   exact ⟨_,rfl,Qwd⟩
  ·by_cases h1':f=190
   ·subst h1'
    have h':Qct 190=some v:=h
    have h2:some (fun (a:ByteArray×Int)=>Qsm a.1 a.2)=some v:=h'
    injection h2 with h2
    subst h2
    exact ⟨_,rfl,Qys⟩
   ·have:Qct f=some v:=h
    rw [(Qa6 h0' h1').1] at this;simp at this
 ·by_cases h0':f=179
  ·subst h0'
   have h2:some (fun (a:Int)=>Qf7 a)=none:=h
   simp at h2
  ·by_cases h1':f=190
   ·subst h1'
    have h2:some (fun (a:ByteArray×Int)=>Qsm a.1 a.2)=none:=h
    simp at h2
   ·exact (Qa6 h0' h1').2
 ·by_cases h0':f=179
  ·subst h0'
   have h2:false=true:=h
   simp at h2
  ·by_cases h1':f=190
   ·subst h1'
    have h2:false=true:=h
    simp at h2
   ·exact (Qa6 h0' h1').1
 ·by_cases h0':f=179
  ·subst h0'
   have h2:some Qjs=some e:=h
   injection h2 with h2
   subst h2
   exact Qso
  ·by_cases h1':f=190
   ·subst h1'
    have h2:some Qwe=some e:=h
    injection h2 with h2
    subst h2
    exact Qwf
   ·have h2:Qrh f=some e:=h
    rw [(Qa6 h0' h1').2] at h2;simp at h2
abbrev Cl8:=Int×Int×Int×Int×Int×Int×Int×Int
abbrev Fl5:=Int×Int×Int×Int×Int
abbrev Cf:=ByteArray×List Cl8×List Fl5×Int
abbrev Ld:=ByteArray×List Cl8×List Int×List Int×List Int×List Int×List Fl5×List Int×Int
abbrev Tk:=List Int×List Int
def fiP {α:Type} (p:α→Bool):List α→Nat→Int
 | [],_=>-1
 | x::r,i=>if p x=true then (i:Int) else fiP p r (i+1)
theorem Q20 {α τ:Type} {p:α→Bool}:∀ (l:List α) (i:Nat) (t:τ),Q03 (fun x i t k=>oif (p x) (some ((i:Nat):Int)) (k t)) (fun _=>some (-1)) l i t=some (fiP p l i)
 | [],i,t=>rfl
 | x::r,i,t=>by
  simp only [Q03,fiP]
  cases p x with
  | true=>rfl
  | false=>simp only [Q5,Bool.false_eq_true,if_false];exact Q20 r (i+1) t
theorem Qe9 {α:Type} {p:α→Bool}:∀ {l:List α} {i:Nat},fiP p l i < 0↔∀ x∈l,p x=false
 | [],i=>by simp [fiP]
 | x::r,i=>by
  simp only [fiP,List.mem_cons,forall_eq_or_imp]
  cases p x with
  | true=>simp
  | false=>simp only [Bool.false_eq_true,if_false,true_and];exact Qe9
theorem Q66 {α:Type} {p:α→Bool}:∀ {l:List α} {i:Nat},0≤fiP p l i→∃ (k:Nat) (x:α),fiP p l i=((i+k:Nat):Int)∧l[k]? = some x∧p x=true∧∀ j y,j < k→l[j]? = some y→p y=false
 | [],i,h=>by simp [fiP] at h
 | x::r,i,h=>by
  simp only [fiP] at h ⊢
  cases hp:p x with
  | true=>exact ⟨0,x,by simp,rfl,hp,fun j y hj=>by omega⟩
  | false =>
   simp only [hp,Bool.false_eq_true,if_false] at h ⊢
   obtain ⟨k,y,h1,h2,h3,h4⟩:=Q66 h
   refine ⟨k+1,y,by rw [h1];congr 1;omega,h2,h3,fun j z hj hz=>?_⟩
   cases j with
   | zero=>simp at hz;subst hz;exact hp
   | succ j=>exact h4 j z (by omega) (by simpa using hz)
theorem Qcu {α τ β:Type} {p:α→Bool} {b1 b2:Option β}:∀ (l:List α) (i:Nat) (t:τ),Q03 (fun x _ t k=>oif (p x) b1 (k t)) (fun _=>b2) l i t=oif (l.any p) b1 b2
 | [],i,t=>rfl
 | x::r,i,t=>by
  simp only [Q03,List.any_cons]
  cases p x with
  | true=>rfl
  | false=>exact Qcu r (i+1) t
def fid (l:List Cl8) (id:Int):Int:=fiP (fun x=>x.1==id) l 0
def Q5f (l:List Cl8) (id:Int):List Int:=Q6u (fun x _=>x.2.1==id) (fun _ k=>((k:Nat):Int)) l 0
def Q2y (l:List Cl8) (id:Int):Bool := !(l.any fun x=>x.2.1==id)
theorem Q7q {α γ:Type} {c:α→Bool} {e:α→Nat→γ}:∀ (l:List α) (i:Nat),((Q6u (fun x _=>c x) e l i).length==0) = !(l.any c)
 | [],i=>rfl
 | x::r,i=>by
  simp only [Q6u,List.any_cons]
  by_cases h:c x=true
  ·rw [if_pos h,h];simp
  ·rw [if_neg h,Bool.eq_false_iff.2 h,Bool.false_or];exact Q7q r (i+1)
theorem Qg8 {l:List Cl8} {id:Int}:((((Q5f l id).length:Nat):Int)==0)=Q2y l id:=by
 have:=Q7q (c:=fun x:Cl8=>x.2.1==id) (e:=fun _ k=>((k:Nat):Int)) l 0
 unfold Q5f Q2y
 rw [← this,Bool.eq_iff_iff,beq_iff_eq,beq_iff_eq];omega
theorem Qa7 {l:List Cl8} {id:Int}:(Q5f l id).length≤l.length:=Qf4 _ _
theorem Qkl {l:List Cl8} {id n:Int} (h:n∈Q5f l id):∃ (k:Nat) (x:Cl8),n=(k:Int)∧l[k]? = some x∧x.2.1=id:=by
 obtain ⟨j,x,h1,h2,h3⟩:=Qf5 _ _ h
 exact ⟨j,x,by simpa using h3,h1,by simpa using h2⟩
theorem Q3t {l:List Cl8} {id:Int} (h:0≤fid l id):∃ (k:Nat) (x:Cl8),fid l id=(k:Int)∧l[k]? = some x∧x.1=id:=by
 obtain ⟨k,x,h1,h2,h3,_⟩:=Q66 h
 exact ⟨k,x,by unfold fid;simpa using h1,h2,by simpa using h3⟩
theorem Qj2 {l:List Cl8} {id:Int}:fid l id < 0↔∀ x∈l,x.1≠id:=by
 unfold fid;rw [Qe9];simp
theorem Qar {d:Nat} {c:Cf} {id:Int} (hl:c.2.1.length < 4000000):g52 (d+3) c id=some (fid c.2.1 id):=by
 rw [e52]
 refine (Qc (fun (t:Int) (i:Int)=>(t,i)) c.2.1 (fun x i t k=>oif (x.1==id) (some ((i:Nat):Int)) (k t)) (fun _=>some (-1)) ?_ ?_ (by rw [Q6];omega) 0).trans (Q20 c.2.1 0 _)
 ·intro ag t i x hx;have hi:=(Z0 hx).1;simp only [l52i100_0,ltl hx,nn,Q3,hx,Q8,Q4];rw [wr1 (by omega)]
 ·intro ag t;simp only [l52i100_0,ltn,Q5];rfl
theorem Q7r {d:Nat} {c:Cf} {id:Int} (hl:c.2.1.length < 4000000):g134 (d+1) c id=some (fid c.2.1 id):=by
 rw [e134]
 refine (Qc (fun (t:Int) (i:Int)=>(t,i)) c.2.1 (fun x i t k=>oif (x.1==id) (some ((i:Nat):Int)) (k t)) (fun _=>some (-1)) ?_ ?_ (by rw [Q6];omega) 0).trans (Q20 c.2.1 0 _)
 ·intro ag t i x hx;have hi:=(Z0 hx).1;simp only [l134_0,ltl hx,nn,Q3,hx,Q8,Q4];rw [wr1 (by omega)]
 ·intro ag t;simp only [l134_0,ltn,Q5];rfl
theorem Qea {d:Nat} {c:Cf} {n:Nat} {y:Cl8} (hn:c.2.1[n]? = some y) (hl:c.2.1.length < 4000000):g172 (d+4) c (n:Int)=some (Q2y c.2.1 y.1):=by
 rw [e172]
 refine (Qc (fun (t:Int) (i:Int)=>(t,i)) c.2.1 (fun x i t k=>oif (x.2.1==y.1) (some false) (k t)) (fun _=>some true) ?_ ?_ (by rw [Q6];omega) 0).trans ?_
 ·intro ag t i x hx;have hi:=(Z0 hx).1;simp only [l172i139i100_0,ltl hx,nn,Q3,hx,Q8,Q4];rw [wr1 (by omega)]
  rw [hn,Q8];rfl
 ·intro ag t;simp only [l172i139i100_0,ltn,Q5];rfl
 ·rw [Qcu];unfold Q2y;cases c.2.1.any _<;>rfl
theorem Q9j {d:Nat} {c:Cf} {n:Nat} {y:Cl8} (hn:c.2.1[n]? = some y) (hl:c.2.1.length≤1000):g186 (d+1) c (n:Int)=some (Q5f c.2.1 y.1):=by
 rw [e186]
 refine (Qc (fun (t:List Int) (i:Int)=>(t,i)) c.2.1 (fun x i t k=>oif (x.2.1==y.1) (oif (Nat.ble ((t.length+[((i:Nat):Int)].length)*8) Q7) (k (t++[((i:Nat):Int)])) none) (k t)) (fun t=>some t) ?_ ?_ (by rw [Q6];omega) []).trans ?_
 ·intro ag t i x hx;have hi:=(Z0 hx).1;simp only [l186_0,ltl hx,nn,Q3,hx,Q8,Q4];rw [wr1 (by omega)]
  rw [hn,Q8]
 ·intro ag t;simp only [l186_0,ltn,Q5];rfl
 ·exact Q22 (c:=fun x _=>x.2.1==y.1) (e:=fun (_:Cl8) (k:Nat)=>((k:Nat):Int)) (w:=8) c.2.1 0 [] (by simp;omega)
theorem Qa8 {d:Nat} {c:Cf} {n:Nat} {y:Cl8} (hn:c.2.1[n]? = some y) (hl:c.2.1.length≤1000):g152 (d+1) c (n:Int)=some (Q5f c.2.1 y.1):=by
 rw [e152]
 refine (Qc (fun (t:List Int) (i:Int)=>(t,i)) c.2.1 (fun x i t k=>oif (x.2.1==y.1) (oif (Nat.ble ((t.length+[((i:Nat):Int)].length)*8) Q7) (k (t++[((i:Nat):Int)])) none) (k t)) (fun t=>some t) ?_ ?_ (by rw [Q6];omega) []).trans ?_
 ·intro ag t i x hx;have hi:=(Z0 hx).1;simp only [l152_0,ltl hx,nn,Q3,hx,Q8,Q4];rw [wr1 (by omega)]
  rw [hn,Q8]
 ·intro ag t;simp only [l152_0,ltn,Q5];rfl
 ·exact Q22 (c:=fun x _=>x.2.1==y.1) (e:=fun (_:Cl8) (k:Nat)=>((k:Nat):Int)) (w:=8) c.2.1 0 [] (by simp;omega)
theorem Qkm {d:Nat} {c:Cf} {n:Nat} {y:Cl8} (hn:c.2.1[n]? = some y) (hl:c.2.1.length≤1000):g132 (d+2) c (n:Int)=some (Q2y c.2.1 y.1):=by
 rw [e132,Qa8 hn hl,Q8,Qg8]
def Qnm (l:List Cl8) (id:Int):Bool:=decide (0≤fid l id)&&Q2y l id
theorem Q8t {d:Nat} {c:Cf} {id:Int} (hl:c.2.1.length≤1000):g148 (d+5) c id=some (Qnm c.2.1 id):=by
 rw [e148,Qar (by omega),Q8]
 unfold Qnm
 by_cases h:0≤fid c.2.1 id
 ·obtain ⟨k,x,h1,h2,h3⟩:=Q3t h
  rw [Z5 h,Q4,h1,Qea h2 (by omega),Q8,h3,Zg]
 ·rw [Z4 h];rfl
theorem Q8u {d:Nat} {c:Cf} {id:Int} (hl:c.2.1.length≤1000):g91 (d+3) c id=some (Qnm c.2.1 id):=by
 rw [e91,Q7r (by omega),Q8]
 unfold Qnm
 by_cases h:0≤fid c.2.1 id
 ·obtain ⟨k,x,h1,h2,h3⟩:=Q3t h
  rw [Z5 h,Q4,h1,Qkm h2 hl,Q8,h3,Zg]
 ·rw [Z4 h];rfl
def nmB (s:ByteArray):Bool:=decide (1≤s.size∧s.size≤8)&&((bl s).all sm && !kyB s)
theorem Qrk {d:Nat} {s:ByteArray}:g135 (d+2) s=some (nmB s):=by
 rw [e135]
 unfold nmB j135_1
 by_cases h0:((s.size:Nat):Int) < 1
 ·rw [Z5 h0,Q4,Q4,Z4 (by omega)];rfl
 rw [Z4 h0,Q5]
 by_cases h2:((s.size:Nat):Int) > 8
 ·rw [Z5 h2,Q4,Z4 (by omega)];rfl
 rw [Z4 h2,Q5,Z5 (show 1≤s.size∧s.size≤8 by omega),Zg]
 have hs:(bl s).length < 4194304:=by rw [← Qto];omega
 refine (Qc (fun (t:Bool) (i:Int)=>(t,i)) (bl s) (fun x _ t k=>oif (sm x) (k t) (some false)) (j135_0 (d+1) s) ?_ ?_ (by rw [Q6];exact hs) false).trans ?_
 ·intro ag t i x hx
  have hi:=(Z0 hx).1
  have hx2:s.data.toList[i]? = some x:=hx
  have hsz:s.size=(bl s).length:=rfl
  simp only [l135_0]
  rw [Z5 (show (i:Int) < ((s.size:Nat):Int) by omega),Q4,nn,Q4,Q3,hx2,Q8,Qo4,Q8,wr1 (by omega)]
  cases sm x<;>rfl
 ·intro ag t
  simp only [l135_0]
  rw [show ((s.size:Nat):Int)=(((bl s).length:Nat):Int) from rfl,ltn,Q5]
 ·rw [Q1j]
  cases (bl s).all sm with
  | false=>rfl
  | true =>
   rw [Q4,Zg]
   unfold j135_0
   rw [Qv5,Q8]
theorem Qrl {d:Nat} {s:ByteArray} (hs:s.size < 4000000):g88 (d+3) s=some (nmB s):=by
 rw [e88]
 unfold nmB
 have hsz:s.size=(bl s).length:=rfl
 refine (Qc (fun (t:Bool) (i:Int)=>(t,i)) (bl s) (fun x _ t k=>oif (sm x) (k t) (some false)) (j88_0 (d+2) s) ?_ ?_ (by rw [Q6];omega) false).trans ?_
 ·intro ag t i x hx
  have hi:=(Z0 hx).1
  have hx2:s.data.toList[i]? = some x:=hx
  simp only [l88_0]
  rw [Z5 (show (i:Int) < ((s.size:Nat):Int) by omega),Q4,nn,Q4,Q3,hx2,Q8,Q4,Q8,wr1 (by omega)]
  unfold sm
  by_cases h1:(x.toNat:Int) < 97
  ·rw [Z5 h1,Q4,Z4 (by omega)];rfl
  ·rw [Z4 h1,Q5]
   by_cases h2:(x.toNat:Int) > 122
   ·rw [Z5 h2,Q4,Z4 (by omega)];rfl
   ·rw [Z4 h2,Q5,Z5 (by omega)];rfl
 ·intro ag t
  simp only [l88_0]
  rw [show ((s.size:Nat):Int)=(((bl s).length:Nat):Int) from rfl,ltn,Q5]
 ·rw [Q1j]
  cases (bl s).all sm with
  | false=>rw [Q5,Bool.false_and,Bool.and_false]
  | true =>
   rw [Q4,Zg]
   unfold j88_0
   rw [Q57,Q8]
   by_cases h:1≤s.size∧s.size≤8
   ·rw [Z5 (show (1:Int)≤((s.size:Nat):Int)∧((s.size:Nat):Int)≤8 by omega),Q4,Qrj,Q8,Z5 h,Zg]
   ·rw [Z4 (show ¬ ((1:Int)≤((s.size:Nat):Int)∧((s.size:Nat):Int)≤8) by omega),Q5,Z4 h];rfl
def zc8:Cl8:=(0,0,0,0,0,0,0,0)
def Q0e (l:List Cl8) (i:Int):Cl8:=l.getD i.toNat zc8
def Q4c {α:Type} (p:α→Nat→Bool):List α→Nat→Bool
 | [],_=>true
 | x::r,i=>p x i&&Q4c p r (i+1)
theorem Q04 {α τ β:Type} {p:α→Nat→Bool} {no:Option β} {fin:τ→Option β}:∀ (l:List α) (i:Nat) (t:τ),Q03 (fun x i t k=>oif (p x i) (k t) no) fin l i t=oif (Q4c p l i) (fin t) no
 | [],i,t=>rfl
 | x::r,i,t=>by
  simp only [Q03,Q4c]
  cases p x i with
  | true=>simp only [Q4,Zg];exact Q04 r (i+1) t
  | false=>rfl
theorem Q15 {α:Type} {p:α→Nat→Bool}:∀ {l:List α} {i:Nat},Q4c p l i=true↔∀ j x,l[j]? = some x→p x (i+j)=true
 | [],i=>by simp [Q4c]
 | x::r,i=>by
  simp only [Q4c,Z8,Q15 (l:=r)]
  constructor
  ·rintro ⟨h1,h2⟩ j y hy
   cases j with
   | zero=>simp at hy;subst hy;exact h1
   | succ j=>have:=h2 j y (by simpa using hy);rw [show i+(j+1)=i+1+j by omega];exact this
  ·intro h
   exact ⟨h 0 x rfl,fun j y hy=>by have:=h (j+1) y (by simpa using hy);rw [show i+1+j=i+(j+1) by omega];exact this⟩
theorem Qkn {α:Type} {p q:α→Nat→Bool} {l:List α} {i:Nat}:Q4c (fun x j=>p x j&&q x j) l i=(Q4c p l i&&Q4c q l i):=by
 rw [Bool.eq_iff_iff,Z8,Q15,Q15,Q15]
 simp only [Z8]
 exact ⟨fun h=>⟨fun j x hx=>(h j x hx).1,fun j x hx=>(h j x hx).2⟩,fun h j x hx=>⟨h.1 j x hx,h.2 j x hx⟩⟩
theorem Qeb {α:Type} {p:α→Bool}:∀ {l:List α} {i:Nat},Q4c (fun x _=>p x) l i=l.all p
 | [],_=>rfl
 | x::r,i=>by simp only [Q4c,List.all_cons];rw [Qeb (l:=r)]
def Qo5 (l:List Cl8) (x:Cl8) (i:Nat):Bool:=decide (1≤x.1∧x.1≤999)&&(decide (i=0) || decide ((Q0e l ((i:Int) - 1)).1 < x.1))
def Q8v (l:List Cl8):Nat:=(l.filter fun x=>x.2.1==0).length
def Qtp (l:List Cl8):Bool:=l.all fun x=>x.2.1==0 || decide (0≤fid l x.2.1)
def upF (l:List Cl8):Nat→Int→List Int
 | 0,_=>[]
 | f+1,i=>if i < 0 then [] else i::upF l f (fid l (Q0e l i).2.1)
def Q5g (u:List Int):Int:=u.getD (u.length - 1) 0
def Qnn (l:List Cl8) (i:Nat):Bool:=decide ((upF l 9 i).length≤8)&&((Q0e l (Q5g (upF l 9 i))).2.1==0)
theorem Q1t {l:List Cl8} {n:Nat} {x:Cl8} (h:l[n]? = some x):Q0e l (n:Int)=x:=by unfold Q0e;rw [Q3,Zr,h];rfl
theorem Q4l {l:List Cl8} {i:Int} (h0:0≤i) (h:i < ((l.length:Nat):Int)):l[i.toNat]? = some (Q0e l i):=by
 have:i.toNat < l.length:=by omega
 unfold Q0e;rw [Zr,Z6 this];rfl
theorem Qas {l:List Cl8} {id:Int}:fid l id < ((l.length:Nat):Int):=by
 by_cases h:0≤fid l id
 ·obtain ⟨k,x,h1,h2,_⟩:=Q3t h
  have:=(Z0 h2).1
  omega
 ·omega
theorem Qxv {d:Nat} {n:Int}:g167 (d+1) n=some (decide (1≤n∧n≤999)):=by
 rw [e167]
 by_cases h:n≥1
 ·rw [Z5 h,Q4];congr 1;rw [Bool.eq_iff_iff];simp;omega
 ·rw [Z4 h,Q5];congr 1;symm;rw [decide_eq_false_iff_not];omega
def Qm5 (l:List Cl8):Bool:=Q4c (Qo5 l) l 0
theorem wrm {i:Nat} (h:i < 9223372036854775807) (h0:0 < i):IntKind.i64.wrap ((i:Int) - 1)=((i - 1:Nat):Int):=by rw [wr (by omega) (by omega)];omega
theorem Qm6 {d:Nat} {c:Cf} (hl:c.2.1.length < 4000000):g136 (d+2) c=some (Qm5 c.2.1&&decide (1≤c.2.1.length∧c.2.1.length≤24)):=by
 rw [e136]
 refine (Qc (fun (t:Bool) (i:Int)=>(t,i)) c.2.1 (fun x i t k=>oif (Qo5 c.2.1 x i) (k t) (some false)) (fun _=>some (decide (1≤c.2.1.length∧c.2.1.length≤24))) ?_ ?_ (by rw [Q6];omega) false).trans ?_
 ·intro ag t i x hx
  have hi:=(Z0 hx).1
  simp only [l136_0,ltl hx,nn,Q3,hx,Q8,Q4]
  rw [Qxv,Q8,wr1 (by omega)]
  unfold Qo5
  cases decide (1≤x.1∧x.1≤999) with
  | false=>rfl
  | true =>
   rw [Zl,Q5,Zg]
   by_cases h0:i=0
   ·subst h0;rfl
   ·rw [Z5 (show (i:Int) > 0 by omega),Q4,wrm (by omega) (by omega),nn,Q4,Q3,Z6 (show i - 1 < c.2.1.length by omega),Q8,Z4 h0,Bool.false_or]
    rw [show (i:Int) - 1=((i - 1:Nat):Int) by omega,Q1t (Z6 (show i - 1 < c.2.1.length by omega))]
    by_cases h:x.1≤(c.2.1[i - 1]).1
    ·rw [Z5 h,Z4 (by omega)];rfl
    ·rw [Z4 h,Z5 (by omega)];rfl
 ·intro ag t
  simp only [l136_0,ltn,Q5]
  unfold j136_0
  by_cases h:((c.2.1.length:Nat):Int)≥1
  ·rw [Z5 h,Q4];congr 1;rw [Bool.eq_iff_iff];simp;omega
  ·rw [Z4 h,Q5];congr 1;symm;rw [decide_eq_false_iff_not];omega
 ·rw [Q04];unfold Qm5;cases Q4c (Qo5 c.2.1) c.2.1 0<;>rfl
theorem Q7s {α:Type} {p:α→Bool}:∀ (l:List α) (i:Nat) (t:Nat),t+l.length < 4000000→Q0a (fun x _ (t:Int)=>if p x=true then IntKind.i64.wrap (t+1) else t) l i (t:Int)=((t+(l.filter p).length:Nat):Int)
 | [],i,t,_=>by simp [Q0a]
 | x::r,i,t,h=>by
  simp only [Z9] at h
  simp only [Q0a,List.filter_cons]
  cases p x with
  | true =>
   simp only [if_true]
   rw [wr1 (by omega),Q7s r (i+1) (t+1) (by omega)]
   simp;omega
  | false=>simp only [Bool.false_eq_true,if_false];exact Q7s r (i+1) t (by omega)
theorem Qg9 {d:Nat} {c:Cf} (hl:c.2.1.length≤1000):Ok (g168 (d+4) c) fun r=>((((r.length:Nat):Int))==0)=Qtp c.2.1:=by
 rw [e168]
 refine ⟨Q6u (fun x _ => !(x.2.1==0 || decide (0≤fid c.2.1 x.2.1))) (fun _ k=>((k:Nat):Int)) c.2.1 0,?_,?_⟩
 ·refine (Qc (fun (t:List Int) (i:Int)=>(t,i)) c.2.1 (fun x i t k=>oif (!(x.2.1==0 || decide (0≤fid c.2.1 x.2.1))) (oif (Nat.ble ((t.length+[((i:Nat):Int)].length)*8) Q7) (k (t++[((i:Nat):Int)])) none) (k t)) (fun t=>some t) ?_ ?_ (by rw [Q6];omega) []).trans ?_
  ·intro ag t i x hx;have hi:=(Z0 hx).1;simp only [l168_0,ltl hx,nn,Q3,hx,Q8,Q4]
   unfold j168_1
   rw [wr1 (by omega)]
   by_cases h:x.2.1=0
   ·rw [show (x.2.1 != 0)=false by simp [h],Q5,Q5,show (x.2.1==0)=true by simp [h],Bool.true_or];rfl
   ·rw [show (x.2.1 != 0)=true by simp [h],Q4,Qar (by omega),Q8,show (x.2.1==0)=false by simp [h],Bool.false_or]
    by_cases h2:fid c.2.1 x.2.1 < 0
    ·rw [Z5 h2,Q4,Z4 (by omega)];rfl
    ·rw [Z4 h2,Q5,Z5 (by omega)];rfl
  ·intro ag t;simp only [l168_0,ltn,Q5];rfl
  ·exact Q22 (c:=fun x _ => !(x.2.1==0 || decide (0≤fid c.2.1 x.2.1))) (e:=fun (_:Cl8) (k:Nat)=>((k:Nat):Int)) (w:=8) c.2.1 0 [] (by simp;omega)
 ·have:=Q7q (c:=fun x:Cl8 => !(x.2.1==0 || decide (0≤fid c.2.1 x.2.1))) (e:=fun _ k=>((k:Nat):Int)) c.2.1 0
  unfold Qtp
  rw [show (c.2.1.all fun x=>x.2.1==0 || decide (0≤fid c.2.1 x.2.1)) = !(c.2.1.any fun x => !(x.2.1==0 || decide (0≤fid c.2.1 x.2.1))) by simp [List.all_eq_not_any_not],← this]
  simp only []
  rw [Bool.eq_iff_iff,beq_iff_eq,beq_iff_eq]
  omega
theorem Qcg {d:Nat} {c:Cf} (hl:c.2.1.length≤1000):g137 (d+5) c=some (decide (Q8v c.2.1=1)&&Qtp c.2.1):=by
 rw [e137]
 refine (Qc (fun (t:Int) (i:Int)=>(t,i)) c.2.1 (fun x _ t k=>k (if (x.2.1==0)=true then IntKind.i64.wrap (t+1) else t)) (j137_0 (d+4) c) ?_ ?_ (by rw [Q6];omega) 0).trans ?_
 ·intro ag t i x hx;have hi:=(Z0 hx).1;simp only [l137_0,ltl hx,nn,Q3,hx,Q8,Q4];rw [wr1 (by omega)]
  cases (x.2.1==0)<;>rfl
 ·intro ag t;simp only [l137_0,ltn,Q5]
 ·rw [Q0r (f:=fun (x:Cl8) _ (t:Int)=>if (x.2.1==0)=true then IntKind.i64.wrap (t+1) else t)]
  have:=Q7s (p:=fun x:Cl8=>x.2.1==0) c.2.1 0 0 (by omega)
  rw [show ((0:Nat):Int)=0 from rfl] at this
  rw [this,Zo]
  unfold j137_0
  rw [show (c.2.1.filter fun x=>x.2.1==0).length=Q8v c.2.1 from rfl]
  by_cases h:Q8v c.2.1=1
  ·rw [show (((Q8v c.2.1:Nat):Int)==1)=true by rw [beq_iff_eq];omega,Q4,Z5 h,Zg]
   obtain ⟨r,h1,h2⟩:=Qg9 (d:=d) hl
   rw [h1,Q8,h2]
  ·rw [show (((Q8v c.2.1:Nat):Int)==1)=false by rw [beq_eq_false_iff_ne];omega,Q5,Z4 h];rfl
theorem Qa9 {l:List Cl8}:∀ (f g:Nat) (i:Int),(upF l f i).length < f→f≤g→upF l g i=upF l f i
 | 0,g,i,h,_=>by omega
 | f+1,0,i,h,hg=>by omega
 | f+1,g+1,i,h,hg=>by
  simp only [upF] at h ⊢
  by_cases hi:i < 0
  ·rw [if_pos hi,if_pos hi]
  ·rw [if_neg hi] at h ⊢
   rw [if_neg hi,Qa9 f g _ (by simpa using h) (by omega)]
theorem Qj3 {l:List Cl8} {f:Nat} {i:Int} (h:0≤i):upF l (f+1) i=i::upF l f (fid l (Q0e l i).2.1):=by
 simp only [upF];rw [if_neg (by omega)]
theorem Qaa {l:List Cl8} {i:Int} (h0:0≤i) (h:(upF l 9 i).length≤8):(upF l 9 i)=i::upF l 9 (fid l (Q0e l i).2.1):=by
 have e:upF l 9 i=i::upF l 8 (fid l (Q0e l i).2.1):=by
  conv=>lhs;unfold upF
  rw [if_neg (by omega)]
 rw [e] at h ⊢
 simp only [Z9] at h
 rw [Qa9 8 9 _ (by omega) (by omega)]
theorem Qj4 {l:List Cl8}:∀ (f:Nat) (i:Int),i < ((l.length:Nat):Int)→∀ n∈upF l f i,0≤n∧n < ((l.length:Nat):Int)
 | 0,_,_,n,hn=>by simp [upF] at hn
 | f+1,i,h,n,hn=>by
  simp only [upF] at hn
  split at hn
  ·simp at hn
  ·rcases Z2 hn with rfl | hn
   ·exact ⟨by omega,h⟩
   ·exact Qj4 f _ Qas n hn
theorem Qo6 {l:List Int} {n:Int} (h:fiP (fun x=>x==n) l 0 < 0):n∉l:=by
 rw [Qe9] at h
 intro hm
 have:=h n hm
 simp at this
theorem Qo7 {d:Nat} {l:List Int} {n:Int} (hl:l.length < 4000000):g116 (d+1) l n=some (fiP (fun x=>x==n) l 0):=by
 rw [e116]
 refine (Qc (fun (t:Int) (i:Int)=>(t,i)) l (fun x i t k=>oif (n==x) (some ((i:Nat):Int)) (k t)) (fun _=>some (-1)) ?_ ?_ (by rw [Q6];omega) 0).trans ?_
 ·intro ag t i x hx;have hi:=(Z0 hx).1;simp only [l116_0,ltl hx,nn,Q3,hx,Q8,Q4];rw [wr1 (by omega)]
 ·intro ag t;simp only [l116_0,ltn,Q5];rfl
 ·rw [show (fun (x:Int) (i:Nat) (t:Int) (k:Int→Option Int)=>oif (n==x) (some ((i:Nat):Int)) (k t))=fun x i t k=>oif (x==n) (some ((i:Nat):Int)) (k t) by funext x i t k;rw [BEq.comm]]
  exact Q20 l 0 _
theorem Qm7 {d:Nat} {l:List Int} {n:Int} (hl:l.length < 4000000):g185 (d+2) l n=some (decide (0≤fiP (fun x=>x==n) l 0)):=by
 rw [e185,Qo7 hl,Q8]
theorem Q7t {l:List Int} {n:Nat} (h:l.Nodup) (h2:∀ x∈l,0≤x∧x < (n:Int)):l.length≤n:=by
 have:=List.Nodup.length_le_of_subset (l₂:=(List.range n).map fun (k:Nat)=>(k:Int)) h (fun x hx=>by
  obtain ⟨h3,h4⟩:=h2 x hx
  exact List.mem_map.2 ⟨x.toNat,List.mem_range.2 (by omega),by omega⟩)
 simpa using this
theorem Qrm {d:Nat} {c:Cf} {i:Nat} (hi:i < c.2.1.length) (hl:c.2.1.length≤24):Ok (g169 (d+4) c (i:Int)) fun r=>(r.2=true→upF c.2.1 (r.1.length+1) (i:Int)=r.1∧0 < r.1.length)∧(r.2=false→8 < (upF c.2.1 9 (i:Int)).length):=by
 rw [e169]
 refine Q0x (fun m (st:Int×List Int×Bool×List Int)=>m=24 - st.2.2.2.length∧st.1 < ((c.2.1.length:Nat):Int)∧st.2.2.2.Nodup∧(∀ x∈st.2.2.2,0≤x∧x < ((c.2.1.length:Nat):Int))∧(∀ f,upF c.2.1 (st.2.2.2.length+f) (i:Int)=st.2.2.2++upF c.2.1 f st.1)∧(st.2.2.2=[]→st.1=(i:Int)) ∧
  ((upF c.2.1 9 (i:Int)).length≤8→(upF c.2.1 9 st.1).length≤8∧∀ y∈st.2.2.2,(upF c.2.1 9 st.1).length < (upF c.2.1 9 y).length)) ?_ _ 24 _ (by rw [Q6];omega) ⟨rfl,by simp only;omega,by simp,by simp,fun f=>by simp,fun _=>rfl,fun h=>⟨h,by simp⟩⟩
 rintro m ⟨n,l5,b,out⟩ ag ⟨hm,hn,hnd,hin,hup,hst,hlen⟩ hag
 simp only at hm hn hnd hin hup hst hlen
 have hol:=Q7t hnd hin
 simp only [l169_0]
 by_cases h0:n≥0
 case neg =>
  rw [Z4 h0,Q5]
  unfold j169_0
  refine Ok.some ⟨fun _=>?_,fun h=>by simp at h⟩
  have:=hup 1
  simp only [upF,if_pos (show n < 0 by omega),List.append_nil] at this
  refine ⟨this,?_⟩
  rcases Nat.eq_zero_or_pos out.length with h | h
  ·have:=hst (List.eq_nil_of_length_eq_zero h);omega
  ·exact h
 rw [Z5 h0,Q4,Qm7 (by omega),Q8]
 by_cases hc:0≤fiP (fun x=>x==n) out 0
 ·rw [Z5 hc,Q4]
  refine Ok.some ⟨fun h=>by simp at h,fun _=>?_⟩
  rcases Nat.lt_or_ge 8 (upF c.2.1 9 (i:Int)).length with h | h
  ·exact h
  ·obtain ⟨g1,g2⟩:=hlen h
   obtain ⟨k,x,e1,e2,e3,_⟩:=Q66 hc
   have hx:x=n:=by simpa using e3
   have:=g2 x (Zc e2)
   rw [hx] at this;omega
 ·have hnm:=Qo6 (by omega:fiP (fun x=>x==n) out 0 < 0)
  have hlt:(out++[n]).length≤c.2.1.length:=Q7t (by
   rw [Zn]
   exact ⟨hnd,by simp,fun a ha b hb e=>by simp at hb;subst hb;subst e;exact hnm ha⟩) (fun x hx=>by
   rcases List.mem_append.1 hx with h | h
   ·exact hin x h
   ·simp at h;subst h;exact ⟨h0,hn⟩)
  simp only [Zf,Z9,Zb] at hlt
  rw [Z4 hc,Q5,room (by simp;omega),Q4,Q4,Q4l h0 hn,Q8,Qar (by omega),Q8]
  refine hag (24 - (out++[n]).length) _ (by simp;omega) ⟨rfl,Qas,?_,?_,fun f=>?_,fun h=>by simp at h,fun h=>?_⟩
  ·rw [Zn]
   exact ⟨hnd,by simp,fun a ha b hb e=>by simp at hb;subst hb;subst e;exact hnm ha⟩
  ·intro x hx
   rcases List.mem_append.1 hx with h | h
   ·exact hin x h
   ·simp at h;subst h;exact ⟨h0,hn⟩
  ·have:=hup (f+1)
   rw [Qj3 h0] at this
   simp only [Zf,Z9,Zb]
   rw [show out.length+(0+1)+f=out.length+(f+1) by omega,this];simp
  ·obtain ⟨g1,g2⟩:=hlen h
   have g3:=Qaa h0 g1
   have g4:=congrArg List.length g3
   simp only [Z9] at g4
   refine ⟨by simp only;omega,fun y hy=>?_⟩
   simp only
   rcases List.mem_append.1 hy with hy | hy
   ·have:=g2 y hy;omega
   ·simp at hy;subst hy;omega
theorem Qtq {l:List Cl8}:∀ (f g:Nat) (i:Int),f≤g→(upF l f i).length≤(upF l g i).length
 | 0,_,_,_=>by simp [upF]
 | f+1,0,_,h=>by omega
 | f+1,g+1,i,h=>by
  simp only [upF]
  split
  ·simp
  ·have:=Qtq (l:=l) f g (fid l (Q0e l i).2.1) (by omega);simp;omega
theorem Qga {u:List Int} (h:0 < u.length):Q5g u∈u∧u[u.length - 1]? = some (Q5g u):=by
 have e:u[u.length - 1]? = some (Q5g u):=by
  unfold Q5g;rw [Zr,Z6 (show u.length - 1 < u.length by omega)];rfl
 exact ⟨Zc e,e⟩
theorem Qj5 {d:Nat} {c:Cf} (hl:c.2.1.length≤24):g138 (d+5) c=some (Q4c (fun _ i=>Qnn c.2.1 i) c.2.1 0):=by
 rw [e138]
 refine (Qc (fun (t:Bool) (i:Int)=>(t,i)) c.2.1 (fun x i t k=>oif (Qnn c.2.1 i) (k t) (some false)) (fun _=>some true) ?_ ?_ (by rw [Q6];omega) false).trans ?_
 ·intro ag t i x hx
  have hi:=(Z0 hx).1
  simp only [l138_0,ltl hx,Q4]
  obtain ⟨r,hr,r1,r2⟩:=Qrm (d:=d) (c:=c) (i:=i) hi hl
  rw [hr,Q8]
  unfold Qnn
  cases hb:r.2 with
  | false =>
   have:=r2 hb
   rw [Bool.not_false,Q4,Z4 (by omega)];rfl
  | true =>
   obtain ⟨e1,e2⟩:=r1 hb
   rw [Zl,Q5]
   by_cases h8:r.1.length≤8
   ·have e3:upF c.2.1 9 (i:Int)=r.1:=by
     rw [Qa9 (r.1.length+1) 9 _ (by rw [e1];omega) (by omega)];exact e1
    rw [e3,Z5 h8,Z4 (by omega),Q5,Zg,wrm (by omega) (by omega),nn,Q4,Q3,Qu (by omega),Q4]
    obtain ⟨m1,m2⟩:=Qga e2
    rw [m2,Q8]
    rw [← e3] at m1
    obtain ⟨q1,q2⟩:=Qj4 9 (i:Int) (by omega) _ m1
    rw [e3] at q1 q2
    rw [Z5 q1,Q4,Q4l q1 q2,Q8,wr1 (by omega)]
    by_cases h:(Q0e c.2.1 (Q5g r.1)).2.1=0
    ·rw [show ((Q0e c.2.1 (Q5g r.1)).2.1 != 0)=false by simp [h],Q5,show ((Q0e c.2.1 (Q5g r.1)).2.1==0)=true by simp [h]];rfl
    ·rw [show ((Q0e c.2.1 (Q5g r.1)).2.1 != 0)=true by simp [h],Q4,show ((Q0e c.2.1 (Q5g r.1)).2.1==0)=false by simp [h]];rfl
   ·have:8 < (upF c.2.1 9 (i:Int)).length:=by
     rcases Nat.lt_or_ge (r.1.length+1) 9 with g | g
     ·omega
     ·have g1:=Qtq (l:=c.2.1) 9 (r.1.length+1) (i:Int) g
      rcases Nat.lt_or_ge 8 (upF c.2.1 9 (i:Int)).length with g2 | g2
      ·exact g2
      ·have:=Qa9 (l:=c.2.1) 9 (r.1.length+1) (i:Int) (by omega) g
       rw [e1] at this
       have:=congrArg List.length this
       omega
    rw [Z5 (show ((r.1.length:Nat):Int) > 8 by omega),Q4,Z4 (show ¬ (upF c.2.1 9 (i:Int)).length≤8 by omega)];rfl
 ·intro ag t;simp only [l138_0,ltn,Q5];rfl
 ·rw [Q04];cases Q4c _ c.2.1 0<;>rfl
theorem Qxw {d:Nat} {c:Cf} {i:Nat} (hi:i < c.2.1.length) (hl:c.2.1.length≤24):g130 (d+2) c (i:Int)=some (upF c.2.1 9 (i:Int)):=by
 rw [e130]
 have key:∀ (f fuel:Nat) (n:Int) (out:List Int),out.length+f=9→f < fuel→n < ((c.2.1.length:Nat):Int)→Q9 (l130_0 (d+1) c (j130_0 (d+1))) fuel (n,out)=some (out++upF c.2.1 f n):=by
  intro f
  induction f with
  | zero =>
   intro fuel n out h1 h2 h3
   obtain ⟨g,rfl⟩:∃ g,fuel=g+1:=⟨fuel - 1,by omega⟩
   simp only [Q9,l130_0]
   unfold j130_1 j130_0
   rw [Z4 (show ¬ ((out.length:Nat):Int)≤8 by omega),Q5]
   simp [upF,Qsk]
  | succ f ih =>
   intro fuel n out h1 h2 h3
   obtain ⟨g,rfl⟩:∃ g,fuel=g+1:=⟨fuel - 1,by omega⟩
   simp only [Q9,l130_0]
   unfold j130_1
   by_cases hn:n≥0
   ·rw [Z5 hn,Q4,Z5 (show ((out.length:Nat):Int)≤8 by omega),Q4,room (by simp;omega),Q4,Q4,Q4l hn h3,Q8,Q7r (by omega),Q8,ih g _ _ (by simp;omega) (by omega) Qas]
    simp only [upF,if_neg (show ¬ n < 0 by omega)]
    simp
   ·rw [Z4 hn,Q5,Q5]
    unfold j130_0
    simp only [upF,if_pos (show n < 0 by omega)]
    simp
 exact key 9 Qe (i:Int) [] rfl (by rw [Q6];omega) (by omega)
theorem Qgb {α:Type} {g:α→Int} {B:Nat}:∀ (l:List α) (i:Nat) (t:Int),(∀ x∈l,0≤g x∧g x≤(B:Int))→0≤t→t+((l.length*B:Nat):Int)≤9223372036854775807→Q0a (fun x _ (t:Int)=>IntKind.i64.wrap (t+g x)) l i t=t+(l.map g).sum∧t≤t+(l.map g).sum∧t+(l.map g).sum≤t+((l.length*B:Nat):Int)
 | [],i,t,_,_,_=>by simp [Q0a]
 | x::r,i,t,h,ht,hs=>by
  obtain ⟨h1,h2⟩:=h x (by simp)
  have e:((x::r).length*B:Nat)=r.length*B+B:=by rw [Z9,Nat.add_mul,Nat.one_mul]
  rw [e] at hs ⊢
  obtain ⟨g1,g2,g3⟩:=Qgb r (i+1) (t+g x) (fun y hy=>h y (by simp [hy])) (by omega) (by omega)
  simp only [Q0a,List.map_cons,List.sum_cons]
  rw [wr (by omega) (by omega),g1]
  omega
theorem Qgc {α:Type} {g:α→Int} {B:Nat}:∀ (l:List α) (i:Nat) (t:Int),(∀ x∈l,0≤g x∧g x≤(B:Int))→t≤9223372036854775807→-9223372036854775808≤t - ((l.length*B:Nat):Int)→Q0a (fun x _ (t:Int)=>IntKind.i64.wrap (t - g x)) l i t=t - (l.map g).sum
 | [],i,t,_,_,_=>by simp [Q0a]
 | x::r,i,t,h,ht,hs=>by
  obtain ⟨h1,h2⟩:=h x (by simp)
  have e:((x::r).length*B:Nat)=r.length*B+B:=by rw [Z9,Nat.add_mul,Nat.one_mul]
  rw [e] at hs
  simp only [Q0a,List.map_cons,List.sum_cons]
  rw [wr (by omega) (by omega),Qgc r (i+1) (t - g x) (fun y hy=>h y (by simp [hy])) (by omega) (by omega)]
  omega
def Qat (l:List Cl8):Prop:=∀ x∈l,0≤x.2.2.1∧x.2.2.1≤1000000000
def spV (l:List Cl8) (id:Int):Int:=((Q5f l id).map fun k=>(Q0e l k).2.2.1).sum
theorem Qo8 {l:List Cl8} {id:Int} {i:Nat} {n:Int} (h:(Q5f l id)[i]? = some n):0≤n∧l[n.toNat]? = some (Q0e l n)∧(Q0e l n).2.1=id∧Q0e l n∈l:=by
 obtain ⟨k,x,rfl,h2,h3⟩:=Qkl (Zc h)
 rw [Q1t h2,Q3]
 exact ⟨by omega,h2,h3,Zc h2⟩
theorem Qko {l:List Cl8} {id:Int} (hr:Qat l):∀ n∈Q5f l id,0≤(Q0e l n).2.2.1∧(Q0e l n).2.2.1≤((1000000000:Nat):Int):=by
 intro n hn
 obtain ⟨i,hi⟩:=List.getElem?_of_mem hn
 exact hr _ (Qo8 hi).2.2.2
theorem Qgd {d:Nat} {c:Cf} {n:Nat} {y:Cl8} (hn:c.2.1[n]? = some y) (hl:c.2.1.length≤24) (hr:Qat c.2.1):g171 (d+2) c (n:Int)=some (spV c.2.1 y.1):=by
 have hk:=Qa7 (l:=c.2.1) (id:=y.1)
 have hm:(Q5f c.2.1 y.1).length*1000000000≤24*1000000000:=Zk _ (by omega)
 rw [e171,Q9j hn (by omega),Q8]
 refine (Qc (fun (t:Int) (i:Int)=>(t,i)) (Q5f c.2.1 y.1) (fun x _ t k=>k (IntKind.i64.wrap (t+(Q0e c.2.1 x).2.2.1))) (fun t=>some t) ?_ ?_ (by rw [Q6];omega) 0).trans ?_
 ·intro ag t i x hx
  have hi:=(Z0 hx).1
  obtain ⟨k1,k2,k3,k4⟩:=Qo8 hx
  simp only [l171_0,ltl hx,nn,Q3,hx,Q8,Q4,Qsl hx]
  rw [Z5 k1,Q4,k2,Q8,wr1 (by omega)]
 ·intro ag t;simp only [l171_0,ltn,Q5];rfl
 ·rw [Q0r (f:=fun (x:Int) _ (t:Int)=>IntKind.i64.wrap (t+(Q0e c.2.1 x).2.2.1)),(Qgb (Q5f c.2.1 y.1) 0 0 (Qko hr) (by omega) (by omega)).1,Int.zero_add];rfl
theorem Qo9 {d:Nat} {c:Cf} {n:Nat} {y:Cl8} (hn:c.2.1[n]? = some y) (hl:c.2.1.length≤24) (hr:Qat c.2.1):g131 (d+2) c (n:Int)=some (y.2.2.1 - spV c.2.1 y.1):=by
 have hk:=Qa7 (l:=c.2.1) (id:=y.1)
 have hm:(Q5f c.2.1 y.1).length*1000000000≤24*1000000000:=Zk _ (by omega)
 have hy:=hr y (Zc hn)
 rw [e131,nn,Q4,Q3,hn,Q8,Qa8 hn (by omega),Q8]
 refine (Qc (fun (t:Int) (i:Int)=>(t,i)) (Q5f c.2.1 y.1) (fun x _ t k=>k (IntKind.i64.wrap (t - (Q0e c.2.1 x).2.2.1))) (fun t=>some t) ?_ ?_ (by rw [Q6];omega) y.2.2.1).trans ?_
 ·intro ag t i x hx
  have hi:=(Z0 hx).1
  obtain ⟨k1,k2,k3,k4⟩:=Qo8 hx
  simp only [l131_0,ltl hx,nn,Q3,hx,Q8,Q4,Qsl hx]
  rw [Z5 k1,Q4,k2,Q8,wr1 (by omega)]
 ·intro ag t;simp only [l131_0,ltn,Q5];rfl
 ·rw [Q0r (f:=fun (x:Int) _ (t:Int)=>IntKind.i64.wrap (t - (Q0e c.2.1 x).2.2.1)),Qgc (Q5f c.2.1 y.1) 0 y.2.2.1 (Qko hr) (by omega) (by omega)];rfl
def Q4m (x:Cl8):Bool:=decide (1≤x.2.2.1∧x.2.2.1≤100000∧x.2.2.1≤x.2.2.2.1∧x.2.2.2.1≤100000)
def Qfu (x:Cl8):Bool:=decide (1500≤x.2.2.2.2.1∧x.2.2.2.2.1≤1000000∧1500≤x.2.2.2.2.2.1∧x.2.2.2.2.2.1≤1000000∧0≤x.2.2.2.2.2.2.1∧x.2.2.2.2.2.2.1≤7)
def Q58 (l:List Cl8) (x:Cl8):Bool:=decide (spV l x.1≤x.2.2.1)
def Qis (l:List Cl8) (x:Cl8):Bool:=if Q2y l x.1=true then decide (1≤x.2.2.2.2.2.2.2∧x.2.2.2.2.2.2.2≤60) else x.2.2.2.2.2.2.2==0
theorem Qj6 {d:Nat} {x:Cl8}:g141 (d+1) x=some (Q4m x):=by
 rw [e141];unfold Q4m
 simp only [Q5a];congr 1;rw [Bool.eq_iff_iff];simp
theorem Qge {d:Nat} {x:Cl8}:g145 (d+1) x=some (Qfu x):=by
 rw [e145];unfold Qfu
 simp only [Q5a];congr 1;rw [Bool.eq_iff_iff];simp
theorem Qoa {d:Nat} {x:Cl8}:g129 (d+2) x=some (decide (1≤x.1∧x.1≤999)&&(Q4m x&&Qfu x)):=by
 rw [e129];unfold Q4m Qfu
 simp only [Q57,Q8,Q5a];congr 1;rw [Bool.eq_iff_iff];simp;omega
theorem Qgf {d:Nat} {c:Cf} {n:Nat} {y:Cl8} (hn:c.2.1[n]? = some y) (hl:c.2.1.length≤1000):g146 (d+5) c (n:Int)=some (Qis c.2.1 y):=by
 rw [e146,nn,Q4,Q3,hn,Q8,Qea hn (by omega),Q8]
 unfold Qis
 cases Q2y c.2.1 y.1 with
 | false=>rfl
 | true =>
  rw [if_pos rfl,Q4]
  simp only [Q5a];congr 1;rw [Bool.eq_iff_iff];simp
theorem Qa1 {d:Nat} {c:Cf} (hl:c.2.1.length≤1000):g142 (d+4) c=some (c.2.1.all fun x=>decide (0≤x.2.2.1∧x.2.2.1≤1000000000)):=by
 rw [e142]
 refine (Qc (fun (t:Int) (i:Int)=>(t,i)) c.2.1 (fun x i t k=>oif (decide (0≤x.2.2.1∧x.2.2.1≤1000000000)) (k t) (some false)) (fun _=>some true) ?_ ?_ (by rw [Q6];omega) 0).trans ?_
 ·intro ag t i x hx;have hi:=(Z0 hx).1;simp only [l142i139i100_0,ltl hx,nn,Q3,hx,Q8,Q4];rw [wr1 (by omega)]
  by_cases h1:x.2.2.1 < 0
  ·rw [Z5 h1,Q4,Z4 (show ¬ (0≤x.2.2.1∧x.2.2.1≤1000000000) by omega),Q5];rfl
  ·rw [Z4 h1,Q5]
   by_cases h2:x.2.2.1 > 1000000000
   ·rw [Z5 h2,Q4,Z4 (show ¬ (0≤x.2.2.1∧x.2.2.1≤1000000000) by omega),Q5];rfl
   ·rw [Z4 h2,Q5,Z5 (show 0≤x.2.2.1∧x.2.2.1≤1000000000 by omega),Q4]
 ·intro ag t;simp only [l142i139i100_0,ltn,Q5];rfl
 ·rw [Q1j];cases c.2.1.all _<;>rfl
theorem Qm8 {d:Nat} {c:Cf} (hl:c.2.1.length≤24) (hr:Qat c.2.1):Ok (g143 (d+3) c) fun r=>((((r.length:Nat):Int))==0)=c.2.1.all (Q58 c.2.1):=by
 rw [e143]
 refine ⟨Q6u (fun x _ => !Q58 c.2.1 x) (fun _ k=>((k:Nat):Int)) c.2.1 0,?_,?_⟩
 ·refine (Qc (fun (t:List Int) (i:Int)=>(t,i)) c.2.1 (fun x i t k=>oif (!Q58 c.2.1 x) (oif (Nat.ble ((t.length+[((i:Nat):Int)].length)*8) Q7) (k (t++[((i:Nat):Int)])) none) (k t)) (fun t=>some t) ?_ ?_ (by rw [Q6];omega) []).trans ?_
  ·intro ag t i x hx;have hi:=(Z0 hx).1;simp only [l143_0,ltl hx,nn,Q3,hx,Q8,Q4]
   rw [Qgd hx hl hr,Q8,wr1 (by omega)]
   unfold Q58
   by_cases h2:spV c.2.1 x.1≤x.2.2.1
   ·rw [Z5 h2,Z4 (show ¬ spV c.2.1 x.1 > x.2.2.1 by omega)];rfl
   ·rw [Z4 h2,Z5 (show spV c.2.1 x.1 > x.2.2.1 by omega)];rfl
  ·intro ag t;simp only [l143_0,ltn,Q5];rfl
  ·exact Q22 (c:=fun x _ => !Q58 c.2.1 x) (e:=fun (_:Cl8) (k:Nat)=>((k:Nat):Int)) (w:=8) c.2.1 0 [] (by simp;omega)
 ·have:=Q7q (c:=fun x:Cl8 => !Q58 c.2.1 x) (e:=fun _ k=>((k:Nat):Int)) c.2.1 0
  rw [show c.2.1.all (Q58 c.2.1) = !(c.2.1.any fun x => !Q58 c.2.1 x) by simp [List.all_eq_not_any_not],← this]
  simp only []
  rw [Bool.eq_iff_iff,beq_iff_eq,beq_iff_eq]
  omega
theorem Qv6 {v m:Int} (h1:0≤v) (h2:v≤65535) (h3:0≤m) (h4:m≤65535) :
  ((IntKind.i64.wrap ((BitVec.ofInt IntKind.i64.bits v &&& ~~~BitVec.ofInt IntKind.i64.bits m).toNat:Int))==0)=((IntKind.i64.wrap ((BitVec.ofInt IntKind.i64.bits v &&& BitVec.ofInt IntKind.i64.bits m).toNat:Int))==v):=by
 obtain ⟨a,rfl⟩:=Int.eq_ofNat_of_zero_le h1
 obtain ⟨b,rfl⟩:=Int.eq_ofNat_of_zero_le h3
 have ha:a < 2 ^ 64:=by omega
 have hb:b < 2 ^ 64:=by omega
 have e1:(BitVec.ofInt IntKind.i64.bits (a:Int))=BitVec.ofNat 64 a:=by show BitVec.ofInt 64 (a:Int)=_;simp
 have e2:(BitVec.ofInt IntKind.i64.bits (b:Int))=BitVec.ofNat 64 b:=by show BitVec.ofInt 64 (b:Int)=_;simp
 have t1:(BitVec.ofInt IntKind.i64.bits (a:Int) &&& ~~~BitVec.ofInt IntKind.i64.bits (b:Int)).toNat=(BitVec.ofNat 64 a &&& ~~~BitVec.ofNat 64 b).toNat:=by rw [e1,e2];rfl
 have t2:(BitVec.ofInt IntKind.i64.bits (a:Int) &&& BitVec.ofInt IntKind.i64.bits (b:Int)).toNat=(BitVec.ofNat 64 a &&& BitVec.ofNat 64 b).toNat:=by rw [e1,e2];rfl
 rw [t1,t2]
 have hna:(BitVec.ofNat 64 a).toNat=a:=by rw [BitVec.toNat_ofNat,Nat.mod_eq_of_lt ha]
 have l1:(BitVec.ofNat 64 a &&& ~~~BitVec.ofNat 64 b).toNat≤a:=by
  rw [BitVec.toNat_and,hna];exact Nat.and_le_left
 have l2:(BitVec.ofNat 64 a &&& BitVec.ofNat 64 b).toNat≤a:=by
  rw [BitVec.toNat_and,hna];exact Nat.and_le_left
 rw [wr (by omega) (by omega),wr (by omega) (by omega),Bool.eq_iff_iff,beq_iff_eq,beq_iff_eq]
 have key:(BitVec.ofNat 64 a &&& ~~~BitVec.ofNat 64 b)=0#64↔(BitVec.ofNat 64 a &&& BitVec.ofNat 64 b)=BitVec.ofNat 64 a:=by
  constructor
  ·intro h
   apply BitVec.eq_of_getLsbD_eq
   intro i hi
   have:=congrArg (fun x=>x.getLsbD i) h
   simp only [BitVec.getLsbD_and,BitVec.getLsbD_not,BitVec.getLsbD_zero,hi,decide_true,Zg] at this ⊢
   revert this
   cases (BitVec.ofNat 64 a).getLsbD i<;>cases (BitVec.ofNat 64 b).getLsbD i<;>simp
  ·intro h
   apply BitVec.eq_of_getLsbD_eq
   intro i hi
   have:=congrArg (fun x=>x.getLsbD i) h
   simp only [BitVec.getLsbD_and,BitVec.getLsbD_not,BitVec.getLsbD_zero,hi,decide_true,Zg] at this ⊢
   revert this
   cases (BitVec.ofNat 64 a).getLsbD i<;>cases (BitVec.ofNat 64 b).getLsbD i<;>simp
 constructor
 ·intro h
  have h':(BitVec.ofNat 64 a &&& ~~~BitVec.ofNat 64 b)=0#64:=by apply BitVec.eq_of_toNat_eq;simp only [BitVec.toNat_ofNat];omega
  rw [key.1 h',hna]
 ·intro h
  have h':(BitVec.ofNat 64 a &&& BitVec.ofNat 64 b)=BitVec.ofNat 64 a:=by apply BitVec.eq_of_toNat_eq;rw [hna];omega
  rw [key.2 h'];rfl
def Qob (x:Fl5):Bool:=decide (1≤x.1∧x.1≤99∧0≤x.2.1∧x.2.1≤3∧0≤x.2.2.1∧x.2.2.1≤65535∧0≤x.2.2.2.1∧x.2.2.2.1≤65535)&&((IntKind.i64.wrap ((BitVec.ofInt IntKind.i64.bits x.2.2.2.1 &&& BitVec.ofInt IntKind.i64.bits x.2.2.1).toNat:Int))==x.2.2.2.1)
theorem Qm9 {d:Nat} {x:Fl5}:g133 (d+2) x=some (Qob x):=by
 rw [e133];unfold Qob
 simp only [Q57,Q8,Q5a];congr 1;rw [Bool.eq_iff_iff];simp;omega
theorem Qec {d:Nat} {x:Fl5}:g173 (d+1) x=some (Qob x):=by
 rw [e173];unfold Qob
 by_cases h:1≤x.1∧x.1≤99∧0≤x.2.1∧x.2.1≤3∧0≤x.2.2.1∧x.2.2.1≤65535∧0≤x.2.2.2.1∧x.2.2.2.1≤65535
 ·obtain ⟨h1,h2,h3,h4,h5,h6,h7,h8⟩:=h
  rw [Z5 (show _∧_ from ⟨h1,h2,h3,h4,h5,h6,h7,h8⟩),Zg,Qv6 h7 h8 h5 h6]
  simp only [Q5a]
  rw [if_pos (by simp;omega),if_pos (by simp;omega),if_pos (by simp;omega),if_pos (by simp;omega),if_pos (by simp;omega),if_pos (by simp;omega),if_pos (by simp;omega),if_pos (by simp;omega)]
 ·rw [Z4 h,Bool.false_and]
  simp only [Q5a];congr 1
  rw [Bool.eq_false_iff]
  intro hc
  refine h ?_
  (repeat' split at hc)<;>simp_all
  all_goals omega
def zf5:Fl5:=(0,0,0,0,0)
def flAt (l:List Fl5) (i:Int):Fl5:=l.getD i.toNat zf5
theorem Qoc {l:List Fl5} {n:Nat} {x:Fl5} (h:l[n]? = some x):flAt l (n:Int)=x:=by unfold flAt;rw [Q3,Zr,h];rfl
def Qgg (l:List Cl8) (fs:List Fl5) (x:Fl5) (i:Nat):Bool:=Qob x&&((decide (i=0) || decide ((flAt fs ((i:Int) - 1)).1 < x.1))&&Qnm l x.2.2.2.2)
def Qno (l:List Cl8) (fs:List Fl5):Bool:=Q4c (Qgg l fs) fs 0&&decide (fs.length≤16)
theorem Qch {d:Nat} {c:Cf} (hl:c.2.1.length≤1000) (hf:c.2.2.1.length < 4000000):g147 (d+6) c=some (Qno c.2.1 c.2.2.1):=by
 rw [e147]
 refine (Qc (fun (t:Bool) (i:Int)=>(t,i)) c.2.2.1 (fun x i t k=>oif (Qgg c.2.1 c.2.2.1 x i) (k t) (some false)) (fun _=>some (decide (c.2.2.1.length≤16))) ?_ ?_ (by rw [Q6];omega) false).trans ?_
 ·intro ag t i x hx;have hi:=(Z0 hx).1;simp only [l147_0,ltl hx,nn,Q3,hx,Q8,Q4]
  rw [Qec,Q8]
  unfold j147_1 Qgg
  rw [wr1 (by omega)]
  cases Qob x with
  | false=>rfl
  | true =>
   rw [Zl,Q5,Zg]
   by_cases h0:i=0
   ·subst h0
    rw [Z4 (show ¬ ((0:Nat):Int) > 0 by omega),Q5,Q8t hl,Q8]
    cases Qnm c.2.1 x.2.2.2.2<;>rfl
   ·rw [Z5 (show (i:Int) > 0 by omega),Q4,wrm (by omega) (by omega),nn,Q4,Q3,Z6 (show i - 1 < c.2.2.1.length by omega),Q8,Z4 h0,Bool.false_or]
    rw [show (i:Int) - 1=((i - 1:Nat):Int) by omega,Qoc (Z6 (show i - 1 < c.2.2.1.length by omega))]
    by_cases h:x.1≤(c.2.2.1[i - 1]).1
    ·rw [Z5 h,Z4 (show ¬ (c.2.2.1[i - 1]).1 < x.1 by omega)];rfl
    ·rw [Z4 h,Z5 (show (c.2.2.1[i - 1]).1 < x.1 by omega),Q5,Q8t hl,Q8]
     cases Qnm c.2.1 x.2.2.2.2<;>rfl
 ·intro ag t;simp only [l147_0,ltn,Q5]
  unfold j147_0
  congr 1;rw [Bool.eq_iff_iff];simp;omega
 ·rw [Q04];unfold Qno;cases Q4c (Qgg c.2.1 c.2.2.1) c.2.2.1 0<;>rfl
theorem Qj7 {d:Nat} {c:Cf} (hl:c.2.1.length≤1000) (hf:c.2.2.1.length < 4000000):g90 (d+4) c=some (Qno c.2.1 c.2.2.1):=by
 rw [e90]
 refine (Qc (fun (t:Bool) (i:Int)=>(t,i)) c.2.2.1 (fun x i t k=>oif (Qgg c.2.1 c.2.2.1 x i) (k t) (some false)) (fun _=>some (decide (c.2.2.1.length≤16))) ?_ ?_ (by rw [Q6];omega) false).trans ?_
 ·intro ag t i x hx;have hi:=(Z0 hx).1;simp only [l90_0,ltl hx,nn,Q3,hx,Q8,Q4]
  rw [Qm9,Q8]
  unfold j90_1 Qgg
  rw [wr1 (by omega)]
  cases Qob x with
  | false=>rfl
  | true =>
   rw [Zl,Q5,Zg]
   by_cases h0:i=0
   ·subst h0
    rw [Z4 (show ¬ ((0:Nat):Int) > 0 by omega),Q5,Q8u hl,Q8]
    cases Qnm c.2.1 x.2.2.2.2<;>rfl
   ·rw [Z5 (show (i:Int) > 0 by omega),Q4,wrm (by omega) (by omega),nn,Q4,Q3,Z6 (show i - 1 < c.2.2.1.length by omega),Q8,Z4 h0,Bool.false_or]
    rw [show (i:Int) - 1=((i - 1:Nat):Int) by omega,Qoc (Z6 (show i - 1 < c.2.2.1.length by omega))]
    by_cases h:(c.2.2.1[i - 1]).1≥x.1
    ·rw [Z5 h,Z4 (show ¬ (c.2.2.1[i - 1]).1 < x.1 by omega)];rfl
    ·rw [Z4 h,Z5 (show (c.2.2.1[i - 1]).1 < x.1 by omega),Q5,Q8u hl,Q8]
     cases Qnm c.2.1 x.2.2.2.2<;>rfl
 ·intro ag t;simp only [l90_0,ltn,Q5]
  unfold j90_0
  congr 1;rw [Bool.eq_iff_iff];simp;omega
 ·rw [Q04];unfold Qno;cases Q4c (Qgg c.2.1 c.2.2.1) c.2.2.1 0<;>rfl
def Qft (l:List Cl8):Bool:=decide (1≤l.length∧l.length≤24)&&(Qm5 l&&(decide (Q8v l=1)&&(Qtp l&&(Q4c (fun _ i=>Qnn l i) l 0&&(l.all Q4m&&(l.all (Q58 l)&&(l.all Qfu&&l.all (Qis l))))))))
def Qv7 (c:Cf):Bool:=c.2.2.2==0 || Qnm c.2.1 c.2.2.2
def gdB (c:Cf):Bool:=nmB c.1&&(Qft c.2.1&&(Qno c.2.1 c.2.2.1&&Qv7 c))
theorem Qkp {l:List Cl8} (h:l.all Q4m=true):Qat l:=by
 intro x hx
 have:=Z3 h x hx
 unfold Q4m at this
 simp only [Zj] at this
 omega
theorem Qrn {d:Nat} {c:Cf} (hl:c.2.1.length≤1000):g94 (d+7) c 5=some (c.2.1.all Q4m):=by
 rw [show d+7=(d+3)+4 by omega,e94]
 simp only [Int.reduceBEq,Q4,Q5]
 refine (Qc (fun (t:Int) (i:Int)=>(t,i)) c.2.1 (fun x i t k=>oif (Q4m x) (k t) (some false)) (fun _=>some true) ?_ ?_ (by rw [Q6];omega) 0).trans ?_
 ·intro ag t i x hx;have hi:=(Z0 hx).1;simp only [l94i139i100_0,ltl hx,nn,Q3,hx,Q8,Q4];rw [wr1 (by omega)]
  rw [Qj6,Q8]
  cases Q4m x<;>rfl
 ·intro ag t;simp only [l94i139i100_0,ltn,Q5];rfl
 ·rw [Q1j];cases c.2.1.all _<;>rfl
theorem Qro {d:Nat} {c:Cf} (hl:c.2.1.length≤1000):g94 (d+7) c 7=some (c.2.1.all Qfu):=by
 rw [show d+7=(d+3)+4 by omega,e94]
 simp only [Int.reduceBEq,Q4,Q5]
 refine (Qc (fun (t:Int) (i:Int)=>(t,i)) c.2.1 (fun x i t k=>oif (Qfu x) (k t) (some false)) (fun _=>some true) ?_ ?_ (by rw [Q6];omega) 0).trans ?_
 ·intro ag t i x hx;have hi:=(Z0 hx).1;simp only [l94i139i100_0x,ltl hx,nn,Q3,hx,Q8,Q4];rw [wr1 (by omega)]
  rw [Qge,Q8]
  cases Qfu x<;>rfl
 ·intro ag t;simp only [l94i139i100_0x,ltn,Q5];rfl
 ·rw [Q1j];cases c.2.1.all _<;>rfl
theorem Qrp {d:Nat} {c:Cf} (hl:c.2.1.length≤1000):g94 (d+7) c 8=some (c.2.1.all (Qis c.2.1)):=by
 rw [show d+7=(d+3)+4 by omega,e94]
 simp only [Int.reduceBEq,Q4,Q5]
 refine (Qc (fun (t:Bool) (i:Int)=>(t,i)) c.2.1 (fun x i t k=>oif (Qis c.2.1 x) (k t) (some false)) (fun _=>some true) ?_ ?_ (by rw [Q6];omega) false).trans ?_
 ·intro ag t i x hx
  have hi:=(Z0 hx).1
  simp only [l94_0,ltl hx,Q4]
  rw [show d+3+3=(d+1)+5 by omega,Qgf hx hl,Q8,wr1 (by omega)]
  cases Qis c.2.1 x<;>rfl
 ·intro ag t;simp only [l94_0,ltn,Q5];rfl
 ·rw [Q1j];cases c.2.1.all _<;>rfl
theorem Qma {d:Nat} {c:Cf} (hl:c.2.1.length < 4000000) (hf:c.2.2.1.length < 4000000):g50 (d+8) c=some (gdB c):=by
 rw [e50]
 unfold j50_1
 by_cases h1:c.2.1.length≤24
 case neg =>
  rw [Z5 (show ((c.2.1.length:Nat):Int) > 24 by omega),Q4,Q4]
  unfold gdB Qft
  rw [Z4 (show ¬ (1≤c.2.1.length∧c.2.1.length≤24) by omega)];simp
 rw [Z4 (show ¬ ((c.2.1.length:Nat):Int) > 24 by omega),Q5]
 by_cases h2:c.2.2.1.length≤16
 case neg =>
  rw [Z5 (show ((c.2.2.1.length:Nat):Int) > 16 by omega),Q4]
  unfold gdB Qno
  rw [Z4 h2];simp
 rw [Z4 (show ¬ ((c.2.2.1.length:Nat):Int) > 16 by omega),Q5]
 have st:∀ (f:Nat) (k:Int) (b:Bool),0≤k→k≤10→g94 (d+7) c k=some b→Q9 (l50_0 (d+7) c (j50_0 (d+7))) (f+1) (false,k)=oif b (Q9 (l50_0 (d+7) c (j50_0 (d+7))) f (false,k+1)) (some false):=by
  intro f k b hk0 hk hb
  rw [show Q9 (l50_0 (d+7) c (j50_0 (d+7))) (f+1) (false,k)=l50_0 (d+7) c (j50_0 (d+7)) (Q9 (l50_0 (d+7) c (j50_0 (d+7))) f) (false,k) from rfl]
  simp only [l50_0]
  rw [Z5 hk,Q4,hb,Q8,wr (by omega) (by omega)]
  cases b<;>rfl
 obtain ⟨f,hfu⟩:∃ f,Qe=f+11:=⟨4194293,Q6⟩
 have H1:g94 (d+7) c 1=some (nmB c.1):=by
  rw [show d+7=(d+3)+4 by omega,e94];simp only [Int.reduceBEq,Q4];rw [show d+3+3=(d+4)+2 by omega,Qrk,Q8]
 have H2:g94 (d+7) c 2=some (Qm5 c.2.1&&decide (1≤c.2.1.length∧c.2.1.length≤24)):=by
  rw [show d+7=(d+3)+4 by omega,e94];simp only [Int.reduceBEq,Q4,Q5];rw [show d+3+3=(d+4)+2 by omega,Qm6 hl,Q8]
 have H3:g94 (d+7) c 3=some (decide (Q8v c.2.1=1)&&Qtp c.2.1):=by
  rw [show d+7=(d+3)+4 by omega,e94];simp only [Int.reduceBEq,Q4,Q5];rw [show d+3+3=(d+1)+5 by omega,Qcg (by omega),Q8]
 have H4:g94 (d+7) c 4=some (Q4c (fun _ i=>Qnn c.2.1 i) c.2.1 0):=by
  rw [show d+7=(d+3)+4 by omega,e94];simp only [Int.reduceBEq,Q4,Q5];rw [show d+3+3=(d+1)+5 by omega,Qj5 h1,Q8]
 have H5:=Qrn (d:=d) (c:=c) (by omega)
 have H7:=Qro (d:=d) (c:=c) (by omega)
 have H8:=Qrp (d:=d) (c:=c) (by omega)
 have H9:g94 (d+7) c 9=some (Qno c.2.1 c.2.2.1):=by
  rw [show d+7=(d+3)+4 by omega,e94];simp only [Int.reduceBEq,Q4,Q5];rw [Qch (by omega) hf,Q8]
 have H10:g94 (d+7) c 10=some (Qv7 c):=by
  rw [show d+7=(d+3)+4 by omega,e94];simp only [Int.reduceBEq,Q5];unfold Qv7
  cases (c.2.2.2==0) with
  | true=>rfl
  | false=>rw [Q5,show d+3+3=(d+1)+5 by omega,Q8t (by omega),Q8];rfl
 unfold gdB Qft
 rw [hfu,st _ _ _ (by omega) (by omega) H1]
 cases nmB c.1 with
 | false=>rfl
 | true =>
 rw [Q4,Zg,show (1:Int)+1=2 from rfl,st _ _ _ (by omega) (by omega) H2]
 cases decide (1≤c.2.1.length∧c.2.1.length≤24) with
 | false=>rw [Bool.and_false];rfl
 | true =>
 rw [Bool.and_true]
 cases Qm5 c.2.1 with
 | false=>rfl
 | true =>
 rw [Q4,Zg,Zg,show (2:Int)+1=3 from rfl,st _ _ _ (by omega) (by omega) H3]
 cases decide (Q8v c.2.1=1) with
 | false=>rfl
 | true =>
 cases Qtp c.2.1 with
 | false=>rfl
 | true =>
 rw [Zg,Q4,Zg,show (3:Int)+1=4 from rfl,st _ _ _ (by omega) (by omega) H4]
 cases Q4c (fun _ i=>Qnn c.2.1 i) c.2.1 0 with
 | false=>rfl
 | true =>
 rw [Q4,Zg,show (4:Int)+1=5 from rfl,st _ _ _ (by omega) (by omega) H5]
 cases hr:c.2.1.all Q4m with
 | false=>rfl
 | true =>
 have hro:=Qkp hr
 have H6:g94 (d+7) c 6=some (c.2.1.all (Q58 c.2.1)):=by
  rw [show d+7=(d+3)+4 by omega,e94];simp only [Int.reduceBEq,Q4,Q5]
  rw [show d+3+3=(d+2)+4 by omega,Qa1 (by omega),Q8,show (c.2.1.all fun x=>decide (0≤x.2.2.1∧x.2.2.1≤1000000000))=true from List.all_eq_true.2 (fun x hx=>Z5 (hro x hx)),Q4]
  obtain ⟨r,g1,g2⟩:=Qm8 (d:=d+3) h1 hro
  rw [show d+2+4=d+3+3 by omega,g1,Q8,g2]
 rw [Q4,Zg,show (5:Int)+1=6 from rfl,st _ _ _ (by omega) (by omega) H6]
 cases c.2.1.all (Q58 c.2.1) with
 | false=>rfl
 | true =>
 rw [Q4,Zg,show (6:Int)+1=7 from rfl,st _ _ _ (by omega) (by omega) H7]
 cases c.2.1.all Qfu with
 | false=>rfl
 | true =>
 rw [Q4,Zg,show (7:Int)+1=8 from rfl,st _ _ _ (by omega) (by omega) H8]
 cases c.2.1.all (Qis c.2.1) with
 | false=>rfl
 | true =>
 rw [Q4,Zg,show (8:Int)+1=9 from rfl,st _ _ _ (by omega) (by omega) H9]
 cases Qno c.2.1 c.2.2.1 with
 | false=>rfl
 | true =>
 rw [Q4,Zg,show (9:Int)+1=10 from rfl,st _ _ _ (by omega) (by omega) H10]
 cases Qv7 c with
 | false=>rfl
 | true =>
 rw [Q4,show Q9 (l50_0 (d+7) c (j50_0 (d+7))) (f+1) (false,(10:Int)+1)=l50_0 (d+7) c (j50_0 (d+7)) (Q9 (l50_0 (d+7) c (j50_0 (d+7))) f) (false,11) from rfl]
 simp only [l50_0]
 rw [Z4 (show ¬ (11:Int)≤10 by omega),Q5];rfl
theorem Qau {α τ β:Type} {p:α→Nat→Bool} {f:α→Nat→τ→τ} {no:Option β} {fin:τ→Option β}:∀ (l:List α) (i:Nat) (t:τ),Q03 (fun x i t k=>oif (p x i) (k (f x i t)) no) fin l i t=oif (Q4c p l i) (fin (Q0a f l i t)) no
 | [],i,t=>rfl
 | x::r,i,t=>by
  simp only [Q03,Q4c,Q0a]
  cases p x i with
  | true=>simp only [Q4,Zg];exact Qau r (i+1) (f x i t)
  | false=>rfl
theorem Qgh {α σ τ:Type} {f:α→Nat→τ→τ}:∀ (l:List α) (i:Nat) (a:σ) (t:τ),Q0a (fun x i (s:σ×τ)=>(s.1,f x i s.2)) l i (a,t)=(a,Q0a f l i t)
 | [],_,_,_=>rfl
 | x::r,i,a,t=>by simp only [Q0a];exact Qgh r (i+1) a (f x i t)
theorem Qrq {d:Nat} {c:Cf} (h0:1≤c.2.1.length) (h1:c.2.1.length≤24):g89 (d+3) c=some (Qft c.2.1):=by
 rw [e89]
 refine (Qc (fun (t:Bool×Int) (i:Int)=>(t.1,t.2,i)) c.2.1 (fun x i t k=>oif (Qo5 c.2.1 x i&&(Q4m x&&Qfu x)) (k (t.1,(if (x.2.1==0)=true then IntKind.i64.wrap (t.2+1) else t.2))) (some false)) (fun t=>j89_3 (d+2) c t.1 t.2) ?_ ?_ (by rw [Q6];omega) (false,0)).trans ?_
 ·intro ag t i x hx;have hi:=(Z0 hx).1;simp only [l89_0,ltl hx,nn,Q3,hx,Q8,Q4]
  rw [Qoa,Q8]
  unfold j89_4 Qo5
  rw [wr1 (by omega)]
  cases decide (1≤x.1∧x.1≤999) with
  | false=>rfl
  | true =>
  cases (Q4m x&&Qfu x) with
  | false=>rw [Bool.and_false,Bool.and_false];rfl
  | true =>
   rw [Bool.and_true,Zl,Q5,Zg,Bool.and_true]
   by_cases h0:i=0
   ·subst h0
    rw [Z4 (show ¬ ((0:Nat):Int) > 0 by omega),Q5,Q5]
    cases (x.2.1==0)<;>rfl
   ·rw [Z5 (show (i:Int) > 0 by omega),Q4,wrm (by omega) (by omega),nn,Q4,Q3,Z6 (show i - 1 < c.2.1.length by omega),Q8,Z4 h0,Bool.false_or]
    rw [show (i:Int) - 1=((i - 1:Nat):Int) by omega,Q1t (Z6 (show i - 1 < c.2.1.length by omega))]
    by_cases h:(c.2.1[i - 1]).1≥x.1
    ·rw [Z5 h,Z4 (show ¬ (c.2.1[i - 1]).1 < x.1 by omega)];rfl
    ·rw [Z4 h,Z5 (show (c.2.1[i - 1]).1 < x.1 by omega),Q5]
     cases (x.2.1==0)<;>rfl
 ·intro ag t;simp only [l89_0,ltn,Q5]
 ·rw [Qau (f:=fun (x:Cl8) _ (t:Bool×Int)=>(t.1,(if (x.2.1==0)=true then IntKind.i64.wrap (t.2+1) else t.2))),Qkn,Qeb (p:=fun x=>Q4m x&&Qfu x),Qgh (f:=fun (x:Cl8) _ (t:Int)=>if (x.2.1==0)=true then IntKind.i64.wrap (t+1) else t)]
  have:=Q7s (p:=fun x:Cl8=>x.2.1==0) c.2.1 0 0 (by omega)
  rw [show ((0:Nat):Int)=0 from rfl] at this
  rw [this,Zo]
  unfold j89_3
  rw [show (c.2.1.filter fun x=>x.2.1==0).length=Q8v c.2.1 from rfl]
  have hab:(c.2.1.all fun x=>Q4m x&&Qfu x)=(c.2.1.all Q4m&&c.2.1.all Qfu):=by
   rw [Bool.eq_iff_iff];simp only [List.all_eq_true,Z8]
   exact ⟨fun h=>⟨fun x hx=>(h x hx).1,fun x hx=>(h x hx).2⟩,fun h x hx=>⟨h.1 x hx,h.2 x hx⟩⟩
  rw [hab]
  unfold Qft Qm5
  rw [Z5 (show 1≤c.2.1.length∧c.2.1.length≤24 from ⟨h0,h1⟩),Zg]
  cases Q4c (Qo5 c.2.1) c.2.1 0 with
  | false=>rfl
  | true =>
  cases hr:c.2.1.all Q4m with
  | false=>simp [Q5]
  | true =>
  cases c.2.1.all Qfu with
  | false=>simp [Q5]
  | true =>
  have hro:=Qkp hr
  rw [Zg,Zg,Q4]
  by_cases ht:Q8v c.2.1=1
  case neg=>rw [show ((((Q8v c.2.1:Nat):Int)) != 1)=true by simp;omega,Q4,Z4 ht];simp
  rw [show ((((Q8v c.2.1:Nat):Int)) != 1)=false by simp;omega,Q5,Z5 ht]
  refine (Qc (fun (t:Bool) (i:Int)=>(t,i)) c.2.1 (fun x i t k=>oif (Qnn c.2.1 i&&(Q58 c.2.1 x&&Qis c.2.1 x)) (k t) (some false)) (fun _=>some true) ?_ ?_ (by rw [Q6];omega) false).trans ?_
  ·intro ag t i x hx
   have hi:=(Z0 hx).1
   simp only [l89_1,ltl hx,nn,Q3,hx,Q8,Q4]
   rw [Qxw hi h1,Q8]
   have tail:∀ b1 b2 b3:Bool,j89_2 (d+2) c ag t (i:Int) x b1 b2 b3 false=oif (Qis c.2.1 x) (ag (t,((i+1:Nat):Int))) (some false):=by
    intro b1 b2 b3
    unfold j89_2
    rw [Q5]
    simp only [Qkm hx (show c.2.1.length≤1000 by omega),Q8,Q57]
    unfold j89_1 Qis
    rw [wr1 (by omega)]
    cases Q2y c.2.1 x.1 with
    | true =>
     simp only [Q4,Zl,Q5,if_true]
     by_cases h:1≤x.2.2.2.2.2.2.2∧x.2.2.2.2.2.2.2≤60
     ·rw [Z5 h];rfl
     ·rw [Z4 h];rfl
    | false =>
     simp only [Q4,Bool.not_false,Q5,Bool.false_eq_true,if_false]
     by_cases h:x.2.2.2.2.2.2.2=0
     ·rw [show (x.2.2.2.2.2.2.2 != 0)=false by simp [h],show (x.2.2.2.2.2.2.2==0)=true by simp [h]];rfl
     ·rw [show (x.2.2.2.2.2.2.2 != 0)=true by simp [h],show (x.2.2.2.2.2.2.2==0)=false by simp [h]];rfl
   have bad:∀ b1 b2 b3:Bool,j89_2 (d+2) c ag t (i:Int) x b1 b2 b3 true=some false:=fun b1 b2 b3=>rfl
   unfold Qnn
   by_cases h8:(upF c.2.1 9 (i:Int)).length≤8
   case neg=>rw [Z5 (show (((upF c.2.1 9 (i:Int)).length:Nat):Int) > 8 by omega),Q4,bad,Z4 h8];rfl
   have hpos:0 < (upF c.2.1 9 (i:Int)).length:=by rw [Qj3 (by omega)];simp
   rw [Z4 (show ¬ (((upF c.2.1 9 (i:Int)).length:Nat):Int) > 8 by omega),Q5,Z5 h8,Zg,wrm (by omega) (by omega),nn,Q4,Q3,Qu (by omega),Q4]
   obtain ⟨m1,m2⟩:=Qga hpos
   obtain ⟨q1,q2⟩:=Qj4 9 (i:Int) (by omega) _ m1
   rw [m2,Q8,Z5 q1,Q4,Q4l q1 q2,Q8]
   by_cases h:(Q0e c.2.1 (Q5g (upF c.2.1 9 (i:Int)))).2.1=0
   case neg=>rw [show ((Q0e c.2.1 (Q5g (upF c.2.1 9 (i:Int)))).2.1 != 0)=true by simp [h],Q4,bad,show ((Q0e c.2.1 (Q5g (upF c.2.1 9 (i:Int)))).2.1==0)=false by simp [h]];rfl
   rw [show ((Q0e c.2.1 (Q5g (upF c.2.1 9 (i:Int)))).2.1 != 0)=false by simp [h],Q5,show ((Q0e c.2.1 (Q5g (upF c.2.1 9 (i:Int)))).2.1==0)=true by simp [h],Zg,Qo9 hx h1 hro,Q8]
   unfold Q58
   by_cases hs:spV c.2.1 x.1≤x.2.2.1
   ·rw [Z5 hs,Z4 (show ¬ x.2.2.1 - spV c.2.1 x.1 < 0 by omega),tail,Zg]
   ·rw [Z4 hs,Z5 (show x.2.2.1 - spV c.2.1 x.1 < 0 by omega),bad];rfl
  ·intro ag t;simp only [l89_1,ltn,Q5];rfl
  ·rw [Q04,Qkn,Qeb (p:=fun x=>Q58 c.2.1 x&&Qis c.2.1 x)]
   have hsl:(c.2.1.all fun x=>Q58 c.2.1 x&&Qis c.2.1 x)=(c.2.1.all (Q58 c.2.1)&&c.2.1.all (Qis c.2.1)):=by
    rw [Bool.eq_iff_iff];simp only [List.all_eq_true,Z8]
    exact ⟨fun h=>⟨fun x hx=>(h x hx).1,fun x hx=>(h x hx).2⟩,fun h x hx=>⟨h.1 x hx,h.2 x hx⟩⟩
   rw [hsl]
   have hpar:Q4c (fun _ i=>Qnn c.2.1 i) c.2.1 0=true→Qtp c.2.1=true:=by
    intro hw
    rw [Q15] at hw
    unfold Qtp
    rw [List.all_eq_true]
    intro x hx
    obtain ⟨i,hi⟩:=List.getElem?_of_mem hx
    have h1:=hw i x hi
    rw [Zo] at h1
    unfold Qnn at h1
    simp only [Z8,Zj,beq_iff_eq] at h1
    obtain ⟨w1,w2⟩:=h1
    have e:=Qaa (l:=c.2.1) (i:=(i:Int)) (by omega) w1
    rw [Q1t hi] at e
    by_cases hn:0≤fid c.2.1 x.2.1
    ·simp [hn]
    ·have e2:upF c.2.1 9 (fid c.2.1 x.2.1)=[]:=by simp only [upF];rw [if_pos (by omega)]
     rw [e,e2] at w2
     rw [show Q5g [(i:Int)]=(i:Int) from rfl,Q1t hi] at w2
     simp [w2]
   cases hw:Q4c (fun _ i=>Qnn c.2.1 i) c.2.1 0 with
   | false=>simp [Q5]
   | true =>
    rw [hpar hw]
    cases c.2.1.all (Q58 c.2.1)<;>cases c.2.1.all (Qis c.2.1)<;>rfl
theorem Qrr {d:Nat} {c:Cf} (hs:c.1.size < 4000000) (hf:c.2.2.1.length < 4000000):g46 (d+5) c=some (gdB c):=by
 rw [e46,show d+4=(d+1)+3 by omega,Qrl hs,Q8]
 unfold gdB
 cases nmB c.1 with
 | false=>rfl
 | true =>
 rw [Q4,show d+1+3=(d+3)+1 by omega,Q57,Q8,Zg]
 by_cases h:1≤c.2.1.length∧c.2.1.length≤24
 case neg =>
  rw [Z4 (show ¬ ((1:Int)≤((c.2.1.length:Nat):Int)∧((c.2.1.length:Nat):Int)≤24) by omega),Q5]
  unfold Qft
  rw [Z4 h];rfl
 rw [Z5 (show (1:Int)≤((c.2.1.length:Nat):Int)∧((c.2.1.length:Nat):Int)≤24 by omega),Q4,show d+3+1=(d+1)+3 by omega,Qrq h.1 h.2,Q8]
 cases Qft c.2.1 with
 | false=>rfl
 | true =>
 rw [Q4,show d+1+3=d+4 by omega,Qj7 (by omega) hf,Q8,Zg]
 cases Qno c.2.1 c.2.2.1 with
 | false=>rfl
 | true =>
 rw [Q4,Zg]
 unfold Qv7
 cases (c.2.2.2==0) with
 | true=>rfl
 | false=>rw [Q5,show d+4=(d+1)+3 by omega,Q8u (by omega),Q8,Bool.false_or]
theorem Qv8 {l:List Cl8} {f:Nat} {i:Int} (h:i < 0):upF l f i=[]:=by
 cases f with
 | zero=>rfl
 | succ f=>simp only [upF];rw [if_pos h]
def Q10 (l:List Cl8) (i:Int):Int:=fid l (Q0e l i).2.1
def kdI (l:List Cl8) (i:Int):List Int:=Q5f l (Q0e l i).1
def dpI (l:List Cl8) (i:Int):Nat:=(upF l 9 i).length
def vI (l:List Cl8) (i:Int):Prop:=0≤i∧i < ((l.length:Nat):Int)
structure Tr (l:List Cl8):Prop where
 n1:1≤l.length
 n24:l.length≤24
 inj:∀ i j,vI l i→vI l j→(Q0e l i).1=(Q0e l j).1→i=j
 pos:∀ i,vI l i→1≤(Q0e l i).1
 top:∃ t,vI l t∧(Q0e l t).2.1=0∧∀ j,vI l j→(Q0e l j).2.1=0→j=t
 way:∀ i,vI l i→dpI l i≤8∧(Q0e l (Q5g (upF l 9 i))).2.1=0
theorem Q1d {l:List Cl8} {i:Int} (h:vI l i):l[i.toNat]? = some (Q0e l i):=Q4l h.1 h.2
theorem Qmb {l:List Cl8} {k:Nat} {x:Cl8} (h:l[k]? = some x):vI l (k:Int):=by
 have:=(Z0 h).1
 exact ⟨by omega,by omega⟩
theorem Qxx {l:List Cl8} {i:Int}:Q10 l i < ((l.length:Nat):Int):=Qas
theorem Qj8 {l:List Cl8} {i:Int} (h:0≤Q10 l i):vI l (Q10 l i):=⟨h,Qxx⟩
theorem Qxy {l:List Cl8} {i:Int} (h:0≤Q10 l i):(Q0e l (Q10 l i)).1=(Q0e l i).2.1:=by
 obtain ⟨k,x,h1,h2,h3⟩:=Q3t h
 unfold Q10
 rw [h1,Q1t h2,h3]
theorem Qxz {l:List Cl8} (T:Tr l) {i:Int} (h:vI l i):fid l (Q0e l i).1=i:=by
 by_cases h0:0≤fid l (Q0e l i).1
 ·obtain ⟨k,x,h1,h2,h3⟩:=Q3t h0
  rw [h1]
  refine T.inj _ _ (Qmb h2) h ?_
  rw [Q1t h2,h3]
 ·have:=(Qj2 (l:=l) (id:=(Q0e l i).1)).1 (by omega) (Q0e l i) (Zc (Q1d h))
  exact absurd rfl this
theorem Qkq {α γ:Type} {c:α→Nat→Bool} {e:α→Nat→γ}:∀ (l:List α) (i j:Nat) (x:α),l[j]? = some x→c x (i+j)=true→e x (i+j)∈Q6u c e l i
 | [],i,j,x,h,_=>by simp at h
 | y::r,i,0,x,h,hc=>by
  simp only [List.getElem?_cons_zero,Option.some.injEq] at h
  subst h
  simp only [Nat.add_zero] at hc
  simp only [Q6u,if_pos hc,Nat.add_zero];simp
 | y::r,i,j+1,x,h,hc=>by
  have:=Qkq (c:=c) (e:=e) r (i+1) j x (by simpa using h) (by rw [show i+1+j=i+(j+1) by omega];exact hc)
  rw [show i+1+j=i+(j+1) by omega] at this
  simp only [Q6u]
  split
  ·exact List.mem_cons_of_mem _ this
  ·exact this
theorem Qav {α:Type} {c:α→Nat→Bool}:∀ (l:List α) (i:Nat),(Q6u c (fun _ k=>((k:Nat):Int)) l i).Pairwise (· < ·)∧∀ x∈Q6u c (fun _ k=>((k:Nat):Int)) l i,(i:Int)≤x
 | [],i=>by simp [Q6u]
 | y::r,i=>by
  obtain ⟨h1,h2⟩:=Qav (c:=c) r (i+1)
  simp only [Q6u]
  split
  ·refine ⟨List.pairwise_cons.2 ⟨fun x hx=>by have:=h2 x hx;omega,h1⟩,fun x hx=>?_⟩
   rcases Z2 hx with rfl | hx
   ·omega
   ·have:=h2 x hx;omega
  ·exact ⟨h1,fun x hx=>by have:=h2 x hx;omega⟩
theorem Q5h {l:List Cl8} {i:Int}:(kdI l i).Pairwise (· < ·):=(Qav l 0).1
theorem Q6q {l:List Cl8} (T:Tr l) {i k:Int} (h:vI l i):k∈kdI l i↔vI l k∧Q10 l k=i:=by
 constructor
 ·intro hk
  obtain ⟨j,x,rfl,h2,h3⟩:=Qkl hk
  refine ⟨Qmb h2,?_⟩
  unfold Q10
  rw [Q1t h2,h3,Qxz T h]
 ·rintro ⟨hk,rfl⟩
  have e:=Qxy h.1
  have hg:=Q1d hk
  have hm:=Qkq (c:=fun x _=>x.2.1==(Q0e l (Q10 l k)).1) (e:=fun _ j=>((j:Nat):Int)) l 0 k.toNat _ hg (by rw [e];simp)
  rw [Zo,Int.toNat_of_nonneg hk.1] at hm
  exact hm
theorem Qcv {l:List Cl8} {i:Int} (h:vI l i):1≤dpI l i:=by unfold dpI;rw [Qj3 h.1];simp
theorem Q71 {l:List Cl8} (T:Tr l) {i:Int} (h:vI l i):dpI l i=1+dpI l (Q10 l i):=by
 have:=Qaa h.1 (T.way i h).1
 unfold dpI
 rw [this,Z9]
 unfold Q10;omega
theorem Q72 {l:List Cl8} (T:Tr l) {i k:Int} (h:vI l i) (hk:k∈kdI l i):vI l k∧Q10 l k=i∧dpI l k=1+dpI l i:=by
 obtain ⟨h1,h2⟩:=(Q6q T h).1 hk
 exact ⟨h1,h2,by rw [Q71 T h1,h2]⟩
theorem Qy0 {l:List Cl8} (T:Tr l) {i:Int} (h:vI l i) (hp:Q10 l i < 0):(Q0e l i).2.1=0:=by
 have e:=Qaa h.1 (T.way i h).1
 have e2:upF l 9 (fid l (Q0e l i).2.1)=[]:=Qv8 hp
 have:=(T.way i h).2
 rw [e,e2] at this
 exact this
def Qcb (l:List Cl8):Int:=fiP (fun x:Cl8=>x.2.1==0) l 0
theorem Q73 {l:List Cl8} (T:Tr l):vI l (Qcb l)∧(Q0e l (Qcb l)).2.1=0∧Q10 l (Qcb l) < 0∧∀ j,vI l j→Q10 l j < 0→j=Qcb l:=by
 obtain ⟨t,t1,t2,t3⟩:=T.top
 have h0:0≤Qcb l:=by
  unfold Qcb
  rcases Int.lt_or_le (fiP (fun x:Cl8=>x.2.1==0) l 0) 0 with h | h
  ·have:=Qe9.1 h (Q0e l t) (Zc (Q1d t1))
   simp [t2] at this
  ·exact h
 obtain ⟨k,x,h1,h2,h3,_⟩:=Q66 h0
 have e:Qcb l=(k:Int):=by unfold Qcb;rw [h1];simp
 have hv:vI l (Qcb l):=by rw [e];exact Qmb h2
 have hz:(Q0e l (Qcb l)).2.1=0:=by rw [e,Q1t h2];simpa using h3
 have hp:Q10 l (Qcb l) < 0:=by
  unfold Q10
  rw [hz,Qj2]
  intro y hy
  obtain ⟨i,hi⟩:=List.getElem?_of_mem hy
  have:=T.pos _ (Qmb hi)
  rw [Q1t hi] at this;omega
 exact ⟨hv,hz,hp,fun j hj hjp=>by rw [t3 j hj (Qy0 T hj hjp),t3 _ hv hz]⟩
def wkI (l:List Cl8):Nat→Int→List Int
 | 0,_=>[]
 | f+1,i=>i::(kdI l i).flatMap (wkI l f)
def ancI (l:List Cl8):Nat→Int→Int
 | 0,x=>x
 | k+1,x=>Q10 l (ancI l k x)
theorem Q9k {l:List Cl8} (T:Tr l):∀ (f:Nat) (a x:Int),vI l a→x∈wkI l f a→vI l x∧dpI l a≤dpI l x∧ancI l (dpI l x - dpI l a) x=a∧(x≠a→dpI l a < dpI l x)
 | 0,a,x,_,h=>by simp [wkI] at h
 | f+1,a,x,ha,h=>by
  simp only [wkI,List.mem_cons,List.mem_flatMap] at h
  rcases h with rfl | ⟨c,hc,hx⟩
  ·exact ⟨ha,Zd _,by rw [Nat.sub_self];rfl,fun h=>absurd rfl h⟩
  ·obtain ⟨c1,c2,c3⟩:=Q72 T ha hc
   obtain ⟨x1,x2,x3,_⟩:=Q9k T f c x c1 hx
   refine ⟨x1,by omega,?_,fun _=>by omega⟩
   rw [show dpI l x - dpI l a=(dpI l x - dpI l c)+1 by omega]
   show Q10 l _=a
   rw [x3,c2]
theorem Qrs {l:List Cl8} (T:Tr l) {f g:Nat} {a b x:Int} (ha:vI l a) (hb:vI l b) (hd:dpI l a=dpI l b) (h1:x∈wkI l f a) (h2:x∈wkI l g b):a=b:=by
 have e1:=(Q9k T f a x ha h1).2.2.1
 have e2:=(Q9k T g b x hb h2).2.2.1
 rw [← e1,← e2,hd]
theorem Qod {l:List Cl8} (T:Tr l):∀ (f:Nat) (a x:Int),vI l a→x∈wkI l f a→x≠a→Q10 l x∈wkI l f a
 | 0,a,x,_,h,_=>by simp [wkI] at h
 | f+1,a,x,ha,h,hne=>by
  simp only [wkI,List.mem_cons,List.mem_flatMap] at h ⊢
  rcases h with rfl | ⟨c,hc,hx⟩
  ·exact absurd rfl hne
  ·obtain ⟨c1,c2,c3⟩:=Q72 T ha hc
   by_cases hxc:x=c
   ·left;rw [hxc,c2]
   ·right;exact ⟨c,hc,Qod T f c x c1 hx hxc⟩
theorem Qed {l:List Cl8} (T:Tr l):∀ (f:Nat) (a:Int),vI l a→(wkI l f a).Pairwise fun x y=>Q10 l x=Q10 l y→x < y
 | 0,a,_=>by simp [wkI]
 | f+1,a,ha=>by
  simp only [wkI]
  rw [List.pairwise_cons]
  constructor
  ·intro y hy hp
   obtain ⟨c,hc,hx⟩:=List.mem_flatMap.1 hy
   obtain ⟨c1,c2,c3⟩:=Q72 T ha hc
   obtain ⟨x1,x2,_,_⟩:=Q9k T f c y c1 hx
   have e1:=Q71 T ha
   have e2:=Q71 T x1
   rw [hp] at e1
   omega
  ·rw [List.pairwise_flatMap]
   refine ⟨fun c hc=>Qed T f c (Q72 T ha hc).1,?_⟩
   refine List.Pairwise.imp_of_mem ?_ Q5h
   intro c1 c2 hc1 hc2 hlt x hx y hy hp
   obtain ⟨v1,p1,d1⟩:=Q72 T ha hc1
   obtain ⟨v2,p2,d2⟩:=Q72 T ha hc2
   obtain ⟨x1,x2,x3,x4⟩:=Q9k T f c1 x v1 hx
   obtain ⟨y1,y2,y3,y4⟩:=Q9k T f c2 y v2 hy
   have ex:=Q71 T x1
   have ey:=Q71 T y1
   rw [hp] at ex
   by_cases hxc:x=c1
   ·by_cases hyc:y=c2
    ·rw [hxc,hyc];exact hlt
    ·have:=y4 hyc;rw [hxc] at ex;omega
   ·have h1:=Qod T f c1 x v1 hx hxc
    by_cases hyc:y=c2
    ·have:=x4 hxc;rw [← hyc] at d2;omega
    ·have h2:=Qod T f c2 y v2 hy hyc
     rw [hp] at h1
     have:=Qrs T v1 v2 (by omega) h1 h2
     omega
theorem Qtr {l:List Cl8} (T:Tr l):∀ (f:Nat) (a x k:Int),vI l a→9 - dpI l a≤f→x∈wkI l f a→k∈kdI l x→k∈wkI l f a
 | 0,a,x,k,_,_,h,_=>by simp [wkI] at h
 | f+1,a,x,k,ha,hf,h,hk=>by
  simp only [wkI,List.mem_cons,List.mem_flatMap] at h ⊢
  rcases h with rfl | ⟨c,hc,hx⟩
  ·right
   obtain ⟨c1,c2,c3⟩:=Q72 T ha hk
   have:=(T.way k c1).1
   obtain ⟨g,rfl⟩:∃ g,f=g+1:=⟨f - 1,by omega⟩
   exact ⟨k,hk,by simp [wkI]⟩
  ·right
   obtain ⟨c1,c2,c3⟩:=Q72 T ha hc
   exact ⟨c,hc,Qtr T f c x k c1 (by omega) hx hk⟩
theorem Qoe {l:List Cl8} (T:Tr l):∀ (f g:Nat) (a:Int),vI l a→9 - dpI l a≤f→f≤g→wkI l g a=wkI l f a
 | 0,g,a,ha,hf,_=>by have:=(T.way a ha).1;unfold dpI at *;omega
 | f+1,0,a,_,_,hg=>by omega
 | f+1,g+1,a,ha,hf,hg=>by
  simp only [wkI]
  congr 1
  have:∀ c∈kdI l a,wkI l g c=wkI l f c:=fun c hc=>by
   obtain ⟨c1,c2,c3⟩:=Q72 T ha hc
   exact Qoe T f g c c1 (by omega) (by omega)
  have key:∀ L:List Int,(∀ c∈L,wkI l g c=wkI l f c)→L.flatMap (wkI l g)=L.flatMap (wkI l f):=by
   intro L
   induction L with
   | nil=>intro _;rfl
   | cons c L ih=>intro h;rw [List.flatMap_cons,List.flatMap_cons,h c (by simp),ih (fun x hx=>h x (by simp [hx]))]
  exact key _ this
def Qab (l:List Cl8) (i:Int):List Int:=wkI l 8 i
theorem Qcw {l:List Cl8} (T:Tr l) {i:Int} (h:vI l i):Qab l i=i::(kdI l i).flatMap (Qab l):=by
 have:=Qcv h
 have e:=Qoe T 8 9 i h (by omega) (by omega)
 unfold Qab
 rw [← e]
 rfl
def wlk (l:List Cl8):List Int:=Qab l (Qcb l)
theorem Qof {l:List Cl8} (T:Tr l):∀ (m:Nat) (x:Int),dpI l x≤m→vI l x→x∈wlk l
 | 0,x,hm,hx=>by have:=Qcv hx;omega
 | m+1,x,hm,hx=>by
  obtain ⟨t1,t2,t3,t4⟩:=Q73 T
  by_cases hp:Q10 l x < 0
  ·rw [t4 x hx hp]
   unfold wlk Qab;simp [wkI]
  ·have hv:=Qj8 (l:=l) (i:=x) (by omega)
   have hd:=Q71 T hx
   have:=Qof T m (Q10 l x) (by omega) hv
   have htd:=Qcv t1
   exact Qtr T 8 (Qcb l) (Q10 l x) x t1 (by omega) this ((Q6q T hv).2 ⟨hx,rfl⟩)
theorem Q1b {l:List Cl8} (T:Tr l) {x:Int}:x∈wlk l↔vI l x :=
 ⟨fun h=>(Q9k T 8 _ x (Q73 T).1 h).1,fun h=>Qof T (dpI l x) x (Zd _) h⟩
theorem Qgi {l:List Cl8} (T:Tr l):(wlk l).Pairwise fun x y=>Q10 l x=Q10 l y→x < y:=Qed T 8 _ (Q73 T).1
theorem Q0u {l:List Cl8} (T:Tr l):(wlk l).Nodup:=by
 rw [List.nodup_iff_pairwise_ne]
 exact (Qgi T).imp fun h e=>by have:=h (by rw [e]);omega
theorem Q74 {l:List Cl8} (T:Tr l):(wlk l).length=l.length:=by
 have h1:=Q7t (Q0u T) (fun x hx=>(Q1b T).1 hx)
 have h2:((List.range l.length).map fun (k:Nat)=>(k:Int)).length≤(wlk l).length:=by
  refine List.Nodup.length_le_of_subset ?_ fun x hx=>?_
  ·rw [List.nodup_iff_pairwise_ne,List.pairwise_map]
   exact (List.nodup_iff_pairwise_ne.1 List.nodup_range).imp fun h e=>h (by omega)
  ·obtain ⟨k,hk,rfl⟩:=List.mem_map.1 hx
   have:=List.mem_range.1 hk
   exact (Q1b T).2 ⟨by omega,by omega⟩
 simp at h2
 omega
theorem Qee {l:List Cl8} (T:Tr l):∀ (m:Nat) (i:Int),dpI l i≤m→vI l i→∃ A B,wlk l=A++Qab l i++B
 | 0,i,hm,hi=>by have:=Qcv hi;omega
 | m+1,i,hm,hi=>by
  obtain ⟨t1,t2,t3,t4⟩:=Q73 T
  by_cases hp:Q10 l i < 0
  ·rw [t4 i hi hp]
   exact ⟨[],[],by simp [wlk]⟩
  ·have hv:=Qj8 (l:=l) (i:=i) (by omega)
   have hd:=Q71 T hi
   obtain ⟨A,B,e⟩:=Qee T m (Q10 l i) (by omega) hv
   obtain ⟨K1,K2,ek⟩:=List.append_of_mem ((Q6q T hv).2 ⟨hi,rfl⟩)
   rw [Qcw T hv,ek,List.flatMap_append,List.flatMap_cons] at e
   exact ⟨A++Q10 l i::K1.flatMap (Qab l),K2.flatMap (Qab l)++B,by rw [e];simp⟩
theorem Qkr {l:List Cl8} (h:Qm5 l=true):∀ (j i:Nat) (x y:Cl8),i < j→l[i]? = some x→l[j]? = some y→x.1 < y.1
 | 0,i,x,y,hij,_,_=>by omega
 | j+1,i,x,y,hij,hx,hy=>by
  unfold Qm5 at h
  rw [Q15] at h
  have h1:=h (j+1) y hy
  rw [Zo] at h1
  unfold Qo5 at h1
  simp only [Z8,Bool.or_eq_true,Zj] at h1
  have hj:j < l.length:=by have:=(Z0 hy).1;omega
  have hz:=Z6 hj
  have h2:(l[j]).1 < y.1:=by
   rcases h1.2 with h | h
   ·omega
   ·rw [show ((j+1:Nat):Int) - 1=(j:Int) by omega,Q1t hz] at h;exact h
  rcases Nat.lt_or_ge i j with hlt | hge
  ·have:=Qkr (by unfold Qm5;rw [Q15];exact h) j i x l[j] hlt hx hz;omega
  ·obtain rfl:i=j:=by omega
   rw [hz] at hx;injection hx with hx;rw [← hx];exact h2
theorem Qy1 {l:List Cl8} (h:Qft l=true):Tr l:=by
 unfold Qft at h
 simp only [Z8,Zj] at h
 obtain ⟨⟨h1,h2⟩,h3,h4,h5,h6,h7,h8,h9,h10⟩:=h
 have inj:∀ i j,vI l i→vI l j→(Q0e l i).1=(Q0e l j).1→i=j:=by
  intro i j hi hj e
  have gi:=Q1d hi
  have gj:=Q1d hj
  obtain ⟨i0,i1⟩:=hi
  obtain ⟨j0,j1⟩:=hj
  rcases Int.lt_trichotomy i j with hlt | rfl | hlt
  ·have:=Qkr h3 j.toNat i.toNat _ _ (by omega) gi gj;omega
  ·rfl
  ·have:=Qkr h3 i.toNat j.toNat _ _ (by omega) gj gi;omega
 refine ⟨h1,h2,inj,fun i hi=>?_,?_,fun i hi=>?_⟩
 ·unfold Qm5 at h3
  rw [Q15] at h3
  have:=h3 _ _ (Q1d hi)
  unfold Qo5 at this
  simp only [Z8,Zj] at this
  exact this.1.1
 ·unfold Q8v at h4
  obtain ⟨x,hx⟩:=List.length_eq_one_iff.1 h4
  have hm0:x∈l.filter (fun x:Cl8=>x.2.1==0):=by rw [hx];simp
  have hm:x∈l∧(x.2.1==0)=true:=List.mem_filter.1 hm0
  obtain ⟨t,ht⟩:=List.getElem?_of_mem hm.1
  refine ⟨(t:Int),Qmb ht,by rw [Q1t ht];simpa using hm.2,fun j hj hz=>?_⟩
  have hjm:Q0e l j∈l.filter (fun x=>x.2.1==0):=List.mem_filter.2 ⟨Zc (Q1d hj),by simp [hz]⟩
  rw [hx,List.mem_singleton] at hjm
  exact inj j t hj (Qmb ht) (by rw [hjm,Q1t ht])
 ·rw [Q15] at h6
  have:=h6 _ _ (Q1d hi)
  rw [Zo] at this
  unfold Qnn at this
  simp only [Z8,Zj,beq_iff_eq] at this
  rw [Int.toNat_of_nonneg hi.1] at this
  exact this
def Qnp (W:List Int) (x:Int):Int:=fiP (fun y=>y==x) W 0
theorem Q3u {W:List Int} (hn:W.Nodup) {k:Nat} {x:Int} (h:W[k]? = some x):Qnp W x=(k:Int):=by
 have hm:=Zc h
 rcases Int.lt_or_le (Qnp W x) 0 with h0 | h0
 ·exact absurd hm (Qo6 h0)
 ·obtain ⟨j,y,h1,h2,h3,_⟩:=Q66 h0
  have e:y=x:=by simpa using h3
  subst e
  unfold Qnp
  rw [h1,Zo]
  have hj:=(Z0 h2)
  have hk:=(Z0 h)
  obtain ⟨hj1,hj2⟩:=hj
  obtain ⟨hk1,hk2⟩:=hk
  have:j=k:=(List.getElem_inj hn).1 (hj2.trans hk2.symm)
  rw [this]
theorem Qks {W:List Int} {x:Int} (h:x∉W):Qnp W x=-1:=by
 have hn:∀ (l:List Int) (i:Nat),x∉l→fiP (fun y=>y==x) l i=-1:=by
  intro l
  induction l with
  | nil=>intro i _;rfl
  | cons a r ih =>
   intro i ha
   simp only [List.mem_cons,not_or] at ha
   simp only [fiP]
   rw [if_neg (by simp;exact fun e=>ha.1 e.symm)]
   exact ih (i+1) ha.2
 exact hn W 0 h
theorem Qog {W:List Int} (hn:W.Nodup) {x:Int} (h:x∈W):∃ k:Nat,W[k]? = some x∧Qnp W x=(k:Int):=by
 obtain ⟨k,hk⟩:=List.getElem?_of_mem h
 exact ⟨k,hk,Q3u hn hk⟩
def pW (l:List Cl8) (x:Int):Int:=Qnp (wlk l) x
theorem Qgj {l:List Cl8} (T:Tr l) {x:Int} (h:vI l x):∃ k:Nat,(wlk l)[k]? = some x∧pW l x=(k:Int):=Qog (Q0u T) ((Q1b T).2 h)
theorem Q8w {l:List Cl8} (T:Tr l) {x:Int} (h:x < 0):pW l x=-1:=Qks fun hm=>by have:=((Q1b T).1 hm).1;omega
def nxI (l:List Cl8) (i:Int):Int:=if Q10 l i < 0 then -1 else (kdI l (Q10 l i)).getD ((Qnp (kdI l (Q10 l i)) i).toNat+1) (-1)
def fsI (l:List Cl8) (i:Int):Int:=(kdI l i).headD (-1)
def enI (l:List Cl8) (k:Nat) (i:Int):Int:=((k+(Qab l i).length:Nat):Int)
def Qgk (c:Cf) (A:List Int) (fs:List Fl5) (tg:List Int) (df:Int):Ld:=(c.1,A.map (Q0e c.2.1),A.map (fun i=>pW c.2.1 (Q10 c.2.1 i)),A.map (fun i=>pW c.2.1 (fsI c.2.1 i)),A.map (fun i=>pW c.2.1 (nxI c.2.1 i)),A.mapIdx (enI c.2.1),fs,tg,df)
def tgV (c:Cf):List Int:=c.2.2.1.map fun f=>pW c.2.1 (fid c.2.1 f.2.2.2.2)
def dfV (c:Cf):Int:=if c.2.2.2=0 then -1 else pW c.2.1 (fid c.2.1 c.2.2.2)
def ldV (c:Cf):Ld:=Qgk c (wlk c.2.1) c.2.2.1 (tgV c) (dfV c)
structure Gd (c:Cf):Prop where
 nm:nmB c.1=true
 cl:Qft c.2.1=true
 fl:Qno c.2.1 c.2.2.1=true
 df:Qv7 c=true
theorem Qgl {c:Cf} (h:gdB c=true):Gd c:=by
 unfold gdB at h
 simp only [Z8] at h
 exact ⟨h.1,h.2.1,h.2.2.1,h.2.2.2⟩
theorem Gd.tr {c:Cf} (G:Gd c):Tr c.2.1:=Qy1 G.cl
theorem Gd.f16 {c:Cf} (G:Gd c):c.2.2.1.length≤16:=by
 have:=G.fl
 unfold Qno at this
 simp only [Z8,Zj] at this
 exact this.2
theorem Gd.tgt {c:Cf} (G:Gd c):∀ f∈c.2.2.1,vI c.2.1 (fid c.2.1 f.2.2.2.2)∧Q2y c.2.1 f.2.2.2.2=true∧Qob f=true:=by
 intro f hf
 have:=G.fl
 unfold Qno at this
 simp only [Z8,Q15] at this
 obtain ⟨i,hi⟩:=List.getElem?_of_mem hf
 have h1:=this.1 i f hi
 unfold Qgg Qnm at h1
 simp only [Z8,Zj] at h1
 exact ⟨⟨h1.2.2.1,Qas⟩,h1.2.2.2,h1.1⟩
theorem Gd.dft {c:Cf} (G:Gd c) (h:c.2.2.2≠0):vI c.2.1 (fid c.2.1 c.2.2.2)∧Q2y c.2.1 c.2.2.2=true:=by
 have:=G.df
 unfold Qv7 Qnm at this
 simp only [Z8,Bool.or_eq_true,Zj,beq_iff_eq] at this
 rcases this with h1 | h1
 ·exact absurd h1 h
 ·exact ⟨⟨h1.1,Qas⟩,h1.2⟩
theorem Qv9 {d:Nat} {c:Cf} (T:Tr c.2.1):g151 (d+1) c=some (Qcb c.2.1):=by
 rw [e151]
 obtain ⟨t1,t2,t3,t4⟩:=Q73 T
 have h24:=T.n24
 have t1a:=t1.1
 have t1b:=t1.2
 have key:∀ (m k fuel:Nat),k+m=(Qcb c.2.1).toNat→m < fuel→Q9 (l151_0 d c (j151_0 d)) fuel (k:Int)=some (Qcb c.2.1):=by
  intro m
  induction m with
  | zero =>
   intro k fuel hk hf
   obtain ⟨g,rfl⟩:∃ g,fuel=g+1:=⟨fuel - 1,by omega⟩
   have e:(k:Int)=Qcb c.2.1:=by have:=t1.1;omega
   simp only [Q9,l151_0]
   rw [e,Z5 t1.1,Q4,Q1d t1,Q8,t2]
   rfl
  | succ m ih =>
   intro k fuel hk hf
   obtain ⟨g,rfl⟩:∃ g,fuel=g+1:=⟨fuel - 1,by omega⟩
   have hv:vI c.2.1 (k:Int):=⟨by omega,by have:=t1.2;omega⟩
   have hz:(Q0e c.2.1 (k:Int)).2.1≠0:=by
    intro hz
    obtain ⟨t,_,_,q⟩:=T.top
    have h1:=q _ hv hz
    have h2:=q _ t1 t2
    omega
   simp only [Q9,l151_0]
   rw [nn,Q4,Q1d hv,Q8,show ((Q0e c.2.1 (k:Int)).2.1 != 0)=true by simp [hz],Q4,wr1 (by omega)]
   exact ih (k+1) g (by omega) (by omega)
 exact key (Qcb c.2.1).toNat 0 Qe (by omega) (by rw [Q6];have:=t1.2;omega)
theorem Qaw {α β γ:Type} {G:α→Option (List γ)} {w:α→List γ} {fin:List γ→Option β} {B:Nat}:∀ (L:List α) (i:Nat) (t:List γ),(∀ x∈L,G x=some (w x)∧(w x).length≤B)→t.length+L.length*B≤10000 →
  Q03 (fun x _ t k=>Q1 (G x) fun r=>oif (Nat.ble ((t.length+r.length)*8) Q7) (k (t++r)) none) fin L i t=fin (t++L.flatMap w)
 | [],i,t,_,_=>by simp [Q03]
 | x::r,i,t,h,hb=>by
  obtain ⟨h1,h2⟩:=h x (by simp)
  have e:(x::r).length*B=r.length*B+B:=by rw [Z9,Nat.add_mul,Nat.one_mul]
  rw [e] at hb
  simp only [Q03]
  rw [h1,Q8,room (by omega),Q4,Qaw r (i+1) (t++w x) (fun y hy=>h y (by simp [hy])) (by simp;omega),List.flatMap_cons,List.append_assoc]
theorem Qoh {l:List Cl8} (T:Tr l) {f:Nat} {a:Int} (ha:vI l a):(wkI l f a).length≤24:=by
 have hn:(wkI l f a).Nodup:=by
  rw [List.nodup_iff_pairwise_ne]
  exact (Qed T f a ha).imp fun h e=>by have:=h (by rw [e]);omega
 have:=Q7t hn (fun x hx=>(Q9k T f a x ha hx).1)
 have:=T.n24
 omega
theorem Qkt {d:Nat} {c:Cf} (T:Tr c.2.1):∀ (f:Nat) (i:Int),vI c.2.1 i→9 - dpI c.2.1 i≤f→g150 (d+1+f) c i=some (wkI c.2.1 f i)
 | 0,i,hv,hf=>by have:=(T.way i hv).1;unfold dpI at *;omega
 | f+1,i,hv,hf=>by
  have h24:=T.n24
  have hk:=Qa7 (l:=c.2.1) (id:=(Q0e c.2.1 i).1)
  rw [show d+1+(f+1)=(d+1+f)+1 by omega,e150]
  have e1:g152 (d+1+f) c i=some (kdI c.2.1 i):=by
   have:=Qa8 (d:=d+f) (c:=c) (n:=i.toNat) (Q1d hv) (by omega)
   rw [Int.toNat_of_nonneg hv.1,show d+f+1=d+1+f by omega] at this
   exact this
  have hb:([i]:List Int).length+(kdI c.2.1 i).length*24≤10000:=by
   have:(kdI c.2.1 i).length≤24:=by unfold kdI;omega
   simp only [Z9,Zb];omega
  rw [e1,Q8]
  refine (Qc (fun (t:List Int) (k:Int)=>(t,k)) (kdI c.2.1 i) (fun x _ t k=>Q1 (g150 (d+1+f) c x) fun r=>oif (Nat.ble ((t.length+r.length)*8) Q7) (k (t++r)) none) (fun t=>some t) ?_ ?_ (by rw [Q6];unfold kdI;omega) [i]).trans ?_
  ·intro ag t k x hx
   have hi:=(Z0 hx).1
   have:(kdI c.2.1 i).length≤24:=by unfold kdI;omega
   simp only [l150_0,ltl hx,nn,Q3,hx,Q8,Q4,Qsl hx]
   rw [wr1 (by omega)]
  ·intro ag t;simp only [l150_0,ltn,Q5];rfl
  ·rw [Qaw (w:=wkI c.2.1 f) (B:=24) (kdI c.2.1 i) 0 [i] (fun x hx=>?_) hb]
   ·rfl
   ·obtain ⟨c1,c2,c3⟩:=Q72 T hv hx
    exact ⟨Qkt T f x c1 (by omega),Qoh T c1⟩
theorem Qy2 {d:Nat} {c:Cf} (T:Tr c.2.1) {i:Int} (h:vI c.2.1 i):g150 (d+9) c i=some (Qab c.2.1 i):=by
 have:=Qkt (d:=d) T 8 i h (by have:=Qcv h;omega)
 rw [show d+1+8=d+9 by omega] at this
 exact this
theorem Qgm {α τ:Type} {f:α→Nat→τ→τ}:∀ (A B:List α) (i:Nat) (t:τ),Q0a f (A++B) i t=Q0a f B (i+A.length) (Q0a f A i t)
 | [],B,i,t=>by simp [Q0a]
 | x::A,B,i,t=>by
  simp only [List.cons_append,Q0a,Z9]
  rw [Qgm A B (i+1),show i+1+A.length=i+(A.length+1) by omega]
theorem Q8x {α τ:Type} {f:α→Nat→τ→τ}:∀ (A:List α) (i:Nat) (t:τ),(∀ x∈A,∀ k t,f x k t=t)→Q0a f A i t=t
 | [],i,t,_=>rfl
 | x::A,i,t,h=>by
  simp only [Q0a]
  rw [h x (by simp)]
  exact Q8x A (i+1) t (fun y hy=>h y (by simp [hy]))
theorem Qcx {β:Type} {fin:List Int→Option β}:∀ (W:List Int) (i:Nat) (t:List Int),(∀ x∈W,0≤x∧x < ((t.length:Nat):Int)) →
  Q03 (fun x i t k=>oif (decide (0≤x)) (oif (Nat.blt x.toNat t.length) (Q1 (t[x.toNat]?) fun _=>k (t.set x.toNat ((i:Nat):Int))) none) none) fin W i t=fin (Q0a (fun x i t=>t.set x.toNat ((i:Nat):Int)) W i t)
 | [],i,t,_=>rfl
 | x::r,i,t,h=>by
  obtain ⟨h1,h2⟩:=h x (by simp)
  simp only [Q03,Q0a]
  rw [Z5 h1,Q4,Qu (by omega),Q4,Z6 (show x.toNat < t.length by omega),Q8]
  exact Qcx r (i+1) _ (fun y hy=>by rw [List.length_set];exact h y (by simp [hy]))
theorem Qj9:∀ (W:List Int) (i:Nat) (t:List Int),(Q0a (fun x i t=>t.set x.toNat ((i:Nat):Int)) W i t).length=t.length
 | [],i,t=>rfl
 | x::r,i,t=>by simp only [Q0a];rw [Qj9 r,List.length_set]
theorem Qku:∀ (W:List Int) (i:Nat) (t:List Int) (j:Nat),(∀ x∈W,0≤x)→((j:Int)∉W)→(Q0a (fun x i t=>t.set x.toNat ((i:Nat):Int)) W i t)[j]? = t[j]?
 | [],i,t,j,_,_=>rfl
 | x::r,i,t,j,h0,hj=>by
  simp only [List.mem_cons,not_or] at hj
  have:=h0 x (by simp)
  simp only [Q0a]
  rw [Qku r (i+1) _ j (fun y hy=>h0 y (by simp [hy])) hj.2,List.getElem?_set_ne (by omega)]
theorem Qts:∀ (W:List Int) (i:Nat) (t:List Int) (k:Nat) (x:Int),W.Nodup→(∀ x∈W,0≤x∧x < ((t.length:Nat):Int))→W[k]? = some x→(Q0a (fun x i t=>t.set x.toNat ((i:Nat):Int)) W i t)[x.toNat]? = some ((i+k:Nat):Int)
 | [],i,t,k,x,_,_,h=>by simp at h
 | y::r,i,t,0,x,hn,h0,h=>by
  simp only [List.getElem?_cons_zero,Option.some.injEq] at h
  subst h
  obtain ⟨q1,q2⟩:=List.nodup_cons.1 hn
  obtain ⟨p1,p2⟩:=h0 y (by simp)
  simp only [Q0a]
  rw [Qku r (i+1) _ y.toNat (fun z hz=>(h0 z (by simp [hz])).1) (by rw [Int.toNat_of_nonneg p1];exact q1),List.getElem?_set_self (by omega)]
  simp
 | y::r,i,t,k+1,x,hn,h0,h=>by
  obtain ⟨q1,q2⟩:=List.nodup_cons.1 hn
  simp only [Q0a]
  rw [Qts r (i+1) _ k x q2 (fun z hz=>by rw [List.length_set];exact h0 z (by simp [hz])) (by simpa using h)]
  congr 2;omega
def atA (l:List Cl8):List Int:=Q0a (fun x i t=>t.set x.toNat ((i:Nat):Int)) (wlk l) 0 (List.replicate l.length 0)
theorem Qva {l:List Cl8}:(atA l).length=l.length:=by unfold atA;rw [Qj9];simp
theorem Qvb {l:List Cl8} (T:Tr l) {x:Int} (h:vI l x):(atA l)[x.toNat]? = some (pW l x)∧x.toNat < (atA l).length:=by
 obtain ⟨k,h1,h2⟩:=Qgj T h
 refine ⟨?_,by rw [Qva];have:=h.1;have:=h.2;omega⟩
 unfold atA
 rw [Qts (wlk l) 0 _ k x (Q0u T) (fun y hy=>by have:=(Q1b T).1 hy;simp;exact this) h1,h2,Zo]
theorem Q8y {α γ β:Type} {e:α→γ} {fin:List γ→Option β} {w:Nat}:∀ (l:List α) (i:Nat) (t:List γ),(t.length+l.length)*w≤100000000 →
  Q03 (fun x _ t k=>oif (Nat.ble ((t.length+[e x].length)*w) Q7) (k (t++[e x])) none) fin l i t=fin (t++l.map e)
 | [],i,t,_=>by simp [Q03]
 | x::r,i,t,h=>by
  simp only [Q03]
  rw [room (by
   have:(t.length+[e x].length)*w≤(t.length+(x::r).length)*w:=Zk w (by simp)
   omega),Q4]
  rw [Q8y r (i+1) (t++[e x]) (by
   refine Nat.le_trans (Zk w ?_) h
   simp;omega)]
  simp
theorem Qvc {K:List Int} {i:Int} {g:Int→Int} (hn:K.Nodup) (hi:i∈K) (hg:g (-1)=-1) :
  Q0a (fun x k t=>if x=i∧k+1 < K.length then g (K.getD (k+1) 0) else t) K 0 (-1)=g (K.getD ((Qnp K i).toNat+1) (-1)):=by
 obtain ⟨K1,K2,e⟩:=List.append_of_mem hi
 have hp:Qnp K i=(K1.length:Int):=Q3u hn (by rw [e];simp)
 have hn':=hn
 rw [e,Zn] at hn'
 obtain ⟨n1,n2,n3⟩:=hn'
 have h0:Q0a (fun x k t=>if x=i∧k+1 < K.length then g (K.getD (k+1) 0) else t) K 0 (-1)=Q0a (fun x k t=>if x=i∧k+1 < K.length then g (K.getD (k+1) 0) else t) (K1++i::K2) 0 (-1):=by rw [← e]
 rw [h0,Qgm,Q8x K1 0 (-1) (fun x hx k t=>if_neg (fun h=>n3 x hx i (by simp) h.1)),Zo]
 show Q0a (fun x k t=>if x=i∧k+1 < K.length then g (K.getD (k+1) 0) else t) K2 (K1.length+1) (if i=i∧K1.length+1 < K.length then g (K.getD (K1.length+1) 0) else -1)=_
 rw [Q8x K2 _ _ (fun x hx k t=>if_neg (fun (h:x=i∧k+1 < K.length)=>(List.nodup_cons.1 n2).1 (h.1▸hx))),hp,Q3]
 by_cases h:K1.length+1 < K.length
 ·rw [if_pos ⟨rfl,h⟩,Zr,Zr,Z6 h];rfl
 ·rw [if_neg (fun hc=>h hc.2),Zr,List.getElem?_eq_none (by omega)];exact hg.symm
theorem Qkv {l:List Cl8} {i:Int}:(kdI l i).Nodup:=by
 rw [List.nodup_iff_pairwise_ne];exact Q5h.imp fun h e=>by omega
theorem Qgn {l:List Cl8} (T:Tr l) {x:Int} (h:vI l x) {α:Type} {K:Int→Option α}:oif (Nat.blt x.toNat (atA l).length) (Q1 ((atA l)[x.toNat]?) K) none=K (pW l x):=by
 obtain ⟨h1,h2⟩:=Qvb T h
 rw [Qu h2,Q4,h1,Q8]
theorem Qoi {l:List Cl8} (T:Tr l) {i:Int}:(kdI l i).length≤24:=by
 have:=Qa7 (l:=l) (id:=(Q0e l i).1)
 have:=T.n24
 unfold kdI;omega
theorem Qy3 {d:Nat} {c:Cf} (T:Tr c.2.1) {i:Int} (hi:vI c.2.1 i) (hp:0≤Q10 c.2.1 i) {kx:Int→Int→Option Ld} :
  Q9 (l107_2 d (atA c.2.1) i (kdI c.2.1 (Q10 c.2.1 i)) kx) Qe ((-1),0)=kx (pW c.2.1 (nxI c.2.1 i)) ((kdI c.2.1 (Q10 c.2.1 i)).length:Int):=by
 have hv:=Qj8 hp
 have hl:=Qoi T (i:=Q10 c.2.1 i)
 refine (Qc (fun (t:Int) (k:Int)=>(t,k)) (kdI c.2.1 (Q10 c.2.1 i)) (fun x k t cont=>cont (if x=i∧k+1 < (kdI c.2.1 (Q10 c.2.1 i)).length then pW c.2.1 ((kdI c.2.1 (Q10 c.2.1 i)).getD (k+1) 0) else t)) (fun t=>kx t ((kdI c.2.1 (Q10 c.2.1 i)).length:Int)) ?_ ?_ (by rw [Q6];omega) (-1)).trans ?_
 ·intro ag t k x hx
  have hk:=(Z0 hx).1
  simp only [l107_2,ltl hx,nn,Q3,hx,Q8,Q4,Qsl hx]
  rw [wr1 (by omega)]
  unfold j107_5
  rw [wr1 (by omega)]
  by_cases he:x=i
  ·rw [show (x==i)=true by simp [he],Q4]
   by_cases hlt:k+1 < (kdI c.2.1 (Q10 c.2.1 i)).length
   ·have hm:=Z6 hlt
    have hv2:=(Q72 T hv (Zc hm)).1
    rw [Z5 (show ((k+1:Nat):Int) < (((kdI c.2.1 (Q10 c.2.1 i)).length:Nat):Int) by omega),Q4,nn,Q4,Q3,Qu hlt,Q4,hm,Q8,Z5 hv2.1,Q4,Qgn T hv2,if_pos ⟨he,hlt⟩,Zr,hm]
    rfl
   ·rw [Z4 (show ¬ ((k+1:Nat):Int) < (((kdI c.2.1 (Q10 c.2.1 i)).length:Nat):Int) by omega),Q5,if_neg (fun h=>hlt h.2)]
  ·rw [show (x==i)=false by simp [he],Q5,Q5,if_neg (fun h=>he h.1)]
 ·intro ag t;simp only [l107_2,ltn,Q5]
 ·rw [Q0r (f:=fun x k t=>if x=i∧k+1 < (kdI c.2.1 (Q10 c.2.1 i)).length then pW c.2.1 ((kdI c.2.1 (Q10 c.2.1 i)).getD (k+1) 0) else t),Qvc (g:=pW c.2.1) Qkv ((Q6q T hv).2 ⟨hi,rfl⟩) (Q8w T (by omega))]
  unfold nxI
  rw [if_neg (by omega)]
theorem Qgo {d:Nat} {c:Cf} {i:Int} (T:Tr c.2.1) (h:vI c.2.1 i):g152 (d+1) c i=some (kdI c.2.1 i):=by
 have h24:=T.n24
 have:=Qa8 (d:=d) (c:=c) (n:=i.toNat) (Q1d h) (by omega)
 rw [Int.toNat_of_nonneg h.1] at this
 exact this
theorem Qoj {c:Cf} {A:List Int} {i:Int} {fs:List Fl5} {tg:List Int} {df:Int}:Qgk c (A++[i]) fs tg df=(c.1,A.map (Q0e c.2.1)++[Q0e c.2.1 i],A.map (fun i=>pW c.2.1 (Q10 c.2.1 i))++[pW c.2.1 (Q10 c.2.1 i)],A.map (fun i=>pW c.2.1 (fsI c.2.1 i))++[pW c.2.1 (fsI c.2.1 i)],A.map (fun i=>pW c.2.1 (nxI c.2.1 i))++[pW c.2.1 (nxI c.2.1 i)],A.mapIdx (enI c.2.1)++[enI c.2.1 A.length i],fs,tg,df):=by
 unfold Qgk
 simp [List.mapIdx_concat]
theorem Qtt {d:Nat} {c:Cf} (T:Tr c.2.1) {A:List Int} {i:Int} (hi:vI c.2.1 i) (hA:A.length≤24) {fs:List Fl5} {tg:List Int} {df:Int} {ag:Int×Ld→Option Ld} {b:Bool} :
  j107_3 (d+9) c (atA c.2.1) ag (A.length:Int) (Qgk c A fs tg df) i (Q0e c.2.1 i) (pW c.2.1 (Q10 c.2.1 i)) (pW c.2.1 (nxI c.2.1 i)) b=ag (((A.length+1:Nat):Int),Qgk c (A++[i]) fs tg df):=by
 have fin:∀ bb,j107_2 (d+9) c ag (A.length:Int) (Qgk c A fs tg df) i (Q0e c.2.1 i) (pW c.2.1 (Q10 c.2.1 i)) (pW c.2.1 (nxI c.2.1 i)) (pW c.2.1 (fsI c.2.1 i)) bb=ag (((A.length+1:Nat):Int),Qgk c (A++[i]) fs tg df):=by
  intro bb
  unfold j107_2
  rw [Qy2 T hi,Q8,wr1 (by omega),Qoj]
  have hs:=Qoh T (f:=8) hi
  simp only [Qgk,List.length_map,List.length_mapIdx,Z9,Zb]
  rw [room (by omega),Q4,Q4,Q4,Q4,wr (by unfold Qab;omega) (by unfold Qab;omega)]
  rw [show (A.length:Int)+(((Qab c.2.1 i).length:Nat):Int)=enI c.2.1 A.length i by unfold enI;omega]
 unfold j107_3
 rw [show d+9=d+8+1 from rfl,Qgo T hi,Q8]
 cases hk:kdI c.2.1 i with
 | nil =>
  rw [Z4 (show ¬ ((([]:List Int).length:Nat):Int) > 0 by simp),Q5]
  have:=fin false
  rw [show fsI c.2.1 i=-1 by unfold fsI;rw [hk];rfl,Q8w T (show (-1:Int) < 0 by omega)] at this
  exact this
 | cons k r =>
  have hv:=(Q72 T hi (show k∈kdI c.2.1 i by rw [hk];simp)).1
  have hl:(k::r).length≤24:=by rw [← hk];exact Qoi T
  rw [Z5 (show (((k::r).length:Nat):Int) > 0 by simp),Q4,Qu (by simp),Q4,List.getElem?_cons_zero,Q8,Z5 hv.1,Q4,Qgn T hv]
  have:=fin true
  rw [show fsI c.2.1 i=k by unfold fsI;rw [hk];rfl] at this
  exact this
theorem Qtu {d:Nat} {c:Cf} (T:Tr c.2.1) {fs:List Fl5}:∀ (B A:List Int) (fuel:Nat),wlk c.2.1=A++B→B.length < fuel→Q9 (l107_1 (d+9) c (wlk c.2.1) (atA c.2.1) (j107_1 (d+9) c (atA c.2.1))) fuel ((A.length:Int),Qgk c A fs [] (-1))=Q9 (l107_3 (d+9) c (atA c.2.1) (j107_0 (d+9) c (atA c.2.1))) Qe (0,Qgk c (wlk c.2.1) fs [] (-1))
 | B,A,0,_,h=>by omega
 | [],A,fuel+1,e,h=>by
  rw [List.append_nil] at e
  simp only [Q9,l107_1]
  rw [e,ltn,Q5]
  unfold j107_1
  rfl
 | i::B,A,fuel+1,e,h=>by
  have hlen:A.length+(B.length+1)=(wlk c.2.1).length:=by rw [e];simp
  have h24:=T.n24
  have hW:=Q74 T
  have hi:vI c.2.1 i:=(Q1b T).1 (by rw [e];simp)
  have hg:(wlk c.2.1)[A.length]? = some i:=by rw [e];simp
  have next:=Qtu (d:=d) T (fs:=fs) B (A++[i]) fuel (by rw [e];simp) (by simpa using h)
  rw [show ((A++[i]).length:Int)=((A.length+1:Nat):Int) by simp] at next
  simp only [Q9,l107_1]
  rw [Z5 (show (A.length:Int) < (((wlk c.2.1).length:Nat):Int) by omega),Q4,nn,Q4,Q3,Qu (show A.length < (wlk c.2.1).length by omega),Q4,hg,Q8,Z5 hi.1,Q4,Q1d hi,Q8,show (Qgk c A fs [] (-1)).2.1.length=A.length by simp [Qgk],room (by simp;omega),Q4,Q4,Q8,show d+9=d+8+1 from rfl,Q7r (by omega),Q8]
  rw [show fid c.2.1 (Q0e c.2.1 i).2.1=Q10 c.2.1 i from rfl]
  by_cases hp:0≤Q10 c.2.1 i
  ·have hv:=Qj8 hp
   rw [show decide (Q10 c.2.1 i≥0)=true from Z5 hp,Q4,Q4,Qgn T hv,Qgo T hv,Q8,Qy3 T hi hp]
   unfold j107_4
   rw [show d+8+1=d+9 from rfl,Qtt T hi (by omega)]
   exact next
  ·rw [show decide (Q10 c.2.1 i≥0)=false from Z4 hp,Q5]
   have e1:pW c.2.1 (Q10 c.2.1 i)=-1:=Q8w T (by omega)
   have e2:pW c.2.1 (nxI c.2.1 i)=-1:=by unfold nxI;rw [if_pos (by omega)];exact Q8w T (by omega)
   have:=Qtt (d:=d) T hi (A:=A) (by omega) (fs:=fs) (tg:=[]) (df:=-1) (b:=false) (ag:=Q9 (l107_1 (d+9) c (wlk c.2.1) (atA c.2.1) (j107_1 (d+9) c (atA c.2.1))) fuel)
   rw [e1,e2] at this
   rw [show d+8+1=d+9 from rfl,this]
   exact next
theorem Qkw {d:Nat} {c:Cf} (G:Gd c):g107 (d+10) c=some (ldV c):=by
 have T:=G.tr
 have h24:=T.n24
 have hW:=Q74 T
 have h16:=G.f16
 rw [e107,show d+9=d+8+1 from rfl,Qv9 T,Q8,show d+8+1=d+9 from rfl,Qy2 T (Q73 T).1,Q8,show Qab c.2.1 (Qcb c.2.1)=wlk c.2.1 from rfl,nn,Q4,Q4,Q3,show (Nat.ble (wlk c.2.1).length (wlk c.2.1).length&&Nat.ble ((wlk c.2.1).length*8) Q7)=true by rw [Z8,Nat.ble_eq,Nat.ble_eq];unfold Q7;omega,Q4]
 refine (Qc (fun (t:List Int) (k:Int)=>(k,t)) (wlk c.2.1) (fun x i t k=>oif (decide (0≤x)) (oif (Nat.blt x.toNat t.length) (Q1 (t[x.toNat]?) fun _=>k (t.set x.toNat ((i:Nat):Int))) none) none) (j107_6 (d+9) c (wlk c.2.1)) ?_ ?_ (by rw [Q6];omega) (List.replicate (wlk c.2.1).length 0)).trans ?_
 ·intro ag t k x hx
  have hk:=(Z0 hx).1
  simp only [l107_0,ltl hx,nn,Q3,hx,Q8,Q4,Qsl hx]
  rw [wr1 (by omega)]
 ·intro ag t;simp only [l107_0,ltn,Q5]
 ·rw [Qcx (wlk c.2.1) 0 _ (fun x hx=>by have:=(Q1b T).1 hx;rw [List.length_replicate,hW];exact this)]
  rw [show Q0a (fun (x:Int) (i:Nat) (t:List Int)=>t.set x.toNat ((i:Nat):Int)) (wlk c.2.1) 0 (List.replicate (wlk c.2.1).length 0)=atA c.2.1 by unfold atA;rw [hW]]
  unfold j107_6
  rw [room (by simp;omega),Q4]
  have:=Qtu (d:=d) T (fs:=([]:List Fl5)++c.2.2.1) (wlk c.2.1) [] Qe rfl (by rw [Q6];omega)
  refine this.trans ?_
  refine (Qc (fun (t:List Int) (k:Int)=>(k,Qgk c (wlk c.2.1) (([]:List Fl5)++c.2.2.1) t (-1))) c.2.2.1 (fun f _ t k=>oif (Nat.ble ((t.length+[pW c.2.1 (fid c.2.1 f.2.2.2.2)].length)*8) Q7) (k (t++[pW c.2.1 (fid c.2.1 f.2.2.2.2)])) none) (fun t=>some (Qgk c (wlk c.2.1) c.2.2.1 t (dfV c))) ?_ ?_ (by rw [Q6];omega) []).trans ?_
  ·intro ag t k f hx
   have hk:=(Z0 hx).1
   obtain ⟨v1,_⟩:=G.tgt f (Zc hx)
   simp only [l107_3,ltl hx,nn,Q3,hx,Q8,Q4]
   rw [show d+9=d+8+1 from rfl,Q7r (by omega),Q8,Z5 v1.1,Q4,Qgn T v1,wr1 (by omega)]
   rfl
  ·intro ag t
   simp only [l107_3,ltn,Q5]
   unfold j107_0 dfV
   by_cases h:c.2.2.2=0
   ·rw [show (c.2.2.2 != 0)=false by simp [h],Q5,if_pos h];rfl
   ·obtain ⟨v1,_⟩:=G.dft h
    rw [show (c.2.2.2 != 0)=true by simp [h],Q4,show d+9=d+8+1 from rfl,Q7r (by omega),Q8,Z5 v1.1,Q4,Qgn T v1,if_neg h];rfl
  ·rw [Q8y (e:=fun f:Fl5=>pW c.2.1 (fid c.2.1 f.2.2.2.2)) (w:=8) c.2.2.1 0 [] (by simp;omega)]
   rfl
theorem lsz (l:List UInt8):(⟨l.toArray⟩:ByteArray).size=l.length:=(rfl)
theorem Ok.cat {α:Type} {a b:ByteArray} {x:Option α} {Q:α→Prop} (ha:a.size≤100000) (hb:b.size≤100000) (h:Ok x Q):Ok (oif (Nat.ble (a.size+b.size) 9223372036854775807) x none) Q:=by
 rw [Qxu (by omega)];exact h
theorem Qtv {u:Nat} (h:u < 10):Go.Lib.decDigits u=[UInt8.ofNat (48+u)]:=by rw [Go.Lib.decDigits,dif_pos h]
theorem Qvd {u:Nat} (h:¬ u < 10):Go.Lib.decDigits u=Go.Lib.decDigits (u / 10)++[UInt8.ofNat (48+u % 10)]:=by rw [Go.Lib.decDigits,dif_neg h]
theorem Qtw:∀ (j u:Nat),u < 10 ^ (j+1)→1≤(Go.Lib.decDigits u).length∧(Go.Lib.decDigits u).length≤j+1
 | 0,u,h=>by rw [Qtv (by omega)];simp
 | j+1,u,h=>by
  by_cases h2:u < 10
  ·rw [Qtv h2];simp
  ·have:=Qtw j (u / 10) (by rw [Nat.pow_succ] at h;omega)
   rw [Qvd h2];simp;omega
theorem Q9l {d:Nat} {n:Int} (h0:0≤n) (h:n≤1000000000000):Ok (g179 (d+1) n) fun s=>s.size≤20:=by
 obtain ⟨m,rfl⟩:=Int.eq_ofNat_of_zero_le h0
 rw [e179]
 unfold Qf7
 have e:Go.Lib.itoa (m:Int)=Go.Lib.decDigits m:=by unfold Go.Lib.itoa;rw [if_neg (by omega)];rfl
 rw [Z5 (by omega),Z5 (by omega),Bool.and_self,Q4,e]
 refine Ok.some ?_
 rw [lsz]
 have:=(Qtw 19 m (by omega)).2
 exact this
theorem Q2z {d:Nat} {n:Int} (h0:0≤n) (h:n≤1000000000):Ok (g192 (d+2) n) fun s=>s.size≤21:=by
 obtain ⟨m,rfl⟩:=Int.eq_ofNat_of_zero_le h0
 have e2:((m:Int)).tdiv 1000000=((m / 1000000:Nat):Int):=rfl
 have e4:((m:Int)).tdiv 1000=((m / 1000:Nat):Int):=rfl
 have r0:∀ b,Ok (j192_0 (d+1) (m:Int) b) fun s=>s.size≤21:=by
  intro b
  unfold j192_0
  rw [e4,wr (n:=((m / 1000:Nat):Int)) (by omega) (by omega)]
  refine Ok.oif (fun _=>?_) (fun _=>?_)
  ·refine Ok.bind (Q9l (by omega) (by omega)) fun s hs=>?_
   refine Ok.cat (by omega) (by (try simp only [Za,lsz,Z9,Zb] at *);omega) (Ok.some ?_)
   (try simp only [Za,lsz,Z9,Zb] at *);omega
  ·exact Ok.bind (Q9l (by omega) (by omega)) fun s hs=>Ok.some (by omega)
 have r1:∀ b,Ok (j192_1 (d+1) (m:Int) b) fun s=>s.size≤21:=by
  intro b
  unfold j192_1
  rw [e2,wr (n:=((m / 1000000:Nat):Int)) (by omega) (by omega)]
  refine Ok.oif (fun _=>?_) (fun _=>Ok.oif (fun _=>r0 _) (fun _=>r0 _))
  refine Ok.bind (Q9l (by omega) (by omega)) fun s hs=>?_
  refine Ok.cat (by omega) (by (try simp only [Za,lsz,Z9,Zb] at *);omega) (Ok.some ?_)
  (try simp only [Za,lsz,Z9,Zb] at *);omega
 rw [e192]
 exact Ok.oif (fun _=>r1 _) (fun _=>r1 _)
def Qve (x:Cl8):Prop:=(0≤x.1∧x.1≤1000000000)∧(0≤x.2.2.1∧x.2.2.1≤1000000000)∧(0≤x.2.2.2.1∧x.2.2.2.1≤1000000000)∧(0≤x.2.2.2.2.1∧x.2.2.2.2.1≤1000000000)∧(0≤x.2.2.2.2.2.1∧x.2.2.2.2.2.1≤1000000000)∧(0≤x.2.2.2.2.2.2.1∧x.2.2.2.2.2.2.1≤1000000000)
theorem Qax {d:Nat} {x:Cl8} (h:Qve x):Ok (g191 (d+3) x) fun s=>s.size≤1000:=by
 obtain ⟨h1,h2,h3,h4,h5,h6⟩:=h
 rw [e191]
 refine Ok.bind (Q9l h1.1 (by omega)) fun r2 g2=>?_
 refine Ok.cat (by (try simp only [Za,lsz,Z9,Zb] at *);omega) (by (try simp only [Za,lsz,Z9,Zb] at *);omega) ?_
 refine Ok.cat (by (try simp only [Za,lsz,Z9,Zb] at *);omega) (by (try simp only [Za,lsz,Z9,Zb] at *);omega) ?_
 refine Ok.bind (Q2z h2.1 h2.2) fun r3 g3=>?_
 refine Ok.cat (by (try simp only [Za,lsz,Z9,Zb] at *);omega) (by (try simp only [Za,lsz,Z9,Zb] at *);omega) ?_
 refine Ok.cat (by (try simp only [Za,lsz,Z9,Zb] at *);omega) (by (try simp only [Za,lsz,Z9,Zb] at *);omega) ?_
 refine Ok.bind (Q2z h3.1 h3.2) fun r4 g4=>?_
 refine Ok.cat (by (try simp only [Za,lsz,Z9,Zb] at *);omega) (by (try simp only [Za,lsz,Z9,Zb] at *);omega) ?_
 refine Ok.cat (by (try simp only [Za,lsz,Z9,Zb] at *);omega) (by (try simp only [Za,lsz,Z9,Zb] at *);omega) ?_
 refine Ok.bind (Q2z h4.1 h4.2) fun r5 g5=>?_
 refine Ok.cat (by (try simp only [Za,lsz,Z9,Zb] at *);omega) (by (try simp only [Za,lsz,Z9,Zb] at *);omega) ?_
 refine Ok.cat (by (try simp only [Za,lsz,Z9,Zb] at *);omega) (by (try simp only [Za,lsz,Z9,Zb] at *);omega) ?_
 refine Ok.bind (Q2z h5.1 h5.2) fun r6 g6=>?_
 refine Ok.cat (by (try simp only [Za,lsz,Z9,Zb] at *);omega) (by (try simp only [Za,lsz,Z9,Zb] at *);omega) ?_
 refine Ok.cat (by (try simp only [Za,lsz,Z9,Zb] at *);omega) (by (try simp only [Za,lsz,Z9,Zb] at *);omega) ?_
 refine Ok.bind (Q9l h6.1 (by omega)) fun r7 g7=>?_
 refine Ok.cat (by (try simp only [Za,lsz,Z9,Zb] at *);omega) (by (try simp only [Za,lsz,Z9,Zb] at *);omega) (Ok.some ?_)
 (try simp only [Za,lsz,Z9,Zb] at *);omega
def dgS:ByteArray:=⟨#[48,49,50,51,52,53,54,55,56,57,97,98,99,100,101,102]⟩
theorem Qkx:dgS.size=16:=rfl
theorem Q00h {n:Nat} (h:n≤4294967295):IntKind.i64.wrap ((BitVec.ofInt IntKind.i64.bits (n:Int) &&& BitVec.ofInt IntKind.i64.bits 15).toNat:Int)=((n % 16:Nat):Int):=by
 have hb:IntKind.i64.bits=64:=rfl
 have e1:(BitVec.ofInt IntKind.i64.bits (n:Int)).toNat=n:=by
  rw [hb,BitVec.toNat_ofInt];omega
 have e2:(BitVec.ofInt IntKind.i64.bits 15).toNat=2 ^ 4 - 1:=by decide
 rw [BitVec.toNat_and,e1,e2,Nat.and_two_pow_sub_one_eq_mod,wr (by omega) (by omega)]
theorem Qgp {d:Nat} {n:Int} (h0:0≤n) (h:n≤65535):Ok (g194 (d+2) n) fun r=>r.1.size≤1000:=by
 rw [e194,Z4 (by omega),Q5,Z4 (by omega),Q5]
 refine Ok.bind (P:=fun r=>r.1.size≤1000) ?_ fun r hr=>Ok.some hr
 rw [e205,Z4 (by omega),Q5,Z4 (show ¬ n > 4294967295 by omega)]
 unfold j205_2
 rw [Q5]
 have fin:∀ s:ByteArray,s.size≤200→Ok (j205_0 d s) fun r=>r.1.size≤1000:=by
  intro s hs
  unfold j205_0
  refine Ok.cat (by (try simp only [Za,lsz,Z9,Zb] at *);omega) (by (try simp only [Za,lsz,Z9,Zb] at *);omega) (Ok.some ?_)
  (try simp only [Za,lsz,Z9,Zb] at *);omega
 refine Q0x (fun m (st:Int×ByteArray)=>0≤st.1∧st.1≤65535∧(st.1 < 16 ^ m∨bl st.2=[])∧(m≤5)∧(bl st.2=[]→m=5)∧st.2.size+m*16≤100) ?_ Qe 5 _ (by rw [Q6];omega) ⟨h0,h,Or.inr rfl,by omega,fun _=>rfl,by simp only;rw [show (⟨#[]⟩:ByteArray).size=0 from rfl];omega⟩
 rintro m ⟨n,s⟩ ag ⟨h1,h2,h3,h4,h5,h6⟩ hag
 simp only at h1 h2 h3 h4 h5 h6
 obtain ⟨k,rfl⟩:=Int.eq_ofNat_of_zero_le h1
 have h16:k % 16 < 16:=Nat.mod_lt _ (by omega)
 simp only [l205_0]
 have step:∀ b,(bl s=[]∨0 < k)→Ok (j205_1 d (j205_0 d) ag (k:Int) s b true) fun r=>r.1.size≤1000:=by
  intro b hb
  unfold j205_1
  rw [Q4,Q00h (by omega)]
  have e2:((k:Int)).fdiv (2 ^ (min (4:Int).toNat IntKind.i64.bits))=((k / 16:Nat):Int):=by
   have:(2:Int) ^ (min (4:Int).toNat IntKind.i64.bits)=16:=rfl
   rw [this,Int.fdiv_eq_ediv_of_nonneg _ (by omega)];rfl
  rw [e2,wr1 (by omega)]
  change Ok (oif _ (oif _ (oif (Nat.ble _ _&&Nat.ble _ dgS.size) (oif (Nat.ble ((dgS.extract _ _).size+_) _) (ag (_,dgS.extract _ _++s)) _) _) _) _) _
  simp only [Q3,nn,Q4]
  have hz:(dgS.extract (k % 16) (k % 16+1)).size=1:=by rw [ByteArray.size_extract,Qkx];omega
  rw [Qv4 (by omega) (by rw [Qkx];omega),Qxu (by omega)]
  have hm:0 < m:=by
   rcases Nat.eq_zero_or_pos m with hm | hm
   ·subst hm
    rcases hb with hb | hb
    ·exact absurd (h5 hb) (by omega)
    ·rcases h3 with h3 | h3
     ·simp at h3;omega
     ·exact absurd (h5 h3) (by omega)
   ·exact hm
  obtain ⟨m',rfl⟩:∃ m',m=m'+1:=⟨m - 1,by omega⟩
  refine hag m' _ (by omega) ⟨by simp only;omega,by simp only;omega,Or.inl ?_,by omega,fun h=>?_,?_⟩
  ·simp only
   rcases h3 with h3 | h3
   ·have:k < 16 ^ m'*16:=by rw [Int.pow_succ] at h3;exact_mod_cast h3
    have:k / 16 < 16 ^ m':=Nat.div_lt_of_lt_mul (by rw [Nat.mul_comm];exact this)
    exact_mod_cast this
   ·have:=h5 h3
    obtain rfl:m'=4:=by omega
    have:k / 16 < 16 ^ 4:=by omega
    exact_mod_cast this
  ·have:=congrArg List.length h
   simp only at this
   rw [← Qto,Za,hz] at this
   simp at this
  ·simp only
   rw [Za,hz];omega
 refine Ok.oif (fun h=>step _ (Or.inr (by simpa using h))) (fun _=>?_)
 rw [Qri,Qxt []]
 by_cases hb:bl s=[]
 ·rw [Z5 hb];exact step _ (Or.inl hb)
 ·rw [Z4 hb]
  unfold j205_1
  rw [Q5]
  exact fin s (by omega)
theorem Qgq {d:Nat} {x:Fl5} (h:Qob x=true) (ht:0≤x.2.2.2.2∧x.2.2.2.2≤1000000):Ok (g183 (d+3) x) fun s=>s.size≤10000:=by
 unfold Qob at h
 simp only [Z8,Zj] at h
 obtain ⟨⟨h1,h2,h3,h4,h5,h6,h7,h8⟩,_⟩:=h
 rw [e183]
 refine Ok.bind (Qgp h7 h8) fun r2 g2=>?_
 refine Ok.bind (Qgp h5 h6) fun r3 g3=>?_
 refine Ok.bind (Q9l (by omega) (by omega)) fun r4 g4=>?_
 refine Ok.cat (by (try simp only [Za,lsz,Z9,Zb] at *);omega) (by (try simp only [Za,lsz,Z9,Zb] at *);omega) ?_
 refine Ok.cat (by (try simp only [Za,lsz,Z9,Zb] at *);omega) (by (try simp only [Za,lsz,Z9,Zb] at *);omega) ?_
 rw [e195,Q8,Z5 h3,Q4]
 have h4':x.2.1.toNat < 4:=by omega
 change Ok (oif (Nat.blt x.2.1.toNat 4) _ none) _
 rw [Qu h4',Q4]
 refine Ok.bind (P:=fun s=>s.size≤10) ?_ fun s6 g6=>?_
 ·have:x.2.1.toNat < 4:=by omega
  match x.2.1.toNat,this with
  | 0,_=>exact Ok.some (by decide)
  | 1,_=>exact Ok.some (by decide)
  | 2,_=>exact Ok.some (by decide)
  | 3,_=>exact Ok.some (by decide)
 refine Ok.cat (by (try simp only [Za,lsz,Z9,Zb] at *);omega) (by (try simp only [Za,lsz,Z9,Zb] at *);omega) ?_
 refine Ok.cat (by (try simp only [Za,lsz,Z9,Zb] at *);omega) (by (try simp only [Za,lsz,Z9,Zb] at *);omega) ?_
 refine Ok.cat (by (try simp only [Za,lsz,Z9,Zb] at *);omega) (by (try simp only [Za,lsz,Z9,Zb] at *);omega) ?_
 refine Ok.cat (by (try simp only [Za,lsz,Z9,Zb] at *);omega) (by (try simp only [Za,lsz,Z9,Zb] at *);omega) ?_
 refine Ok.cat (by (try simp only [Za,lsz,Z9,Zb] at *);omega) (by (try simp only [Za,lsz,Z9,Zb] at *);omega) ?_
 refine Ok.cat (by (try simp only [Za,lsz,Z9,Zb] at *);omega) (by (try simp only [Za,lsz,Z9,Zb] at *);omega) ?_
 refine Ok.bind (Q9l ht.1 (by omega)) fun r7 g7=>?_
 refine Ok.cat (by (try simp only [Za,lsz,Z9,Zb] at *);omega) (by (try simp only [Za,lsz,Z9,Zb] at *);omega) ?_
 refine Ok.cat (by (try simp only [Za,lsz,Z9,Zb] at *);omega) (by (try simp only [Za,lsz,Z9,Zb] at *);omega) (Ok.some ?_)
 (try simp only [Za,lsz,Z9,Zb] at *);omega
abbrev Pr:=Cf×List ByteArray×List Int×List Int×List Int
theorem Qcy {d:Nat} {p:Pr} {n:Int} {s:ByteArray} (h0:0≤n) (h1:n≤100) (hs:s.size≤90000) (hl:p.2.1.length≤1000):Ok (g180 (d+2) p n s) fun r=>r.1=p.1∧r.2.1.length=p.2.1.length+1∧r.2.2=p.2.2:=by
 rw [e180,e190]
 refine Ok.bind (P:=fun r=>r.size≤5000) ?_ fun r hr=>?_
 ·unfold Qsm
  rw [Z5 h0,Z5 (show n≤1000000 by omega),Zg,Zg,show Nat.ble (⟨#[32,32]⟩:ByteArray).size 1000000=true from by decide,Q4]
  refine Ok.some ?_
  rw [lsz]
  have:∀ (l:List UInt8) (k:Nat),(Go.Lib.repeatL l k).length=l.length*k:=by
   intro l k
   induction k with
   | zero=>simp [Go.Lib.repeatL]
   | succ k ih=>simp only [Go.Lib.repeatL,Zf,ih,Nat.mul_succ];omega
  rw [this]
  have:(⟨#[32,32]⟩:ByteArray).data.toList.length=2:=rfl
  rw [this];omega
 ·refine Ok.cat (by omega) (by omega) ?_
  rw [room (by simp;omega),Q4]
  exact Ok.some ⟨rfl,by simp,rfl⟩
end Go.Proofs.YtnnmeljlcdmljaaGreatDoor
