/-
  Configurations by value. And what stood behind it in 6 texts.
  Conditions: said at the theorems.
-/
import Derived.Test.YtcoimfbmgjhcjabGreatDoorK15
set_option linter.all false
namespace Go.Proofs.YtcoimfbmgjhcjabGreatDoor
open Go.Ev Go.Pv
instance aad:DecidableEq (Int×Int×Int×Int):=inferInstance
theorem Quv {p:aC->Bool}:∀ {l:List aC},(∀ y∈l,p y=true)->l.takeWhile p=l
 | [],_=>rfl
 | z::l,h=>by rw [List.takeWhile_cons,if_pos (h z (by simp)),Quv (fun y hy=>h y (by simp [hy]))]
def su (l:List aC) (x:aC):List aC:=(l.takeWhile fun y=>decide (y.1 < x.1))++x::l.dropWhile fun y=>decide (y.1 < x.1)
def Ds (l:List aC):List aC:=cF (fun x _ t=>su t x) l 0 []
theorem Qhe {l:List aC} {x:aC}:(su l x).Perm (x::l):=by
 unfold su
 refine List.perm_middle.trans (List.Perm.cons x ?_)
 rw [List.takeWhile_append_dropWhile]
theorem Qsp {l:List aC} {x:aC}:(su l x).length=l.length+1:=by rw [Qhe.length_eq];rfl
theorem Q9w {x:aC}:∀ {l:List aC},dn cu l->∀ y∈l.dropWhile (fun y=>decide (y.1 < x.1)),x.1<=y.1
 | [],_,y,hy=>by simp at hy
 | z::l,h,y,hy=>by
  rw [List.dropWhile_cons] at hy
  have h':=List.pairwise_cons.1 h
  by_cases hz:z.1 < x.1
  .rw [if_pos (by simpa using hz)] at hy
   exact Q9w h'.2 y hy
  .rw [if_neg (by simpa using hz)] at hy
   rcases Z2 hy with rfl | hy
   .omega
   .have:=h'.1 y hy;unfold cu at this;omega
theorem Q9x {x:aC}:∀ {l:List aC},∀ y∈l.takeWhile (fun y=>decide (y.1 < x.1)),y.1 < x.1
 | [],y,hy=>by simp at hy
 | z::l,y,hy=>by
  rw [List.takeWhile_cons] at hy
  by_cases hz:z.1 < x.1
  .rw [if_pos (by simpa using hz)] at hy
   rcases Z2 hy with rfl | hy
   .exact hz
   .exact Q9x y hy
  .rw [if_neg (by simpa using hz)] at hy;simp at hy
theorem Qsq {l:List aC} {x:aC} (h:dn cu l):dn cu (su l x):=by
 have hl:dn cu (l.takeWhile (fun y=>decide (y.1 < x.1))++l.dropWhile (fun y=>decide (y.1 < x.1))):=by rw [List.takeWhile_append_dropWhile];exact h
 unfold su dn
 unfold dn at hl
 rw [List.pairwise_append] at hl ⊢
 refine ⟨hl.1,List.pairwise_cons.2 ⟨fun y hy=>Q9w h y hy,hl.2.1⟩,fun a ha b hb=>?_⟩
 rcases Z2 hb with rfl | hb
 .have:=Q9x a ha;unfold cu;omega
 .exact hl.2.2 a ha b hb
theorem Vh:∀ (l:List aC) (i:Nat) (t:List aC),dn cu t->dn cu (cF (fun x _ t=>su t x) l i t)/\(cF (fun x _ t=>su t x) l i t).Perm (l++t)
 | [],i,t,h=>⟨h,List.Perm.refl _⟩
 | x::r,i,t,h=>by
  simp only [cF]
  obtain ⟨h1,h2⟩:=Vh r (i+1) (su t x) (Qsq h)
  refine ⟨h1,h2.trans ?_⟩
  exact (List.Perm.append_left r Qhe).trans List.perm_middle
theorem YH {l:List aC}:dn cu (Ds l):=(Vh l 0 [] List.Pairwise.nil).1
theorem AQ {l:List aC}:(Ds l).Perm l:=by
 have:=(Vh l 0 [] List.Pairwise.nil).2
 rw [List.append_nil] at this;exact this
theorem RH {l:List aC} (h:rH l=true):(l.map (·.1)).Nodup:=by
 rw [List.nodup_iff_pairwise_ne,List.pairwise_map,List.pairwise_iff_getElem]
 intro i j hi hj ny e
 have:=Ku h j i _ _ ny (Z6 hi) (Z6 hj)
 omega
theorem YI {l:List aC} (h:(l.map (·.1)).Nodup) {a b:aC} (ha:a∈l) (hb:b∈l) (e:a.1=b.1):a=b:=by
 obtain ⟨i,hi⟩:=List.getElem?_of_mem ha
 obtain ⟨j,hj⟩:=List.getElem?_of_mem hb
 obtain ⟨hi1,hi2⟩:=Z0 hi
 obtain ⟨UK,uT⟩:=Z0 hj
 have:=(List.getElem_inj (h₀:=show i < (l.map (·.1)).length by simpa using hi1) (h₁:=show j < (l.map (·.1)).length by simpa using UK) h).1 (by simp [hi2,uT,e])
 subst this
 rw [<- hi2,<- uT]
theorem Qzf {l S:List aC} (h:cV cu l S) (hd:(l.map (·.1)).Nodup):S=Ds l:=by
 refine List.Perm.eq_of_pairwise (le:=fun a b=>cu a<=cu b) (fun a b ha hb h1 h2=>?_) h.vV YH (h.perm.trans AQ.symm)
 unfold cu at h1 h2
 exact YI hd (h.perm.mem_iff.1 ha) (AQ.mem_iff.1 hb) (by omega)
theorem RK {c:Cf} {l:List aC} (h:ff c=true) (hp:c.2.1.Perm l):(l.map (·.1)).Nodup:=by
 have hc:=(rI h).cl
 unfold kR at hc
 simp only [Z8] at hc
 exact (hp.map _).nodup_iff.1 (RH hc.2.1)
def BH (x:Ld):Int:=if 0<=x.2.2.2.2.2.2.2.2/\x.2.2.2.2.2.2.2.2 < ((x.2.1.length:Nat):Int) then (aU x.2.1 x.2.2.2.2.2.2.2.2).1 else 0
def eK (x:Ld):Cf:=(x.1,Ds x.2.1,x.2.2.2.2.2.2.1,BH x)
theorem Qzg {x:Ld} {c:Cf} (h1:c.1=x.1) (h2:cV cu x.2.1 c.2.1) (h3:c.2.2.1=x.2.2.2.2.2.2.1) (h4:c.2.2.2=BH x):ff c=ff (eK x)/\(ff (eK x)=true->c=eK x):=by
 obtain ⟨c1,c2,c3,c4⟩:=c
 simp only at h1 h2 h3 h4
 subst h1 h3 h4
 by_cases hd:(x.2.1.map (·.1)).Nodup
 .have e:=Qzf h2 hd
  subst e
  exact ⟨rfl,fun _=>rfl⟩
 .have e1:ff (x.1,c2,x.2.2.2.2.2.2.1,BH x)=false:=Bool.eq_false_iff.2 fun h=>hd (RK h h2.perm)
  have e2:ff (eK x)=false:=Bool.eq_false_iff.2 fun h=>hd (RK h AQ)
  exact ⟨by rw [e1,e2],fun h=>by rw [e2] at h;simp at h⟩
theorem Vi {d:Nat} {l:List aC} {b:Bool} (hl:l.length<=1000000):Ok (B4 (d+25) l b) fun r=>cV cu l r:=by
 rw [TI]
 exact Ok.bind (Qpi hl) fun r hr=>Ok.some hr
theorem Qls {d:Nat} {x:Ld} (hl:x.2.1.length<=1000) (hf:x.2.2.2.2.2.2.1.length<=1000):Ok (K5 (d+26) x) fun c=>c.1=x.1/\cV cu x.2.1 c.2.1/\c.2.2.1=x.2.2.2.2.2.2.1/\c.2.2.2=BH x:=by
 rw [e71,YU hl,Q8,Sg (by omega),Q8]
 unfold yF BH
 by_cases h0:x.2.2.2.2.2.2.2.2>=0
 .rw [Z5 h0,Q4]
  by_cases h1:x.2.2.2.2.2.2.2.2 < ((x.2.1.length:Nat):Int)
  .rw [Z5 h1,Q4,Q4,GI h0 h1,Q8,if_pos ⟨h0,h1⟩]
   exact Ok.bind (Vi (by omega)) fun r hr=>Ok.some ⟨rfl,hr,rfl,rfl⟩
  .rw [Z4 h1,Q5,if_neg (fun h=>h1 h.2)]
   exact Ok.bind (Vi (by omega)) fun r hr=>Ok.some ⟨rfl,hr,rfl,rfl⟩
 .rw [Z4 h0,Q5,Q5,if_neg (fun h=>h0 h.1)]
  exact Ok.bind (Vi (by omega)) fun r hr=>Ok.some ⟨rfl,hr,rfl,rfl⟩
theorem Qwn {d:Nat} {l:List aC} {x:aC} (hl:l.length<=10000):Ox (d+1) l x=some (su l x):=by
 rw [e64]
 have fin:rN d l x (((l.takeWhile fun y=>decide (y.1 < x.1)).length:Nat):Int)=some (su l x):=by
  have hle:(l.takeWhile fun y=>decide (y.1 < x.1)).length<=l.length:=by
   have:=congrArg List.length (List.takeWhile_append_dropWhile (p:=fun y:aC=>decide (y.1 < x.1)) (l:=l))
   rw [Zf] at this;omega
  have ht:l.take (l.takeWhile fun y=>decide (y.1 < x.1)).length=l.takeWhile fun y=>decide (y.1 < x.1):=by
   conv=>lhs;arg 2;rw [<- List.takeWhile_append_dropWhile (p:=fun y:aC=>decide (y.1 < x.1)) (l:=l)]
   rw [List.take_left]
  have hd:l.drop (l.takeWhile fun y=>decide (y.1 < x.1)).length=l.dropWhile fun y=>decide (y.1 < x.1):=by
   conv=>lhs;arg 2;rw [<- List.takeWhile_append_dropWhile (p:=fun y:aC=>decide (y.1 < x.1)) (l:=l)]
   rw [List.drop_left]
  unfold rN
  simp only [nn,Q3,Q4]
  rw [Lj hle,Q4,Q4,room (by simp;omega),Q4,room (by simp;omega),Q4,room (by simp;omega),Q4,ht,hd]
  unfold su
  simp
 have key:∀ (B A:List aC) (fuel:Nat),l=A++B->(∀ y∈A,y.1 < x.1)->B.length < fuel->Q9 (rO d l x (rN d l x)) fuel ((A.length:Nat):Int)=some (su l x):=by
  intro B
  induction B with
  | nil =>
   intro A fuel e hA hf
   obtain ⟨g,rfl⟩:∃ g,fuel=g+1:=⟨fuel - 1,by omega⟩
   rw [List.append_nil] at e
   have ht:(l.takeWhile fun y=>decide (y.1 < x.1))=A:=by rw [e];exact Quv (fun y hy=>by simpa using hA y hy)
   simp only [Q9,rO]
   rw [show (l.length:Int)=((A.length:Nat):Int) by rw [e],bB,Q5]
   rw [ht] at fin;exact fin
  | cons z B ih =>
   intro A fuel e hA hf
   obtain ⟨g,rfl⟩:∃ g,fuel=g+1:=⟨fuel - 1,by omega⟩
   have au:A.length < l.length:=by rw [e];simp
   have hg:l[A.length]? = some z:=by rw [e];simp
   simp only [Q9,rO]
   rw [Z5 (show ((A.length:Nat):Int) < ((l.length:Nat):Int) by omega),Q4,nn,Q4,Q3,hg,Q8]
   by_cases hz:z.1 < x.1
   .rw [Z5 hz,Q4,aN (by omega)]
    have:=ih (A++[z]) g (by rw [e];simp) (fun y hy=>by
     rcases List.mem_append.1 hy with h | h
     .exact hA y h
     .simp at h;subst h;exact hz) (by simpa using hf)
    rw [Zf] at this
    exact this
   .rw [Z4 hz,Q5]
    have ht:(l.takeWhile fun y=>decide (y.1 < x.1))=A:=by
     rw [e,List.takeWhile_append_of_pos (fun y hy=>by simpa using hA y hy),List.takeWhile_cons,if_neg (by simpa using hz),List.append_nil]
    rw [ht] at fin;exact fin
 exact key l [] Qd rfl (by simp) (by rw [Q6];omega)
theorem YW {d:Nat} {x:Ld} (hl:x.2.1.length<=1000) (hf:x.2.2.2.2.2.2.1.length<=1000):Oy (d+2) x=some (eK x):=by
 rw [e26,room (by simp;omega),Q4,List.nil_append]
 refine (Qc (fun (t:List aC) (i:Int)=>(i,((x.1,t,x.2.2.2.2.2.2.1,0):Cf))) x.2.1 (fun y _ t k=>Q1 (Ox (d+1) t y) fun r=>k r) (fun t=>w6 (d+1) x x.1 0 t x.2.2.2.2.2.2.1) ?_ ?_ (by rw [Q6];omega) []).trans ?_
 .intro ag t i y hx
  have hi:=(Z0 hx).1
  simp only [w7,bW hx,nn,Q3,hx,Q8,Q4]
  rw [aN (by omega)]
 .intro ag t;simp only [w7,bB,Q5]
 .rw [U7 (f:=fun y _ t=>su t y) (fun k t=>t.length=k) x.2.1 0 [] rfl (fun j y t k hy ht=>by
   have hj:=(Z0 hy).1
   rw [Qwn (by omega),Q8]
   exact ⟨rfl,by rw [Qsp];omega⟩)]
  unfold w6
  rw [vQ,Q8]
  show _=some (x.1,Ds x.2.1,x.2.2.2.2.2.2.1,BH x)
  unfold BH
  rw [wr (by omega) (by omega)]
  by_cases h:0<=x.2.2.2.2.2.2.2.2/\x.2.2.2.2.2.2.2.2 < ((x.2.1.length:Nat):Int)
  .rw [if_pos h,Z5 (show 0<=x.2.2.2.2.2.2.2.2/\x.2.2.2.2.2.2.2.2<=((x.2.1.length:Nat):Int) - 1 by omega),Q4,Z5 h.1,Q4,GI h.1 h.2,Q8]
   rfl
  .rw [if_neg h,Z4 (show ¬ (0<=x.2.2.2.2.2.2.2.2/\x.2.2.2.2.2.2.2.2<=((x.2.1.length:Nat):Int) - 1) by omega),Q5]
   rfl
theorem Jb {α:Type} [DecidableEq α]:∀ {a b:List α} {i:Nat} {c:List α},i=c.length->a.length=b.length->eG (fun x j=>decide ((c++b)[j]? = some x)) a i=decide (a=b)
 | [],[],i,c,_,_=>by simp [eG]
 | x::a,y::b,i,c,hi,h=>by
  subst hi
  have h1:(c++y::b)[c.length]? = some y:=by simp
  have ih:=Jb (a:=a) (b:=b) (i:=c.length+1) (c:=c++[y]) (by simp) (by simpa using h)
  rw [show c++[y]++b=c++y::b by simp] at ih
  simp only [eG]
  rw [ih,h1]
  by_cases gK:x=y
  .subst gK;simp
  .rw [Z4 (show ¬ some y=some x by simp;exact fun e=>gK e.symm),Bool.false_and,Z4 (by simp [gK])]
 | [],_::_,_,_,_,h=>by simp at h
 | _::_,[],_,_,_,h=>by simp at h
theorem LG {d:Nat} {a b:List Int} (hl:a.length < 4000000):qt (d+1) a b=some (decide (a=b)):=by
 rw [T3]
 by_cases h:a.length=b.length
 case neg=>rw [show ((((a.length:Nat):Int)) != ((b.length:Nat):Int))=true by simp;omega,Q4,Z4 (fun e=>h (by rw [e]))]
 rw [show ((((a.length:Nat):Int)) != ((b.length:Nat):Int))=false by simp;omega,Q5]
 refine (Qc (fun (t:Bool) (i:Int)=>(t,i)) a (fun x i t k=>aa (decide (([]++b)[i]? = some x)) (k t) (some false)) (fun _=>some true) ?_ ?_ (by rw [Q6];omega) false).trans ?_
 .intro ag t i x hx;have hi:=(Z0 hx).1;simp only [qq,bW hx,nn,Q3,hx,Q8,Q4];rw [aN (by omega)]
  have hb:i < b.length:=by omega
  rw [List.nil_append,Z6 hb,Q8]
  by_cases gK:x=b[i]
  .rw [show (x != b[i])=false by simp [gK],Q5,Z5 (by rw [gK]),Q4]
  .rw [show (x != b[i])=true by simp [gK],Q4,Z4 (show ¬ some b[i]=some x by simp;exact fun e=>gK e.symm),Q5]
 .intro ag t;simp only [qq,bB,Q5];rfl
 .rw [qG,Jb (i:=0) (c:=[]) rfl h];cases decide (a=b)<;>rfl
theorem LH {d:Nat} {a b:List Int} (hl:a.length < 4000000):o8 (d+1) a b=some (decide (a=b)):=by
 rw [SF]
 by_cases h:a.length=b.length
 case neg=>rw [show ((((a.length:Nat):Int)) != ((b.length:Nat):Int))=true by simp;omega,Q4,Z4 (fun e=>h (by rw [e]))]
 rw [show ((((a.length:Nat):Int)) != ((b.length:Nat):Int))=false by simp;omega,Q5]
 refine (Qc (fun (t:Bool) (i:Int)=>(t,i)) a (fun x i t k=>aa (decide (([]++b)[i]? = some x)) (k t) (some false)) (fun _=>some true) ?_ ?_ (by rw [Q6];omega) false).trans ?_
 .intro ag t i x hx;have hi:=(Z0 hx).1;simp only [o7,bW hx,nn,Q3,hx,Q8,Q4];rw [aN (by omega)]
  have hb:i < b.length:=by omega
  rw [List.nil_append,Z6 hb,Q8]
  by_cases gK:x=b[i]
  .rw [show (x != b[i])=false by simp [gK],Q5,Z5 (by rw [gK]),Q4]
  .rw [show (x != b[i])=true by simp [gK],Q4,Z4 (show ¬ some b[i]=some x by simp;exact fun e=>gK e.symm),Q5]
 .intro ag t;simp only [o7,bB,Q5];rfl
 .rw [qG,Jb (i:=0) (c:=[]) rfl h];cases decide (a=b)<;>rfl
theorem Qux {x y:aC}:((x.1==y.1)&&((x.2.1==y.2.1)&&((x.2.2.1==y.2.2.1)&&((x.2.2.2.1==y.2.2.2.1)&&((x.2.2.2.2.1==y.2.2.2.2.1)&&((x.2.2.2.2.2.1==y.2.2.2.2.2.1)&&((x.2.2.2.2.2.2.1==y.2.2.2.2.2.2.1)&&((x.2.2.2.2.2.2.2==y.2.2.2.2.2.2.2)&&true))))))))=decide (x=y):=by
 obtain ⟨x1,x2,x3,x4,x5,x6,x7,x8⟩:=x
 obtain ⟨y1,y2,y3,y4,y5,y6,y7,y8⟩:=y
 rw [Bool.eq_iff_iff];simp
theorem Qzh {x y:dV}:((x.1==y.1)&&((x.2.1==y.2.1)&&((x.2.2.1==y.2.2.1)&&((x.2.2.2.1==y.2.2.2.1)&&((x.2.2.2.2==y.2.2.2.2)&&true)))))=decide (x=y):=by
 obtain ⟨x1,x2,x3,x4,x5⟩:=x
 obtain ⟨y1,y2,y3,y4,y5⟩:=y
 rw [Bool.eq_iff_iff];simp
theorem Vj {d:Nat} {a b:List aC} (hl:a.length < 4000000):Gn (d+1) a b=some (decide (a=b)):=by
 rw [T2]
 by_cases h:a.length=b.length
 case neg=>rw [show ((((a.length:Nat):Int)) != ((b.length:Nat):Int))=true by simp;omega,Q4,Z4 (fun e=>h (by rw [e]))]
 rw [show ((((a.length:Nat):Int)) != ((b.length:Nat):Int))=false by simp;omega,Q5]
 refine (Qc (fun (t:Bool) (i:Int)=>(t,i)) a (fun x i t k=>aa (decide (([]++b)[i]? = some x)) (k t) (some false)) (fun _=>some true) ?_ ?_ (by rw [Q6];omega) false).trans ?_
 .intro ag t i x hx;have hi:=(Z0 hx).1;simp only [qp,bW hx,nn,Q3,hx,Q8,Q4];rw [aN (by omega)]
  have hb:i < b.length:=by omega
  rw [List.nil_append,Z6 hb,Q8,Qux]
  by_cases gK:x=b[i]
  .rw [Z5 gK,Zl,Q5,Z5 (by rw [gK]),Q4]
  .rw [Z4 gK,Bool.not_false,Q4,Z4 (show ¬ some b[i]=some x by simp;exact fun e=>gK e.symm),Q5]
 .intro ag t;simp only [qp,bB,Q5];rfl
 .rw [qG,Jb (i:=0) (c:=[]) rfl h];cases decide (a=b)<;>rfl
def Dt (x y:Ld):Bool:=decide (x.2.1=y.2.1)&&(decide (x.2.2.1=y.2.2.1)&&(decide (x.2.2.2.1=y.2.2.2.1)&&(decide (x.2.2.2.2.1=y.2.2.2.2.1)&&(decide (x.2.2.2.2.2.1=y.2.2.2.2.2.1)&&(decide (x.2.2.2.2.2.2.2.1=y.2.2.2.2.2.2.2.1)&&(x.2.2.2.2.2.2.2.2==y.2.2.2.2.2.2.2.2))))))
def eR (x:Ld):Bool:=decide (x.2.1.length<=24/\x.2.2.2.2.2.2.1.length<=16)&&(ff (eK x)&&Dt x (bT (eK x)))
def wT (x:Ld):Prop:=x.1.size < 4000000/\x.2.1.length < 4000000/\x.2.2.1.length < 4000000/\x.2.2.2.1.length < 4000000/\x.2.2.2.2.1.length < 4000000/\x.2.2.2.2.2.1.length < 4000000/\x.2.2.2.2.2.2.1.length < 4000000/\x.2.2.2.2.2.2.2.1.length < 4000000
theorem Qn0 {d:Nat} {x:Ld} (h:wT x):Gq (d+27) x=some (eR x):=by
 obtain ⟨z1,z2,z3,z4,z5,z6,z7,z8⟩:=h
 rw [T4]
 unfold qu eR
 by_cases h1:x.2.1.length<=24
 case neg=>rw [Z5 (show ((x.2.1.length:Nat):Int) > 24 by omega),Q4,Q4,Z4 (fun h=>h1 h.1)];rfl
 rw [Z4 (show ¬ ((x.2.1.length:Nat):Int) > 24 by omega),Q5]
 by_cases h2:x.2.2.2.2.2.2.1.length<=16
 case neg=>rw [Z5 (show ((x.2.2.2.2.2.2.1.length:Nat):Int) > 16 by omega),Q4,Z4 (fun h=>h2 h.2)];rfl
 rw [Z4 (show ¬ ((x.2.2.2.2.2.2.1.length:Nat):Int) > 16 by omega),Q5,Z5 ⟨h1,h2⟩,Zg]
 obtain ⟨c,hc,c1,c2,c3,c4⟩:=Qls (d:=d) (x:=x) (by omega) (by omega)
 obtain ⟨u1,u2⟩:=Qzg c1 c2 c3 c4
 have fy:=c2.len
 rw [hc,Q8,show d+26=(d+18)+8 by omega,Oj (by omega) (by rw [c3];omega),Q8,u1]
 cases hg:ff (eK x) with
 | false=>rfl
 | true =>
  have e:=u2 hg
  subst e
  rw [Zl,Q5,show d+18+8=(d+12)+14 by omega,YO (rI hg),Q8,Zg]
  unfold Dt
  rw [show d+12+14=(d+25)+1 by omega,Vj (by omega),Q8]
  cases decide (x.2.1=(bT (eK x)).2.1) with
  | false=>rfl
  | true =>
  rw [Q4,LG (by omega),Q8]
  cases decide (x.2.2.1=(bT (eK x)).2.2.1) with
  | false=>rfl
  | true =>
  rw [Q4,LG (by omega),Q8]
  cases decide (x.2.2.2.1=(bT (eK x)).2.2.2.1) with
  | false=>rfl
  | true =>
  rw [Q4,LG (by omega),Q8]
  cases decide (x.2.2.2.2.1=(bT (eK x)).2.2.2.2.1) with
  | false=>rfl
  | true =>
  rw [Q4,LG (by omega),Q8]
  cases decide (x.2.2.2.2.2.1=(bT (eK x)).2.2.2.2.2.1) with
  | false=>rfl
  | true =>
  rw [Q4,LG (by omega),Q8]
  cases decide (x.2.2.2.2.2.2.2.1=(bT (eK x)).2.2.2.2.2.2.2.1) with
  | false=>rfl
  | true=>rw [Q4];rfl
theorem Qsr {d:Nat} {u y:Ld} (h:wT u) (hn:u.1=y.1) (hf:u.2.2.2.2.2.2.1=y.2.2.2.2.2.2.1):FE (d+2) u y=some (Dt u y):=by
 obtain ⟨z1,z2,z3,z4,z5,z6,z7,z8⟩:=h
 rw [SG,ON,Z5 (by rw [hn]),Zl,Q5]
 unfold jg Dt
 by_cases hc:u.2.1.length=y.2.1.length
 case neg=>rw [show ((((u.2.1.length:Nat):Int)) != ((y.2.1.length:Nat):Int))=true by simp;omega,Q4,Q4,Z4 (fun e=>hc (by rw [e]))];rfl
 rw [show ((((u.2.1.length:Nat):Int)) != ((y.2.1.length:Nat):Int))=false by simp;omega,Q5,show ((((u.2.2.2.2.2.2.1.length:Nat):Int)) != ((y.2.2.2.2.2.2.1.length:Nat):Int))=false by rw [hf];simp,Q5]
 by_cases hd:u.2.2.2.2.2.2.2.2=y.2.2.2.2.2.2.2.2
 case neg=>rw [show (u.2.2.2.2.2.2.2.2 != y.2.2.2.2.2.2.2.2)=true by simp [hd],Q4,show (u.2.2.2.2.2.2.2.2==y.2.2.2.2.2.2.2.2)=false by simp [hd]];simp
 rw [show (u.2.2.2.2.2.2.2.2 != y.2.2.2.2.2.2.2.2)=false by simp [hd],Q5,show (u.2.2.2.2.2.2.2.2==y.2.2.2.2.2.2.2.2)=true by simp [hd],Bool.and_true]
 refine (Qc (fun (t:Bool) (i:Int)=>(t,i)) u.2.1 (fun z i t k=>aa (decide (([]++y.2.1)[i]? = some z)) (k t) (some false)) (fun t=>pg (d+1) u y t) ?_ ?_ (by rw [Q6];omega) false).trans ?_
 .intro ag t i x hx;have hi:=(Z0 hx).1;simp only [pn,bW hx,nn,Q3,hx,Q8,Q4];rw [aN (by omega)]
  have hb:i < y.2.1.length:=by omega
  rw [List.nil_append,Z6 hb,Q8,Qux]
  by_cases gK:x=y.2.1[i]
  .rw [Z5 gK,Zl,Q5,Z5 (by rw [gK]),Q4]
  .rw [Z4 gK,Bool.not_false,Q4,Z4 (show ¬ some y.2.1[i]=some x by simp;exact fun e=>gK e.symm),Q5]
 .intro ag t;simp only [pn,bB,Q5]
 .rw [qG,Jb (i:=0) (c:=[]) rfl hc]
  cases decide (u.2.1=y.2.1) with
  | false=>rfl
  | true =>
  rw [Q4,Zg]
  unfold pg
  have cH:u.2.2.2.2.2.2.1.length=y.2.2.2.2.2.2.1.length:=by rw [hf]
  refine (Qc (fun (t:Bool) (i:Int)=>(t,i)) u.2.2.2.2.2.2.1 (fun z i t k=>aa (decide (([]++y.2.2.2.2.2.2.1)[i]? = some z)) (k t) (some false)) (fun t=>o9 (d+1) u y t) ?_ ?_ (by rw [Q6];omega) false).trans ?_
  .intro ag t i x hx;have hi:=(Z0 hx).1;simp only [pe,bW hx,nn,Q3,hx,Q8,Q4];rw [aN (by omega)]
   have hb:i < y.2.2.2.2.2.2.1.length:=by omega
   rw [List.nil_append,Z6 hb,Q8,Qzh]
   by_cases gK:x=y.2.2.2.2.2.2.1[i]
   .rw [Z5 gK,Zl,Q5,Z5 (by rw [gK]),Q4]
   .rw [Z4 gK,Bool.not_false,Q4,Z4 (show ¬ some y.2.2.2.2.2.2.1[i]=some x by simp;exact fun e=>gK e.symm),Q5]
  .intro ag t;simp only [pe,bB,Q5]
  .rw [qG,Jb (i:=0) (c:=[]) rfl cH,Z5 hf,Q4]
   unfold o9
   rw [LH (by omega),Q8]
   cases decide (u.2.2.1=y.2.2.1) with
   | false=>rfl
   | true =>
   rw [Q4,LH (by omega),Q8]
   cases decide (u.2.2.2.1=y.2.2.2.1) with
   | false=>rfl
   | true =>
   rw [Q4,LH (by omega),Q8]
   cases decide (u.2.2.2.2.1=y.2.2.2.2.1) with
   | false=>rfl
   | true =>
   rw [Q4,LH (by omega),Q8]
   cases decide (u.2.2.2.2.2.1=y.2.2.2.2.2.1) with
   | false=>rfl
   | true=>rw [Q4,LH (by omega),Q8];rfl
theorem Qss {d:Nat} {x:Ld} (h:wT x):SK (d+11) x=some (eR x):=by
 have h':=h
 obtain ⟨z1,z2,z3,z4,z5,z6,z7,z8⟩:=h
 rw [e90]
 unfold xy eR
 by_cases h1:x.2.1.length<=24
 case neg=>rw [Z5 (show ((x.2.1.length:Nat):Int) > 24 by omega),Q4,Q4,Z4 (fun h=>h1 h.1)];rfl
 rw [Z4 (show ¬ ((x.2.1.length:Nat):Int) > 24 by omega),Q5]
 by_cases h2:x.2.2.2.2.2.2.1.length<=16
 case neg=>rw [Z5 (show ((x.2.2.2.2.2.2.1.length:Nat):Int) > 16 by omega),Q4,Z4 (fun h=>h2 h.2)];rfl
 rw [Z4 (show ¬ ((x.2.2.2.2.2.2.1.length:Nat):Int) > 16 by omega),Q5,Z5 ⟨h1,h2⟩,Zg]
 rw [show d+10=(d+8)+2 by omega,YW (by omega) (by omega),Q8,show d+8+2=(d+5)+5 by omega,Ol (c:=eK x) z1 (show x.2.2.2.2.2.2.1.length < 4000000 by omega),Q8]
 cases hg:ff (eK x) with
 | false=>rfl
 | true=>rw [Q4,show d+5+5=d+10 by omega,YP (rI hg),Q8,show d+10=(d+8)+2 by omega,Qsr (y:=bT (eK x)) h' rfl rfl,Q8,Zg]
theorem LI {α:Type} {l:List α} {z x:α} {k:Nat} (hx:l[k]? = some x):(l.take k++List.replicate (l.length - k) z).set k x=l.take (k+1)++List.replicate (l.length - (k+1)) z:=by
 have hk:=(Z0 hx).1
 have e:=(Z0 hx).2
 have hl:(l.take k).length=k:=by rw [List.length_take];omega
 rw [List.set_append_right _ _ (by omega),hl,Nat.sub_self,show l.length - k=(l.length - (k+1))+1 by omega,List.replicate_succ,List.set_cons_zero,List.take_succ_eq_append_getElem hk,e]
 simp
theorem Qn1 {d:Nat} {l:List aC} (hl:l.length<=1048576):SY (d+2) l=some l:=by
 rw [e66,nn,Q4,Q4,Q3,show (Nat.ble l.length l.length&&Nat.ble (l.length*64) Q7)=true by rw [Z8,Nat.ble_eq,Nat.ble_eq];unfold Q7;omega,Q4]
 refine Ok.val (mo (fun j (s:Int×List aC)=>∃ k:Nat,k+j=l.length/\s.1=(k:Int)/\s.2=l.take k++List.replicate (l.length - k) ((0,0,0,0,0,0,0,0):aC)) ?_ _ l.length _ (by rw [Q6];omega) ⟨0,by omega,rfl,by simp⟩)
 rintro j ⟨n,r⟩ ag ⟨k,hk,h1,h2⟩ er
 simp only at h1 h2
 subst h1
 have ku:r.length=l.length:=by rw [h2];simp;omega
 simp only [DJ]
 rcases Nat.lt_or_ge k l.length with au | s_
 .have hx:=Z6 au
  rw [bW hx,Q4,nn,Q4,Q3,hx,Q8,e19,Q8,Q4,Qo (by omega),Q4,Z6 (by omega),Q8,aN (by omega)]
  exact er (j - 1) _ (by omega) ⟨k+1,by omega,rfl,by rw [h2];exact LI hx⟩
 .have:k=l.length:=by omega
  subst this
  rw [bB,Q5]
  unfold DI
  exact Ok.some (by rw [h2];simp)
theorem Qjz {d:Nat} {l:List dV} (hl:l.length<=1048576):S0 (d+2) l=some l:=by
 rw [e68,nn,Q4,Q4,Q3,show (Nat.ble l.length l.length&&Nat.ble (l.length*40) Q7)=true by rw [Z8,Nat.ble_eq,Nat.ble_eq];unfold Q7;omega,Q4]
 refine Ok.val (mo (fun j (s:Int×List dV)=>∃ k:Nat,k+j=l.length/\s.1=(k:Int)/\s.2=l.take k++List.replicate (l.length - k) ((0,0,0,0,0):dV)) ?_ _ l.length _ (by rw [Q6];omega) ⟨0,by omega,rfl,by simp⟩)
 rintro j ⟨n,r⟩ ag ⟨k,hk,h1,h2⟩ er
 simp only at h1 h2
 subst h1
 have ku:r.length=l.length:=by rw [h2];simp;omega
 simp only [DN]
 rcases Nat.lt_or_ge k l.length with au | s_
 .have hx:=Z6 au
  rw [bW hx,Q4,nn,Q4,Q3,hx,Q8,SZ,Q8,Q4,Qo (by omega),Q4,Z6 (by omega),Q8,aN (by omega)]
  exact er (j - 1) _ (by omega) ⟨k+1,by omega,rfl,by rw [h2];exact LI hx⟩
 .have:k=l.length:=by omega
  subst this
  rw [bB,Q5]
  unfold DM
  exact Ok.some (by rw [h2];simp)
theorem GX {d:Nat} {l:List Int} (hl:l.length<=1048576):BX (d+1) l=some l:=by
 rw [e67,nn,Q4,Q4,Q3,show (Nat.ble l.length l.length&&Nat.ble (l.length*8) Q7)=true by rw [Z8,Nat.ble_eq,Nat.ble_eq];unfold Q7;omega,Q4]
 refine Ok.val (mo (fun j (s:Int×List Int)=>∃ k:Nat,k+j=l.length/\s.1=(k:Int)/\s.2=l.take k++List.replicate (l.length - k) (0:Int)) ?_ _ l.length _ (by rw [Q6];omega) ⟨0,by omega,rfl,by simp⟩)
 rintro j ⟨n,r⟩ ag ⟨k,hk,h1,h2⟩ er
 simp only at h1 h2
 subst h1
 have ku:r.length=l.length:=by rw [h2];simp;omega
 simp only [DL]
 rcases Nat.lt_or_ge k l.length with au | s_
 .have hx:=Z6 au
  rw [bW hx,Q4,nn,Q4,Q3,hx,Q8,Q4,Qo (by omega),Q4,Z6 (by omega),Q8,aN (by omega)]
  exact er (j - 1) _ (by omega) ⟨k+1,by omega,rfl,by rw [h2];exact LI hx⟩
 .have:k=l.length:=by omega
  subst this
  rw [bB,Q5]
  unfold DK
  exact Ok.some (by rw [h2];simp)
def Vk (n:Int) (k:Nat) (r:Int):Prop:=r < 0\/(0<=r/\r<=n/\(k:Int)<=n)
theorem Qn2 {d:Nat} {l:List aC} {n:Int} (h0:0<=n) (h1:n<=1048576) (hl:l.length<=9223372036854775807):Ok (Sr (d+1) l n) fun r=>Vk n l.length r:=by
 rw [e49,wr (by omega) (by omega)]
 by_cases h:n - ((l.length:Nat):Int) < 0
 .rw [Z5 h,Q4];exact Ok.some (Or.inl (by omega))
 .rw [Z4 h,Q5];exact Ok.some (Or.inr ⟨by omega,by omega,by omega⟩)
theorem Qk0 {d:Nat} {l:List dV} {n:Int} (h0:0<=n) (h1:n<=1048576) (hl:l.length<=9223372036854775807):Ok (Ss (d+1) l n) fun r=>Vk n l.length r:=by
 rw [e51,wr (by omega) (by omega)]
 by_cases h:n - ((l.length:Nat):Int) < 0
 .rw [Z5 h,Q4];exact Ok.some (Or.inl (by omega))
 .rw [Z4 h,Q5];exact Ok.some (Or.inr ⟨by omega,by omega,by omega⟩)
theorem GY {d:Nat} {l:List Int} {n:Int} (h0:0<=n) (h1:n<=1048576) (hl:l.length<=9223372036854775807):Ok (BQ (d+1) l n) fun r=>Vk n l.length r:=by
 rw [e50,wr (by omega) (by omega)]
 by_cases h:n - ((l.length:Nat):Int) < 0
 .rw [Z5 h,Q4];exact Ok.some (Or.inl (by omega))
 .rw [Z4 h,Q5];exact Ok.some (Or.inr ⟨by omega,by omega,by omega⟩)
theorem Qn3 {d:Nat} {l:List aC} (hl:l.length<=2000000):Uh (d+2) l l=some true:=by
 rw [e78,bne_self_eq_false,Q5]
 refine (Qc (fun (t:Bool) (i:Int)=>(t,i)) l (fun x i t k=>k t) (DV (d+1)) ?_ ?_ (by rw [Q6];omega) false).trans ?_
 .intro ag t i x hx;have hi:=(Z0 hx).1;simp only [za,bW hx,nn,Q3,hx,Q8,Q4]
  rw [Ug]
  simp only [bne_self_eq_false,Q5,Zl,Q8]
  rw [aN (by omega)]
 .intro ag t;simp only [za,bB,Q5]
 .rw [wS (f:=fun _ _ t=>t)];rfl
theorem Qk1 {d:Nat} {l:List dV} (hl:l.length<=2000000):Uj (d+2) l l=some true:=by
 rw [e79,bne_self_eq_false,Q5]
 refine (Qc (fun (t:Bool) (i:Int)=>(t,i)) l (fun x i t k=>k t) (DW (d+1)) ?_ ?_ (by rw [Q6];omega) false).trans ?_
 .intro ag t i x hx;have hi:=(Z0 hx).1;simp only [zc,bW hx,nn,Q3,hx,Q8,Q4]
  rw [Ui]
  simp only [bne_self_eq_false,Q5,Zl,Q8]
  rw [aN (by omega)]
 .intro ag t;simp only [zc,bB,Q5]
 .rw [wS (f:=fun _ _ t=>t)];rfl
theorem DA {d:Nat} {l:List Int} (hl:l.length<=2000000):g11 (d+1) l l=some true:=by
 rw [e11,bne_self_eq_false,Q5]
 refine (Qc (fun (t:Bool) (i:Int)=>(t,i)) l (fun x i t k=>k t) (DU d) ?_ ?_ (by rw [Q6];omega) false).trans ?_
 .intro ag t i x hx;have hi:=(Z0 hx).1;simp only [yZ,bW hx,nn,Q3,hx,Q8,Q4]
  simp only [bne_self_eq_false,Q5]
  rw [aN (by omega)]
 .intro ag t;simp only [yZ,bB,Q5]
 .rw [wS (f:=fun _ _ t=>t)];rfl
def A9 (x:Ld):Prop:=x.1.size<=1048576/\x.2.1.length<=1048576/\x.2.2.1.length<=1048576/\x.2.2.2.1.length<=1048576/\x.2.2.2.2.1.length<=1048576/\x.2.2.2.2.2.1.length<=1048576/\x.2.2.2.2.2.2.1.length<=1048576/\x.2.2.2.2.2.2.2.1.length<=1048576
theorem Qn4 {d:Nat} {x:Ld} (h:A9 x):Uk (d+3) x x=some true:=by
 obtain ⟨z1,z2,z3,z4,z5,z6,z7,z8⟩:=h
 rw [e34,beq_self_eq_true,Zl,Q5,Qn3 (by omega),Q8,Zl,Q5,DA (by omega),Q8,Zl,Q5,DA (by omega),Q8,Zl,Q5,DA (by omega),Q8,Zl,Q5,DA (by omega),Q8,Zl,Q5,Qk1 (by omega),Q8,Zl,Q5,DA (by omega),Q8,Zl,Q5,bne_self_eq_false,Q5]
theorem Qn5 {d:Nat} {x:Ld} (h:A9 x):S3 (d+3) x=some x:=by
 obtain ⟨z1,z2,z3,z4,z5,z6,z7,z8⟩:=h
 rw [e28,Qn1 z2,Q8,GX z3,Q8,GX z4,Q8,GX z5,Q8,GX z6,Q8,Qjz z7,Q8,GX z8,Q8]
def So (x:Ld):Prop:=x.1.size<=9223372036854775807/\x.2.1.length<=9223372036854775807/\x.2.2.1.length<=9223372036854775807/\x.2.2.2.1.length<=9223372036854775807/\x.2.2.2.2.1.length<=9223372036854775807/\x.2.2.2.2.2.1.length<=9223372036854775807/\x.2.2.2.2.2.2.1.length<=9223372036854775807/\x.2.2.2.2.2.2.2.1.length<=9223372036854775807
theorem Qn6 {d:Nat} {x:Ld} {n:Int} (h0:0<=n) (h1:n<=1048576) (h:So x):Ok (g21 (d+2) x n) fun r=>r < 0\/(0<=r/\r<=n/\A9 x):=by
 obtain ⟨z1,z2,z3,z4,z5,z6,z7,z8⟩:=h
 have no:Ok (some (-1:Int)) fun r=>r < 0\/(0<=r/\r<=n/\A9 x):=Ok.some (Or.inl (by omega))
 rw [e21,wr (by omega) (by omega)]
 refine Ok.aa (fun _=>no) (fun hs=>?_)
 simp only [decide_eq_false_iff_not] at hs
 refine Ok.bind (Qn2 (by omega) (by omega) z2) fun r3 g3=>?_
 refine Ok.aa (fun _=>no) (fun Cj=>?_)
 simp only [decide_eq_false_iff_not] at Cj
 have g3:=g3.resolve_left Cj
 refine Ok.bind (GY (by omega) (by omega) z3) fun r4 g4=>?_
 refine Ok.aa (fun _=>no) (fun Ee=>?_)
 simp only [decide_eq_false_iff_not] at Ee
 have g4:=g4.resolve_left Ee
 refine Ok.bind (GY (by omega) (by omega) z4) fun r5 g5=>?_
 refine Ok.aa (fun _=>no) (fun LJ=>?_)
 simp only [decide_eq_false_iff_not] at LJ
 have g5:=g5.resolve_left LJ
 refine Ok.bind (GY (by omega) (by omega) z5) fun r6 g6=>?_
 refine Ok.aa (fun _=>no) (fun hs6=>?_)
 simp only [decide_eq_false_iff_not] at hs6
 have g6:=g6.resolve_left hs6
 refine Ok.bind (GY (by omega) (by omega) z6) fun r7 g7=>?_
 refine Ok.aa (fun _=>no) (fun hs7=>?_)
 simp only [decide_eq_false_iff_not] at hs7
 have g7:=g7.resolve_left hs7
 refine Ok.bind (Qk0 (by omega) (by omega) z7) fun r8 g8=>?_
 refine Ok.aa (fun _=>no) (fun hs8=>?_)
 simp only [decide_eq_false_iff_not] at hs8
 have g8:=g8.resolve_left hs8
 refine Ok.bind (GY (by omega) (by omega) z8) fun r9 g9=>?_
 refine Ok.aa (fun _=>no) (fun hs9=>?_)
 simp only [decide_eq_false_iff_not] at hs9
 have g9:=g9.resolve_left hs9
 exact Ok.some (Or.inr ⟨by omega,by omega,by omega,by omega,by omega,by omega,by omega,by omega,by omega,by omega⟩)
theorem A9.sz {x:Ld} (h:A9 x):wT x:=by
 obtain ⟨z1,z2,z3,z4,z5,z6,z7,z8⟩:=h
 exact ⟨by omega,by omega,by omega,by omega,by omega,by omega,by omega,by omega⟩
def mC (k:Nat):aC:=((k:Int),((k+1:Nat):Int),((k+1+1:Nat):Int),((k+1+1+1:Nat):Int),((k+1+1+1+1:Nat):Int),((k+1+1+1+1+1:Nat):Int),((k+1+1+1+1+1+1:Nat):Int),((k+1+1+1+1+1+1+1:Nat):Int))
def mF (k:Nat):dV:=((k:Int),((k+1:Nat):Int),((k+1+1:Nat):Int),((k+1+1+1:Nat):Int),((k+1+1+1+1:Nat):Int))
def uW:Nat->Nat->List aC
 | _,0=>[]
 | k,n+1=>mC k::uW (k+1+1+1+1+1+1+1+1) n
def uX:Nat->Nat->List dV
 | _,0=>[]
 | k,n+1=>mF k::uX (k+1+1+1+1+1) n
theorem Fk {α:Type} {p r:List α} {x y:α}:(p++x::r).set p.length y=p++y::r:=by
 rw [List.set_append_right _ _ (Zd _),Nat.sub_self,List.set_cons_zero]
theorem Quy {d:Nat}:∀ (r:List aC) {p:List aC} {k fuel:Nat},r.length < fuel->p.length+r.length<=2000000->k+8*r.length<=1000000000 ->
  Q9 (rY d (zA d)) fuel ((k:Int),((p.length:Nat):Int),p++r)=some (((k+8*r.length:Nat):Int),p++uW k r.length)
 | _,p,k,0,h,_,_=>by omega
 | [],p,k,fuel+1,h,h2,h3=>by
  simp only [Q9,rY]
  rw [List.append_nil,bB,Q5]
  unfold zA
  simp [uW]
 | x::r,p,k,fuel+1,h,h2,h3=>by
  simp only [Z9] at h h2 h3
  have au:p.length < (p++x::r).length:=by simp
  have hg:(p++x::r)[p.length]? = some x:=by simp
  simp only [Q9,rY,Q3,nn,Q4]
  rw [Z5 (show ((p.length:Nat):Int) < (((p++x::r).length:Nat):Int) by omega),Q4,Qo au,Q4,hg,Q8]
  simp only [List.length_set,List.set_set,List.getElem?_set_self au,Q8,Qo au,Q4]
  rw [Fk,aN (by omega),aN (by omega),aN (by omega),aN (by omega),aN (by omega),aN (by omega),aN (by omega),aN (by omega),aN (by omega)]
  have:=Quy (d:=d) r (p:=p++[mC k]) (k:=k+1+1+1+1+1+1+1+1) (fuel:=fuel) (by omega) (by simp;omega) (by omega)
  rw [Zf,show (p++[mC k])++r=p++mC k::r by simp] at this
  simp only [Z9,Zb,uW]
  rw [show k+8*(r.length+1)=k+1+1+1+1+1+1+1+1+8*r.length by omega,show p++mC k::uW (k+1+1+1+1+1+1+1+1) r.length=(p++[mC k])++uW (k+1+1+1+1+1+1+1+1) r.length by simp]
  exact this
theorem Quz {d:Nat} {l:List aC}:∀ (n:Nat) {p:List aC} {k fuel:Nat},l=p++uW k n->n < fuel->p.length+n<=2000000->k+8*n<=1000000000 ->
  Q9 (rU d l (zn d)) fuel ((k:Int),0,((p.length:Nat):Int))=some ((k+8*n:Nat):Int)
 | n,p,k,0,_,h,_,_=>by omega
 | 0,p,k,fuel+1,e,h,h2,h3=>by
  simp only [uW,List.append_nil] at e
  subst e
  simp only [Q9,rU]
  rw [bB,Q5]
  unfold zn
  simp
 | n+1,p,k,fuel+1,e,h,h2,h3=>by
  have hg:l[p.length]? = some (mC k):=by rw [e];simp [uW]
  have au:=(Z0 hg).1
  simp only [Q9,rU,Q3,nn,Q4]
  rw [Z5 (show ((p.length:Nat):Int) < ((l.length:Nat):Int) by omega),Q4,hg]
  simp only [Q8]
  rw [aN (by omega),aN (by omega),aN (by omega),aN (by omega),aN (by omega),aN (by omega),aN (by omega),aN (by omega),aN (by omega)]
  unfold mC
  simp only [bne_self_eq_false,Q5]
  have:=Quz (d:=d) (l:=l) n (p:=p++[mC k]) (k:=k+1+1+1+1+1+1+1+1) (fuel:=fuel) (by rw [e];simp [uW]) (by omega) (by simp;omega) (by omega)
  rw [Zf] at this
  simp only [Z9,Zb] at this
  rw [show k+8*(n+1)=k+1+1+1+1+1+1+1+1+8*n by omega]
  exact this
theorem Qv0 {d:Nat}:∀ (r:List dV) {p:List dV} {k fuel:Nat},r.length < fuel->p.length+r.length<=2000000->k+5*r.length<=1000000000 ->
  Q9 (rZ d (zD d)) fuel ((k:Int),((p.length:Nat):Int),p++r)=some (((k+5*r.length:Nat):Int),p++uX k r.length)
 | _,p,k,0,h,_,_=>by omega
 | [],p,k,fuel+1,h,h2,h3=>by
  simp only [Q9,rZ]
  rw [List.append_nil,bB,Q5]
  unfold zD
  simp [uX]
 | x::r,p,k,fuel+1,h,h2,h3=>by
  simp only [Z9] at h h2 h3
  have au:p.length < (p++x::r).length:=by simp
  have hg:(p++x::r)[p.length]? = some x:=by simp
  simp only [Q9,rZ,Q3,nn,Q4]
  rw [Z5 (show ((p.length:Nat):Int) < (((p++x::r).length:Nat):Int) by omega),Q4,Qo au,Q4,hg,Q8]
  simp only [List.length_set,List.set_set,List.getElem?_set_self au,Q8,Qo au,Q4]
  rw [Fk,aN (by omega),aN (by omega),aN (by omega),aN (by omega),aN (by omega),aN (by omega)]
  have:=Qv0 (d:=d) r (p:=p++[mF k]) (k:=k+1+1+1+1+1) (fuel:=fuel) (by omega) (by simp;omega) (by omega)
  rw [Zf,show (p++[mF k])++r=p++mF k::r by simp] at this
  simp only [Z9,Zb,uX]
  rw [show k+5*(r.length+1)=k+1+1+1+1+1+5*r.length by omega,show p++mF k::uX (k+1+1+1+1+1) r.length=(p++[mF k])++uX (k+1+1+1+1+1) r.length by simp]
  exact this
theorem Qv1 {d:Nat} {l:List dV}:∀ (n:Nat) {p:List dV} {k fuel:Nat},l=p++uX k n->n < fuel->p.length+n<=2000000->k+5*n<=1000000000 ->
  Q9 (rV d l (zq d)) fuel ((k:Int),0,((p.length:Nat):Int))=some ((k+5*n:Nat):Int)
 | n,p,k,0,_,h,_,_=>by omega
 | 0,p,k,fuel+1,e,h,h2,h3=>by
  simp only [uX,List.append_nil] at e
  subst e
  simp only [Q9,rV]
  rw [bB,Q5]
  unfold zq
  simp
 | n+1,p,k,fuel+1,e,h,h2,h3=>by
  have hg:l[p.length]? = some (mF k):=by rw [e];simp [uX]
  have au:=(Z0 hg).1
  simp only [Q9,rV,Q3,nn,Q4]
  rw [Z5 (show ((p.length:Nat):Int) < ((l.length:Nat):Int) by omega),Q4,hg]
  simp only [Q8]
  rw [aN (by omega),aN (by omega),aN (by omega),aN (by omega),aN (by omega),aN (by omega)]
  unfold mF
  simp only [bne_self_eq_false,Q5]
  have:=Qv1 (d:=d) (l:=l) n (p:=p++[mF k]) (k:=k+1+1+1+1+1) (fuel:=fuel) (by rw [e];simp [uX]) (by omega) (by simp;omega) (by omega)
  rw [Zf] at this
  simp only [Z9,Zb] at this
  rw [show k+5*(n+1)=k+1+1+1+1+1+5*n by omega]
  exact this
def jW:Nat->Nat->List Int
 | _,0=>[]
 | k,n+1=>(k:Int)::jW (k+1) n
theorem Qv2 {d:Nat}:∀ (r:List Int) {p:List Int} {k fuel:Nat},r.length < fuel->p.length+r.length<=2000000->k+r.length<=1000000000 ->
  Q9 (rS d (zi d)) fuel ((k:Int),((p.length:Nat):Int),p++r)=some (((k+r.length:Nat):Int),p++jW k r.length)
 | _,p,k,0,h,_,_=>by omega
 | [],p,k,fuel+1,h,h2,h3=>by
  simp only [Q9,rS]
  rw [List.append_nil,bB,Q5]
  unfold zi
  simp [jW]
 | x::r,p,k,fuel+1,h,h2,h3=>by
  simp only [Z9] at h h2 h3
  have au:p.length < (p++x::r).length:=by simp
  have hg:(p++x::r)[p.length]? = some x:=by simp
  simp only [Q9,rS,Q3,nn,Q4]
  rw [Z5 (show ((p.length:Nat):Int) < (((p++x::r).length:Nat):Int) by omega),Q4,Qo au,Q4,hg,Q8]
  rw [Fk,aN (by omega),aN (by omega)]
  have:=Qv2 (d:=d) r (p:=p++[(k:Int)]) (k:=k+1) (fuel:=fuel) (by omega) (by simp;omega) (by omega)
  rw [Zf,show (p++[(k:Int)])++r=p++(k:Int)::r by simp] at this
  simp only [Z9,Zb,jW]
  rw [show k+(r.length+1)=k+1+r.length by omega,show p++(k:Int)::jW (k+1) r.length=(p++[(k:Int)])++jW (k+1) r.length by simp]
  exact this
theorem Qv3 {d:Nat} {l:List Int}:∀ (n:Nat) {p:List Int} {k fuel:Nat},l=p++jW k n->n < fuel->p.length+n<=2000000->k+n<=1000000000 ->
  Q9 (rT d l (zl d)) fuel ((k:Int),0,((p.length:Nat):Int))=some ((k+n:Nat):Int)
 | n,p,k,0,_,h,_,_=>by omega
 | 0,p,k,fuel+1,e,h,h2,h3=>by
  simp only [jW,List.append_nil] at e
  subst e
  simp only [Q9,rT]
  rw [bB,Q5]
  unfold zl
  simp
 | n+1,p,k,fuel+1,e,h,h2,h3=>by
  have hg:l[p.length]? = some (k:Int):=by rw [e];simp [jW]
  have au:=(Z0 hg).1
  simp only [Q9,rT,Q3,nn,Q4]
  rw [Z5 (show ((p.length:Nat):Int) < ((l.length:Nat):Int) by omega),Q4,hg]
  simp only [Q8]
  rw [aN (by omega),aN (by omega)]
  simp only [bne_self_eq_false,Q5]
  have:=Qv3 (d:=d) (l:=l) n (p:=p++[(k:Int)]) (k:=k+1) (fuel:=fuel) (by rw [e];simp [jW]) (by omega) (by simp;omega) (by omega)
  rw [Zf] at this
  simp only [Z9,Zb] at this
  rw [show k+(n+1)=k+1+n by omega]
  exact this
theorem oX {d k:Nat} {l:List Int} (hl:l.length<=1048576) (hk:k<=100000000):g13 (d+1) l (k:Int)=some (((k+l.length:Nat):Int),jW k l.length):=by
 rw [e13]
 exact Qv2 l (p:=[]) (by rw [Q6];omega) (by simp;omega) (by omega)
theorem Y3 {d k:Nat} {l:List aC} (hl:l.length<=1048576) (hk:k<=100000000):OG (d+1) l (k:Int)=some (((k+8*l.length:Nat):Int),uW k l.length):=by
 rw [e81]
 exact Quy l (p:=[]) (by rw [Q6];omega) (by simp;omega) (by omega)
theorem Y4 {d k:Nat} {l:List dV} (hl:l.length<=1048576) (hk:k<=100000000):OH (d+1) l (k:Int)=some (((k+5*l.length:Nat):Int),uX k l.length):=by
 rw [e82]
 exact Qv0 l (p:=[]) (by rw [Q6];omega) (by simp;omega) (by omega)
theorem DB {d k n:Nat} (hl:n<=1048576) (hk:k<=100000000):g15 (d+1) (jW k n) (k:Int)=some (((k+n:Nat):Int)):=by
 rw [e15]
 exact Qv3 n (p:=[]) rfl (by rw [Q6];omega) (by simp;omega) (by omega)
theorem Qhf {d k n:Nat} (hl:n<=1048576) (hk:k<=100000000):Up (d+1) (uW k n) (k:Int)=some (((k+8*n:Nat):Int)):=by
 rw [e84]
 exact Quz n (p:=[]) rfl (by rw [Q6];omega) (by simp;omega) (by omega)
theorem Qf2 {d k n:Nat} (hl:n<=1048576) (hk:k<=100000000):Uq (d+1) (uX k n) (k:Int)=some (((k+5*n:Nat):Int)):=by
 rw [e85]
 exact Qv1 n (p:=[]) rfl (by rw [Q6];omega) (by simp;omega) (by omega)
def Vl (k:Nat) (x:Ld):Ld:=(x.1,uW k x.2.1.length,jW (k+8*x.2.1.length) x.2.2.1.length,jW (k+8*x.2.1.length+x.2.2.1.length) x.2.2.2.1.length,jW (k+8*x.2.1.length+x.2.2.1.length+x.2.2.2.1.length) x.2.2.2.2.1.length,jW (k+8*x.2.1.length+x.2.2.1.length+x.2.2.2.1.length+x.2.2.2.2.1.length) x.2.2.2.2.2.1.length,uX (k+8*x.2.1.length+x.2.2.1.length+x.2.2.2.1.length+x.2.2.2.2.1.length+x.2.2.2.2.2.1.length) x.2.2.2.2.2.2.1.length,jW (k+8*x.2.1.length+x.2.2.1.length+x.2.2.2.1.length+x.2.2.2.2.1.length+x.2.2.2.2.2.1.length+5*x.2.2.2.2.2.2.1.length) x.2.2.2.2.2.2.2.1.length,x.2.2.2.2.2.2.2.2)
def BO (k:Nat) (x:Ld):Nat:=k+8*x.2.1.length+x.2.2.1.length+x.2.2.2.1.length+x.2.2.2.2.1.length+x.2.2.2.2.2.1.length+5*x.2.2.2.2.2.2.1.length+x.2.2.2.2.2.2.2.1.length
theorem Om {k:Nat} {x:Ld} (h:A9 x):BO k x<=k+20000000:=by
 obtain ⟨z1,z2,z3,z4,z5,z6,z7,z8⟩:=h
 unfold BO;omega
theorem Qhg {d k:Nat} {x:Ld} (h:A9 x) (hk:k<=10000000):Ur (d+2) (Vl k x) (k:Int)=some ((BO k x:Nat):Int):=by
 obtain ⟨z1,z2,z3,z4,z5,z6,z7,z8⟩:=h
 rw [e40]
 unfold Vl
 simp only []
 rw [Qhf (by omega) (by omega),Q8,Z4 (by omega),Q5,DB (by omega) (by omega),Q8,Z4 (by omega),Q5,DB (by omega) (by omega),Q8,Z4 (by omega),Q5,DB (by omega) (by omega),Q8,Z4 (by omega),Q5,DB (by omega) (by omega),Q8,Z4 (by omega),Q5,Qf2 (by omega) (by omega),Q8,Z4 (by omega),Q5,DB (by omega) (by omega),Q8,Z4 (by omega),Q5]
 rfl
def mW (k:Nat) (t:Tk):Tk:=(jW k t.1.length,jW (k+t.1.length) t.2.length)
def IK (k:Nat) (t:Tk):Nat:=k+t.1.length+t.2.length
theorem Qhh {d k:Nat} {t:Tk} (h1:t.1.length<=1048576) (h2:t.2.length<=1048576) (hk:k<=90000000):Us (d+2) (mW k t) (k:Int)=some ((IK k t:Nat):Int):=by
 rw [e41]
 unfold mW
 simp only []
 rw [DB (by omega) (by omega),Q8,Z4 (by omega),Q5,DB (by omega) (by omega),Q8,Z4 (by omega),Q5]
 rfl
theorem Qn7 {d:Nat} {t:Tk} (h1:t.1.length<=2000000) (h2:t.2.length<=2000000):Ul (d+2) t t=some true:=by
 rw [e35,DA h1,Q8,Zl,Q5,DA h2,Q8,Zl,Q5]
theorem Qn8 {d:Nat} {t:Tk} (h1:t.1.length<=1048576) (h2:t.2.length<=1048576):S4 (d+2) t=some t:=by
 rw [e29,GX h1,Q8,GX h2,Q8]
theorem Qn9 {d:Nat} {t:Tk} {n:Int} (h0:0<=n) (h1:n<=1048576) (z1:t.1.length<=9223372036854775807) (z2:t.2.length<=9223372036854775807):Ok (g22 (d+2) t n) fun r=>r < 0\/(0<=r/\r<=n/\t.1.length<=1048576/\t.2.length<=1048576):=by
 have no:Ok (some (-1:Int)) fun r=>r < 0\/(0<=r/\r<=n/\t.1.length<=1048576/\t.2.length<=1048576):=Ok.some (Or.inl (by omega))
 rw [e22]
 refine Ok.bind (GY (by omega) (by omega) z1) fun r3 g3=>?_
 refine Ok.aa (fun _=>no) (fun Cj=>?_)
 simp only [decide_eq_false_iff_not] at Cj
 have g3:=g3.resolve_left Cj
 refine Ok.bind (GY (by omega) (by omega) z2) fun r4 g4=>?_
 refine Ok.aa (fun _=>no) (fun Ee=>?_)
 simp only [decide_eq_false_iff_not] at Ee
 have g4:=g4.resolve_left Ee
 exact Ok.some (Or.inr ⟨by omega,by omega,by omega,by omega⟩)
theorem nA {l:List Int} {i:Nat} {z:Int} (h:i < l.length):l[i]? = some (l.getD i z):=by
 rw [Zr,Z6 h];rfl
def oG (t:Tk) (c:aC) (i:Nat):Bool:=decide (0<=t.1.getD i 0/\t.1.getD i 0<=c.2.2.2.2.1)&&decide (0<=t.2.getD i 0/\t.2.getD i 0<=c.2.2.2.2.2.1)
def A_ (x:Ld) (t:Tk):Bool:=decide (t.1.length=x.2.1.length/\t.2.length=x.2.1.length)&&eG (oG t) x.2.1 0
theorem Qwo {x:Ld} {t:Tk} (h:A_ x t=true):t.1.length=x.2.1.length/\t.2.length=x.2.1.length:=by
 unfold A_ at h
 simp only [Z8,Zj] at h
 exact h.1
theorem Qf3 {d:Nat} {x:Ld} {t:Tk} (hl:x.2.1.length<=1000):Gs (d+1) x t=some (A_ x t):=by
 rw [T5]
 unfold qx A_
 by_cases h1:t.1.length=x.2.1.length
 case neg=>rw [show ((((t.1.length:Nat):Int)) != ((x.2.1.length:Nat):Int))=true by simp;omega,Q4,Q4,Z4 (fun h=>h1 h.1)];rfl
 by_cases h2:t.2.length=x.2.1.length
 case neg=>rw [show ((((t.1.length:Nat):Int)) != ((x.2.1.length:Nat):Int))=false by simp;omega,Q5,show ((((t.2.length:Nat):Int)) != ((x.2.1.length:Nat):Int))=true by simp;omega,Q4,Z4 (fun h=>h2 h.2)];rfl
 rw [show ((((t.1.length:Nat):Int)) != ((x.2.1.length:Nat):Int))=false by simp;omega,Q5,show ((((t.2.length:Nat):Int)) != ((x.2.1.length:Nat):Int))=false by simp;omega,Q5,Z5 ⟨h1,h2⟩,Zg]
 refine (Qc (fun (t:Bool) (i:Int)=>(t,i)) x.2.1 (fun c i b k=>aa (oG t c i) (k b) (some false)) (fun _=>some true) ?_ ?_ (by rw [Q6];omega) false).trans ?_
 .intro ag b i c hx
  have hi:=(Z0 hx).1
  simp only [qw,bW hx,nn,Q3,hx,Q8,Q4]
  rw [nA (l:=t.1) (z:=0) (by omega),nA (l:=t.2) (z:=0) (by omega)]
  simp only [Q8]
  unfold jq
  by_cases a1:t.1.getD i 0 < 0
  .rw [Z5 a1,Q4,Q4,show oG t c i=false by unfold oG;rw [Z4 (by omega),Bool.false_and],Q5]
  by_cases a2:t.1.getD i 0 > c.2.2.2.2.1
  .rw [Z4 a1,Q5,Z5 a2,Q4,Q4,show oG t c i=false by unfold oG;rw [Z4 (by omega),Bool.false_and],Q5]
  by_cases a3:t.2.getD i 0 < 0
  .rw [Z4 a1,Q5,Z4 a2,Q5,Z5 a3,Q4,Q4,show oG t c i=false by unfold oG;rw [Bool.and_comm,Z4 (by omega),Bool.false_and],Q5]
  by_cases a4:t.2.getD i 0 > c.2.2.2.2.2.1
  .rw [Z4 a1,Q5,Z4 a2,Q5,Z4 a3,Q5,Z5 a4,Q4,show oG t c i=false by unfold oG;rw [Bool.and_comm,Z4 (by omega),Bool.false_and],Q5]
  .rw [Z4 a1,Q5,Z4 a2,Q5,Z4 a3,Q5,Z4 a4,Q5,show oG t c i=true by unfold oG;rw [Z5 (by omega),Z5 (by omega)];rfl,Q4,aN (by omega)]
 .intro ag t;simp only [qw,bB,Q5];rfl
 .rw [qG];cases eG (oG t) x.2.1 0<;>rfl
theorem Qna {d:Nat} {x:Ld} {t:Tk} (hl:x.2.1.length<=1000):SL (d+2) x t=some (A_ x t):=by
 rw [e91]
 unfold xB A_
 by_cases h1:t.1.length=x.2.1.length
 case neg=>rw [show ((((t.1.length:Nat):Int)) != ((x.2.1.length:Nat):Int))=true by simp;omega,Q4,Q4,Z4 (fun h=>h1 h.1)];rfl
 by_cases h2:t.2.length=x.2.1.length
 case neg=>rw [show ((((t.1.length:Nat):Int)) != ((x.2.1.length:Nat):Int))=false by simp;omega,Q5,show ((((t.2.length:Nat):Int)) != ((x.2.1.length:Nat):Int))=true by simp;omega,Q4,Z4 (fun h=>h2 h.2)];rfl
 rw [show ((((t.1.length:Nat):Int)) != ((x.2.1.length:Nat):Int))=false by simp;omega,Q5,show ((((t.2.length:Nat):Int)) != ((x.2.1.length:Nat):Int))=false by simp;omega,Q5,Z5 ⟨h1,h2⟩,Zg]
 refine (Qc (fun (t:Bool) (i:Int)=>(t,i)) x.2.1 (fun c i b k=>aa (oG t c i) (k b) (some false)) (fun _=>some true) ?_ ?_ (by rw [Q6];omega) false).trans ?_
 .intro ag b i c hx
  have hi:=(Z0 hx).1
  simp only [xz,bW hx,nn,Q3,hx,Q8,Q4]
  rw [nA (l:=t.1) (z:=0) (by omega),nA (l:=t.2) (z:=0) (by omega),Q8,Q8,vQ,Q8,vQ,Q8,aN (by omega)]
  unfold oG
  cases decide (0<=t.1.getD i 0/\t.1.getD i 0<=c.2.2.2.2.1) with
  | false=>rfl
  | true=>cases decide (0<=t.2.getD i 0/\t.2.getD i 0<=c.2.2.2.2.2.1)<;>rfl
 .intro ag t;simp only [xz,bB,Q5];rfl
 .rw [qG];cases eG (oG t) x.2.1 0<;>rfl
theorem Qv4 {x:Ld} (h:eR x=true):x.2.1.length<=24:=by
 unfold eR at h
 simp only [Z8,Zj] at h
 exact h.1.1
theorem Qst {d:Nat} {x:Ld} {t:Tk} (h:wT x):SM (d+12) x t=some (eR x&&A_ x t):=by
 rw [e53,Qss h,Q8]
 cases hg:eR x with
 | false=>rfl
 | true =>
  have:=Qv4 hg
  rw [Q4,show d+11=d+9+2 by omega,Qna (by omega),Q8,Zg]
def bU (F:List Int):List Int:=fL (fun f _=>decide (f < 0)) (fun _ k=>((k:Nat):Int)) F 0
theorem AU {F:List Int}:(bU F).length<=F.length:=Uy _ _
theorem Kz {d:Nat} {x:Ld} (hl:x.2.1.length<=1000) (hE:x.2.2.2.1.length=x.2.1.length):nK (d+1) x=some (bU x.2.2.2.1):=by
 rw [T6]
 refine (Qc (fun (t:List Int) (i:Int)=>(t,i)) x.2.2.2.1 (fun f i t k=>aa (decide (f < 0)) (aa (Nat.ble ((t.length+[((i:Nat):Int)].length)*8) Q7) (k (t++[((i:Nat):Int)])) none) (k t)) (fun t=>some t) ?_ ?_ (by rw [Q6];omega) []).trans ?_
 .intro ag t i f hx
  have hi:=(Z0 hx).1
  simp only [qy,<- hE,bW hx,nn,Q3,hx,Q8,Q4]
  rw [aN (by omega)]
 .intro ag t;simp only [qy,<- hE,bB,Q5];rfl
 .rw [D4 (c:=fun f _=>decide (f < 0)) (e:=fun (_:Int) (k:Nat)=>((k:Nat):Int)) (w:=8) x.2.2.2.1 0 [] (by simp;omega)]
  rfl
theorem Qsu {d k:Nat} {x:Ld} {f:Int} (h:x.2.2.2.1[k]? = some f):SN (d+1) x ((k:Nat):Int)=some (decide (f < 0)):=by
 rw [e92,nn,Q4,Q3,h,Q8]
theorem IG {d:Nat} {x:Ld} (hl:x.2.1.length<=1000) (hE:x.2.2.2.1.length=x.2.1.length):DG (d+2) x=some (bU x.2.2.2.1):=by
 rw [e54]
 refine (Qc (fun (t:List Int) (i:Int)=>(t,i)) x.2.2.2.1 (fun f i t k=>aa (decide (f < 0)) (aa (Nat.ble ((t.length+[((i:Nat):Int)].length)*8) Q7) (k (t++[((i:Nat):Int)])) none) (k t)) (fun t=>some t) ?_ ?_ (by rw [Q6];omega) []).trans ?_
 .intro ag t i f hx
  have hi:=(Z0 hx).1
  simp only [xC,<- hE,bW hx,Q4]
  rw [Qsu hx,Q8,aN (by omega)]
 .intro ag t;simp only [xC,<- hE,bB,Q5];rfl
 .rw [D4 (c:=fun f _=>decide (f < 0)) (e:=fun (_:Int) (k:Nat)=>((k:Nat):Int)) (w:=8) x.2.2.2.1 0 [] (by simp;omega)]
  rfl
theorem Qnb {l:List aC} (T:Tr l) {i:Int} (hi:vI l i) (hp:0<=bN l i):pW l (bN l i) < pW l i:=by
 have hv:=GM (l:=l) (i:=i) hp
 obtain ⟨A,B,e⟩:=UJ T _ (bN l i) (Zd _) hv
 rw [I6 T hv] at e
 have hm:i∈(cg l (bN l i)).flatMap (iR l):=List.mem_flatMap.2 ⟨i,(A6 T hv).2 ⟨hi,rfl⟩,by rw [I6 T hi];simp⟩
 obtain ⟨m,hm⟩:=List.getElem?_of_mem hm
 have au:=(Z0 hm).1
 have h1:(aG l)[A.length]? = some (bN l i):=by rw [e];simp
 have h2:(aG l)[A.length+1+m]? = some i:=by
  rw [e,List.append_assoc,Zq (by omega),show A.length+1+m - A.length=m+1 by omega,List.cons_append,List.getElem?_cons_succ,List.getElem?_append_left au,hm]
 unfold pW
 rw [sk (rG T) h1,sk (rG T) h2]
 omega
structure Lk (x:Ld):Prop where
 fF:x.2.1.length<=24
 pl:x.2.2.1.length=x.2.1.length
 fl:x.2.2.2.1.length=x.2.1.length
 pd:∀ (k:Nat) (p:Int),x.2.2.1[k]? = some p->p < (k:Int)
 bur:∀ c∈x.2.1,c.2.2.2.2.1<=1000000/\c.2.2.2.2.2.1<=1000000
theorem vK {x:Ld} (h:eR x=true):Lk x:=by
 have iE:=Qv4 h
 unfold eR Dt at h
 simp only [Z8,Zj] at h
 obtain ⟨_,hg,s1,s2,s3,_⟩:=h
 have G:=rI hg
 have T:=G.tr
 have e1:x.2.1.length=(aG (eK x).2.1).length:=by rw [s1];show ((aG (eK x).2.1).map _).length=_;rw [List.length_map]
 refine ⟨iE,?_,?_,?_,?_⟩
 .rw [e1,s2];show ((aG (eK x).2.1).map _).length=_;rw [List.length_map]
 .rw [e1,s3];show ((aG (eK x).2.1).map _).length=_;rw [List.length_map]
 .intro k p hp
  rw [s2] at hp
  have GZ:((aG (eK x).2.1).map fun i=>pW (eK x).2.1 (bN (eK x).2.1 i))[k]? = some p:=hp
  rw [List.getElem?_map] at GZ
  obtain ⟨i,hi,rfl⟩:=Option.map_eq_some_iff.1 GZ
  have hv:=(jI T).1 (Zc hi)
  have hk:pW (eK x).2.1 i=(k:Int):=sk (rG T) hi
  rcases Int.lt_or_le (bN (eK x).2.1 i) 0 with h0 | h0
  .rw [uU T h0];omega
  .have:=Qnb T hv h0;omega
 .intro c hc
  have hm:c∈(eK x).2.1:=AQ.mem_iff.2 hc
  have:=G.cl
  unfold kR at this
  simp only [Z8] at this
  have:=Z3 this.2.2.2.2.2.2.2.1 c hm
  unfold mU at this
  simp only [Zj] at this
  omega
abbrev Pk:=Int×Int×Int×Int×Int×Int
def Jc (n:Int):Bool:=decide (0<=n/\n<=65535)
def j9 (p:Pk):Bool:=decide (1<=p.1/\p.1<=100000/\0<=p.2.1/\p.2.1<=65535/\0<=p.2.2.1/\p.2.2.1<=65535/\0<=p.2.2.2.1/\p.2.2.2.1<=65535/\0<=p.2.2.2.2.1/\p.2.2.2.2.1<=65535/\1<=p.2.2.2.2.2/\p.2.2.2.2.2<=1500)
theorem Qde {d:Nat} {x:Pk}:Cb (d+2) x=some (j9 x):=by
 rw [T7,Lc,Q8]
 refine (Qc (fun (t:Bool) (i:Int)=>(t,i)) [x.2.1,x.2.2.1,x.2.2.2.1,x.2.2.2.2.1] (fun y _ t k=>aa (Jc y) (k t) (some false)) (qz (d+1) x) ?_ ?_ (by rw [Q6];simp) false).trans ?_
 .intro ag t i y hy
  have hi:i < 4:=by have:=(Z0 hy).1;simpa using this
  have h4:decide ((i:Int) < 4)=true:=by simp;omega
  simp only [yP,h4,nn,Q3,Q4]
  rw [hy,Q8,aN (by omega)]
  unfold Jc
  by_cases h1:y < 0
  .rw [Z5 h1,Q4,Z4 (by omega),Q5]
  .rw [Z4 h1,Q5]
   by_cases h2:y > 65535
   .rw [Z5 h2,Q4,Z4 (by omega),Q5]
   .rw [Z4 h2,Q5,Z5 (by omega),Q4]
 .intro ag t;rfl
 .rw [Ce (p:=Jc)]
  unfold qz
  simp only [uQ]
  congr 1
  rw [Bool.eq_iff_iff]
  simp only [List.all_cons,List.all_nil,Bool.and_true,Jc,j9]
  simp
  omega
theorem Qsv {d:Nat} {n:Int}:IT (d+2) n=some (Jc n):=by
 rw [e93,vQ,Q8];rfl
theorem Qsw {d:Nat} {x:Pk}:SO (d+3) x=some (j9 x):=by
 rw [e56]
 simp only [vQ,Qsv,Q8,uQ]
 congr 1
 rw [Bool.eq_iff_iff]
 simp [Jc,j9]
 omega
theorem Vm {a b:Nat} (h:a<=b):Nat.ble a b=true:=by rw [Nat.ble_eq];exact h
def Qzi (l:List Pk):Prop:=∀ p∈l,j9 p=true
def Ba (l:List Pk) (id:Int):Bool:=l.any fun p=>p.1==id
theorem Qhi {β:Type} {id:Int} {yes:Nat->Option β} {fin:Int->Option β} (hy:∀ i j,yes i=yes j):∀ (l:List Pk) (i:Nat) (t:Int),
  ef (fun (x:Pk) i (t:Int) k=>aa (x.1==id) (yes i) (k t)) fin l i t=if Ba l id then yes 0 else fin t
 | [],i,t=>by simp [ef,Ba]
 | x::r,i,t=>by
  simp only [ef]
  cases h:x.1==id with
  | true=>simp only [Q4,Ba,List.any_cons,h,Bool.true_or,if_true];exact hy i 0
  | false=>simp only [Q5,Ba,List.any_cons,h,Bool.false_or];exact Qhi hy r (i+1) t
theorem Qwp {d:Nat} {l:List Pk} {id:Int} (hl:l.length < 4194304):Gy (d+4) l id=some (Ba l id):=by
 rw [T']
 refine (Qc (fun (t:Int) (i:Int)=>(t,i)) l (fun (x:Pk) i (t:Int) k=>aa (x.1==id) (some true) (k t)) (fun _=>some false) ?_ ?_ (by rw [Q6];exact hl) 0).trans ?_
 .intro ag t i x hx
  have hi:=(Z0 hx).1
  simp only [dN,bW hx,nn,Q3,hx,Q8,Q4]
  rw [aN (by omega)]
  first | done | rfl | simp
 .intro ag t;simp only [dN,bB,Q5];rfl
 .rw [Qhi (fun _ _=>rfl)];cases Ba l id<;>rfl
def Jd (l:List Pk) (x:Pk) (i:Nat):Bool:=j9 x && !Ba (l.take i) x.1
def LK (l:List Pk):Bool:=eG (Jd l) l 0
theorem Qv5 (l:List Pk):∀ (r pre:List Pk),l=pre++r->(eG (Jd l) r pre.length=true↔(∀ x∈r,j9 x=true)/\(∀ x∈r,∀ y∈pre,y.1≠x.1)/\(r.map fun p=>p.1).Nodup)
 | [],pre,_=>by simp [eG]
 | x::r,pre,h=>by
  have ih:=Qv5 l r (pre++[x]) (by rw [h];simp)
  simp only [Zf,Z9,Zb,Zo] at ih
  have ht:l.take pre.length=pre:=by rw [h];simp
  simp only [eG,Z8,ih,Jd,ht,Bool.not_eq_true',List.map_cons,List.nodup_cons,List.mem_cons,forall_eq_or_imp,Zh,List.mem_singleton]
  have hh:Ba pre x.1=false↔∀ y∈pre,y.1≠x.1:=by
   unfold Ba;rw [List.any_eq_false];simp
  rw [hh]
  constructor
  .rintro ⟨⟨a,b⟩,c,e,f⟩
   refine ⟨⟨a,c⟩,⟨b,fun z hz y hy=>e z hz y (.inl hy)⟩,fun hm=>?_,f⟩
   obtain ⟨z,hz,hzx⟩:=List.mem_map.1 hm
   exact e z hz x (.inr (.inl rfl)) hzx.symm
  .rintro ⟨⟨a,c⟩,⟨b,e⟩,g,f⟩
   refine ⟨⟨a,b⟩,c,fun z hz y hy=>?_,f⟩
   rcases hy with hy | hy | hy
   .exact e z hz y hy
   .subst hy;exact fun he=>g (List.mem_map.2 ⟨z,hz,he.symm⟩)
   .simp at hy
theorem Qzj (l:List Pk):LK l=true↔Qzi l/\(l.map fun p=>p.1).Nodup:=by
 have:=Qv5 l l [] rfl
 simp only [Zb,List.not_mem_nil,false_imp_iff,implies_true,true_and] at this
 exact this
theorem Qnc {d:Nat} {l:List Pk} (hl:l.length < 4194304):GA (d+5) l=some (LK l):=by
 rw [Uc]
 refine (Qc (fun (t:Bool) (i:Int)=>(t,i)) l (fun x i t k=>aa (Jd l x i) (k t) (some false)) (fun _=>some true) ?_ ?_ (by rw [Q6];exact hl) false).trans ?_
 .intro ag t i x hx
  have hi:=(Z0 hx).1
  simp only [qB,bW hx,nn,Q3,hx,Q8,Q4,Qde]
  rw [aN (by omega),Vm (show i<=l.length by omega),Q4,Qwp (by simp;omega),Q8]
  unfold Jd
  cases j9 x<;>cases Ba (l.take i) x.1<;>rfl
 .intro ag t;simp only [qB,bB,Q5];rfl
 .rw [qG];unfold LK;cases eG (Jd l) l 0<;>rfl
abbrev Rg:=Ld×Tk×List (List Pk)×Int×Int
def LL (l:List (List Pk)):Prop:=l.length<=1048576/\∀ r∈l,r.length<=1048576
theorem Je {rows:List (List Pk)} {k:Nat} {row:List Pk} (hx:rows[k]? = some row):(rows.take (k+1)).flatten=(rows.take k).flatten++row:=by
 have hk:=(Z0 hx).1
 have e:=(Z0 hx).2
 rw [List.take_succ_eq_append_getElem hk,List.flatten_append,e]
 simp
theorem Vn {rows:List (List Pk)} (k:Nat):(rows.take k).flatten.length<=rows.flatten.length:=by
 have:rows.flatten=(rows.take k).flatten++(rows.drop k).flatten:=by rw [<- List.flatten_append,List.take_append_drop]
 rw [this,Zf];omega
theorem Qhj {d:Nat} {l:List (List Pk)} {n:Int} (h0:0<=n) (h1:n<=1048576) (hl:l.length<=9223372036854775807) (hr:∀ r∈l,r.length<=9223372036854775807):Ok (g23 (d+2) l n) fun r=>r < 0\/(0<=r/\LL l/\l.flatten.length<=1048576/\0<=r/\r<=1048576):=by
 rw [e23,wr (by omega) (by omega)]
 by_cases h:n - ((l.length:Nat):Int) < 0
 .rw [Z5 h,Q4];exact Ok.some (Or.inl (by omega))
 rw [Z4 h,Q5]
 refine OW (fun (t:Int×Int) (i:Int)=>(t.1,t.2,i)) l (fun k t=>(0<=t.1/\t.1+(((l.take k).flatten.length:Nat):Int)<=1048576)/\∀ (j:Nat) r,j < k->l[j]? = some r->r.length<=1048576) ?_ ?_ Qd 0 (n - ((l.length:Nat):Int),0) (by rw [Q6];omega) (by omega) ⟨⟨by simp only;omega,by simp only [List.take_zero,List.flatten_nil,Zb];omega⟩,fun j r hj=>absurd hj (by omega)⟩
 .rintro ag ⟨a,b⟩ k row hx ⟨⟨a0,a1⟩,hp⟩ er
  simp only at a0 a1
  have hk:=(Z0 hx).1
  have cx:=hr row (Zc hx)
  simp only [w4,bW hx,nn,Q3,hx,Q8,Q4]
  rw [e52,wr (by omega) (by omega)]
  by_cases h5:a - ((row.length:Nat):Int) < 0
  .rw [Z5 h5,Q4,Q8,Z5 (show (-1:Int) < 0 by omega),Q4];exact Ok.some (Or.inl (by omega))
  .rw [Z4 h5,Q5,Q8,Z4 h5,Q5,aN (by omega)]
   have h6:(l.take (k+1)).flatten.length=(l.take k).flatten.length+row.length:=by rw [Je hx,Zf]
   refine er (a - ((row.length:Nat):Int),b) ⟨⟨by simp only;omega,by simp only;omega⟩,fun j r hj hg=>?_⟩
   by_cases e:j=k
   .subst e;rw [hx] at hg;injection hg with hg;subst hg;omega
   .exact hp j r (by omega) hg
 .rintro ag ⟨a,b⟩ ⟨⟨a0,a1⟩,hp⟩
  simp only at a0 a1
  simp only [w4,bB,Q5]
  rw [List.take_length] at a1
  refine Ok.some (Or.inr ⟨a0,⟨by omega,fun r hr=>?_⟩,by omega,a0,by omega⟩)
  obtain ⟨j,hj⟩:=List.getElem?_of_mem hr
  exact hp j r (Z0 hj).1 hj
def LM (r:Rg):Prop:=A9 r.1/\r.2.1.1.length<=1048576/\r.2.1.2.length<=1048576/\LL r.2.2.1
def Sq (r:Rg):Prop:=So r.1/\(r.2.1.1.length<=9223372036854775807/\r.2.1.2.length<=9223372036854775807)/\r.2.2.1.length<=9223372036854775807/\∀ q∈r.2.2.1,q.length<=9223372036854775807
theorem Qwq {d:Nat} {r:Rg} (h:Sq r):Ok (g6 (d+3) r 1048576) fun z=>z < 0\/(0<=z/\z<=1048576/\LM r/\r.2.2.1.flatten.length<=1048576):=by
 obtain ⟨z1,z2,z3,z4⟩:=h
 have no:Ok (some (-1:Int)) fun z=>z < 0\/(0<=z/\z<=1048576/\LM r/\r.2.2.1.flatten.length<=1048576):=Ok.some (Or.inl (by omega))
 rw [e6]
 refine Ok.bind (Qn6 (by omega) (by omega) z1) fun r3 g3=>?_
 refine Ok.aa (fun _=>no) (fun Cj=>?_)
 simp only [decide_eq_false_iff_not] at Cj
 have g3:=g3.resolve_left Cj
 refine Ok.bind (Qn9 (by omega) (by omega) z2.1 z2.2) fun r4 g4=>?_
 refine Ok.aa (fun _=>no) (fun Ee=>?_)
 simp only [decide_eq_false_iff_not] at Ee
 have g4:=g4.resolve_left Ee
 refine Ok.bind (Qhj (by omega) (by omega) z3 z4) fun r5 g5=>?_
 refine Ok.aa (fun _=>no) (fun LJ=>?_)
 simp only [decide_eq_false_iff_not] at LJ
 have g5:=g5.resolve_left LJ
 exact Ok.some (Or.inr ⟨g5.1,g5.2.2.2.2,⟨g3.2.2,g4.2.2.1,g4.2.2.2,g5.2.1⟩,g5.2.2.1⟩)
theorem Qk3 {d:Nat} {l:List Pk} (hl:l.length<=1048576):S6 (d+2) l=some l:=by
 rw [e69,nn,Q4,Q4,Q3,show (Nat.ble l.length l.length&&Nat.ble (l.length*48) Q7)=true by rw [Z8,Nat.ble_eq,Nat.ble_eq];unfold Q7;omega,Q4]
 refine Ok.val (mo (fun j (s:Int×List Pk)=>∃ k:Nat,k+j=l.length/\s.1=(k:Int)/\s.2=l.take k++List.replicate (l.length - k) ((0,0,0,0,0,0):Pk)) ?_ _ l.length _ (by rw [Q6];omega) ⟨0,by omega,rfl,by simp⟩)
 rintro j ⟨n,r⟩ ag ⟨k,hk,h1,h2⟩ er
 simp only at h1 h2
 subst h1
 have ku:r.length=l.length:=by rw [h2];simp;omega
 simp only [DP]
 rcases Nat.lt_or_ge k l.length with au | s_
 .have hx:=Z6 au
  rw [bW hx,Q4,nn,Q4,Q3,hx,Q8,S5,Q8,Q4,Qo (by omega),Q4,Z6 (by omega),Q8,aN (by omega)]
  exact er (j - 1) _ (by omega) ⟨k+1,by omega,rfl,by rw [h2];exact LI hx⟩
 .have:k=l.length:=by omega
  subst this
  rw [bB,Q5]
  unfold DO
  exact Ok.some (by rw [h2];simp)
theorem Qhk {d:Nat} {l:List (List Pk)} (h:LL l):S7 (d+3) l=some l:=by
 obtain ⟨hl,hr⟩:=h
 rw [e30,nn,Q4,Q4,Q3,show (Nat.ble l.length l.length&&Nat.ble (l.length*24) Q7)=true by rw [Z8,Nat.ble_eq,Nat.ble_eq];unfold Q7;omega,Q4]
 refine Ok.val (mo (fun j (s:Int×List (List Pk))=>∃ k:Nat,k+j=l.length/\s.1=(k:Int)/\s.2=l.take k++List.replicate (l.length - k) ([]:List Pk)) ?_ _ l.length _ (by rw [Q6];omega) ⟨0,by omega,rfl,by simp⟩)
 rintro j ⟨n,r⟩ ag ⟨k,hk,h1,h2⟩ er
 simp only at h1 h2
 subst h1
 have ku:r.length=l.length:=by rw [h2];simp;omega
 simp only [DR]
 rcases Nat.lt_or_ge k l.length with au | s_
 .have hx:=Z6 au
  rw [bW hx,Q4,nn,Q4,Q3,hx,Q8,Qk3 (hr _ (List.getElem_mem au)),Q8,Q4,Qo (by omega),Q4,Z6 (show k < r.length by omega),Q8,aN (by omega)]
  exact er (j - 1) _ (by omega) ⟨k+1,by omega,rfl,by rw [h2];exact LI hx⟩
 .have:k=l.length:=by omega
  subst this
  rw [bB,Q5]
  unfold DQ
  exact Ok.some (by rw [h2];simp)
theorem Qwr {d:Nat} {r:Rg} (h:LM r):g8 (d+4) r=some r:=by
 obtain ⟨h1,h2,h3,h4⟩:=h
 rw [e8,Qn5 h1,Q8,show d+3=d+1+2 by omega,Qn8 h2 h3,Q8,show d+1+2=d+3 by omega,Qhk h4,Q8]
theorem Qk4 {d:Nat} {l:List Pk} (hl:l.length<=2000000):Un (d+2) l l=some true:=by
 rw [e80,bne_self_eq_false,Q5]
 refine (Qc (fun (t:Bool) (i:Int)=>(t,i)) l (fun x i t k=>k t) (DX (d+1)) ?_ ?_ (by rw [Q6];omega) false).trans ?_
 .intro ag t i x hx;have hi:=(Z0 hx).1;simp only [ze,bW hx,nn,Q3,hx,Q8,Q4]
  rw [Um]
  simp only [bne_self_eq_false,Q5,Zl,Q8]
  rw [aN (by omega)]
 .intro ag t;simp only [ze,bB,Q5]
 .rw [wS (f:=fun _ _ t=>t)];rfl
theorem Qhl {d:Nat} {l:List (List Pk)} (h:LL l):Uo (d+3) l l=some true:=by
 obtain ⟨hl,hr⟩:=h
 rw [e36,bne_self_eq_false,Q5]
 refine (Qc (fun (t:Bool) (i:Int)=>(t,i)) l (fun x i t k=>k t) (DY (d+2)) ?_ ?_ (by rw [Q6];omega) false).trans ?_
 .intro ag t i x hx;have hi:=(Z0 hx).1;simp only [zg,bW hx,nn,Q3,hx,Q8,Q4]
  have:=hr _ (Zc hx)
  rw [Qk4 (by omega),Q8,Zl,Q5,aN (by omega)]
 .intro ag t;simp only [zg,bB,Q5]
 .rw [wS (f:=fun _ _ t=>t)];rfl
theorem YZ {d:Nat} {r:Rg} (h:LM r):g10 (d+4) r r=some true:=by
 obtain ⟨h1,h2,h3,h4⟩:=h
 rw [e10,Qn4 h1,Q8,Zl,Q5,show d+3=d+1+2 by omega,Qn7 (by omega) (by omega),Q8,Zl,Q5,show d+1+2=d+3 by omega,Qhl h4,Q8,Zl,Q5,bne_self_eq_false,Q5,bne_self_eq_false,Q5]
theorem Qsy {d:Nat} {rows:List (List Pk)} (hl:rows.length<=1000) (hs:rows.flatten.length<=100000):GB (d+2) rows=some rows.flatten:=by
 rw [Ud]
 have lp1:∀ (m k fuel:Nat),k+m=rows.length->m < fuel->Q9 (me d rows (yR d)) fuel ((rows.take k).flatten,((k:Nat):Int))=some rows.flatten:=by
  intro m
  induction m with
  | zero =>
   intro k fuel e h
   obtain ⟨g,rfl⟩:∃ g,fuel=g+1:=⟨fuel - 1,by omega⟩
   obtain rfl:k=rows.length:=by omega
   simp only [Q9,me,bB,Q5]
   rw [List.take_length];rfl
  | succ m ih =>
   intro k fuel e h
   obtain ⟨g,rfl⟩:∃ g,fuel=g+1:=⟨fuel - 1,by omega⟩
   have hk:k < rows.length:=by omega
   have hx:=Z6 hk
   have h2:=Vn (rows:=rows) (k+1)
   rw [Je hx,Zf] at h2
   simp only [Q9,me,bW hx,nn,Q3,hx,Q8,Q4]
   rw [room (by omega),Q4,aN (by omega),<- Je hx]
   exact ih (k+1) g (by omega) (by omega)
 have lp2:∀ (m k fuel:Nat),k+m=rows.length->m < fuel->Q9 (iQ d rows (yS d)) fuel ((rows.take k).flatten,((k:Nat):Int))=some rows.flatten:=by
  intro m
  induction m with
  | zero =>
   intro k fuel e h
   obtain ⟨g,rfl⟩:∃ g,fuel=g+1:=⟨fuel - 1,by omega⟩
   obtain rfl:k=rows.length:=by omega
   simp only [Q9,iQ,bB,Q5]
   rw [List.take_length];rfl
  | succ m ih =>
   intro k fuel e h
   obtain ⟨g,rfl⟩:∃ g,fuel=g+1:=⟨fuel - 1,by omega⟩
   have hk:k < rows.length:=by omega
   have hx:=Z6 hk
   have h2:=Vn (rows:=rows) (k+1)
   rw [Je hx,Zf] at h2
   simp only [Q9,iQ,bW hx,nn,Q3,hx,Q8,Q4]
   rw [room (by omega),Q4,aN (by omega),<- Je hx]
   exact ih (k+1) g (by omega) (by omega)
 have lp0:∀ (m k fuel:Nat),k+m=rows.length->m < fuel->Q9 (mh d rows (mg d rows)) fuel ((((rows.take k).flatten.length:Nat):Int),((k:Nat):Int))=mg d rows ((rows.flatten.length:Nat):Int):=by
  intro m
  induction m with
  | zero =>
   intro k fuel e h
   obtain ⟨g,rfl⟩:∃ g,fuel=g+1:=⟨fuel - 1,by omega⟩
   obtain rfl:k=rows.length:=by omega
   simp only [Q9,mh,bB,Q5]
   rw [List.take_length]
  | succ m ih =>
   intro k fuel e h
   obtain ⟨g,rfl⟩:∃ g,fuel=g+1:=⟨fuel - 1,by omega⟩
   have hk:k < rows.length:=by omega
   have hx:=Z6 hk
   have h2:=Vn (rows:=rows) (k+1)
   have h3:=Je hx
   have h4:(rows.take (k+1)).flatten.length=(rows.take k).flatten.length+(rows[k]).length:=by rw [h3,Zf]
   simp only [Q9,mh,bW hx,nn,Q3,hx,Q8,Q4]
   rw [wr (n:=(((rows.take k).flatten.length:Nat):Int)+(((rows[k]).length:Nat):Int)) (by omega) (by omega),Z4 (by omega),Q5,aN (by omega),show (((rows.take k).flatten.length:Nat):Int)+(((rows[k]).length:Nat):Int)=(((rows.take (k+1)).flatten.length:Nat):Int) by omega]
   exact ih (k+1) g (by omega) (by omega)
 refine (lp0 rows.length 0 Qd (by omega) (by rw [Q6];omega)).trans ?_
 unfold mg
 have e0:IntKind.i64.wrap ((0:Int) - ((0:Nat):Int))=0:=by rw [wr (by omega) (by omega)];rfl
 rw [Z4 (by omega),Q5,e0,Int.sub_zero,wr (by omega) (by omega)]
 by_cases h:rows.flatten.length=0
 .rw [Z4 (by omega),Q5]
  exact lp2 rows.length 0 Qd (by omega) (by rw [Q6];omega)
 .rw [Z5 (by omega),Q4,show Nat.ble 0 0=true from rfl,Q4,nn,Zg,Z5 (by unfold Q7;omega),Q4,Q3,List.length_replicate,show Nat.ble (rows.flatten.length*48) Q7=true by rw [Nat.ble_eq];unfold Q7;omega,Q4]
  rw [show decide (0<=((0:Nat):Int))=true from rfl,Q4,show (((0:Nat):Int)).toNat=0 from rfl,show Nat.ble 0 rows.flatten.length=true by rw [Nat.ble_eq];omega,Q4,List.take_zero]
  exact lp1 rows.length 0 Qd (by omega) (by rw [Q6];omega)
def LN (f:dV) (p:Pk):Bool:=(IntKind.i64.wrap ((BitVec.ofInt IntKind.i64.bits (([p.2.1,p.2.2.1,p.2.2.2.1,p.2.2.2.2.1]:List Int).getD f.2.1.toNat 0) &&& BitVec.ofInt IntKind.i64.bits f.2.2.1).toNat:Int))==f.2.2.2.1
theorem Qws {d:Nat} {f:dV} {p:Pk} (h:0<=f.2.1/\f.2.1<=3):Gv (d+2) f p=some (LN f p):=by
 rw [T8,Lc,Q8,Z5 h.1,Q4,nA (l:=[p.2.1,p.2.2.1,p.2.2.2.1,p.2.2.2.2.1]) (z:=0) (by simp only [Z9,Zb];omega),Q8]
 rfl
theorem Qpo {d:Nat} {f:dV} {p:Pk} (h:0<=f.2.1/\f.2.1<=3):FJ (d+2) f p=some (LN f p):=by
 have h4:f.2.1.toNat < ([p.2.1,p.2.2.1,p.2.2.2.1,p.2.2.2.2.1]:List Int).length:=by simp only [Z9,Zb];omega
 rw [SQ,SP,Z5 h.1,Q4,Qo h4,Q4,nA (l:=[p.2.1,p.2.2.1,p.2.2.2.1,p.2.2.2.2.1]) (z:=0) h4,Q8,Q8]
 rfl
structure Lr (x:Ld):Prop where
 fo:∀ f∈x.2.2.2.2.2.2.1,0<=f.2.1/\f.2.1<=3
 tl:x.2.2.2.2.2.2.2.1.length=x.2.2.2.2.2.2.1.length
 f16:x.2.2.2.2.2.2.1.length<=16
 ai:∀ c∈x.2.1,c.2.2.2.2.2.2.2<=60
 rat:∀ c∈x.2.1,1<=c.2.2.1/\c.2.2.1<=100000/\1<=c.2.2.2.1/\c.2.2.2.1<=100000
 l0:∀ c∈x.2.1,0<=c.2.2.2.2.2.2.2
 bul:∀ c∈x.2.1,1500<=c.2.2.2.2.1/\1500<=c.2.2.2.2.2.1/\0<=c.2.2.2.2.2.2.1/\c.2.2.2.2.2.2.1<=7
theorem IE {x:Ld} (h:eR x=true):Lr x:=by
 unfold eR Dt at h
 simp only [Z8,Zj] at h
 obtain ⟨hz,hg,s1,s2,s3,s4,s5,s6,s7⟩:=h
 have G:=rI hg
 have hc:=G.cl
 unfold kR at hc
 simp only [Z8] at hc
 obtain ⟨_,_,_,_,_,h6,h7,h8,h9⟩:=hc
 have hm:∀ c∈x.2.1,c∈(eK x).2.1:=fun c hc=>AQ.mem_iff.2 hc
 refine ⟨fun f hf=>?_,?_,hz.2,fun c hc=>?_,fun c hc=>?_,fun c hc=>?_,fun c hc=>?_⟩
 .have:=(G.Lu f hf).2.2
  unfold zK at this
  simp only [Z8,Zj] at this
  omega
 .rw [s6]
  show (x.2.2.2.2.2.2.1.map _).length=_
  rw [List.length_map]
 .have:=Z3 h9 c (hm c hc)
  unfold nQ at this
  split at this
  .simp only [Zj] at this;omega
  .simp only [beq_iff_eq] at this;omega
 .have:=Z3 h6 c (hm c hc)
  unfold mw at this
  simp only [Zj] at this
  omega
 .have:=Z3 h9 c (hm c hc)
  unfold nQ at this
  split at this
  .simp only [Zj] at this;omega
  .simp only [beq_iff_eq] at this;omega
 .have:=Z3 h8 c (hm c hc)
  unfold mU at this
  simp only [Zj] at this
  omega
def uY (fs:List dV) (p:Pk):Int:=fh (fun f=>LN f p) fs 0
theorem Qf4 {d:Nat} {fs:List dV} {p:Pk} (hl:fs.length<=1000) (h:∀ f∈fs,0<=f.2.1/\f.2.1<=3):Gx (d+3) fs p=some (uY fs p):=by
 rw [T9]
 refine (Qc (fun (t:Int) (i:Int)=>(t,i)) fs (fun f i t k=>aa (LN f p) (some ((i:Nat):Int)) (k t)) (fun _=>some (-1)) ?_ ?_ (by rw [Q6];omega) 0).trans (DZ fs 0 _)
 .intro ag t i f hx
  have hi:=(Z0 hx).1
  simp only [qA,bW hx,nn,Q3,hx,Q8,Q4]
  rw [Qws (h f (Zc hx)),Q8,aN (by omega)]
 .intro ag t;simp only [qA,bB,Q5];rfl
theorem Qpp {d:Nat} {fs:List dV} {p:Pk} (hl:fs.length<=1000) (h:∀ f∈fs,0<=f.2.1/\f.2.1<=3):SS (d+3) fs p=some (uY fs p):=by
 rw [e94]
 refine (Qc (fun (t:Int) (i:Int)=>(t,i)) fs (fun f i t k=>aa (LN f p) (some ((i:Nat):Int)) (k t)) (fun _=>some (-1)) ?_ ?_ (by rw [Q6];omega) 0).trans (DZ fs 0 _)
 .intro ag t i f hx
  have hi:=(Z0 hx).1
  simp only [xE,bW hx,nn,Q3,hx,Q8,Q4]
  rw [Qpo (h f (Zc hx)),Q8,aN (by omega)]
 .intro ag t;simp only [xE,bB,Q5];rfl
def cE (x:Ld) (p:Pk):Int:=if uY x.2.2.2.2.2.2.1 p>=0 then x.2.2.2.2.2.2.2.1.getD (uY x.2.2.2.2.2.2.1 p).toNat 0 else x.2.2.2.2.2.2.2.2
theorem Vo {fs:List dV} {p:Pk} (h:0<=uY fs p):uY fs p < ((fs.length:Nat):Int):=by
 obtain ⟨j,y,h1,h2,h3,_⟩:=I1 h
 have:=(Z0 h2).1
 unfold uY at *
 omega
theorem YM {d:Nat} {x:Ld} {p:Pk} (R:Lr x):Cc (d+4) x p=some (cE x p):=by
 have Fs:=R.f16
 rw [T_,Qf4 (by omega) R.fo,Q8]
 unfold cE
 by_cases h:uY x.2.2.2.2.2.2.1 p>=0
 .have:=Vo h
  have:=R.tl
  rw [Z5 h,Q4,Q4,nA (l:=x.2.2.2.2.2.2.2.1) (z:=0) (by omega),Q8,if_pos h]
 .rw [Z4 h,Q5,if_neg h]
theorem YQ {d:Nat} {x:Ld} {p:Pk} (R:Lr x):OA (d+4) x p=some (cE x p):=by
 have Fs:=R.f16
 rw [e57,Qpp (by omega) R.fo,Q8]
 unfold cE
 by_cases h:uY x.2.2.2.2.2.2.1 p>=0
 .have:=Vo h
  have:=R.tl
  rw [Z5 h,Q4,Q4,nA (l:=x.2.2.2.2.2.2.2.1) (z:=0) (by omega),Q8,if_pos h]
 .rw [Z4 h,Q5,if_neg h]
def mO (x:Ld) (w:Int):Int:=(aU x.2.1 w).2.2.2.2.2.2.2
def zQ (x:Ld) (w:Int) (row:List Pk):Bool := !decide (((row.length:Nat):Int) > mO x w)&&row.all (fun p=>j9 p&&(cE x p==w))
def O5 (r:Rg):Bool:=decide (r.2.2.1.length=(bU r.1.2.2.2.1).length)&&(decide (-1<=r.2.2.2.1/\r.2.2.2.1 < (((bU r.1.2.2.2.1).length:Nat):Int))&&decide (0<=r.2.2.2.2/\r.2.2.2.2<=1000000))
def jV (r:Rg):Bool:=eR r.1&&(A_ r.1 r.2.1&&(O5 r&&(eG (fun w i=>zQ r.1 w (r.2.2.1.getD i [])) (bU r.1.2.2.2.1) 0&&LK r.2.2.1.flatten)))
theorem Fm {F:List Int} {w:Int} (h:w∈bU F):0<=w/\w < ((F.length:Nat):Int):=by
 obtain ⟨j,x,h1,h2,h3⟩:=Uz _ _ h
 have:=(Z0 h1).1
 omega
theorem Vp {l:List (List Pk)} {i:Nat} (h:i < l.length):l[i]? = some (l.getD i []):=by
 rw [Zr,Z6 h];rfl
theorem Qps {x:Ld} {rows:List (List Pk)} {W:List Int} (R:Lr x) (hW:∀ w∈W,vI x.2.1 w) (hl:rows.length=W.length) (h:eG (fun w i=>zQ x w (rows.getD i [])) W 0=true):(∀ row∈rows,row.length<=60)/\∀ row∈rows,∀ p∈row,j9 p=true:=by
 rw [sj] at h
 have key:∀ row∈rows,row.length<=60/\∀ p∈row,j9 p=true:=by
  intro row hr
  obtain ⟨i,hi⟩:=List.getElem?_of_mem hr
  have au:=(Z0 hi).1
  have hw:=Z6 (l:=W) (i:=i) (by omega)
  have:=h i _ hw
  rw [Zo,Zr,hi] at this
  unfold zQ mO at this
  simp only [Option.getD_some,Z8,Bool.not_eq_true',decide_eq_false_iff_not,List.all_eq_true] at this
  have hv:=hW _ (Zc hw)
  have IJ:=R.ai _ (Zc (fA hv))
  exact ⟨by omega,fun p hp=>(this.2 p hp).1⟩
 exact ⟨fun row hr=>(key row hr).1,fun row hr=>(key row hr).2⟩
theorem O6 {B:Nat}:∀ {rows:List (List Pk)},(∀ row∈rows,row.length<=B)->rows.flatten.length<=rows.length*B
 | [],_=>by simp
 | r::rows,h=>by
  have:=O6 (B:=B) (rows:=rows) fun row hr=>h row (by simp [hr])
  have:=h r (by simp)
  rw [Ze,Zf,Z9,Nat.add_mul,Nat.one_mul]
  omega
theorem YR {d:Nat} {r:Rg} (h:wT r.1):OF (d+28) r=some (jV r):=by
 rw [e70,Qn0 h,Q8]
 unfold jV O5 yY
 cases hg:eR r.1 with
 | false=>rfl
 | true =>
  have L:=vK hg
  have R:=IE hg
  have iE:=L.fF
  have hf:=L.fl
  have hv:=AU (F:=r.1.2.2.2.1)
  rw [Zl,Q5,show d+27=d+26+1 by omega,Qf3 (by omega),Q8,Zg]
  cases hb:A_ r.1 r.2.1 with
  | false=>rfl
  | true =>
   rw [Zl,Q5,Kz (by omega) hf,Q8,Zg]
   unfold kG
   by_cases a:r.2.2.1.length=(bU r.1.2.2.2.1).length
   case neg=>rw [show ((((r.2.2.1.length:Nat):Int)) != (((bU r.1.2.2.2.1).length:Nat):Int))=true by simp;omega,Q4,Q4,Z4 a];rfl
   rw [show ((((r.2.2.1.length:Nat):Int)) != (((bU r.1.2.2.2.1).length:Nat):Int))=false by simp;omega,Q5,Z5 a,Zg]
   by_cases a1:r.2.2.2.1 < -1
   .rw [Z5 a1,Q4,Q4,Z4 (show ¬ (-1<=r.2.2.2.1/\r.2.2.2.1 < (((bU r.1.2.2.2.1).length:Nat):Int)) by omega)];rfl
   rw [Z4 a1,Q5]
   by_cases a2:r.2.2.2.1>=(((bU r.1.2.2.2.1).length:Nat):Int)
   .rw [Z5 a2,Q4,Q4,Z4 (show ¬ (-1<=r.2.2.2.1/\r.2.2.2.1 < (((bU r.1.2.2.2.1).length:Nat):Int)) by omega)];rfl
   rw [Z4 a2,Q5,Z5 (show -1<=r.2.2.2.1/\r.2.2.2.1 < (((bU r.1.2.2.2.1).length:Nat):Int) by omega),Zg]
   by_cases a3:r.2.2.2.2 < 0
   .rw [Z5 a3,Q4,Q4,Z4 (show ¬ (0<=r.2.2.2.2/\r.2.2.2.2<=1000000) by omega)];rfl
   rw [Z4 a3,Q5]
   by_cases a4:r.2.2.2.2 > 1000000
   .rw [Z5 a4,Q4,Z4 (show ¬ (0<=r.2.2.2.2/\r.2.2.2.2<=1000000) by omega)];rfl
   rw [Z4 a4,Q5,Z5 (show 0<=r.2.2.2.2/\r.2.2.2.2<=1000000 by omega),Zg]
   have hW:∀ w∈bU r.1.2.2.2.1,vI r.1.2.1 w:=fun w hw=>by obtain ⟨q1,q2⟩:=Fm hw;exact ⟨q1,by omega⟩
   refine (Qc (fun (b:Bool) (i:Int)=>(b,i)) (bU r.1.2.2.2.1) (fun w i b k=>aa (zQ r.1 w (r.2.2.1.getD i [])) (k b) (some false)) (fun b=>yT (d+26+1) r b) ?_ ?_ (by rw [Q6];omega) false).trans ?_
   .intro ag b i w hx
    have hi:=(Z0 hx).1
    have gQ:=hW w (Zc hx)
    have IJ:=R.ai _ (Zc (fA gQ))
    simp only [yW,bW hx,nn,Q3,hx,Q8,Q4,tj hx]
    rw [Vp (l:=r.2.2.1) (by omega)]
    simp only [Q8]
    rw [Z5 gQ.1,Q4,fA gQ,Q8]
    unfold zQ mO
    by_cases b1:((((r.2.2.1.getD i []).length:Nat):Int)) > (aU r.1.2.1 w).2.2.2.2.2.2.2
    .rw [Z5 b1,Q4,Zl,Bool.false_and,Q5]
    .rw [Z4 b1,Q5,Bool.not_false,Zg]
     refine (Qc (fun (b:Bool) (j:Int)=>(b,j)) (r.2.2.1.getD i []) (fun p _ b k=>aa (j9 p&&(cE r.1 p==w)) (k b) (some false)) (fun b=>ag (b,((i+1:Nat):Int))) ?_ ?_ (by rw [Q6];omega) b).trans ?_
     .intro Vq b' j p hp
      have hj:=(Z0 hp).1
      simp only [yU,bW hp,nn,Q3,hp,Q8,Q4]
      rw [show d+26+1=d+25+2 by omega,Qde,Q8,show d+25+2=d+23+4 by omega,YM R,Q8,aN (by omega)]
      cases j9 p with
      | false=>rfl
      | true =>
       rw [Zl,Q5,Zg]
       by_cases e:cE r.1 p=w
       .rw [show (cE r.1 p != w)=false by rw [e];exact bne_self_eq_false _,Q5,show (cE r.1 p==w)=true from beq_iff_eq.2 e,Q4]
       .rw [show (cE r.1 p != w)=true from bne_iff_ne.2 e,Q4,show (cE r.1 p==w)=false from beq_eq_false_iff_ne.2 e,Q5]
     .intro Vq b'
      simp only [yU,bB,Q5]
      unfold DT
      rw [aN (by omega)]
     .rw [Ce (p:=fun p=>j9 p&&(cE r.1 p==w))]
   .intro ag t;simp only [yW,bB,Q5]
   .rw [qG]
    cases hk:eG (fun w i=>zQ r.1 w (r.2.2.1.getD i [])) (bU r.1.2.2.2.1) 0 with
    | false=>rfl
    | true =>
     obtain ⟨r1,r2⟩:=Qps R hW a hk
     have:=O6 r1
     rw [Q4,Zg]
     unfold yT
     rw [show d+26+1=d+25+2 by omega,Qsy (by omega) (by omega),Q8,show d+25+2=d+22+5 by omega,Qnc (by omega),Q8]
def uZ {α τ:Type} (p:α->Nat->τ->Bool) (f:α->Nat->τ->τ):List α->Nat->τ->Bool
 | [],_,_=>true
 | x::r,i,t=>p x i t&&uZ p f r (i+1) (f x i t)
theorem Vr {α τ β:Type} {p:α->Nat->τ->Bool} {f:α->Nat->τ->τ} {step:α->Nat->τ->(τ->Option β)->Option β} {no:Option β} {fin:τ->Option β} (I:Nat->τ->Prop):∀ (l:List α) (i:Nat) (t:τ),I i t->(∀ j x t k,l[j]? = some x->I (i+j) t->step x (i+j) t k=aa (p x (i+j) t) (k (f x (i+j) t)) no/\(p x (i+j) t=true->I (i+j+1) (f x (i+j) t)))->ef step fin l i t=aa (uZ p f l i t) (fin (cF f l i t)) no
 | [],i,t,_,_=>rfl
 | x::r,i,t,hI,h=>by
  simp only [ef,cF,uZ]
  obtain ⟨h1,h2⟩:=h 0 x t (fun t'=>ef step fin r (i+1) t') rfl hI
  rw [Nat.add_zero] at h1 h2
  rw [h1]
  cases hp:p x i t with
  | false=>rfl
  | true =>
   rw [Q4,Zg]
   exact Vr I r (i+1) _ (h2 hp) (fun j y t k hy ht=>by
    have:=h (j+1) y t k (by simpa using hy)
    rw [show i+(j+1)=i+1+j by omega] at this
    exact this ht)
abbrev Bs:=Bool×List Int
def Jf (x:Ld) (w:Int) (p:Pk) (_:Nat) (t:Bs):Bool:=j9 p&&((cE x p==w) && !(t.2.any fun z=>z==p.1))
def Ef (p:Pk) (_:Nat) (t:Bs):Bs:=(t.1,t.2++[p.1])
def Jg (x:Ld) (W:List Int) (row:List Pk) (i:Nat) (t:Bs):Bool := !decide (((row.length:Nat):Int) > mO x (W.getD i 0))&&uZ (Jf x (W.getD i 0)) Ef row 0 t
def Bb (row:List Pk) (_:Nat) (t:Bs):Bs:=(t.1,t.2++row.map fun p=>p.1)
theorem Qlw:∀ (row:List Pk) (i:Nat) (t:Bs),cF Ef row i t=Bb row 0 t
 | [],i,t=>by simp [cF,Bb]
 | p::r,i,t=>by
  simp only [cF]
  rw [Qlw r (i+1)]
  simp [Bb,Ef]
theorem Qv6 {x:Ld} {w:Int}:∀ (row:List Pk) (i:Nat) (t:Bs),uZ (Jf x w) Ef row i t=true↔(∀ p∈row,j9 p=true/\cE x p=w)/\(∀ p∈row,p.1∉t.2)/\(row.map fun p=>p.1).Nodup
 | [],i,t=>by simp [uZ]
 | p::r,i,t=>by
  simp only [uZ,Z8,Qv6 r (i+1),Jf,Ef,beq_iff_eq,Bool.not_eq_true',List.any_eq_false,List.mem_cons,forall_eq_or_imp,List.map_cons,List.nodup_cons,Zh,List.mem_singleton]
  constructor
  .rintro ⟨⟨a1,a2,a3⟩,b1,b2,b3⟩
   refine ⟨⟨⟨a1,a2⟩,b1⟩,⟨fun hm=>a3 _ hm rfl,fun q hq hm=>b2 q hq (Or.inl hm)⟩,fun hm=>?_,b3⟩
   obtain ⟨q,hq,e⟩:=List.mem_map.1 hm
   exact b2 q hq (Or.inr (Or.inl e))
  .rintro ⟨⟨⟨a1,a2⟩,b1⟩,⟨c1,c2⟩,n1,n2⟩
   refine ⟨⟨a1,a2,fun z hz e=>c1 (e▸hz)⟩,b1,fun q hq hm=>?_,n2⟩
   rcases hm with hm | hm | hm
   .exact c2 q hq hm
   .exact n1 (List.mem_map.2 ⟨q,hq,hm⟩)
   .simp at hm
theorem Qv7 {x:Ld} {W:List Int}:∀ (rows:List (List Pk)) (i:Nat) (t:Bs),uZ (Jg x W) Bb rows i t=true↔(∀ j row,rows[j]? = some row->zQ x (W.getD (i+j) 0) row=true)/\(∀ p∈rows.flatten,p.1∉t.2)/\(rows.flatten.map fun p=>p.1).Nodup
 | [],i,t=>by simp [uZ]
 | row::rows,i,t=>by
  simp only [uZ,Z8,Qv7 rows (i+1),Jg,Qv6,Bb,Ze,Zh,List.map_append,Zn]
  have cx:zQ x (W.getD i 0) row=true↔(!decide (((row.length:Nat):Int) > mO x (W.getD i 0)))=true/\∀ p∈row,j9 p=true/\cE x p=W.getD i 0:=by
   unfold zQ
   simp only [Z8,List.all_eq_true,beq_iff_eq]
  constructor
  .rintro ⟨⟨a1,a2,a3,a4⟩,b1,b2,b3⟩
   refine ⟨fun j r hj=>?_,fun p hp hm=>?_,a4,b3,fun y hy z hz e=>?_⟩
   .cases j with
    | zero=>simp only [List.getElem?_cons_zero,Option.some.injEq] at hj;subst hj;exact cx.2 ⟨a1,a2⟩
    | succ j=>have:=b1 j r (by simpa using hj);rw [show i+(j+1)=i+1+j by omega];exact this
   .rcases hp with hp | hp
    .exact a3 p hp hm
    .exact b2 p hp (Or.inl hm)
   .obtain ⟨q,hq,rfl⟩:=List.mem_map.1 hz
    exact b2 q hq (Or.inr (e▸hy))
  .rintro ⟨h1,h2,n1,n2,n3⟩
   obtain ⟨a1,a2⟩:=cx.1 (h1 0 row rfl)
   refine ⟨⟨a1,a2,fun p hp=>h2 p (Or.inl hp),n1⟩,fun j r hj=>?_,fun p hp hm=>?_,n2⟩
   .have:=h1 (j+1) r (by simpa using hj);rw [show i+(j+1)=i+1+j by omega] at this;exact this
   .rcases hm with hm | hm
    .exact h2 p (Or.inr hp) hm
    .exact n3 _ hm _ (List.mem_map.2 ⟨p,hp,rfl⟩) rfl
theorem Qwt {x:Ld} {rows:List (List Pk)} {W:List Int} (hl:rows.length=W.length):uZ (Jg x W) Bb rows 0 (false,[])=(eG (fun w i=>zQ x w (rows.getD i [])) W 0&&LK rows.flatten):=by
 rw [Bool.eq_iff_iff,Qv7,Z8,sj,Qzj]
 constructor
 .rintro ⟨h1,_,h3⟩
  refine ⟨fun j w hw=>?_,fun p hp=>?_,h3⟩
  .have hj:=(Z0 hw).1
   have:=h1 j _ (Vp (l:=rows) (i:=j) (by omega))
   rw [Zo] at this ⊢
   rw [Zr (l:=W),hw] at this
   exact this
  .obtain ⟨row,hr,hp⟩:=List.mem_flatten.1 hp
   obtain ⟨j,hj⟩:=List.getElem?_of_mem hr
   have:=h1 j _ hj
   unfold zQ at this
   simp only [Z8,List.all_eq_true] at this
   exact (this.2 p hp).1
 .rintro ⟨h1,h2,h3⟩
  refine ⟨fun j row hj=>?_,fun p _ hm=>by simp at hm,h3⟩
  have au:=(Z0 hj).1
  have:=h1 j _ (nA (l:=W) (i:=j) (z:=0) (by omega))
  rw [Zo] at this ⊢
  rw [Zr (l:=rows),hj] at this
  exact this
theorem Qsz {d:Nat} {l:List Int} {n:Int} (hl:l.length < 4194304):OB (d+1) l n=some (l.any fun x=>x==n):=by
 rw [e58]
 refine (Qc (fun (t:Bool) (i:Int)=>(t,i)) l (fun x _ t k=>aa (x==n) (some true) (k t)) (fun _=>some false) ?_ ?_ (by rw [Q6];exact hl) false).trans ?_
 .intro ag t i x hx;have hi:=(Z0 hx).1;simp only [xG,bW hx,nn,Q3,hx,Q8,Q4];rw [aN (by omega)]
 .intro ag t;simp only [xG,bB,Q5];rfl
 .exact OO l 0 false
theorem Vs {d:Nat} {r:Rg} (R:Lr r.1) {W:List Int} {w:Int} {i:Nat} (hw:W[i]? = some w) (hW:W.length<=1000) {row:List Pk} {k:Bs->Option Bool} (t:Bs) (ht:t.2.length<=10000) (hr:row.length<=60) :
  Q9 (nG (d+4) r W (i:Int) row (fun b _ l=>k (b,l))) Qd (t.1,t.2,0)=aa (uZ (Jf r.1 w) Ef row 0 t) (k (Bb row 0 t)) (some false):=by
 refine (Qc (fun (t:Bs) (i:Int)=>(t.1,t.2,i)) row (fun p _ t k=>aa (j9 p) (aa (cE r.1 p==w) (Q1 (OB (d+4) t.2 p.1) fun h=>aa h (some false) (aa (Nat.ble ((t.2.length+[p.1].length)*8) Q7) (k (t.1,t.2++[p.1])) none)) (some false)) (some false)) (fun t=>k t) ?_ ?_ (by rw [Q6];omega) t).trans ?_
 .intro Vq b' j p hp
  have hj:=(Z0 hp).1
  simp only [nG,bW hp,nn,Q3,hp,Q8,Q4,tj hw,hw]
  rw [show d+4=d+1+3 by omega,Qsw,Q8,show d+1+3=d+4 by omega,YQ R,Q8,aN (by omega)]
  cases j9 p with
  | false=>rfl
  | true =>
   rw [Zl,Q5,Q4]
   by_cases e:cE r.1 p=w
   .rw [show (cE r.1 p != w)=false by rw [e];exact bne_self_eq_false _,Q5,show (cE r.1 p==w)=true from beq_iff_eq.2 e,Q4]
   .rw [show (cE r.1 p != w)=true from bne_iff_ne.2 e,Q4,show (cE r.1 p==w)=false from beq_eq_false_iff_ne.2 e,Q5]
 .intro Vq b'
  simp only [nG,bB,Q5]
 .rw [Vr (p:=Jf r.1 w) (f:=Ef) (fun j t=>t.2.length<=10000+j) row 0 t (by omega) ?_,Qlw]
  intro j p t k hp hI
  have hj:=(Z0 hp).1
  rw [show d+4=d+3+1 by omega,Qsz (by omega),Q8,room (by simp;omega),Q4]
  refine ⟨?_,fun _=>by unfold Ef;simp;omega⟩
  unfold Jf
  cases j9 p with
  | false=>rfl
  | true =>
   rw [Q4,Zg]
   cases (cE r.1 p==w) with
   | false=>rfl
   | true=>rw [Q4,Zg];cases (t.2.any fun z=>z==p.1)<;>rfl
theorem Qt0 {d:Nat} {r:Rg} (h:wT r.1):g24 (d+13) r=some (jV r):=by
 rw [e24,Qst h,Q8]
 unfold jV O5
 cases hg:eR r.1 with
 | false=>rfl
 | true =>
  have L:=vK hg
  have R:=IE hg
  have iE:=L.fF
  have hf:=L.fl
  have hv:=AU (F:=r.1.2.2.2.1)
  cases hb:A_ r.1 r.2.1 with
  | false=>rfl
  | true =>
   rw [Zg,Zg,Zg,Zl,Q5,show d+12=d+10+2 by omega,IG (by omega) hf,Q8]
   unfold rQ
   by_cases a:r.2.2.1.length=(bU r.1.2.2.2.1).length
   case neg=>rw [show ((((r.2.2.1.length:Nat):Int)) != (((bU r.1.2.2.2.1).length:Nat):Int))=true by simp;omega,Q4,Q4,Z4 a];rfl
   rw [show ((((r.2.2.1.length:Nat):Int)) != (((bU r.1.2.2.2.1).length:Nat):Int))=false by simp;omega,Q5,Z5 a,Zg,show d+10+2=d+11+1 by omega,vQ,Q8,wr (by omega) (by omega)]
   by_cases a1:-1<=r.2.2.2.1/\r.2.2.2.1 < (((bU r.1.2.2.2.1).length:Nat):Int)
   case neg=>rw [Z4 (show ¬ (-1<=r.2.2.2.1/\r.2.2.2.1<=(((bU r.1.2.2.2.1).length:Nat):Int) - 1) by omega),Bool.not_false,Q4,Q4,Z4 a1];rfl
   rw [Z5 (show -1<=r.2.2.2.1/\r.2.2.2.1<=(((bU r.1.2.2.2.1).length:Nat):Int) - 1 by omega),Zl,Q5,Z5 a1,Zg,vQ,Q8]
   cases decide (0<=r.2.2.2.2/\r.2.2.2.2<=1000000) with
   | false=>rfl
   | true =>
    rw [Zl,Q5,Zg,<- Qwt a]
    have hW:∀ w∈bU r.1.2.2.2.1,vI r.1.2.1 w:=fun w hw=>by obtain ⟨q1,q2⟩:=Fm hw;exact ⟨q1,by omega⟩
    refine (Qc (fun (t:Bs) (i:Int)=>(t.1,t.2,i)) r.2.2.1 (fun row i t k=>aa (decide (((row.length:Nat):Int) > mO r.1 ((bU r.1.2.2.2.1).getD i 0))) (some false) (Q9 (nG (d+11+1) r (bU r.1.2.2.2.1) (i:Int) row (fun b _ l=>k (b,l))) Qd (t.1,t.2,0))) (fun _=>some true) ?_ ?_ (by rw [Q6];omega) (false,[])).trans ?_
    .intro ag t i row hx
     have hi:=(Z0 hx).1
     have au:i < (bU r.1.2.2.2.1).length:=by omega
     have hw:=nA (l:=bU r.1.2.2.2.1) (i:=i) (z:=0) au
     have gQ:=hW _ (Zc hw)
     simp only [xK,bW hx,nn,Q3,hx,Q8,Q4]
     rw [Qo au,Q4,hw,Q8,Z5 gQ.1,Q4,fA gQ,Q8]
     rw [show xI (d+11+1) ag (i:Int)=fun b _ l=>ag (b,l,((i+1:Nat):Int)) from by
      funext b n l
      unfold xI
      rw [aN (by omega)]]
     rfl
    .intro ag t;simp only [xK,bB,Q5];rfl
    .rw [Vr (p:=Jg r.1 (bU r.1.2.2.2.1)) (f:=Bb) (fun i t=>t.2.length<=60*i) r.2.2.1 0 (false,[]) (by simp) ?_]
     .cases uZ (Jg r.1 (bU r.1.2.2.2.1)) Bb r.2.2.1 0 (false,[])<;>rfl
     .intro j row t k hj hI
      rw [Zo] at hI ⊢
      have hi:=(Z0 hj).1
      have hw:=nA (l:=bU r.1.2.2.2.1) (i:=j) (z:=0) (by omega)
      have gQ:=hW _ (Zc hw)
      have IJ:=R.ai _ (Zc (fA gQ))
      unfold Jg
      by_cases b1:((row.length:Nat):Int) > mO r.1 ((bU r.1.2.2.2.1).getD j 0)
      .rw [Z5 b1,Q4,Zl,Bool.false_and,Q5]
       exact ⟨rfl,fun h=>absurd h (by simp)⟩
      .rw [Z4 b1,Q5,Bool.not_false,Zg]
       unfold mO at b1
       rw [show d+11+1=d+8+4 by omega,Vs R hw (by omega) t (by omega) (by omega)]
       refine ⟨rfl,fun _=>?_⟩
       unfold Bb
       simp only [Zf,List.length_map]
       omega
structure Ro (r:Rg):Prop where
 lk:Lk r.1
 lr:Lr r.1
 t1:r.2.1.1.length=r.1.2.1.length
 t2:r.2.1.2.length=r.1.2.1.length
 rl:r.2.2.1.length=(bU r.1.2.2.2.1).length
 rb:∀ row∈r.2.2.1,row.length<=60
 rp:∀ row∈r.2.2.1,∀ p∈row,j9 p=true
 la:-1<=r.2.2.2.1/\r.2.2.2.1 < (((bU r.1.2.2.2.1).length:Nat):Int)
 nw:0<=r.2.2.2.2/\r.2.2.2.2<=1000000
theorem Oh {r:Rg} (h:jV r=true):Ro r:=by
 unfold jV O5 at h
 simp only [Z8,Zj] at h
 obtain ⟨h1,h2,⟨h3,h4,h5⟩,h6,h7⟩:=h
 have L:=vK h1
 have R:=IE h1
 obtain ⟨t1,t2⟩:=Qwo h2
 have hf:=L.fl
 obtain ⟨r1,r2⟩:=Qps R (fun w hw=>by obtain ⟨q1,q2⟩:=Fm hw;exact ⟨q1,by omega⟩) h3 h6
 exact ⟨L,R,t1,t2,h3,r1,r2,h4,h5⟩
theorem Ow {r:Rg} (h:jV r=true):eR r.1=true:=by
 unfold jV at h
 simp only [Z8] at h
 exact h.1
theorem Qzk {d:Nat} {x:Ld} {id:Int} (hl:x.2.1.length<=1000):SV (d+1) x id=some (bP x.2.1 id):=by
 rw [e99]
 refine (Qc (fun (t:Int) (i:Int)=>(t,i)) x.2.1 (fun y i t k=>aa (y.1==id) (some ((i:Nat):Int)) (k t)) (fun _=>some (-1)) ?_ ?_ (by rw [Q6];omega) 0).trans (DZ x.2.1 0 _)
 .intro ag t i x hx;have hi:=(Z0 hx).1;simp only [xM,bW hx,nn,Q3,hx,Q8,Q4];rw [aN (by omega)]
 .intro ag t;simp only [xM,bB,Q5];rfl
theorem RZ {r:Rg} (O:Ro r):r.2.2.1.length<=24:=by
 have iE:=O.lk.fF
 have hf:=O.lk.fl
 have hv:=AU (F:=r.1.2.2.2.1)
 have ku:=O.rl
 omega
theorem Qt3 {d:Nat} {x:Ld} (hg:eR x=true):K5 (d+26) x=some (eK x):=by
 unfold eR at hg
 simp only [Z8,Zj] at hg
 obtain ⟨⟨h1,h2⟩,h3,h4⟩:=hg
 obtain ⟨c,hc,c1,c2,c3,c4⟩:=Qls (d:=d) (x:=x) (by omega) (by omega)
 obtain ⟨u1,u2⟩:=Qzg c1 c2 c3 c4
 rw [hc,u2 h3]
theorem Sn {x:Ld} (h:eR x=true):(eK x).2.1.length<=24/\(eK x).2.2.1.length<=16:=by
 unfold eR at h
 simp only [Z8,Zj] at h
 refine ⟨?_,h.1.2⟩
 show (Ds x.2.1).length<=24
 rw [AQ.length_eq];exact h.1.1
theorem Vt {α γ δ β:Type} {e:α->γ} {f:α->δ} {fin:List γ×List δ->Option β} {w v:Nat}:∀ (l:List α) (i:Nat) (t:List γ×List δ),(t.1.length+l.length)*w<=100000000->(t.2.length+l.length)*v<=100000000 ->
  ef (fun x _ t k=>aa (Nat.ble ((t.1.length+[e x].length)*w) Q7) (aa (Nat.ble ((t.2.length+[f x].length)*v) Q7) (k (t.1++[e x],t.2++[f x])) none) none) fin l i t=fin (t.1++l.map e,t.2++l.map f)
 | [],i,t,_,_=>by simp [ef]
 | x::r,i,t,h,h'=>by
  simp only [ef]
  rw [room (by
   have:(t.1.length+[e x].length)*w<=(t.1.length+(x::r).length)*w:=Zk w (by simp)
   omega),Q4,room (by
   have:(t.2.length+[f x].length)*v<=(t.2.length+(x::r).length)*v:=Zk v (by simp)
   omega),Q4]
  rw [Vt r (i+1) (t.1++[e x],t.2++[f x]) (by
   refine Nat.le_trans (Zk w ?_) h
   simp;omega) (by
   refine Nat.le_trans (Zk v ?_) h'
   simp;omega)]
  simp
def BK (x:Ld):Tk:=(x.2.1.map fun c=>c.2.2.2.2.1,x.2.1.map fun c=>c.2.2.2.2.2.1)
theorem Qhm {d:Nat} {x:Ld} (hl:x.2.1.length<=1000):GD (d+1) x=some (BK x):=by
 rw [Ue]
 refine (Qc (fun (t:Tk) (i:Int)=>(i,t)) x.2.1 (fun c _ t k=>aa (Nat.ble ((t.1.length+[c.2.2.2.2.1].length)*8) Q7) (aa (Nat.ble ((t.2.length+[c.2.2.2.2.2.1].length)*8) Q7) (k (t.1++[c.2.2.2.2.1],t.2++[c.2.2.2.2.2.1])) none) none) (fun t=>some t) ?_ ?_ (by rw [Q6];omega) ([],[])).trans ?_
 .intro ag t i x hx;have hi:=(Z0 hx).1;simp only [qC,bW hx,nn,Q3,hx,Q8,Q4];rw [aN (by omega)]
 .intro ag t;simp only [qC,bB,Q5];rfl
 .rw [Vt (e:=fun c:aC=>c.2.2.2.2.1) (f:=fun c:aC=>c.2.2.2.2.2.1) x.2.1 0 ([],[]) (by simp;omega) (by simp;omega)]
  rfl
theorem Qt4 {d:Nat} {x:Ld} (hl:x.2.1.length<=1000):FM (d+1) x=some (BK x):=by
 rw [SU]
 refine (Qc (fun (t:Tk) (i:Int)=>(i,t)) x.2.1 (fun c _ t k=>aa (Nat.ble ((t.1.length+[c.2.2.2.2.1].length)*8) Q7) (aa (Nat.ble ((t.2.length+[c.2.2.2.2.2.1].length)*8) Q7) (k (t.1++[c.2.2.2.2.1],t.2++[c.2.2.2.2.2.1])) none) none) (fun t=>some t) ?_ ?_ (by rw [Q6];omega) ([],[])).trans ?_
 .intro ag t i x hx;have hi:=(Z0 hx).1;simp only [pK,bW hx,nn,Q3,hx,Q8,Q4];rw [aN (by omega)]
 .intro ag t;simp only [pK,bB,Q5];rfl
 .rw [Vt (e:=fun c:aC=>c.2.2.2.2.1) (f:=fun c:aC=>c.2.2.2.2.2.1) x.2.1 0 ([],[]) (by simp;omega) (by simp;omega)]
  rfl
theorem Qv8 {x:Ld} (h:eR x=true):bT (eK x)=x:=by
 unfold eR Dt at h
 simp only [Z8,Zj,beq_iff_eq] at h
 obtain ⟨_,_,s1,s2,s3,s4,s5,s6,s7⟩:=h
 exact Prod.ext rfl (Prod.ext s1.symm (Prod.ext s2.symm (Prod.ext s3.symm (Prod.ext s4.symm (Prod.ext s5.symm (Prod.ext rfl (Prod.ext s6.symm s7.symm)))))))
theorem Od {x:Ld} (h:eR x=true):ff (eK x)=true:=by
 unfold eR at h
 simp only [Z8] at h
 exact h.2.1
theorem Qt6 {c:Cf} (G:Gd c):(bT c).2.2.2.2.1.length<=24/\(bT c).2.2.2.2.2.1.length<=24/\(bT c).2.2.2.2.2.2.2.1.length<=16:=by
 have h1:=GQ G.tr
 have h2:=G.tr.fF
 have h3:=G.f16
 refine ⟨?_,?_,?_⟩
 .show ((aG c.2.1).map (fun i=>pW c.2.1 (uV c.2.1 i))).length<=24
  rw [List.length_map];omega
 .show ((aG c.2.1).mapIdx (nR c.2.1)).length<=24
  rw [List.length_mapIdx];omega
 .show (c.2.2.1.map (fun f=>pW c.2.1 (bP c.2.1 f.2.2.2.2))).length<=16
  rw [List.length_map];omega
theorem Qwu {x:Ld} (h:eR x=true):x.2.2.2.2.1.length<=24/\x.2.2.2.2.2.1.length<=24/\x.2.2.2.2.2.2.2.1.length<=16:=by
 have:=Qt6 (rI (Od h))
 rw [Qv8 h] at this;exact this
theorem Qpv {α γ:Type} {c:α->Nat->Bool} {e:α->Nat->γ}:∀ (l:List α) (i j:Nat) (x:α),l[j]? = some x->c x (i+j)=true->e x (i+j)∈fL c e l i
 | [],i,j,x,h,_=>by simp at h
 | y::r,i,0,x,h,hc=>by
  simp only [List.getElem?_cons_zero,Option.some.injEq] at h
  subst h
  rw [Nat.add_zero] at hc ⊢
  unfold fL;rw [if_pos hc];simp
 | y::r,i,j+1,x,h,hc=>by
  have:=Qpv (c:=c) (e:=e) r (i+1) j x (by simpa using h) (by rw [show i+1+j=i+(j+1) by omega];exact hc)
  rw [show i+1+j=i+(j+1) by omega] at this
  unfold fL
  split
  .exact List.mem_cons_of_mem _ this
  .exact this
theorem Qpw {c:Cf} (G:Gd c) {id:Int} (hv:vI c.2.1 (bP c.2.1 id)) (hl:gV c.2.1 id=true):pW c.2.1 (bP c.2.1 id)∈bU (bT c).2.2.2.1:=by
 have T:=G.tr
 obtain ⟨k,h1,h2⟩:=BI T hv
 obtain ⟨_,x,e1,e2,e3⟩:=wM hv.1
 have hid:(aU c.2.1 (bP c.2.1 id)).1=id:=by rw [e1,jU e2,e3]
 have hk:cg c.2.1 (bP c.2.1 id)=[]:=by
  unfold cg nM
  rw [hid]
  have:=Lm (c:=fun x:aC=>x.2.1==id) (e:=fun _ k=>((k:Nat):Int)) c.2.1 0
  unfold gV at hl
  rw [hl] at this
  exact Z1 (by simpa using this)
 have hF:(bT c).2.2.2.1[k]? = some (-1):=by
  show ((aG c.2.1).map (fun i=>pW c.2.1 (vU c.2.1 i)))[k]? = some (-1)
  rw [List.getElem?_map,h1]
  show some (pW c.2.1 ((cg c.2.1 (bP c.2.1 id)).headD (-1)))=some (-1)
  rw [hk]
  exact congrArg some (uU T (by simp))
 rw [h2]
 have:=Qpv (c:=fun (f:Int) _=>decide (f < 0)) (e:=fun _ k=>((k:Nat):Int)) (bT c).2.2.2.1 0 k (-1) hF (by simp)
 rw [Zo] at this
 exact this
theorem Vu {c:Cf} (G:Gd c) (p:Pk):cE (bT c) p < 0\/cE (bT c) p∈bU (bT c).2.2.2.1:=by
 unfold cE
 split
 .rename_i h
  have au:=Vo h
  right
  have hm:(bT c).2.2.2.2.2.2.2.1.getD (uY (bT c).2.2.2.2.2.2.1 p).toNat 0∈(bT c).2.2.2.2.2.2.2.1:=by
   refine Zc (i:=(uY (bT c).2.2.2.2.2.2.1 p).toNat) (nA ?_)
   show _ < (c.2.2.1.map _).length
   rw [List.length_map]
   have:uY (bT c).2.2.2.2.2.2.1 p < ((c.2.2.1.length:Nat):Int):=au
   omega
  generalize (bT c).2.2.2.2.2.2.2.1.getD (uY (bT c).2.2.2.2.2.2.1 p).toNat 0=w at hm
  obtain ⟨f,hf,rfl⟩:=List.mem_map.1 (show w∈c.2.2.1.map (fun f=>pW c.2.1 (bP c.2.1 f.2.2.2.2)) from hm)
  obtain ⟨t1,t2,_⟩:=G.Lu f hf
  exact Qpw G t1 t2
 .show vH c < 0\/vH c∈_
  unfold vH
  split
  .left;omega
  .rename_i h
   obtain ⟨t1,t2⟩:=G.Kv h
   exact Or.inr (Qpw G t1 t2)
structure Pu (x:Ld) (rows:List (List Pk)):Prop where
 lk:Lk x
 lr:Lr x
 lf:∀ p,cE x p < 0\/cE x p∈bU x.2.2.2.1
 rl:rows.length=(bU x.2.2.2.1).length
 lm:∀ (k:Nat) w,(bU x.2.2.2.1)[k]? = some w->(((rows.getD k []).length:Nat):Int)<=mO x w
def mA (x:Ld) (p:Pk):Nat:=(vT (bU x.2.2.2.1) (cE x p)).toNat
def rJ (x:Ld) (rows:List (List Pk)) (p:Pk):List Pk:=rows.getD (mA x p) []
def ID (x:Ld) (rows:List (List Pk)) (p:Pk):List (List Pk):=rows.set (mA x p) (rJ x rows p++[p])
def Dv {τ:Type} (x:Ld) (rows:List (List Pk)) (p:Pk) (A:τ) (B C:aC->τ):τ:=if cE x p < 0 then A else if (((rJ x rows p).length:Nat):Int)=mO x (cE x p) then B (aU x.2.1 (cE x p)) else C (aU x.2.1 (cE x p))
theorem Qly {e:Nat->Int} (he:∀ k,e k=(k:Int)) {c:Int->Nat->Bool}:∀ (l:List Int) (i:Nat),(fL c (fun _ k=>e k) l i).Pairwise (· < ·)/\∀ x∈fL c (fun _ k=>e k) l i,((i:Nat):Int)<=x
 | [],i=>⟨List.Pairwise.nil,fun x h=>by simp [fL] at h⟩
 | y::r,i=>by
  obtain ⟨h1,h2⟩:=Qly he (c:=c) r (i+1)
  unfold fL
  split
  .refine ⟨List.Pairwise.cons (fun x hx=>?_) h1,fun x hx=>?_⟩
   .have:=h2 x hx;rw [he];omega
   .rcases Z2 hx with rfl | hx
    .rw [he];omega
    .have:=h2 x hx;omega
  .exact ⟨h1,fun x hx=>by have:=h2 x hx;omega⟩
theorem R_ {F:List Int}:(bU F).Nodup:=by
 have:=(Qly (e:=fun k=>((k:Nat):Int)) (fun _=>rfl) (c:=fun f _=>decide (f < 0)) F 0).1
 exact this.imp fun h=>by omega
structure At (x:Ld) (rows:List (List Pk)) (p:Pk):Prop where
 get:(bU x.2.2.2.1)[mA x p]? = some (cE x p)
 pos:vT (bU x.2.2.2.1) (cE x p)=((mA x p:Nat):Int)
 lt:mA x p < rows.length
 v:vI x.2.1 (cE x p)
 row:rows[mA x p]? = some (rJ x rows p)
 ai:(((rJ x rows p).length:Nat):Int)<=mO x (cE x p)
 l60:(rJ x rows p).length<=60
theorem RR {x:Ld} {rows:List (List Pk)} {p:Pk} (P:Pu x rows) (h:¬ cE x p < 0):At x rows p:=by
 have hm:=(P.lf p).resolve_left h
 obtain ⟨k,h1,h2⟩:=Qp6 R_ hm
 have hk:mA x p=k:=by unfold mA;rw [h2];rfl
 have au:=(Z0 h1).1
 have ku:=P.rl
 have hf:=P.lk.fl
 obtain ⟨v1,v2⟩:=Fm hm
 have hv:vI x.2.1 (cE x p):=⟨v1,by omega⟩
 have aH:=P.lm k _ h1
 have IJ:=P.lr.ai _ (Zc (fA hv))
 have cx:rJ x rows p=rows.getD k []:=by unfold rJ;rw [hk]
 refine ⟨by rw [hk];exact h1,by rw [hk];exact h2,by omega,hv,by rw [hk,cx];exact Vp (by omega),by rw [cx];exact aH,?_⟩
 rw [cx]
 unfold mO at aH
 omega
theorem RY {β:Type} {d:Nat} {x:Ld} {rows:List (List Pk)} {p:Pk} (P:Pu x rows) {A:Option β} {B:aC->Option β} {C:aC->List (List Pk)->Option β} :
  aa (decide (cE x p < 0)) A (aa (decide (0<=cE x p)) (aa (Nat.blt (cE x p).toNat x.2.1.length) (Q1 (x.2.1[(cE x p).toNat]?) fun y=>Q1 (nK (d+1) x) fun ls=>Q1 (ya (d+1) ls (cE x p)) fun k=>aa (decide (0<=k)) (aa (Nat.blt k.toNat rows.length) (Q1 (rows[k.toNat]?) fun row=>aa (((row.length:Nat):Int)==y.2.2.2.2.2.2.2) (B y) (aa (decide (0<=k)) (aa (Nat.blt k.toNat rows.length) (Q1 (rows[k.toNat]?) fun zS=>aa (Nat.ble ((zS.length+[p].length)*48) Q7) (aa (decide (0<=k)) (aa (Nat.blt k.toNat rows.length) (aa (Nat.beq k.toNat k.toNat) (Q1 (rows[k.toNat]?) fun _=>C y (rows.set k.toNat (zS++[p]))) none) none) none) none) none) none)) none) none) none) none)
  = Dv x rows p A B (fun y=>C y (ID x rows p)):=by
 unfold Dv
 by_cases h:cE x p < 0
 .rw [Z5 h,Q4,if_pos h]
 .have a:=RR P h
  have iE:=P.lk.fF
  have hv:=AU (F:=x.2.2.2.1)
  have hf:=P.lk.fl
  have IJ:=a.l60
  rw [Z4 h,Q5,if_neg h,Z5 a.v.1,Q4,Qo (by have:=a.v;unfold vI at this;omega),Q4,fA a.v,Q8,Kz (by omega) hf,Q8,ZT (by omega),Q8]
  have hp:fh (fun y=>y==cE x p) (bU x.2.2.2.1) 0=((mA x p:Nat):Int):=a.pos
  rw [hp]
  simp only [nn,Q3,Q4,Qo a.lt,a.row,Q8]
  rw [room (by simp;omega),Q4,show Nat.beq (mA x p) (mA x p)=true by rw [Nat.beq_eq],Q4]
  by_cases e:(((rJ x rows p).length:Nat):Int)=mO x (cE x p)
  .rw [if_pos e,show ((((rJ x rows p).length:Nat):Int)==(aU x.2.1 (cE x p)).2.2.2.2.2.2.2)=true from beq_iff_eq.2 e,Q4]
  .rw [if_neg e,show ((((rJ x rows p).length:Nat):Int)==(aU x.2.1 (cE x p)).2.2.2.2.2.2.2)=false from beq_eq_false_iff_ne.2 e,Q5]
   rfl
theorem Qzl {β:Type} {d:Nat} {x:Ld} {rows:List (List Pk)} {p:Pk} {F:(Int->Option β)->Int->Option β} {K:Int->Option β} (a:At x rows p) (h1:x.2.1.length<=1000) (hf:x.2.2.2.1.length=x.2.1.length)
  (hF:∀ ag k,F ag k=Q1 (DG (d+2) x) fun ls=>aa (decide (0<=k)) (aa (Nat.blt k.toNat ls.length) (Q1 (ls[k.toNat]?) fun w=>aa (w != cE x p) (ag (IntKind.i64.wrap (k+1))) (K k)) none) none):Q9 F Qd 0=K ((mA x p:Nat):Int):=by
 have hv:=AU (F:=x.2.2.2.1)
 have au:=(Z0 a.get).1
 have key:∀ (m k fuel:Nat),k+m=mA x p->m < fuel->Q9 F fuel ((k:Nat):Int)=K ((mA x p:Nat):Int):=by
  intro m
  induction m with
  | zero =>
   intro k fuel e h
   obtain ⟨g,rfl⟩:∃ g,fuel=g+1:=⟨fuel - 1,by omega⟩
   obtain rfl:k=mA x p:=by omega
   simp only [Q9]
   rw [hF,IG h1 hf,Q8,nn,Q4,Q3,Qo au,Q4,a.get,Q8,bne_self_eq_false,Q5]
  | succ m ih =>
   intro k fuel e h
   obtain ⟨g,rfl⟩:∃ g,fuel=g+1:=⟨fuel - 1,by omega⟩
   have hk:k < (bU x.2.2.2.1).length:=by omega
   have hx:=Z6 hk
   have aV:(bU x.2.2.2.1)[k]≠cE x p:=fun e'=>by
    have:=sk R_ hx
    rw [e',a.pos] at this
    omega
   simp only [Q9]
   rw [hF,IG h1 hf,Q8,nn,Q4,Q3,Qo hk,Q4,hx,Q8,bne_iff_ne.2 aV,Q4,aN (by omega)]
   exact ih (k+1) g (by omega) (by omega)
 exact key (mA x p) 0 Qd (by omega) (by rw [Q6];omega)
def R8 {β:Type} (rows:List (List Pk)) (p:Pk) (B:aC->Option β) (C:aC->List (List Pk)->Option β) (y:aC) (k:Int):Option β:=aa (decide (0<=k)) (aa (Nat.blt k.toNat rows.length) (Q1 (rows[k.toNat]?) fun row=>aa (decide (((row.length:Nat):Int)>=y.2.2.2.2.2.2.2)) (B y) (aa (decide (0<=k)) (aa (Nat.blt k.toNat rows.length) (Q1 (rows[k.toNat]?) fun zS=>aa (Nat.ble ((zS.length+[p].length)*48) Q7) (aa (decide (0<=k)) (aa (Nat.blt k.toNat rows.length) (aa (Nat.beq k.toNat k.toNat) (Q1 (rows[k.toNat]?) fun _=>C y (rows.set k.toNat (zS++[p]))) none) none) none) none) none) none)) none) none
theorem R7 {β:Type} {x:Ld} {rows:List (List Pk)} {p:Pk} (P:Pu x rows) {A:Option β} {B:aC->Option β} {C:aC->List (List Pk)->Option β} {I:aC->Option β}
  (hI:At x rows p->∀ y,I y=R8 rows p B C y ((mA x p:Nat):Int)) :
  aa (decide (cE x p < 0)) A (aa (decide (0<=cE x p)) (aa (Nat.blt (cE x p).toNat x.2.1.length) (Q1 (x.2.1[(cE x p).toNat]?) I) none) none)=Dv x rows p A B (fun y=>C y (ID x rows p)):=by
 unfold Dv
 by_cases h:cE x p < 0
 .rw [Z5 h,Q4,if_pos h]
 .have a:=RR P h
  have IJ:=a.l60
  have aH:=a.ai
  rw [Z4 h,Q5,if_neg h,Z5 a.v.1,Q4,Qo (by have:=a.v;unfold vI at this;omega),Q4,fA a.v,Q8,hI a]
  unfold R8
  simp only [nn,Q3,Q4,Qo a.lt,a.row,Q8]
  rw [room (by simp;omega),Q4,show Nat.beq (mA x p) (mA x p)=true by rw [Nat.beq_eq],Q4]
  by_cases e:(((rJ x rows p).length:Nat):Int)=mO x (cE x p)
  .rw [if_pos e,Z5 (show (((rJ x rows p).length:Nat):Int)>=(aU x.2.1 (cE x p)).2.2.2.2.2.2.2 by unfold mO at e;omega),Q4]
  .rw [if_neg e,Z4 (show ¬ (((rJ x rows p).length:Nat):Int)>=(aU x.2.1 (cE x p)).2.2.2.2.2.2.2 by unfold mO at e aH;omega),Q5]
   rfl
theorem RU {x:Ld} (h:eR x=true) (p:Pk):cE x p < 0\/cE x p∈bU x.2.2.2.1:=by
 have:=Vu (rI (Od h)) p
 rw [Qv8 h] at this;exact this
def mP (k:Nat):Pk:=((k:Int),((k+1:Nat):Int),((k+1+1:Nat):Int),((k+1+1+1:Nat):Int),((k+1+1+1+1:Nat):Int),((k+1+1+1+1+1:Nat):Int))
def mX:Nat->Nat->List Pk
 | _,0=>[]
 | k,n+1=>mP k::mX (k+1+1+1+1+1+1) n
def vX:Nat->List (List Pk)->List (List Pk)
 | _,[]=>[]
 | k,q::r=>mX k q.length::vX (k+6*q.length) r
theorem Qv9 {d:Nat}:∀ (r:List Pk) {p:List Pk} {k fuel:Nat},r.length < fuel->p.length+r.length<=2000000->k+6*r.length<=1000000000 ->
  Q9 (r_ d (zF d)) fuel ((k:Int),((p.length:Nat):Int),p++r)=some (((k+6*r.length:Nat):Int),p++mX k r.length)
 | _,p,k,0,h,_,_=>by omega
 | [],p,k,fuel+1,h,h2,h3=>by
  simp only [Q9,r_]
  rw [List.append_nil,bB,Q5]
  unfold zF
  simp [mX]
 | x::r,p,k,fuel+1,h,h2,h3=>by
  simp only [Z9] at h h2 h3
  have au:p.length < (p++x::r).length:=by simp
  have hg:(p++x::r)[p.length]? = some x:=by simp
  simp only [Q9,r_,Q3,nn,Q4]
  rw [Z5 (show ((p.length:Nat):Int) < (((p++x::r).length:Nat):Int) by omega),Q4,Qo au,Q4,hg,Q8]
  simp only [List.length_set,List.set_set,List.getElem?_set_self au,Q8,Qo au,Q4]
  rw [Fk,aN (by omega),aN (by omega),aN (by omega),aN (by omega),aN (by omega),aN (by omega),aN (by omega)]
  have:=Qv9 (d:=d) r (p:=p++[mP k]) (k:=k+1+1+1+1+1+1) (fuel:=fuel) (by omega) (by simp;omega) (by omega)
  rw [Zf,show (p++[mP k])++r=p++mP k::r by simp] at this
  simp only [Z9,Zb,mX]
  rw [show k+6*(r.length+1)=k+1+1+1+1+1+1+6*r.length by omega,show p++mP k::mX (k+1+1+1+1+1+1) r.length=(p++[mP k])++mX (k+1+1+1+1+1+1) r.length by simp]
  exact this
theorem Qva {d:Nat} {l:List Pk}:∀ (n:Nat) {p:List Pk} {k fuel:Nat},l=p++mX k n->n < fuel->p.length+n<=2000000->k+6*n<=1000000000 ->
  Q9 (rW d l (zv d)) fuel ((k:Int),0,((p.length:Nat):Int))=some ((k+6*n:Nat):Int)
 | n,p,k,0,_,h,_,_=>by omega
 | 0,p,k,fuel+1,e,h,h2,h3=>by
  simp only [mX,List.append_nil] at e
  subst e
  simp only [Q9,rW]
  rw [bB,Q5]
  unfold zv
  simp
 | n+1,p,k,fuel+1,e,h,h2,h3=>by
  have hg:l[p.length]? = some (mP k):=by rw [e];simp [mX]
  have au:=(Z0 hg).1
  simp only [Q9,rW,Q3,nn,Q4]
  rw [Z5 (show ((p.length:Nat):Int) < ((l.length:Nat):Int) by omega),Q4,hg]
  simp only [Q8]
  rw [aN (by omega),aN (by omega),aN (by omega),aN (by omega),aN (by omega),aN (by omega),aN (by omega)]
  unfold mP
  simp only [bne_self_eq_false,Q5]
  have:=Qva (d:=d) (l:=l) n (p:=p++[mP k]) (k:=k+1+1+1+1+1+1) (fuel:=fuel) (by rw [e];simp [mX]) (by omega) (by simp;omega) (by omega)
  rw [Zf] at this
  simp only [Z9,Zb] at this
  rw [show k+6*(n+1)=k+1+1+1+1+1+1+6*n by omega]
  exact this
theorem Qhn {d:Nat} {β:Type} {F:((Int×Int×List (List Pk))->Option β)->(Int×Int×List (List Pk))->Option β} {kx:Int->List (List Pk)->Option β}
  (hF:∀ ag n i rs,F ag (n,i,rs)=aa (decide (i < ((rs.length:Nat):Int))) (aa (decide (0<=i)) (aa (Nat.blt i.toNat rs.length) (Q1 (rs[i.toNat]?) fun a=>Q1 (rs[i.toNat]?) fun b=>aa (Nat.beq b.length a.length) (Q1 (Lh (d+1) a n) fun z=>ag (z.1,IntKind.i64.wrap (i+1),rs.set i.toNat z.2)) none) none) none) (kx n rs)) :
  ∀ (r:List (List Pk)) {p:List (List Pk)} {k fuel:Nat},r.length < fuel->p.length+r.length<=2000000->(∀ q∈r,q.length<=1048576)->k+6*r.flatten.length<=100000000 ->
  Q9 F fuel ((k:Int),((p.length:Nat):Int),p++r)=kx ((k+6*r.flatten.length:Nat):Int) (p++vX k r)
 | _,p,k,0,h,_,_,_=>by omega
 | [],p,k,fuel+1,h,h2,_,h3=>by
  simp only [Q9]
  rw [hF,List.append_nil,bB,Q5]
  simp [vX]
 | q::r,p,k,fuel+1,h,h2,hq,h3=>by
  simp only [Z9,Ze,Zf] at h h2 h3
  have au:p.length < (p++q::r).length:=by simp
  have hg:(p++q::r)[p.length]? = some q:=by simp
  simp only [Q9]
  rw [hF,Z5 (show ((p.length:Nat):Int) < (((p++q::r).length:Nat):Int) by omega),Q4,nn,Q4,Q3,Qo au,Q4,hg,Q8,Q8,show Nat.beq q.length q.length=true by rw [Nat.beq_eq],Q4,e83]
  have h1:=Qv9 (d:=d) q (p:=[]) (k:=k) (fuel:=Qd) (by have:=hq q (by simp);rw [Q6];omega) (by have:=hq q (by simp);simp;omega) (by omega)
  rw [List.nil_append,List.nil_append] at h1
  rw [show ((([]:List Pk).length:Nat):Int)=0 from rfl] at h1
  rw [h1,Q8]
  simp only []
  rw [Fk,aN (by omega)]
  have:=Qhn hF r (p:=p++[mX k q.length]) (k:=k+6*q.length) (fuel:=fuel) (by omega) (by simp;omega) (fun x hx=>hq x (by simp [hx])) (by omega)
  rw [Zf,show (p++[mX k q.length])++r=p++mX k q.length::r by simp] at this
  simp only [Z9,Zb,vX,Ze,Zf]
  rw [show k+6*(q.length+r.flatten.length)=k+6*q.length+6*r.flatten.length by omega,show p++mX k q.length::vX (k+6*q.length) r=(p++[mX k q.length])++vX (k+6*q.length) r by simp]
  exact this
theorem Y5 {d k:Nat} {β:Type} {F:((Int×Int×List (List Pk))->Option β)->(Int×Int×List (List Pk))->Option β} {kx:Int->List (List Pk)->Option β} {rows:List (List Pk)}
  (hF:∀ ag n i rs,F ag (n,i,rs)=aa (decide (i < ((rs.length:Nat):Int))) (aa (decide (0<=i)) (aa (Nat.blt i.toNat rs.length) (Q1 (rs[i.toNat]?) fun a=>Q1 (rs[i.toNat]?) fun b=>aa (Nat.beq b.length a.length) (Q1 (Lh (d+1) a n) fun z=>ag (z.1,IntKind.i64.wrap (i+1),rs.set i.toNat z.2)) none) none) none) (kx n rs))
  (h:LL rows) (hf:rows.flatten.length<=1048576) (hk:k<=50000000):Q9 F Qd ((k:Int),0,rows)=kx ((k+6*rows.flatten.length:Nat):Int) (vX k rows) :=
 Qhn hF rows (p:=[]) (by have:=h.1;rw [Q6];omega) (by have:=h.1;simp;omega) h.2 (by omega)
theorem Qho {d:Nat} {l:List (List Pk)}:∀ (r:List (List Pk)) {p:List (List Pk)} {k fuel:Nat},l=p++vX k r->r.length < fuel->p.length+r.length<=2000000->(∀ q∈r,q.length<=1048576)->k+6*r.flatten.length<=100000000 ->
  Q9 (rX (d+1) l (zx (d+1))) fuel ((k:Int),0,((p.length:Nat):Int))=some ((k+6*r.flatten.length:Nat):Int)
 | _,p,k,0,_,h,_,_,_=>by omega
 | [],p,k,fuel+1,e,h,h2,_,h3=>by
  simp only [vX,List.append_nil] at e
  subst e
  simp only [Q9,rX]
  rw [bB,Q5]
  unfold zx
  simp
 | q::r,p,k,fuel+1,e,h,h2,hq,h3=>by
  simp only [Z9,Ze,Zf] at h h2 h3
  have hg:l[p.length]? = some (mX k q.length):=by rw [e];simp [vX]
  have au:=(Z0 hg).1
  simp only [Q9,rX,Q3,nn,Q4]
  rw [Z5 (show ((p.length:Nat):Int) < ((l.length:Nat):Int) by omega),Q4,hg,Q8,e86]
  have h1:=Qva (d:=d) q.length (p:=[]) (k:=k) (fuel:=Qd) rfl (by have:=hq q (by simp);rw [Q6];omega) (by have:=hq q (by simp);simp;omega) (by omega)
  rw [show ((([]:List Pk).length:Nat):Int)=0 from rfl,List.nil_append] at h1
  rw [h1,Q8,Z4 (by omega),Q5,aN (by omega)]
  have:=Qho (d:=d) (l:=l) r (p:=p++[mX k q.length]) (k:=k+6*q.length) (fuel:=fuel) (by rw [e];simp [vX]) (by omega) (by simp;omega) (fun x hx=>hq x (by simp [hx])) (by omega)
  rw [Zf] at this
  simp only [Z9,Zb,Ze,Zf] at this ⊢
  rw [show k+6*(q.length+r.flatten.length)=k+6*q.length+6*r.flatten.length by omega]
  exact this
def wV (r:Rg):Prop:=A9 r.1/\(r.2.1.1.length<=1048576/\r.2.1.2.length<=1048576)/\r.2.2.1.length<=1000/\∀ q∈r.2.2.1,q.length<=1000
theorem wV.l {r:Rg} (h:wV r):LM r/\r.2.2.1.flatten.length<=1000000:=by
 obtain ⟨h1,⟨h2,h3⟩,h4,h5⟩:=h
 have:=O6 h5
 exact ⟨⟨h1,h2,h3,by omega,fun q hq=>by have:=h5 q hq;omega⟩,by omega⟩
def KF (r:Rg):Rg:=(Vl 1 r.1,mW (BO 1 r.1) r.2.1,vX (IK (BO 1 r.1) r.2.1) r.2.2.1,r.2.2.2)
def wW (r:Rg):Nat:=IK (BO 1 r.1) r.2.1+6*r.2.2.1.flatten.length
theorem Qpx {d:Nat} {r:Rg} (h:wV r):g14 (d+3) (KF r) ((1:Nat):Int)=some ((wW r:Nat):Int):=by
 obtain ⟨h1,⟨h2,h3⟩,h4,h5⟩:=h
 have hf:=O6 h5
 have hL:=Om (k:=1) h1
 rw [e14]
 unfold KF
 simp only []
 rw [Qhg h1 (by omega),Q8,Z4 (by omega),Q5,Qhh h2 h3 (by omega),Q8,Z4 (by omega),Q5,e42]
 have:=Qho (d:=d) r.2.2.1 (p:=[]) (k:=IK (BO 1 r.1) r.2.1) (fuel:=Qd) rfl (by rw [Q6];omega) (by simp;omega) (fun q hq=>by have:=h5 q hq;omega) (by unfold IK;omega)
 rw [show ((([]:List (List Pk)).length:Nat):Int)=0 from rfl,List.nil_append] at this
 rw [this,Q8,Z4 (by omega),Q5]
 rfl
end Go.Proofs.YtcoimfbmgjhcjabGreatDoor
