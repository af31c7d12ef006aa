/-
  Configurations by value. And what stood behind it in 6 texts.
  Conditions: said at the theorems.
-/
import Derived.Test.YtcoimfbmgjhcjaaGreatDoorK15
set_option linter.all false
namespace Go.Proofs.YtcoimfbmgjhcjaaGreatDoor
open Go.Ev Go.Pv
instance aad:DecidableEq (Int×Int×Int×Int):=inferInstance
theorem Quo {p:aC->Bool}:∀ {l:List aC},(∀ y∈l,p y=true)->l.takeWhile p=l
 | [],_=>rfl
 | z::l,h=>by rw [List.takeWhile_cons,if_pos (h z (by simp)),Quo (fun y hy=>h y (by simp [hy]))]
def rX (l:List aC) (x:aC):List aC:=(l.takeWhile fun y=>decide (y.1 < x.1))++x::l.dropWhile fun y=>decide (y.1 < x.1)
def Dh (l:List aC):List aC:=cD (fun x _ t=>rX t x) l 0 []
theorem Qhf {l:List aC} {x:aC}:(rX l x).Perm (x::l):=by
 unfold rX
 refine List.perm_middle.trans (List.Perm.cons x ?_)
 rw [List.takeWhile_append_dropWhile]
theorem Qsj {l:List aC} {x:aC}:(rX l x).length=l.length+1:=by rw [Qhf.length_eq];rfl
theorem Q9u {x:aC}:∀ {l:List aC},di cu l->∀ y∈l.dropWhile (fun y=>decide (y.1 < x.1)),x.1<=y.1
 | [],_,y,hy=>by simp at hy
 | z::l,h,y,hy=>by
  rw [List.dropWhile_cons] at hy
  have h':=List.pairwise_cons.1 h
  by_cases hz:z.1 < x.1
  .rw [if_pos (by simpa using hz)] at hy
   exact Q9u h'.2 y hy
  .rw [if_neg (by simpa using hz)] at hy
   rcases Z2 hy with rfl | hy
   .omega
   .have:=h'.1 y hy;unfold cu at this;omega
theorem Q9v {x:aC}:∀ {l:List aC},∀ y∈l.takeWhile (fun y=>decide (y.1 < x.1)),y.1 < x.1
 | [],y,hy=>by simp at hy
 | z::l,y,hy=>by
  rw [List.takeWhile_cons] at hy
  by_cases hz:z.1 < x.1
  .rw [if_pos (by simpa using hz)] at hy
   rcases Z2 hy with rfl | hy
   .exact hz
   .exact Q9v y hy
  .rw [if_neg (by simpa using hz)] at hy;simp at hy
theorem Qsk {l:List aC} {x:aC} (h:di cu l):di cu (rX l x):=by
 have hl:di cu (l.takeWhile (fun y=>decide (y.1 < x.1))++l.dropWhile (fun y=>decide (y.1 < x.1))):=by rw [List.takeWhile_append_dropWhile];exact h
 unfold rX di
 unfold di at hl
 rw [List.pairwise_append] at hl ⊢
 refine ⟨hl.1,List.pairwise_cons.2 ⟨fun y hy=>Q9u h y hy,hl.2.1⟩,fun a ha b hb=>?_⟩
 rcases Z2 hb with rfl | hb
 .have:=Q9v a ha;unfold cu;omega
 .exact hl.2.2 a ha b hb
theorem U5:∀ (l:List aC) (i:Nat) (t:List aC),di cu t->di cu (cD (fun x _ t=>rX t x) l i t)/\(cD (fun x _ t=>rX t x) l i t).Perm (l++t)
 | [],i,t,h=>⟨h,List.Perm.refl _⟩
 | x::r,i,t,h=>by
  simp only [cD]
  obtain ⟨h1,h2⟩:=U5 r (i+1) (rX t x) (Qsk h)
  refine ⟨h1,h2.trans ?_⟩
  exact (List.Perm.append_left r Qhf).trans List.perm_middle
theorem Yw {l:List aC}:di cu (Dh l):=(U5 l 0 [] List.Pairwise.nil).1
theorem AF {l:List aC}:(Dh l).Perm l:=by
 have:=(U5 l 0 [] List.Pairwise.nil).2
 rw [List.append_nil] at this;exact this
theorem Ru {l:List aC} (h:q_ l=true):(l.map (·.1)).Nodup:=by
 rw [List.nodup_iff_pairwise_ne,List.pairwise_map,List.pairwise_iff_getElem]
 intro i j hi hj ng e
 have:=Kb h j i _ _ ng (Z6 hi) (Z6 hj)
 omega
theorem Yx {l:List aC} (h:(l.map (·.1)).Nodup) {a b:aC} (ha:a∈l) (hb:b∈l) (e:a.1=b.1):a=b:=by
 obtain ⟨i,hi⟩:=List.getElem?_of_mem ha
 obtain ⟨j,hj⟩:=List.getElem?_of_mem hb
 obtain ⟨hi1,hi2⟩:=Z0 hi
 obtain ⟨Uz,uF⟩:=Z0 hj
 have:=(List.getElem_inj (h₀:=show i < (l.map (·.1)).length by simpa using hi1) (h₁:=show j < (l.map (·.1)).length by simpa using Uz) h).1 (by simp [hi2,uF,e])
 subst this
 rw [<- hi2,<- uF]
theorem Qz1 {l S:List aC} (h:cR cu l S) (hd:(l.map (·.1)).Nodup):S=Dh l:=by
 refine List.Perm.eq_of_pairwise (le:=fun a b=>cu a<=cu b) (fun a b ha hb h1 h2=>?_) h.vM Yw (h.perm.trans AF.symm)
 unfold cu at h1 h2
 exact Yx hd (h.perm.mem_iff.1 ha) (AF.mem_iff.1 hb) (by omega)
theorem Rx {c:Cf} {l:List aC} (h:gb c=true) (hp:c.2.1.Perm l):(l.map (·.1)).Nodup:=by
 have hc:=(ri h).cl
 unfold kE at hc
 simp only [Z8] at hc
 exact (hp.map _).nodup_iff.1 (Ru hc.2.1)
def Bx (x:Ld):Int:=if 0<=x.2.2.2.2.2.2.2.2/\x.2.2.2.2.2.2.2.2 < ((x.2.1.length:Nat):Int) then (aX x.2.1 x.2.2.2.2.2.2.2.2).1 else 0
def eL (x:Ld):Cf:=(x.1,Dh x.2.1,x.2.2.2.2.2.2.1,Bx x)
theorem Qz2 {x:Ld} {c:Cf} (h1:c.1=x.1) (h2:cR cu x.2.1 c.2.1) (h3:c.2.2.1=x.2.2.2.2.2.2.1) (h4:c.2.2.2=Bx x):gb c=gb (eL x)/\(gb (eL x)=true->c=eL x):=by
 obtain ⟨c1,c2,c3,c4⟩:=c
 simp only at h1 h2 h3 h4
 subst h1 h3 h4
 by_cases hd:(x.2.1.map (·.1)).Nodup
 .have e:=Qz1 h2 hd
  subst e
  exact ⟨rfl,fun _=>rfl⟩
 .have e1:gb (x.1,c2,x.2.2.2.2.2.2.1,Bx x)=false:=Bool.eq_false_iff.2 fun h=>hd (Rx h h2.perm)
  have e2:gb (eL x)=false:=Bool.eq_false_iff.2 fun h=>hd (Rx h AF)
  exact ⟨by rw [e1,e2],fun h=>by rw [e2] at h;simp at h⟩
theorem U6 {d:Nat} {l:List aC} {b:Bool} (hl:l.length<=1000000):Ok (BO (d+25) l b) fun r=>cR cu l r:=by
 rw [TI]
 exact Ok.bind (Qpc hl) fun r hr=>Ok.some hr
theorem Qln {d:Nat} {x:Ld} (hl:x.2.1.length<=1000) (hf:x.2.2.2.2.2.2.1.length<=1000):Ok (KR (d+26) x) fun c=>c.1=x.1/\cR cu x.2.1 c.2.1/\c.2.2.1=x.2.2.2.2.2.2.1/\c.2.2.2=Bx x:=by
 rw [e60,Qse hl,Q9,R5 (by omega),Q9]
 unfold yB Bx
 by_cases h0:x.2.2.2.2.2.2.2.2>=0
 .rw [Z5 h0,Q4]
  by_cases h1:x.2.2.2.2.2.2.2.2 < ((x.2.1.length:Nat):Int)
  .rw [Z5 h1,Q4,Q4,Gz h0 h1,Q9,if_pos ⟨h0,h1⟩]
   exact Ok.bind (U6 (by omega)) fun r hr=>Ok.some ⟨rfl,hr,rfl,rfl⟩
  .rw [Z4 h1,Q5,if_neg (fun h=>h1 h.2)]
   exact Ok.bind (U6 (by omega)) fun r hr=>Ok.some ⟨rfl,hr,rfl,rfl⟩
 .rw [Z4 h0,Q5,Q5,if_neg (fun h=>h0 h.1)]
  exact Ok.bind (U6 (by omega)) fun r hr=>Ok.some ⟨rfl,hr,rfl,rfl⟩
theorem Qwa {d:Nat} {l:List aC} {x:aC} (hl:l.length<=10000):BI (d+1) l x=some (rX l x):=by
 rw [SI]
 have fin:kT d l x (((l.takeWhile fun y=>decide (y.1 < x.1)).length:Nat):Int)=some (rX l x):=by
  have hle:(l.takeWhile fun y=>decide (y.1 < x.1)).length<=l.length:=by
   have:=congrArg List.length (List.takeWhile_append_dropWhile (p:=fun y:aC=>decide (y.1 < x.1)) (l:=l))
   rw [Zf] at this;omega
  have ht:l.take (l.takeWhile fun y=>decide (y.1 < x.1)).length=l.takeWhile fun y=>decide (y.1 < x.1):=by
   conv=>lhs;arg 2;rw [<- List.takeWhile_append_dropWhile (p:=fun y:aC=>decide (y.1 < x.1)) (l:=l)]
   rw [List.take_left]
  have hd:l.drop (l.takeWhile fun y=>decide (y.1 < x.1)).length=l.dropWhile fun y=>decide (y.1 < x.1):=by
   conv=>lhs;arg 2;rw [<- List.takeWhile_append_dropWhile (p:=fun y:aC=>decide (y.1 < x.1)) (l:=l)]
   rw [List.drop_left]
  unfold kT
  simp only [nn,Q3,Q4]
  rw [K_ hle,Q4,Q4,room (by simp;omega),Q4,room (by simp;omega),Q4,room (by simp;omega),Q4,ht,hd]
  unfold rX
  simp
 have key:∀ (B A:List aC) (fuel:Nat),l=A++B->(∀ y∈A,y.1 < x.1)->B.length < fuel->Q8 (kU d l x (kT d l x)) fuel ((A.length:Nat):Int)=some (rX l x):=by
  intro B
  induction B with
  | nil =>
   intro A fuel e hA hf
   obtain ⟨g,rfl⟩:∃ g,fuel=g+1:=⟨fuel - 1,by omega⟩
   rw [List.append_nil] at e
   have ht:(l.takeWhile fun y=>decide (y.1 < x.1))=A:=by rw [e];exact Quo (fun y hy=>by simpa using hA y hy)
   simp only [Q8,kU]
   rw [show (l.length:Int)=((A.length:Nat):Int) by rw [e],bB,Q5]
   rw [ht] at fin;exact fin
  | cons z B ih =>
   intro A fuel e hA hf
   obtain ⟨g,rfl⟩:∃ g,fuel=g+1:=⟨fuel - 1,by omega⟩
   have au:A.length < l.length:=by rw [e];simp
   have hg:l[A.length]? = some z:=by rw [e];simp
   simp only [Q8,kU]
   rw [Z5 (show ((A.length:Nat):Int) < ((l.length:Nat):Int) by omega),Q4,nn,Q4,Q3,hg,Q9]
   by_cases hz:z.1 < x.1
   .rw [Z5 hz,Q4,aN (by omega)]
    have:=ih (A++[z]) g (by rw [e];simp) (fun y hy=>by
     rcases List.mem_append.1 hy with h | h
     .exact hA y h
     .simp at h;subst h;exact hz) (by simpa using hf)
    rw [Zf] at this
    exact this
   .rw [Z4 hz,Q5]
    have ht:(l.takeWhile fun y=>decide (y.1 < x.1))=A:=by
     rw [e,List.takeWhile_append_of_pos (fun y hy=>by simpa using hA y hy),List.takeWhile_cons,if_neg (by simpa using hz),List.append_nil]
    rw [ht] at fin;exact fin
 exact key l [] Qd rfl (by simp) (by rw [Q6];omega)
theorem YL {d:Nat} {x:Ld} (hl:x.2.1.length<=1000) (hf:x.2.2.2.2.2.2.1.length<=1000):Og (d+2) x=some (eL x):=by
 rw [e57,room (by simp;omega),Q4,List.nil_append]
 refine (Qb (fun (t:List aC) (i:Int)=>(i,((x.1,t,x.2.2.2.2.2.2.1,0):Cf))) x.2.1 (fun y _ t k=>Q1 (BI (d+1) t y) fun r=>k r) (fun t=>xx (d+1) x x.1 0 t x.2.2.2.2.2.2.1) ?_ ?_ (by rw [Q6];omega) []).trans ?_
 .intro ag t i y hx
  have hi:=(Z0 hx).1
  simp only [xy,bW hx,nn,Q3,hx,Q9,Q4]
  rw [aN (by omega)]
 .intro ag t;simp only [xy,bB,Q5]
 .rw [UT (f:=fun y _ t=>rX t y) (fun k t=>t.length=k) x.2.1 0 [] rfl (fun j y t k hy ht=>by
   have hj:=(Z0 hy).1
   rw [Qwa (by omega),Q9]
   exact ⟨rfl,by rw [Qsj];omega⟩)]
  unfold xx
  rw [vF,Q9]
  show _=some (x.1,Dh x.2.1,x.2.2.2.2.2.2.1,Bx x)
  unfold Bx
  rw [wr (by omega) (by omega)]
  by_cases h:0<=x.2.2.2.2.2.2.2.2/\x.2.2.2.2.2.2.2.2 < ((x.2.1.length:Nat):Int)
  .rw [if_pos h,Z5 (show 0<=x.2.2.2.2.2.2.2.2/\x.2.2.2.2.2.2.2.2<=((x.2.1.length:Nat):Int) - 1 by omega),Q4,Z5 h.1,Q4,Gz h.1 h.2,Q9]
   rfl
  .rw [if_neg h,Z4 (show ¬ (0<=x.2.2.2.2.2.2.2.2/\x.2.2.2.2.2.2.2.2<=((x.2.1.length:Nat):Int) - 1) by omega),Q5]
   rfl
theorem IW {α:Type} [DecidableEq α]:∀ {a b:List α} {i:Nat} {c:List α},i=c.length->a.length=b.length->eI (fun x j=>decide ((c++b)[j]? = some x)) a i=decide (a=b)
 | [],[],i,c,_,_=>by simp [eI]
 | x::a,y::b,i,c,hi,h=>by
  subst hi
  have h1:(c++y::b)[c.length]? = some y:=by simp
  have ih:=IW (a:=a) (b:=b) (i:=c.length+1) (c:=c++[y]) (by simp) (by simpa using h)
  rw [show c++[y]++b=c++y::b by simp] at ih
  simp only [eI]
  rw [ih,h1]
  by_cases gH:x=y
  .subst gH;simp
  .rw [Z4 (show ¬ some y=some x by simp;exact fun e=>gH e.symm),Bool.false_and,Z4 (by simp [gH])]
 | [],_::_,_,_,_,h=>by simp at h
 | _::_,[],_,_,_,h=>by simp at h
theorem Lx {d:Nat} {a b:List Int} (hl:a.length < 4000000):qm (d+1) a b=some (decide (a=b)):=by
 rw [T3]
 by_cases h:a.length=b.length
 case neg=>rw [show ((((a.length:Nat):Int)) != ((b.length:Nat):Int))=true by simp;omega,Q4,Z4 (fun e=>h (by rw [e]))]
 rw [show ((((a.length:Nat):Int)) != ((b.length:Nat):Int))=false by simp;omega,Q5]
 refine (Qb (fun (t:Bool) (i:Int)=>(t,i)) a (fun x i t k=>aa (decide (([]++b)[i]? = some x)) (k t) (some false)) (fun _=>some true) ?_ ?_ (by rw [Q6];omega) false).trans ?_
 .intro ag t i x hx;have hi:=(Z0 hx).1;simp only [ql,bW hx,nn,Q3,hx,Q9,Q4];rw [aN (by omega)]
  have hb:i < b.length:=by omega
  rw [List.nil_append,Z6 hb,Q9]
  by_cases gH:x=b[i]
  .rw [show (x != b[i])=false by simp [gH],Q5,Z5 (by rw [gH]),Q4]
  .rw [show (x != b[i])=true by simp [gH],Q4,Z4 (show ¬ some b[i]=some x by simp;exact fun e=>gH e.symm),Q5]
 .intro ag t;simp only [ql,bB,Q5];rfl
 .rw [qq,IW (i:=0) (c:=[]) rfl h];cases decide (a=b)<;>rfl
theorem Ly {d:Nat} {a b:List Int} (hl:a.length < 4000000):pg (d+1) a b=some (decide (a=b)):=by
 rw [SN]
 by_cases h:a.length=b.length
 case neg=>rw [show ((((a.length:Nat):Int)) != ((b.length:Nat):Int))=true by simp;omega,Q4,Z4 (fun e=>h (by rw [e]))]
 rw [show ((((a.length:Nat):Int)) != ((b.length:Nat):Int))=false by simp;omega,Q5]
 refine (Qb (fun (t:Bool) (i:Int)=>(t,i)) a (fun x i t k=>aa (decide (([]++b)[i]? = some x)) (k t) (some false)) (fun _=>some true) ?_ ?_ (by rw [Q6];omega) false).trans ?_
 .intro ag t i x hx;have hi:=(Z0 hx).1;simp only [pe,bW hx,nn,Q3,hx,Q9,Q4];rw [aN (by omega)]
  have hb:i < b.length:=by omega
  rw [List.nil_append,Z6 hb,Q9]
  by_cases gH:x=b[i]
  .rw [show (x != b[i])=false by simp [gH],Q5,Z5 (by rw [gH]),Q4]
  .rw [show (x != b[i])=true by simp [gH],Q4,Z4 (show ¬ some b[i]=some x by simp;exact fun e=>gH e.symm),Q5]
 .intro ag t;simp only [pe,bB,Q5];rfl
 .rw [qq,IW (i:=0) (c:=[]) rfl h];cases decide (a=b)<;>rfl
theorem Quq {x y:aC}:((x.1==y.1)&&((x.2.1==y.2.1)&&((x.2.2.1==y.2.2.1)&&((x.2.2.2.1==y.2.2.2.1)&&((x.2.2.2.2.1==y.2.2.2.2.1)&&((x.2.2.2.2.2.1==y.2.2.2.2.2.1)&&((x.2.2.2.2.2.2.1==y.2.2.2.2.2.2.1)&&((x.2.2.2.2.2.2.2==y.2.2.2.2.2.2.2)&&true))))))))=decide (x=y):=by
 obtain ⟨x1,x2,x3,x4,x5,x6,x7,x8⟩:=x
 obtain ⟨y1,y2,y3,y4,y5,y6,y7,y8⟩:=y
 rw [Bool.eq_iff_iff];simp
theorem Qz3 {x y:dw}:((x.1==y.1)&&((x.2.1==y.2.1)&&((x.2.2.1==y.2.2.1)&&((x.2.2.2.1==y.2.2.2.1)&&((x.2.2.2.2==y.2.2.2.2)&&true)))))=decide (x=y):=by
 obtain ⟨x1,x2,x3,x4,x5⟩:=x
 obtain ⟨y1,y2,y3,y4,y5⟩:=y
 rw [Bool.eq_iff_iff];simp
theorem U7 {d:Nat} {a b:List aC} (hl:a.length < 4000000):Gq (d+1) a b=some (decide (a=b)):=by
 rw [T2]
 by_cases h:a.length=b.length
 case neg=>rw [show ((((a.length:Nat):Int)) != ((b.length:Nat):Int))=true by simp;omega,Q4,Z4 (fun e=>h (by rw [e]))]
 rw [show ((((a.length:Nat):Int)) != ((b.length:Nat):Int))=false by simp;omega,Q5]
 refine (Qb (fun (t:Bool) (i:Int)=>(t,i)) a (fun x i t k=>aa (decide (([]++b)[i]? = some x)) (k t) (some false)) (fun _=>some true) ?_ ?_ (by rw [Q6];omega) false).trans ?_
 .intro ag t i x hx;have hi:=(Z0 hx).1;simp only [qk,bW hx,nn,Q3,hx,Q9,Q4];rw [aN (by omega)]
  have hb:i < b.length:=by omega
  rw [List.nil_append,Z6 hb,Q9,Quq]
  by_cases gH:x=b[i]
  .rw [Z5 gH,Zl,Q5,Z5 (by rw [gH]),Q4]
  .rw [Z4 gH,Bool.not_false,Q4,Z4 (show ¬ some b[i]=some x by simp;exact fun e=>gH e.symm),Q5]
 .intro ag t;simp only [qk,bB,Q5];rfl
 .rw [qq,IW (i:=0) (c:=[]) rfl h];cases decide (a=b)<;>rfl
def Di (x y:Ld):Bool:=decide (x.2.1=y.2.1)&&(decide (x.2.2.1=y.2.2.1)&&(decide (x.2.2.2.1=y.2.2.2.1)&&(decide (x.2.2.2.2.1=y.2.2.2.2.1)&&(decide (x.2.2.2.2.2.1=y.2.2.2.2.2.1)&&(decide (x.2.2.2.2.2.2.2.1=y.2.2.2.2.2.2.2.1)&&(x.2.2.2.2.2.2.2.2==y.2.2.2.2.2.2.2.2))))))
def eR (x:Ld):Bool:=decide (x.2.1.length<=24/\x.2.2.2.2.2.2.1.length<=16)&&(gb (eL x)&&Di x (bS (eL x)))
def AJ (x:Ld):Prop:=x.1.size < 4000000/\x.2.1.length < 4000000/\x.2.2.1.length < 4000000/\x.2.2.2.1.length < 4000000/\x.2.2.2.2.1.length < 4000000/\x.2.2.2.2.2.1.length < 4000000/\x.2.2.2.2.2.2.1.length < 4000000/\x.2.2.2.2.2.2.2.1.length < 4000000
theorem Qmt {d:Nat} {x:Ld} (h:AJ x):T4 (d+27) x=some (eR x):=by
 obtain ⟨z1,z2,z3,z4,z5,z6,z7,z8⟩:=h
 rw [e87]
 unfold yP eR
 by_cases h1:x.2.1.length<=24
 case neg=>rw [Z5 (show ((x.2.1.length:Nat):Int) > 24 by omega),Q4,Q4,Z4 (fun h=>h1 h.1)];rfl
 rw [Z4 (show ¬ ((x.2.1.length:Nat):Int) > 24 by omega),Q5]
 by_cases h2:x.2.2.2.2.2.2.1.length<=16
 case neg=>rw [Z5 (show ((x.2.2.2.2.2.2.1.length:Nat):Int) > 16 by omega),Q4,Z4 (fun h=>h2 h.2)];rfl
 rw [Z4 (show ¬ ((x.2.2.2.2.2.2.1.length:Nat):Int) > 16 by omega),Q5,Z5 ⟨h1,h2⟩,Zg]
 obtain ⟨c,hc,c1,c2,c3,c4⟩:=Qln (d:=d) (x:=x) (by omega) (by omega)
 obtain ⟨u1,u2⟩:=Qz2 c1 c2 c3 c4
 have fe:=c2.len
 rw [hc,Q9,show d+26=(d+18)+8 by omega,YH (by omega) (by rw [c3];omega),Q9,u1]
 cases hg:gb (eL x) with
 | false=>rfl
 | true =>
  have e:=u2 hg
  subst e
  rw [Zl,Q5,show d+18+8=(d+12)+14 by omega,YD (ri hg),Q9,Zg]
  unfold Di
  rw [show d+12+14=(d+25)+1 by omega,U7 (by omega),Q9]
  cases decide (x.2.1=(bS (eL x)).2.1) with
  | false=>rfl
  | true =>
  rw [Q4,Lx (by omega),Q9]
  cases decide (x.2.2.1=(bS (eL x)).2.2.1) with
  | false=>rfl
  | true =>
  rw [Q4,Lx (by omega),Q9]
  cases decide (x.2.2.2.1=(bS (eL x)).2.2.2.1) with
  | false=>rfl
  | true =>
  rw [Q4,Lx (by omega),Q9]
  cases decide (x.2.2.2.2.1=(bS (eL x)).2.2.2.2.1) with
  | false=>rfl
  | true =>
  rw [Q4,Lx (by omega),Q9]
  cases decide (x.2.2.2.2.2.1=(bS (eL x)).2.2.2.2.2.1) with
  | false=>rfl
  | true =>
  rw [Q4,Lx (by omega),Q9]
  cases decide (x.2.2.2.2.2.2.2.1=(bS (eL x)).2.2.2.2.2.2.2.1) with
  | false=>rfl
  | true=>rw [Q4];rfl
theorem Qsl {d:Nat} {u y:Ld} (h:AJ u) (hn:u.1=y.1) (hf:u.2.2.2.2.2.2.1=y.2.2.2.2.2.2.1):FE (d+2) u y=some (Di u y):=by
 obtain ⟨z1,z2,z3,z4,z5,z6,z7,z8⟩:=h
 rw [SO,OA,Z5 (by rw [hn]),Zl,Q5]
 unfold jc Di
 by_cases hc:u.2.1.length=y.2.1.length
 case neg=>rw [show ((((u.2.1.length:Nat):Int)) != ((y.2.1.length:Nat):Int))=true by simp;omega,Q4,Q4,Z4 (fun e=>hc (by rw [e]))];rfl
 rw [show ((((u.2.1.length:Nat):Int)) != ((y.2.1.length:Nat):Int))=false by simp;omega,Q5,show ((((u.2.2.2.2.2.2.1.length:Nat):Int)) != ((y.2.2.2.2.2.2.1.length:Nat):Int))=false by rw [hf];simp,Q5]
 by_cases hd:u.2.2.2.2.2.2.2.2=y.2.2.2.2.2.2.2.2
 case neg=>rw [show (u.2.2.2.2.2.2.2.2 != y.2.2.2.2.2.2.2.2)=true by simp [hd],Q4,show (u.2.2.2.2.2.2.2.2==y.2.2.2.2.2.2.2.2)=false by simp [hd]];simp
 rw [show (u.2.2.2.2.2.2.2.2 != y.2.2.2.2.2.2.2.2)=false by simp [hd],Q5,show (u.2.2.2.2.2.2.2.2==y.2.2.2.2.2.2.2.2)=true by simp [hd],Bool.and_true]
 refine (Qb (fun (t:Bool) (i:Int)=>(t,i)) u.2.1 (fun z i t k=>aa (decide (([]++y.2.1)[i]? = some z)) (k t) (some false)) (fun t=>pz (d+1) u y t) ?_ ?_ (by rw [Q6];omega) false).trans ?_
 .intro ag t i x hx;have hi:=(Z0 hx).1;simp only [pE,bW hx,nn,Q3,hx,Q9,Q4];rw [aN (by omega)]
  have hb:i < y.2.1.length:=by omega
  rw [List.nil_append,Z6 hb,Q9,Quq]
  by_cases gH:x=y.2.1[i]
  .rw [Z5 gH,Zl,Q5,Z5 (by rw [gH]),Q4]
  .rw [Z4 gH,Bool.not_false,Q4,Z4 (show ¬ some y.2.1[i]=some x by simp;exact fun e=>gH e.symm),Q5]
 .intro ag t;simp only [pE,bB,Q5]
 .rw [qq,IW (i:=0) (c:=[]) rfl hc]
  cases decide (u.2.1=y.2.1) with
  | false=>rfl
  | true =>
  rw [Q4,Zg]
  unfold pz
  have cF:u.2.2.2.2.2.2.1.length=y.2.2.2.2.2.2.1.length:=by rw [hf]
  refine (Qb (fun (t:Bool) (i:Int)=>(t,i)) u.2.2.2.2.2.2.1 (fun z i t k=>aa (decide (([]++y.2.2.2.2.2.2.1)[i]? = some z)) (k t) (some false)) (fun t=>pn (d+1) u y t) ?_ ?_ (by rw [Q6];omega) false).trans ?_
  .intro ag t i x hx;have hi:=(Z0 hx).1;simp only [pq,bW hx,nn,Q3,hx,Q9,Q4];rw [aN (by omega)]
   have hb:i < y.2.2.2.2.2.2.1.length:=by omega
   rw [List.nil_append,Z6 hb,Q9,Qz3]
   by_cases gH:x=y.2.2.2.2.2.2.1[i]
   .rw [Z5 gH,Zl,Q5,Z5 (by rw [gH]),Q4]
   .rw [Z4 gH,Bool.not_false,Q4,Z4 (show ¬ some y.2.2.2.2.2.2.1[i]=some x by simp;exact fun e=>gH e.symm),Q5]
  .intro ag t;simp only [pq,bB,Q5]
  .rw [qq,IW (i:=0) (c:=[]) rfl cF,Z5 hf,Q4]
   unfold pn
   rw [Ly (by omega),Q9]
   cases decide (u.2.2.1=y.2.2.1) with
   | false=>rfl
   | true =>
   rw [Q4,Ly (by omega),Q9]
   cases decide (u.2.2.2.1=y.2.2.2.1) with
   | false=>rfl
   | true =>
   rw [Q4,Ly (by omega),Q9]
   cases decide (u.2.2.2.2.1=y.2.2.2.2.1) with
   | false=>rfl
   | true =>
   rw [Q4,Ly (by omega),Q9]
   cases decide (u.2.2.2.2.2.1=y.2.2.2.2.2.1) with
   | false=>rfl
   | true=>rw [Q4,Ly (by omega),Q9];rfl
theorem Qsm {d:Nat} {x:Ld} (h:AJ x):FF (d+11) x=some (eR x):=by
 have h':=h
 obtain ⟨z1,z2,z3,z4,z5,z6,z7,z8⟩:=h
 rw [SP]
 unfold pG eR
 by_cases h1:x.2.1.length<=24
 case neg=>rw [Z5 (show ((x.2.1.length:Nat):Int) > 24 by omega),Q4,Q4,Z4 (fun h=>h1 h.1)];rfl
 rw [Z4 (show ¬ ((x.2.1.length:Nat):Int) > 24 by omega),Q5]
 by_cases h2:x.2.2.2.2.2.2.1.length<=16
 case neg=>rw [Z5 (show ((x.2.2.2.2.2.2.1.length:Nat):Int) > 16 by omega),Q4,Z4 (fun h=>h2 h.2)];rfl
 rw [Z4 (show ¬ ((x.2.2.2.2.2.2.1.length:Nat):Int) > 16 by omega),Q5,Z5 ⟨h1,h2⟩,Zg]
 rw [show d+10=(d+8)+2 by omega,YL (by omega) (by omega),Q9,show d+8+2=(d+5)+5 by omega,YI (c:=eL x) z1 (show x.2.2.2.2.2.2.1.length < 4000000 by omega),Q9]
 cases hg:gb (eL x) with
 | false=>rfl
 | true=>rw [Q4,show d+5+5=d+10 by omega,YE (ri hg),Q9,show d+10=(d+8)+2 by omega,Qsl (y:=bS (eL x)) h' rfl rfl,Q9,Zg]
theorem Lz {α:Type} {l:List α} {z x:α} {k:Nat} (hx:l[k]? = some x):(l.take k++List.replicate (l.length - k) z).set k x=l.take (k+1)++List.replicate (l.length - (k+1)) z:=by
 have hk:=(Z0 hx).1
 have e:=(Z0 hx).2
 have hl:(l.take k).length=k:=by rw [List.length_take];omega
 rw [List.set_append_right _ _ (by omega),hl,Nat.sub_self,show l.length - k=(l.length - (k+1))+1 by omega,List.replicate_succ,List.set_cons_zero,List.take_succ_eq_append_getElem hk,e]
 simp
theorem Qmu {d:Nat} {l:List aC} (hl:l.length<=1048576):Sd (d+2) l=some l:=by
 rw [e41,nn,Q4,Q4,Q3,show (Nat.ble l.length l.length&&Nat.ble (l.length*64) Q7)=true by rw [Z8,Nat.ble_eq,Nat.ble_eq];unfold Q7;omega,Q4]
 refine Ok.val (lW (fun j (s:Int×List aC)=>∃ k:Nat,k+j=l.length/\s.1=(k:Int)/\s.2=l.take k++List.replicate (l.length - k) ((0,0,0,0,0,0,0,0):aC)) ?_ _ l.length _ (by rw [Q6];omega) ⟨0,by omega,rfl,by simp⟩)
 rintro j ⟨n,r⟩ ag ⟨k,hk,h1,h2⟩ eu
 simp only at h1 h2
 subst h1
 have jZ:r.length=l.length:=by rw [h2];simp;omega
 simp only [Dx]
 rcases Nat.lt_or_ge k l.length with au | sO
 .have hx:=Z6 au
  rw [bW hx,Q4,nn,Q4,Q3,hx,Q9,e86,Q9,Q4,Qp (by omega),Q4,Z6 (by omega),Q9,aN (by omega)]
  exact eu (j - 1) _ (by omega) ⟨k+1,by omega,rfl,by rw [h2];exact Lz hx⟩
 .have:k=l.length:=by omega
  subst this
  rw [bB,Q5]
  unfold Dw
  exact Ok.some (by rw [h2];simp)
theorem YQ {d:Nat} {l:List dw} (hl:l.length<=1048576):Dr (d+2) l=some l:=by
 rw [e27,nn,Q4,Q4,Q3,show (Nat.ble l.length l.length&&Nat.ble (l.length*40) Q7)=true by rw [Z8,Nat.ble_eq,Nat.ble_eq];unfold Q7;omega,Q4]
 refine Ok.val (lW (fun j (s:Int×List dw)=>∃ k:Nat,k+j=l.length/\s.1=(k:Int)/\s.2=l.take k++List.replicate (l.length - k) ((0,0,0,0,0):dw)) ?_ _ l.length _ (by rw [Q6];omega) ⟨0,by omega,rfl,by simp⟩)
 rintro j ⟨n,r⟩ ag ⟨k,hk,h1,h2⟩ eu
 simp only at h1 h2
 subst h1
 have jZ:r.length=l.length:=by rw [h2];simp;omega
 simp only [Dv]
 rcases Nat.lt_or_ge k l.length with au | sO
 .have hx:=Z6 au
  rw [bW hx,Q4,nn,Q4,Q3,hx,Q9,e64,Q9,Q4,Qp (by omega),Q4,Z6 (by omega),Q9,aN (by omega)]
  exact eu (j - 1) _ (by omega) ⟨k+1,by omega,rfl,by rw [h2];exact Lz hx⟩
 .have:k=l.length:=by omega
  subst this
  rw [bB,Q5]
  unfold Du
  exact Ok.some (by rw [h2];simp)
theorem GN {d:Nat} {l:List Int} (hl:l.length<=1048576):BH (d+1) l=some l:=by
 rw [e84,nn,Q4,Q4,Q3,show (Nat.ble l.length l.length&&Nat.ble (l.length*8) Q7)=true by rw [Z8,Nat.ble_eq,Nat.ble_eq];unfold Q7;omega,Q4]
 refine Ok.val (lW (fun j (s:Int×List Int)=>∃ k:Nat,k+j=l.length/\s.1=(k:Int)/\s.2=l.take k++List.replicate (l.length - k) (0:Int)) ?_ _ l.length _ (by rw [Q6];omega) ⟨0,by omega,rfl,by simp⟩)
 rintro j ⟨n,r⟩ ag ⟨k,hk,h1,h2⟩ eu
 simp only at h1 h2
 subst h1
 have jZ:r.length=l.length:=by rw [h2];simp;omega
 simp only [Dz]
 rcases Nat.lt_or_ge k l.length with au | sO
 .have hx:=Z6 au
  rw [bW hx,Q4,nn,Q4,Q3,hx,Q9,Q4,Qp (by omega),Q4,Z6 (by omega),Q9,aN (by omega)]
  exact eu (j - 1) _ (by omega) ⟨k+1,by omega,rfl,by rw [h2];exact Lz hx⟩
 .have:k=l.length:=by omega
  subst this
  rw [bB,Q5]
  unfold Dy
  exact Ok.some (by rw [h2];simp)
def U8 (n:Int) (k:Nat) (r:Int):Prop:=r < 0\/(0<=r/\r<=n/\(k:Int)<=n)
theorem Qmv {d:Nat} {l:List aC} {n:Int} (h0:0<=n) (h1:n<=1048576) (hl:l.length<=9223372036854775807):Ok (R_ (d+1) l n) fun r=>U8 n l.length r:=by
 rw [e34,wr (by omega) (by omega)]
 by_cases h:n - ((l.length:Nat):Int) < 0
 .rw [Z5 h,Q4];exact Ok.some (Or.inl (by omega))
 .rw [Z4 h,Q5];exact Ok.some (Or.inr ⟨by omega,by omega,by omega⟩)
theorem YP {d:Nat} {l:List dw} {n:Int} (h0:0<=n) (h1:n<=1048576) (hl:l.length<=9223372036854775807):Ok (Od (d+1) l n) fun r=>U8 n l.length r:=by
 rw [e25,wr (by omega) (by omega)]
 by_cases h:n - ((l.length:Nat):Int) < 0
 .rw [Z5 h,Q4];exact Ok.some (Or.inl (by omega))
 .rw [Z4 h,Q5];exact Ok.some (Or.inr ⟨by omega,by omega,by omega⟩)
theorem GO {d:Nat} {l:List Int} {n:Int} (h0:0<=n) (h1:n<=1048576) (hl:l.length<=9223372036854775807):Ok (BG (d+1) l n) fun r=>U8 n l.length r:=by
 rw [e68,wr (by omega) (by omega)]
 by_cases h:n - ((l.length:Nat):Int) < 0
 .rw [Z5 h,Q4];exact Ok.some (Or.inl (by omega))
 .rw [Z4 h,Q5];exact Ok.some (Or.inr ⟨by omega,by omega,by omega⟩)
theorem Qmw {d:Nat} {l:List aC} (hl:l.length<=2000000):Sk (d+2) l l=some true:=by
 rw [e48,bne_self_eq_false,Q5]
 refine (Qb (fun (t:Bool) (i:Int)=>(t,i)) l (fun x i t k=>k t) (DG (d+1)) ?_ ?_ (by rw [Q6];omega) false).trans ?_
 .intro ag t i x hx;have hi:=(Z0 hx).1;simp only [wV,bW hx,nn,Q3,hx,Q9,Q4]
  rw [Sj]
  simp only [bne_self_eq_false,Q5,Zl,Q9]
  rw [aN (by omega)]
 .intro ag t;simp only [wV,bB,Q5]
 .rw [wH (f:=fun _ _ t=>t)];rfl
theorem YR {d:Nat} {l:List dw} (hl:l.length<=2000000):Kp (d+2) l l=some true:=by
 rw [e29,bne_self_eq_false,Q5]
 refine (Qb (fun (t:Bool) (i:Int)=>(t,i)) l (fun x i t k=>k t) (DF (d+1)) ?_ ?_ (by rw [Q6];omega) false).trans ?_
 .intro ag t i x hx;have hi:=(Z0 hx).1;simp only [wT,bW hx,nn,Q3,hx,Q9,Q4]
  rw [e67]
  simp only [bne_self_eq_false,Q5,Zl,Q9]
  rw [aN (by omega)]
 .intro ag t;simp only [wT,bB,Q5]
 .rw [wH (f:=fun _ _ t=>t)];rfl
theorem Ds {d:Nat} {l:List Int} (hl:l.length<=2000000):g14 (d+1) l l=some true:=by
 rw [e14,bne_self_eq_false,Q5]
 refine (Qb (fun (t:Bool) (i:Int)=>(t,i)) l (fun x i t k=>k t) (DE d) ?_ ?_ (by rw [Q6];omega) false).trans ?_
 .intro ag t i x hx;have hi:=(Z0 hx).1;simp only [wR,bW hx,nn,Q3,hx,Q9,Q4]
  simp only [bne_self_eq_false,Q5]
  rw [aN (by omega)]
 .intro ag t;simp only [wR,bB,Q5]
 .rw [wH (f:=fun _ _ t=>t)];rfl
def AW (x:Ld):Prop:=x.1.size<=1048576/\x.2.1.length<=1048576/\x.2.2.1.length<=1048576/\x.2.2.2.1.length<=1048576/\x.2.2.2.2.1.length<=1048576/\x.2.2.2.2.2.1.length<=1048576/\x.2.2.2.2.2.2.1.length<=1048576/\x.2.2.2.2.2.2.2.1.length<=1048576
theorem Qmx {d:Nat} {x:Ld} (h:AW x):Sl (d+3) x x=some true:=by
 obtain ⟨z1,z2,z3,z4,z5,z6,z7,z8⟩:=h
 rw [e45,beq_self_eq_true,Zl,Q5,Qmw (by omega),Q9,Zl,Q5,Ds (by omega),Q9,Zl,Q5,Ds (by omega),Q9,Zl,Q5,Ds (by omega),Q9,Zl,Q5,Ds (by omega),Q9,Zl,Q5,YR (by omega),Q9,Zl,Q5,Ds (by omega),Q9,Zl,Q5,bne_self_eq_false,Q5]
theorem Qmy {d:Nat} {x:Ld} (h:AW x):Se (d+3) x=some x:=by
 obtain ⟨z1,z2,z3,z4,z5,z6,z7,z8⟩:=h
 rw [e38,Qmu z2,Q9,GN z3,Q9,GN z4,Q9,GN z5,Q9,GN z6,Q9,YQ z7,Q9,GN z8,Q9]
def R6 (x:Ld):Prop:=x.1.size<=9223372036854775807/\x.2.1.length<=9223372036854775807/\x.2.2.1.length<=9223372036854775807/\x.2.2.2.1.length<=9223372036854775807/\x.2.2.2.2.1.length<=9223372036854775807/\x.2.2.2.2.2.1.length<=9223372036854775807/\x.2.2.2.2.2.2.1.length<=9223372036854775807/\x.2.2.2.2.2.2.2.1.length<=9223372036854775807
theorem Qmz {d:Nat} {x:Ld} {n:Int} (h0:0<=n) (h1:n<=1048576) (h:R6 x):Ok (Sa (d+2) x n) fun r=>r < 0\/(0<=r/\r<=n/\AW x):=by
 obtain ⟨z1,z2,z3,z4,z5,z6,z7,z8⟩:=h
 have no:Ok (some (-1:Int)) fun r=>r < 0\/(0<=r/\r<=n/\AW x):=Ok.some (Or.inl (by omega))
 rw [e31,wr (by omega) (by omega)]
 refine Ok.aa (fun _=>no) (fun hs=>?_)
 simp only [decide_eq_false_iff_not] at hs
 refine Ok.bind (Qmv (by omega) (by omega) z2) fun r3 g3=>?_
 refine Ok.aa (fun _=>no) (fun B9=>?_)
 simp only [decide_eq_false_iff_not] at B9
 have g3:=g3.resolve_left B9
 refine Ok.bind (GO (by omega) (by omega) z3) fun r4 g4=>?_
 refine Ok.aa (fun _=>no) (fun Ea=>?_)
 simp only [decide_eq_false_iff_not] at Ea
 have g4:=g4.resolve_left Ea
 refine Ok.bind (GO (by omega) (by omega) z4) fun r5 g5=>?_
 refine Ok.aa (fun _=>no) (fun LA=>?_)
 simp only [decide_eq_false_iff_not] at LA
 have g5:=g5.resolve_left LA
 refine Ok.bind (GO (by omega) (by omega) z5) fun r6 g6=>?_
 refine Ok.aa (fun _=>no) (fun hs6=>?_)
 simp only [decide_eq_false_iff_not] at hs6
 have g6:=g6.resolve_left hs6
 refine Ok.bind (GO (by omega) (by omega) z6) fun r7 g7=>?_
 refine Ok.aa (fun _=>no) (fun hs7=>?_)
 simp only [decide_eq_false_iff_not] at hs7
 have g7:=g7.resolve_left hs7
 refine Ok.bind (YP (by omega) (by omega) z7) fun r8 g8=>?_
 refine Ok.aa (fun _=>no) (fun hs8=>?_)
 simp only [decide_eq_false_iff_not] at hs8
 have g8:=g8.resolve_left hs8
 refine Ok.bind (GO (by omega) (by omega) z8) fun r9 g9=>?_
 refine Ok.aa (fun _=>no) (fun hs9=>?_)
 simp only [decide_eq_false_iff_not] at hs9
 have g9:=g9.resolve_left hs9
 exact Ok.some (Or.inr ⟨by omega,by omega,by omega,by omega,by omega,by omega,by omega,by omega,by omega,by omega⟩)
theorem AW.sz {x:Ld} (h:AW x):AJ x:=by
 obtain ⟨z1,z2,z3,z4,z5,z6,z7,z8⟩:=h
 exact ⟨by omega,by omega,by omega,by omega,by omega,by omega,by omega,by omega⟩
def mC (k:Nat):aC:=((k:Int),((k+1:Nat):Int),((k+1+1:Nat):Int),((k+1+1+1:Nat):Int),((k+1+1+1+1:Nat):Int),((k+1+1+1+1+1:Nat):Int),((k+1+1+1+1+1+1:Nat):Int),((k+1+1+1+1+1+1+1:Nat):Int))
def mF (k:Nat):dw:=((k:Int),((k+1:Nat):Int),((k+1+1:Nat):Int),((k+1+1+1:Nat):Int),((k+1+1+1+1:Nat):Int))
def uI:Nat->Nat->List aC
 | _,0=>[]
 | k,n+1=>mC k::uI (k+1+1+1+1+1+1+1+1) n
def uJ:Nat->Nat->List dw
 | _,0=>[]
 | k,n+1=>mF k::uJ (k+1+1+1+1+1) n
theorem Fg {α:Type} {p r:List α} {x y:α}:(p++x::r).set p.length y=p++y::r:=by
 rw [List.set_append_right _ _ (Zd _),Nat.sub_self,List.set_cons_zero]
theorem Qur {d:Nat}:∀ (r:List aC) {p:List aC} {k fuel:Nat},r.length < fuel->p.length+r.length<=2000000->k+8*r.length<=1000000000 ->
  Q8 (rQ d (zq d)) fuel ((k:Int),((p.length:Nat):Int),p++r)=some (((k+8*r.length:Nat):Int),p++uI k r.length)
 | _,p,k,0,h,_,_=>by omega
 | [],p,k,fuel+1,h,h2,h3=>by
  simp only [Q8,rQ]
  rw [List.append_nil,bB,Q5]
  unfold zq
  simp [uI]
 | x::r,p,k,fuel+1,h,h2,h3=>by
  simp only [Z9] at h h2 h3
  have au:p.length < (p++x::r).length:=by simp
  have hg:(p++x::r)[p.length]? = some x:=by simp
  simp only [Q8,rQ,Q3,nn,Q4]
  rw [Z5 (show ((p.length:Nat):Int) < (((p++x::r).length:Nat):Int) by omega),Q4,Qp au,Q4,hg,Q9]
  simp only [List.length_set,List.set_set,List.getElem?_set_self au,Q9,Qp au,Q4]
  rw [Fg,aN (by omega),aN (by omega),aN (by omega),aN (by omega),aN (by omega),aN (by omega),aN (by omega),aN (by omega),aN (by omega)]
  have:=Qur (d:=d) r (p:=p++[mC k]) (k:=k+1+1+1+1+1+1+1+1) (fuel:=fuel) (by omega) (by simp;omega) (by omega)
  rw [Zf,show (p++[mC k])++r=p++mC k::r by simp] at this
  simp only [Z9,Zb,uI]
  rw [show k+8*(r.length+1)=k+1+1+1+1+1+1+1+1+8*r.length by omega,show p++mC k::uI (k+1+1+1+1+1+1+1+1) r.length=(p++[mC k])++uI (k+1+1+1+1+1+1+1+1) r.length by simp]
  exact this
theorem Qus {d:Nat} {l:List aC}:∀ (n:Nat) {p:List aC} {k fuel:Nat},l=p++uI k n->n < fuel->p.length+n<=2000000->k+8*n<=1000000000 ->
  Q8 (kM d l (oS d)) fuel ((k:Int),0,((p.length:Nat):Int))=some ((k+8*n:Nat):Int)
 | n,p,k,0,_,h,_,_=>by omega
 | 0,p,k,fuel+1,e,h,h2,h3=>by
  simp only [uI,List.append_nil] at e
  subst e
  simp only [Q8,kM]
  rw [bB,Q5]
  unfold oS
  simp
 | n+1,p,k,fuel+1,e,h,h2,h3=>by
  have hg:l[p.length]? = some (mC k):=by rw [e];simp [uI]
  have au:=(Z0 hg).1
  simp only [Q8,kM,Q3,nn,Q4]
  rw [Z5 (show ((p.length:Nat):Int) < ((l.length:Nat):Int) by omega),Q4,hg]
  simp only [Q9]
  rw [aN (by omega),aN (by omega),aN (by omega),aN (by omega),aN (by omega),aN (by omega),aN (by omega),aN (by omega),aN (by omega)]
  unfold mC
  simp only [bne_self_eq_false,Q5]
  have:=Qus (d:=d) (l:=l) n (p:=p++[mC k]) (k:=k+1+1+1+1+1+1+1+1) (fuel:=fuel) (by rw [e];simp [uI]) (by omega) (by simp;omega) (by omega)
  rw [Zf] at this
  simp only [Z9,Zb] at this
  rw [show k+8*(n+1)=k+1+1+1+1+1+1+1+1+8*n by omega]
  exact this
theorem Qut {d:Nat}:∀ (r:List dw) {p:List dw} {k fuel:Nat},r.length < fuel->p.length+r.length<=2000000->k+5*r.length<=1000000000 ->
  Q8 (rP d (zn d)) fuel ((k:Int),((p.length:Nat):Int),p++r)=some (((k+5*r.length:Nat):Int),p++uJ k r.length)
 | _,p,k,0,h,_,_=>by omega
 | [],p,k,fuel+1,h,h2,h3=>by
  simp only [Q8,rP]
  rw [List.append_nil,bB,Q5]
  unfold zn
  simp [uJ]
 | x::r,p,k,fuel+1,h,h2,h3=>by
  simp only [Z9] at h h2 h3
  have au:p.length < (p++x::r).length:=by simp
  have hg:(p++x::r)[p.length]? = some x:=by simp
  simp only [Q8,rP,Q3,nn,Q4]
  rw [Z5 (show ((p.length:Nat):Int) < (((p++x::r).length:Nat):Int) by omega),Q4,Qp au,Q4,hg,Q9]
  simp only [List.length_set,List.set_set,List.getElem?_set_self au,Q9,Qp au,Q4]
  rw [Fg,aN (by omega),aN (by omega),aN (by omega),aN (by omega),aN (by omega),aN (by omega)]
  have:=Qut (d:=d) r (p:=p++[mF k]) (k:=k+1+1+1+1+1) (fuel:=fuel) (by omega) (by simp;omega) (by omega)
  rw [Zf,show (p++[mF k])++r=p++mF k::r by simp] at this
  simp only [Z9,Zb,uJ]
  rw [show k+5*(r.length+1)=k+1+1+1+1+1+5*r.length by omega,show p++mF k::uJ (k+1+1+1+1+1) r.length=(p++[mF k])++uJ (k+1+1+1+1+1) r.length by simp]
  exact this
theorem Quu {d:Nat} {l:List dw}:∀ (n:Nat) {p:List dw} {k fuel:Nat},l=p++uJ k n->n < fuel->p.length+n<=2000000->k+5*n<=1000000000 ->
  Q8 (kN d l (oT d)) fuel ((k:Int),0,((p.length:Nat):Int))=some ((k+5*n:Nat):Int)
 | n,p,k,0,_,h,_,_=>by omega
 | 0,p,k,fuel+1,e,h,h2,h3=>by
  simp only [uJ,List.append_nil] at e
  subst e
  simp only [Q8,kN]
  rw [bB,Q5]
  unfold oT
  simp
 | n+1,p,k,fuel+1,e,h,h2,h3=>by
  have hg:l[p.length]? = some (mF k):=by rw [e];simp [uJ]
  have au:=(Z0 hg).1
  simp only [Q8,kN,Q3,nn,Q4]
  rw [Z5 (show ((p.length:Nat):Int) < ((l.length:Nat):Int) by omega),Q4,hg]
  simp only [Q9]
  rw [aN (by omega),aN (by omega),aN (by omega),aN (by omega),aN (by omega),aN (by omega)]
  unfold mF
  simp only [bne_self_eq_false,Q5]
  have:=Quu (d:=d) (l:=l) n (p:=p++[mF k]) (k:=k+1+1+1+1+1) (fuel:=fuel) (by rw [e];simp [uJ]) (by omega) (by simp;omega) (by omega)
  rw [Zf] at this
  simp only [Z9,Zb] at this
  rw [show k+5*(n+1)=k+1+1+1+1+1+5*n by omega]
  exact this
def jL:Nat->Nat->List Int
 | _,0=>[]
 | k,n+1=>(k:Int)::jL (k+1) n
theorem Quv {d:Nat}:∀ (r:List Int) {p:List Int} {k fuel:Nat},r.length < fuel->p.length+r.length<=2000000->k+r.length<=1000000000 ->
  Q8 (rD d (w4 d)) fuel ((k:Int),((p.length:Nat):Int),p++r)=some (((k+r.length:Nat):Int),p++jL k r.length)
 | _,p,k,0,h,_,_=>by omega
 | [],p,k,fuel+1,h,h2,h3=>by
  simp only [Q8,rD]
  rw [List.append_nil,bB,Q5]
  unfold w4
  simp [jL]
 | x::r,p,k,fuel+1,h,h2,h3=>by
  simp only [Z9] at h h2 h3
  have au:p.length < (p++x::r).length:=by simp
  have hg:(p++x::r)[p.length]? = some x:=by simp
  simp only [Q8,rD,Q3,nn,Q4]
  rw [Z5 (show ((p.length:Nat):Int) < (((p++x::r).length:Nat):Int) by omega),Q4,Qp au,Q4,hg,Q9]
  rw [Fg,aN (by omega),aN (by omega)]
  have:=Quv (d:=d) r (p:=p++[(k:Int)]) (k:=k+1) (fuel:=fuel) (by omega) (by simp;omega) (by omega)
  rw [Zf,show (p++[(k:Int)])++r=p++(k:Int)::r by simp] at this
  simp only [Z9,Zb,jL]
  rw [show k+(r.length+1)=k+1+r.length by omega,show p++(k:Int)::jL (k+1) r.length=(p++[(k:Int)])++jL (k+1) r.length by simp]
  exact this
theorem Quw {d:Nat} {l:List Int}:∀ (n:Nat) {p:List Int} {k fuel:Nat},l=p++jL k n->n < fuel->p.length+n<=2000000->k+n<=1000000000 ->
  Q8 (rE d l (w6 d)) fuel ((k:Int),0,((p.length:Nat):Int))=some ((k+n:Nat):Int)
 | n,p,k,0,_,h,_,_=>by omega
 | 0,p,k,fuel+1,e,h,h2,h3=>by
  simp only [jL,List.append_nil] at e
  subst e
  simp only [Q8,rE]
  rw [bB,Q5]
  unfold w6
  simp
 | n+1,p,k,fuel+1,e,h,h2,h3=>by
  have hg:l[p.length]? = some (k:Int):=by rw [e];simp [jL]
  have au:=(Z0 hg).1
  simp only [Q8,rE,Q3,nn,Q4]
  rw [Z5 (show ((p.length:Nat):Int) < ((l.length:Nat):Int) by omega),Q4,hg]
  simp only [Q9]
  rw [aN (by omega),aN (by omega)]
  simp only [bne_self_eq_false,Q5]
  have:=Quw (d:=d) (l:=l) n (p:=p++[(k:Int)]) (k:=k+1) (fuel:=fuel) (by rw [e];simp [jL]) (by omega) (by simp;omega) (by omega)
  rw [Zf] at this
  simp only [Z9,Zb] at this
  rw [show k+(n+1)=k+1+n by omega]
  exact this
theorem oQ {d k:Nat} {l:List Int} (hl:l.length<=1048576) (hk:k<=100000000):g18 (d+1) l (k:Int)=some (((k+l.length:Nat):Int),jL k l.length):=by
 rw [e18]
 exact Quv l (p:=[]) (by rw [Q6];omega) (by simp;omega) (by omega)
theorem YU {d k:Nat} {l:List aC} (hl:l.length<=1048576) (hk:k<=100000000):Ou (d+1) l (k:Int)=some (((k+8*l.length:Nat):Int),uI k l.length):=by
 rw [e52]
 exact Qur l (p:=[]) (by rw [Q6];omega) (by simp;omega) (by omega)
theorem R9 {d k:Nat} {l:List dw} (hl:l.length<=1048576) (hk:k<=100000000):K9 (d+1) l (k:Int)=some (((k+5*l.length:Nat):Int),uJ k l.length):=by
 rw [e30]
 exact Qut l (p:=[]) (by rw [Q6];omega) (by simp;omega) (by omega)
theorem Dt {d k n:Nat} (hl:n<=1048576) (hk:k<=100000000):g20 (d+1) (jL k n) (k:Int)=some (((k+n:Nat):Int)):=by
 rw [e20]
 exact Quw n (p:=[]) rfl (by rw [Q6];omega) (by simp;omega) (by omega)
theorem Qhg {d k n:Nat} (hl:n<=1048576) (hk:k<=100000000):Fl (d+1) (uI k n) (k:Int)=some (((k+8*n:Nat):Int)):=by
 rw [Sq]
 exact Qus n (p:=[]) rfl (by rw [Q6];omega) (by simp;omega) (by omega)
theorem Qf2 {d k n:Nat} (hl:n<=1048576) (hk:k<=100000000):Fm (d+1) (uJ k n) (k:Int)=some (((k+5*n:Nat):Int)):=by
 rw [Sr]
 exact Quu n (p:=[]) rfl (by rw [Q6];omega) (by simp;omega) (by omega)
def U9 (k:Nat) (x:Ld):Ld:=(x.1,uI k x.2.1.length,jL (k+8*x.2.1.length) x.2.2.1.length,jL (k+8*x.2.1.length+x.2.2.1.length) x.2.2.2.1.length,jL (k+8*x.2.1.length+x.2.2.1.length+x.2.2.2.1.length) x.2.2.2.2.1.length,jL (k+8*x.2.1.length+x.2.2.1.length+x.2.2.2.1.length+x.2.2.2.2.1.length) x.2.2.2.2.2.1.length,uJ (k+8*x.2.1.length+x.2.2.1.length+x.2.2.2.1.length+x.2.2.2.2.1.length+x.2.2.2.2.2.1.length) x.2.2.2.2.2.2.1.length,jL (k+8*x.2.1.length+x.2.2.1.length+x.2.2.2.1.length+x.2.2.2.2.1.length+x.2.2.2.2.2.1.length+5*x.2.2.2.2.2.2.1.length) x.2.2.2.2.2.2.2.1.length,x.2.2.2.2.2.2.2.2)
def BE (k:Nat) (x:Ld):Nat:=k+8*x.2.1.length+x.2.2.1.length+x.2.2.2.1.length+x.2.2.2.2.1.length+x.2.2.2.2.2.1.length+5*x.2.2.2.2.2.2.1.length+x.2.2.2.2.2.2.2.1.length
theorem Ob {k:Nat} {x:Ld} (h:AW x):BE k x<=k+20000000:=by
 obtain ⟨z1,z2,z3,z4,z5,z6,z7,z8⟩:=h
 unfold BE;omega
theorem Qhh {d k:Nat} {x:Ld} (h:AW x) (hk:k<=10000000):Ss (d+2) (U9 k x) (k:Int)=some ((BE k x:Nat):Int):=by
 obtain ⟨z1,z2,z3,z4,z5,z6,z7,z8⟩:=h
 rw [e53]
 unfold U9
 simp only []
 rw [Qhg (by omega) (by omega),Q9,Z4 (by omega),Q5,Dt (by omega) (by omega),Q9,Z4 (by omega),Q5,Dt (by omega) (by omega),Q9,Z4 (by omega),Q5,Dt (by omega) (by omega),Q9,Z4 (by omega),Q5,Dt (by omega) (by omega),Q9,Z4 (by omega),Q5,Qf2 (by omega) (by omega),Q9,Z4 (by omega),Q5,Dt (by omega) (by omega),Q9,Z4 (by omega),Q5]
 rfl
def mL (k:Nat) (t:Tk):Tk:=(jL k t.1.length,jL (k+t.1.length) t.2.length)
def IA (k:Nat) (t:Tk):Nat:=k+t.1.length+t.2.length
theorem Qhi {d k:Nat} {t:Tk} (h1:t.1.length<=1048576) (h2:t.2.length<=1048576) (hk:k<=90000000):Su (d+2) (mL k t) (k:Int)=some ((IA k t:Nat):Int):=by
 rw [e54]
 unfold mL
 simp only []
 rw [Dt (by omega) (by omega),Q9,Z4 (by omega),Q5,Dt (by omega) (by omega),Q9,Z4 (by omega),Q5]
 rfl
theorem Qn0 {d:Nat} {t:Tk} (h1:t.1.length<=2000000) (h2:t.2.length<=2000000):Sm (d+2) t t=some true:=by
 rw [e46,Ds h1,Q9,Zl,Q5,Ds h2,Q9,Zl,Q5]
theorem Qn1 {d:Nat} {t:Tk} (h1:t.1.length<=1048576) (h2:t.2.length<=1048576):Sf (d+2) t=some t:=by
 rw [e39,GN h1,Q9,GN h2,Q9]
theorem Qn2 {d:Nat} {t:Tk} {n:Int} (h0:0<=n) (h1:n<=1048576) (z1:t.1.length<=9223372036854775807) (z2:t.2.length<=9223372036854775807):Ok (Sb (d+2) t n) fun r=>r < 0\/(0<=r/\r<=n/\t.1.length<=1048576/\t.2.length<=1048576):=by
 have no:Ok (some (-1:Int)) fun r=>r < 0\/(0<=r/\r<=n/\t.1.length<=1048576/\t.2.length<=1048576):=Ok.some (Or.inl (by omega))
 rw [e32]
 refine Ok.bind (GO (by omega) (by omega) z1) fun r3 g3=>?_
 refine Ok.aa (fun _=>no) (fun B9=>?_)
 simp only [decide_eq_false_iff_not] at B9
 have g3:=g3.resolve_left B9
 refine Ok.bind (GO (by omega) (by omega) z2) fun r4 g4=>?_
 refine Ok.aa (fun _=>no) (fun Ea=>?_)
 simp only [decide_eq_false_iff_not] at Ea
 have g4:=g4.resolve_left Ea
 exact Ok.some (Or.inr ⟨by omega,by omega,by omega,by omega⟩)
theorem nh {l:List Int} {i:Nat} {z:Int} (h:i < l.length):l[i]? = some (l.getD i z):=by
 rw [Zr,Z6 h];rfl
def oA (t:Tk) (c:aC) (i:Nat):Bool:=decide (0<=t.1.getD i 0/\t.1.getD i 0<=c.2.2.2.2.1)&&decide (0<=t.2.getD i 0/\t.2.getD i 0<=c.2.2.2.2.2.1)
def AX (x:Ld) (t:Tk):Bool:=decide (t.1.length=x.2.1.length/\t.2.length=x.2.1.length)&&eI (oA t) x.2.1 0
theorem Qwb {x:Ld} {t:Tk} (h:AX x t=true):t.1.length=x.2.1.length/\t.2.length=x.2.1.length:=by
 unfold AX at h
 simp only [Z8,Zj] at h
 exact h.1
theorem Qf3 {d:Nat} {x:Ld} {t:Tk} (hl:x.2.1.length<=1000):T5 (d+1) x t=some (AX x t):=by
 rw [e88]
 unfold yT AX
 by_cases h1:t.1.length=x.2.1.length
 case neg=>rw [show ((((t.1.length:Nat):Int)) != ((x.2.1.length:Nat):Int))=true by simp;omega,Q4,Q4,Z4 (fun h=>h1 h.1)];rfl
 by_cases h2:t.2.length=x.2.1.length
 case neg=>rw [show ((((t.1.length:Nat):Int)) != ((x.2.1.length:Nat):Int))=false by simp;omega,Q5,show ((((t.2.length:Nat):Int)) != ((x.2.1.length:Nat):Int))=true by simp;omega,Q4,Z4 (fun h=>h2 h.2)];rfl
 rw [show ((((t.1.length:Nat):Int)) != ((x.2.1.length:Nat):Int))=false by simp;omega,Q5,show ((((t.2.length:Nat):Int)) != ((x.2.1.length:Nat):Int))=false by simp;omega,Q5,Z5 ⟨h1,h2⟩,Zg]
 refine (Qb (fun (t:Bool) (i:Int)=>(t,i)) x.2.1 (fun c i b k=>aa (oA t c i) (k b) (some false)) (fun _=>some true) ?_ ?_ (by rw [Q6];omega) false).trans ?_
 .intro ag b i c hx
  have hi:=(Z0 hx).1
  simp only [yR,bW hx,nn,Q3,hx,Q9,Q4]
  rw [nh (l:=t.1) (z:=0) (by omega),nh (l:=t.2) (z:=0) (by omega)]
  simp only [Q9]
  unfold nD
  by_cases a1:t.1.getD i 0 < 0
  .rw [Z5 a1,Q4,Q4,show oA t c i=false by unfold oA;rw [Z4 (by omega),Bool.false_and],Q5]
  by_cases a2:t.1.getD i 0 > c.2.2.2.2.1
  .rw [Z4 a1,Q5,Z5 a2,Q4,Q4,show oA t c i=false by unfold oA;rw [Z4 (by omega),Bool.false_and],Q5]
  by_cases a3:t.2.getD i 0 < 0
  .rw [Z4 a1,Q5,Z4 a2,Q5,Z5 a3,Q4,Q4,show oA t c i=false by unfold oA;rw [Bool.and_comm,Z4 (by omega),Bool.false_and],Q5]
  by_cases a4:t.2.getD i 0 > c.2.2.2.2.2.1
  .rw [Z4 a1,Q5,Z4 a2,Q5,Z4 a3,Q5,Z5 a4,Q4,show oA t c i=false by unfold oA;rw [Bool.and_comm,Z4 (by omega),Bool.false_and],Q5]
  .rw [Z4 a1,Q5,Z4 a2,Q5,Z4 a3,Q5,Z4 a4,Q5,show oA t c i=true by unfold oA;rw [Z5 (by omega),Z5 (by omega)];rfl,Q4,aN (by omega)]
 .intro ag t;simp only [yR,bB,Q5];rfl
 .rw [qq];cases eI (oA t) x.2.1 0<;>rfl
theorem Qn3 {d:Nat} {x:Ld} {t:Tk} (hl:x.2.1.length<=1000):FH (d+2) x t=some (AX x t):=by
 rw [SQ]
 unfold pI AX
 by_cases h1:t.1.length=x.2.1.length
 case neg=>rw [show ((((t.1.length:Nat):Int)) != ((x.2.1.length:Nat):Int))=true by simp;omega,Q4,Q4,Z4 (fun h=>h1 h.1)];rfl
 by_cases h2:t.2.length=x.2.1.length
 case neg=>rw [show ((((t.1.length:Nat):Int)) != ((x.2.1.length:Nat):Int))=false by simp;omega,Q5,show ((((t.2.length:Nat):Int)) != ((x.2.1.length:Nat):Int))=true by simp;omega,Q4,Z4 (fun h=>h2 h.2)];rfl
 rw [show ((((t.1.length:Nat):Int)) != ((x.2.1.length:Nat):Int))=false by simp;omega,Q5,show ((((t.2.length:Nat):Int)) != ((x.2.1.length:Nat):Int))=false by simp;omega,Q5,Z5 ⟨h1,h2⟩,Zg]
 refine (Qb (fun (t:Bool) (i:Int)=>(t,i)) x.2.1 (fun c i b k=>aa (oA t c i) (k b) (some false)) (fun _=>some true) ?_ ?_ (by rw [Q6];omega) false).trans ?_
 .intro ag b i c hx
  have hi:=(Z0 hx).1
  simp only [pH,bW hx,nn,Q3,hx,Q9,Q4]
  rw [nh (l:=t.1) (z:=0) (by omega),nh (l:=t.2) (z:=0) (by omega),Q9,Q9,vF,Q9,vF,Q9,aN (by omega)]
  unfold oA
  cases decide (0<=t.1.getD i 0/\t.1.getD i 0<=c.2.2.2.2.1) with
  | false=>rfl
  | true=>cases decide (0<=t.2.getD i 0/\t.2.getD i 0<=c.2.2.2.2.2.1)<;>rfl
 .intro ag t;simp only [pH,bB,Q5];rfl
 .rw [qq];cases eI (oA t) x.2.1 0<;>rfl
theorem Qux {x:Ld} (h:eR x=true):x.2.1.length<=24:=by
 unfold eR at h
 simp only [Z8,Zj] at h
 exact h.1.1
theorem Qsn {d:Nat} {x:Ld} {t:Tk} (h:AJ x):SS (d+12) x t=some (eR x&&AX x t):=by
 rw [e70,Qsm h,Q9]
 cases hg:eR x with
 | false=>rfl
 | true =>
  have:=Qux hg
  rw [Q4,show d+11=d+9+2 by omega,Qn3 (by omega),Q9,Zg]
def bT (F:List Int):List Int:=fL (fun f _=>decide (f < 0)) (fun _ k=>((k:Nat):Int)) F 0
theorem AI {F:List Int}:(bT F).length<=F.length:=Uk _ _
theorem Ki {d:Nat} {x:Ld} (hl:x.2.1.length<=1000) (hE:x.2.2.2.1.length=x.2.1.length):DP (d+1) x=some (bT x.2.2.2.1):=by
 rw [e89]
 refine (Qb (fun (t:List Int) (i:Int)=>(t,i)) x.2.2.2.1 (fun f i t k=>aa (decide (f < 0)) (aa (Nat.ble ((t.length+[((i:Nat):Int)].length)*8) Q7) (k (t++[((i:Nat):Int)])) none) (k t)) (fun t=>some t) ?_ ?_ (by rw [Q6];omega) []).trans ?_
 .intro ag t i f hx
  have hi:=(Z0 hx).1
  simp only [yU,<- hE,bW hx,nn,Q3,hx,Q9,Q4]
  rw [aN (by omega)]
 .intro ag t;simp only [yU,<- hE,bB,Q5];rfl
 .rw [DW (c:=fun f _=>decide (f < 0)) (e:=fun (_:Int) (k:Nat)=>((k:Nat):Int)) (w:=8) x.2.2.2.1 0 [] (by simp;omega)]
  rfl
theorem Qso {d k:Nat} {x:Ld} {f:Int} (h:x.2.2.2.1[k]? = some f):FI (d+1) x ((k:Nat):Int)=some (decide (f < 0)):=by
 rw [SU,nn,Q4,Q3,h,Q9]
theorem Iy {d:Nat} {x:Ld} (hl:x.2.1.length<=1000) (hE:x.2.2.2.1.length=x.2.1.length):DK (d+2) x=some (bT x.2.2.2.1):=by
 rw [e71]
 refine (Qb (fun (t:List Int) (i:Int)=>(t,i)) x.2.2.2.1 (fun f i t k=>aa (decide (f < 0)) (aa (Nat.ble ((t.length+[((i:Nat):Int)].length)*8) Q7) (k (t++[((i:Nat):Int)])) none) (k t)) (fun t=>some t) ?_ ?_ (by rw [Q6];omega) []).trans ?_
 .intro ag t i f hx
  have hi:=(Z0 hx).1
  simp only [xD,<- hE,bW hx,Q4]
  rw [Qso hx,Q9,aN (by omega)]
 .intro ag t;simp only [xD,<- hE,bB,Q5];rfl
 .rw [DW (c:=fun f _=>decide (f < 0)) (e:=fun (_:Int) (k:Nat)=>((k:Nat):Int)) (w:=8) x.2.2.2.1 0 [] (by simp;omega)]
  rfl
theorem Qn4 {l:List aC} (T:Tr l) {i:Int} (hi:vI l i) (hp:0<=bN l i):pW l (bN l i) < pW l i:=by
 have hv:=GD (l:=l) (i:=i) hp
 obtain ⟨A,B,e⟩:=Uy T _ (bN l i) (Zd _) hv
 rw [IP T hv] at e
 have hm:i∈(cg l (bN l i)).flatMap (iK l):=List.mem_flatMap.2 ⟨i,(AT T hv).2 ⟨hi,rfl⟩,by rw [IP T hi];simp⟩
 obtain ⟨m,hm⟩:=List.getElem?_of_mem hm
 have au:=(Z0 hm).1
 have h1:(aG l)[A.length]? = some (bN l i):=by rw [e];simp
 have h2:(aG l)[A.length+1+m]? = some i:=by
  rw [e,List.append_assoc,Zq (by omega),show A.length+1+m - A.length=m+1 by omega,List.cons_append,List.getElem?_cons_succ,List.getElem?_append_left au,hm]
 unfold pW
 rw [rT (qZ T) h1,rT (qZ T) h2]
 omega
structure Lk (x:Ld):Prop where
 fF:x.2.1.length<=24
 pl:x.2.2.1.length=x.2.1.length
 fl:x.2.2.2.1.length=x.2.1.length
 pd:∀ (k:Nat) (p:Int),x.2.2.1[k]? = some p->p < (k:Int)
 bur:∀ c∈x.2.1,c.2.2.2.2.1<=1000000/\c.2.2.2.2.2.1<=1000000
theorem vr {x:Ld} (h:eR x=true):Lk x:=by
 have iy:=Qux h
 unfold eR Di at h
 simp only [Z8,Zj] at h
 obtain ⟨_,hg,s1,s2,s3,_⟩:=h
 have G:=ri hg
 have T:=G.tr
 have e1:x.2.1.length=(aG (eL x).2.1).length:=by rw [s1];show ((aG (eL x).2.1).map _).length=_;rw [List.length_map]
 refine ⟨iy,?_,?_,?_,?_⟩
 .rw [e1,s2];show ((aG (eL x).2.1).map _).length=_;rw [List.length_map]
 .rw [e1,s3];show ((aG (eL x).2.1).map _).length=_;rw [List.length_map]
 .intro k p hp
  rw [s2] at hp
  have GP:((aG (eL x).2.1).map fun i=>pW (eL x).2.1 (bN (eL x).2.1 i))[k]? = some p:=hp
  rw [List.getElem?_map] at GP
  obtain ⟨i,hi,rfl⟩:=Option.map_eq_some_iff.1 GP
  have hv:=(jz T).1 (Zc hi)
  have hk:pW (eL x).2.1 i=(k:Int):=rT (qZ T) hi
  rcases Int.lt_or_le (bN (eL x).2.1 i) 0 with h0 | h0
  .rw [uG T h0];omega
  .have:=Qn4 T hv h0;omega
 .intro c hc
  have hm:c∈(eL x).2.1:=AF.mem_iff.2 hc
  have:=G.cl
  unfold kE at this
  simp only [Z8] at this
  have:=Z3 this.2.2.2.2.2.2.2.1 c hm
  unfold mJ at this
  simp only [Zj] at this
  omega
abbrev Pk:=Int×Int×Int×Int×Int×Int
def IX (n:Int):Bool:=decide (0<=n/\n<=65535)
def jR (p:Pk):Bool:=decide (1<=p.1/\p.1<=100000/\0<=p.2.1/\p.2.1<=65535/\0<=p.2.2.1/\p.2.2.1<=65535/\0<=p.2.2.2.1/\p.2.2.2.1<=65535/\0<=p.2.2.2.2.1/\p.2.2.2.2.1<=65535/\1<=p.2.2.2.2.2/\p.2.2.2.2.2<=1500)
theorem Qdd {d:Nat} {x:Pk}:Oo (d+2) x=some (jR x):=by
 rw [e90,K6,Q9]
 refine (Qb (fun (t:Bool) (i:Int)=>(t,i)) [x.2.1,x.2.2.1,x.2.2.2.1,x.2.2.2.2.1] (fun y _ t k=>aa (IX y) (k t) (some false)) (yW (d+1) x) ?_ ?_ (by rw [Q6];simp) false).trans ?_
 .intro ag t i y hy
  have hi:i < 4:=by have:=(Z0 hy).1;simpa using this
  have h4:decide ((i:Int) < 4)=true:=by simp;omega
  simp only [DQ,h4,nn,Q3,Q4]
  rw [hy,Q9,aN (by omega)]
  unfold IX
  by_cases h1:y < 0
  .rw [Z5 h1,Q4,Z4 (by omega),Q5]
  .rw [Z4 h1,Q5]
   by_cases h2:y > 65535
   .rw [Z5 h2,Q4,Z4 (by omega),Q5]
   .rw [Z4 h2,Q5,Z5 (by omega),Q4]
 .intro ag t;rfl
 .rw [B5 (p:=IX)]
  unfold yW
  simp only [uC]
  congr 1
  rw [Bool.eq_iff_iff]
  simp only [List.all_cons,List.all_nil,Bool.and_true,IX,jR]
  simp
  omega
theorem Qsp {d:Nat} {n:Int}:tD (d+2) n=some (IX n):=by
 rw [SV,vF,Q9];rfl
theorem Qsq {d:Nat} {x:Pk}:SW (d+3) x=some (jR x):=by
 rw [e73]
 simp only [vF,Qsp,Q9,uC]
 congr 1
 rw [Bool.eq_iff_iff]
 simp [IX,jR]
 omega
theorem U_ {a b:Nat} (h:a<=b):Nat.ble a b=true:=by rw [Nat.ble_eq];exact h
def Qz4 (l:List Pk):Prop:=∀ p∈l,jR p=true
def AY (l:List Pk) (id:Int):Bool:=l.any fun p=>p.1==id
theorem Qhj {β:Type} {id:Int} {yes:Nat->Option β} {fin:Int->Option β} (hy:∀ i j,yes i=yes j):∀ (l:List Pk) (i:Nat) (t:Int),
  d_ (fun (x:Pk) i (t:Int) k=>aa (x.1==id) (yes i) (k t)) fin l i t=if AY l id then yes 0 else fin t
 | [],i,t=>by simp [d_,AY]
 | x::r,i,t=>by
  simp only [d_]
  cases h:x.1==id with
  | true=>simp only [Q4,AY,List.any_cons,h,Bool.true_or,if_true];exact hy i 0
  | false=>simp only [Q5,AY,List.any_cons,h,Bool.false_or];exact Qhj hy r (i+1) t
theorem Qwc {d:Nat} {l:List Pk} {id:Int} (hl:l.length < 4194304):Gw (d+4) l id=some (AY l id):=by
 rw [T8]
 refine (Qb (fun (t:Int) (i:Int)=>(t,i)) l (fun (x:Pk) i (t:Int) k=>aa (x.1==id) (some true) (k t)) (fun _=>some false) ?_ ?_ (by rw [Q6];exact hl) 0).trans ?_
 .intro ag t i x hx
  have hi:=(Z0 hx).1
  simp only [dN,bW hx,nn,Q3,hx,Q9,Q4]
  rw [aN (by omega)]
  first | done | rfl | simp
 .intro ag t;simp only [dN,bB,Q5];rfl
 .rw [Qhj (fun _ _=>rfl)];cases AY l id<;>rfl
def IY (l:List Pk) (x:Pk) (i:Nat):Bool:=jR x && !AY (l.take i) x.1
def LB (l:List Pk):Bool:=eI (IY l) l 0
theorem Quy (l:List Pk):∀ (r pre:List Pk),l=pre++r->(eI (IY l) r pre.length=true↔(∀ x∈r,jR x=true)/\(∀ x∈r,∀ y∈pre,y.1≠x.1)/\(r.map fun p=>p.1).Nodup)
 | [],pre,_=>by simp [eI]
 | x::r,pre,h=>by
  have ih:=Quy l r (pre++[x]) (by rw [h];simp)
  simp only [Zf,Z9,Zb,Zo] at ih
  have ht:l.take pre.length=pre:=by rw [h];simp
  simp only [eI,Z8,ih,IY,ht,Bool.not_eq_true',List.map_cons,List.nodup_cons,List.mem_cons,forall_eq_or_imp,Zh,List.mem_singleton]
  have hh:AY pre x.1=false↔∀ y∈pre,y.1≠x.1:=by
   unfold AY;rw [List.any_eq_false];simp
  rw [hh]
  constructor
  .rintro ⟨⟨a,b⟩,c,e,f⟩
   refine ⟨⟨a,c⟩,⟨b,fun z hz y hy=>e z hz y (.inl hy)⟩,fun hm=>?_,f⟩
   obtain ⟨z,hz,hzx⟩:=List.mem_map.1 hm
   exact e z hz x (.inr (.inl rfl)) hzx.symm
  .rintro ⟨⟨a,c⟩,⟨b,e⟩,g,f⟩
   refine ⟨⟨a,b⟩,c,fun z hz y hy=>?_,f⟩
   rcases hy with hy | hy | hy
   .exact e z hz y hy
   .subst hy;exact fun he=>g (List.mem_map.2 ⟨z,hz,he.symm⟩)
   .simp at hy
theorem Qz5 (l:List Pk):LB l=true↔Qz4 l/\(l.map fun p=>p.1).Nodup:=by
 have:=Quy l l [] rfl
 simp only [Zb,List.not_mem_nil,false_imp_iff,implies_true,true_and] at this
 exact this
theorem Qn5 {d:Nat} {l:List Pk} (hl:l.length < 4194304):T9 (d+5) l=some (LB l):=by
 rw [e92]
 refine (Qb (fun (t:Bool) (i:Int)=>(t,i)) l (fun x i t k=>aa (IY l x i) (k t) (some false)) (fun _=>some true) ?_ ?_ (by rw [Q6];exact hl) false).trans ?_
 .intro ag t i x hx
  have hi:=(Z0 hx).1
  simp only [yY,bW hx,nn,Q3,hx,Q9,Q4,Qdd]
  rw [aN (by omega),U_ (show i<=l.length by omega),Q4,Qwc (by simp;omega),Q9]
  unfold IY
  cases jR x<;>cases AY (l.take i) x.1<;>rfl
 .intro ag t;simp only [yY,bB,Q5];rfl
 .rw [qq];unfold LB;cases eI (IY l) l 0<;>rfl
abbrev Rg:=Ld×Tk×List (List Pk)×Int×Int
def LC (l:List (List Pk)):Prop:=l.length<=1048576/\∀ r∈l,r.length<=1048576
theorem IZ {rows:List (List Pk)} {k:Nat} {row:List Pk} (hx:rows[k]? = some row):(rows.take (k+1)).flatten=(rows.take k).flatten++row:=by
 have hk:=(Z0 hx).1
 have e:=(Z0 hx).2
 rw [List.take_succ_eq_append_getElem hk,List.flatten_append,e]
 simp
theorem Vc {rows:List (List Pk)} (k:Nat):(rows.take k).flatten.length<=rows.flatten.length:=by
 have:rows.flatten=(rows.take k).flatten++(rows.drop k).flatten:=by rw [<- List.flatten_append,List.take_append_drop]
 rw [this,Zf];omega
theorem Qhk {d:Nat} {l:List (List Pk)} {n:Int} (h0:0<=n) (h1:n<=1048576) (hl:l.length<=9223372036854775807) (hr:∀ r∈l,r.length<=9223372036854775807):Ok (Sc (d+2) l n) fun r=>r < 0\/(0<=r/\LC l/\l.flatten.length<=1048576/\0<=r/\r<=1048576):=by
 rw [e33,wr (by omega) (by omega)]
 by_cases h:n - ((l.length:Nat):Int) < 0
 .rw [Z5 h,Q4];exact Ok.some (Or.inl (by omega))
 rw [Z4 h,Q5]
 refine OJ (fun (t:Int×Int) (i:Int)=>(t.1,t.2,i)) l (fun k t=>(0<=t.1/\t.1+(((l.take k).flatten.length:Nat):Int)<=1048576)/\∀ (j:Nat) r,j < k->l[j]? = some r->r.length<=1048576) ?_ ?_ Qd 0 (n - ((l.length:Nat):Int),0) (by rw [Q6];omega) (by omega) ⟨⟨by simp only;omega,by simp only [List.take_zero,List.flatten_nil,Zb];omega⟩,fun j r hj=>absurd hj (by omega)⟩
 .rintro ag ⟨a,b⟩ k row hx ⟨⟨a0,a1⟩,hp⟩ eu
  simp only at a0 a1
  have hk:=(Z0 hx).1
  have cx:=hr row (Zc hx)
  simp only [wK,bW hx,nn,Q3,hx,Q9,Q4]
  rw [e69,wr (by omega) (by omega)]
  by_cases h5:a - ((row.length:Nat):Int) < 0
  .rw [Z5 h5,Q4,Q9,Z5 (show (-1:Int) < 0 by omega),Q4];exact Ok.some (Or.inl (by omega))
  .rw [Z4 h5,Q5,Q9,Z4 h5,Q5,aN (by omega)]
   have h6:(l.take (k+1)).flatten.length=(l.take k).flatten.length+row.length:=by rw [IZ hx,Zf]
   refine eu (a - ((row.length:Nat):Int),b) ⟨⟨by simp only;omega,by simp only;omega⟩,fun j r hj hg=>?_⟩
   by_cases e:j=k
   .subst e;rw [hx] at hg;injection hg with hg;subst hg;omega
   .exact hp j r (by omega) hg
 .rintro ag ⟨a,b⟩ ⟨⟨a0,a1⟩,hp⟩
  simp only at a0 a1
  simp only [wK,bB,Q5]
  rw [List.take_length] at a1
  refine Ok.some (Or.inr ⟨a0,⟨by omega,fun r hr=>?_⟩,by omega,a0,by omega⟩)
  obtain ⟨j,hj⟩:=List.getElem?_of_mem hr
  exact hp j r (Z0 hj).1 hj
def LD (r:Rg):Prop:=AW r.1/\r.2.1.1.length<=1048576/\r.2.1.2.length<=1048576/\LC r.2.2.1
def R8 (r:Rg):Prop:=R6 r.1/\(r.2.1.1.length<=9223372036854775807/\r.2.1.2.length<=9223372036854775807)/\r.2.2.1.length<=9223372036854775807/\∀ q∈r.2.2.1,q.length<=9223372036854775807
theorem Qwd {d:Nat} {r:Rg} (h:R8 r):Ok (g7 (d+3) r 1048576) fun z=>z < 0\/(0<=z/\z<=1048576/\LD r/\r.2.2.1.flatten.length<=1048576):=by
 obtain ⟨z1,z2,z3,z4⟩:=h
 have no:Ok (some (-1:Int)) fun z=>z < 0\/(0<=z/\z<=1048576/\LD r/\r.2.2.1.flatten.length<=1048576):=Ok.some (Or.inl (by omega))
 rw [e7]
 refine Ok.bind (Qmz (by omega) (by omega) z1) fun r3 g3=>?_
 refine Ok.aa (fun _=>no) (fun B9=>?_)
 simp only [decide_eq_false_iff_not] at B9
 have g3:=g3.resolve_left B9
 refine Ok.bind (Qn2 (by omega) (by omega) z2.1 z2.2) fun r4 g4=>?_
 refine Ok.aa (fun _=>no) (fun Ea=>?_)
 simp only [decide_eq_false_iff_not] at Ea
 have g4:=g4.resolve_left Ea
 refine Ok.bind (Qhk (by omega) (by omega) z3 z4) fun r5 g5=>?_
 refine Ok.aa (fun _=>no) (fun LA=>?_)
 simp only [decide_eq_false_iff_not] at LA
 have g5:=g5.resolve_left LA
 exact Ok.some (Or.inr ⟨g5.1,g5.2.2.2.2,⟨g3.2.2,g4.2.2.1,g4.2.2.2,g5.2.1⟩,g5.2.2.1⟩)
theorem Qjz {d:Nat} {l:List Pk} (hl:l.length<=1048576):Sh (d+2) l=some l:=by
 rw [e85,nn,Q4,Q4,Q3,show (Nat.ble l.length l.length&&Nat.ble (l.length*48) Q7)=true by rw [Z8,Nat.ble_eq,Nat.ble_eq];unfold Q7;omega,Q4]
 refine Ok.val (lW (fun j (s:Int×List Pk)=>∃ k:Nat,k+j=l.length/\s.1=(k:Int)/\s.2=l.take k++List.replicate (l.length - k) ((0,0,0,0,0,0):Pk)) ?_ _ l.length _ (by rw [Q6];omega) ⟨0,by omega,rfl,by simp⟩)
 rintro j ⟨n,r⟩ ag ⟨k,hk,h1,h2⟩ eu
 simp only at h1 h2
 subst h1
 have jZ:r.length=l.length:=by rw [h2];simp;omega
 simp only [DB]
 rcases Nat.lt_or_ge k l.length with au | sO
 .have hx:=Z6 au
  rw [bW hx,Q4,nn,Q4,Q3,hx,Q9,Sg,Q9,Q4,Qp (by omega),Q4,Z6 (by omega),Q9,aN (by omega)]
  exact eu (j - 1) _ (by omega) ⟨k+1,by omega,rfl,by rw [h2];exact Lz hx⟩
 .have:k=l.length:=by omega
  subst this
  rw [bB,Q5]
  unfold DA
  exact Ok.some (by rw [h2];simp)
theorem Qhl {d:Nat} {l:List (List Pk)} (h:LC l):Si (d+3) l=some l:=by
 obtain ⟨hl,hr⟩:=h
 rw [e40,nn,Q4,Q4,Q3,show (Nat.ble l.length l.length&&Nat.ble (l.length*24) Q7)=true by rw [Z8,Nat.ble_eq,Nat.ble_eq];unfold Q7;omega,Q4]
 refine Ok.val (lW (fun j (s:Int×List (List Pk))=>∃ k:Nat,k+j=l.length/\s.1=(k:Int)/\s.2=l.take k++List.replicate (l.length - k) ([]:List Pk)) ?_ _ l.length _ (by rw [Q6];omega) ⟨0,by omega,rfl,by simp⟩)
 rintro j ⟨n,r⟩ ag ⟨k,hk,h1,h2⟩ eu
 simp only at h1 h2
 subst h1
 have jZ:r.length=l.length:=by rw [h2];simp;omega
 simp only [DD]
 rcases Nat.lt_or_ge k l.length with au | sO
 .have hx:=Z6 au
  rw [bW hx,Q4,nn,Q4,Q3,hx,Q9,Qjz (hr _ (List.getElem_mem au)),Q9,Q4,Qp (by omega),Q4,Z6 (show k < r.length by omega),Q9,aN (by omega)]
  exact eu (j - 1) _ (by omega) ⟨k+1,by omega,rfl,by rw [h2];exact Lz hx⟩
 .have:k=l.length:=by omega
  subst this
  rw [bB,Q5]
  unfold DC
  exact Ok.some (by rw [h2];simp)
theorem Qwe {d:Nat} {r:Rg} (h:LD r):g10 (d+4) r=some r:=by
 obtain ⟨h1,h2,h3,h4⟩:=h
 rw [e10,Qmy h1,Q9,show d+3=d+1+2 by omega,Qn1 h2 h3,Q9,show d+1+2=d+3 by omega,Qhl h4,Q9]
theorem Qk0 {d:Nat} {l:List Pk} (hl:l.length<=2000000):Fk (d+2) l l=some true:=by
 rw [So,bne_self_eq_false,Q5]
 refine (Qb (fun (t:Bool) (i:Int)=>(t,i)) l (fun x i t k=>k t) (wX (d+1)) ?_ ?_ (by rw [Q6];omega) false).trans ?_
 .intro ag t i x hx;have hi:=(Z0 hx).1;simp only [oR,bW hx,nn,Q3,hx,Q9,Q4]
  rw [Sn]
  simp only [bne_self_eq_false,Q5,Zl,Q9]
  rw [aN (by omega)]
 .intro ag t;simp only [oR,bB,Q5]
 .rw [wH (f:=fun _ _ t=>t)];rfl
theorem Qhm {d:Nat} {l:List (List Pk)} (h:LC l):Sp (d+3) l l=some true:=by
 obtain ⟨hl,hr⟩:=h
 rw [e47,bne_self_eq_false,Q5]
 refine (Qb (fun (t:Bool) (i:Int)=>(t,i)) l (fun x i t k=>k t) (DH (d+2)) ?_ ?_ (by rw [Q6];omega) false).trans ?_
 .intro ag t i x hx;have hi:=(Z0 hx).1;simp only [wY,bW hx,nn,Q3,hx,Q9,Q4]
  have:=hr _ (Zc hx)
  rw [Qk0 (by omega),Q9,Zl,Q5,aN (by omega)]
 .intro ag t;simp only [wY,bB,Q5]
 .rw [wH (f:=fun _ _ t=>t)];rfl
theorem YT {d:Nat} {r:Rg} (h:LD r):g13 (d+4) r r=some true:=by
 obtain ⟨h1,h2,h3,h4⟩:=h
 rw [e13,Qmx h1,Q9,Zl,Q5,show d+3=d+1+2 by omega,Qn0 (by omega) (by omega),Q9,Zl,Q5,show d+1+2=d+3 by omega,Qhm h4,Q9,Zl,Q5,bne_self_eq_false,Q5,bne_self_eq_false,Q5]
theorem Qss {d:Nat} {rows:List (List Pk)} (hl:rows.length<=1000) (hs:rows.flatten.length<=100000):T_ (d+2) rows=some rows.flatten:=by
 rw [e93]
 have lp1:∀ (m k fuel:Nat),k+m=rows.length->m < fuel->Q8 (rM d rows (DR d)) fuel ((rows.take k).flatten,((k:Nat):Int))=some rows.flatten:=by
  intro m
  induction m with
  | zero =>
   intro k fuel e h
   obtain ⟨g,rfl⟩:∃ g,fuel=g+1:=⟨fuel - 1,by omega⟩
   obtain rfl:k=rows.length:=by omega
   simp only [Q8,rM,bB,Q5]
   rw [List.take_length];rfl
  | succ m ih =>
   intro k fuel e h
   obtain ⟨g,rfl⟩:∃ g,fuel=g+1:=⟨fuel - 1,by omega⟩
   have hk:k < rows.length:=by omega
   have hx:=Z6 hk
   have h2:=Vc (rows:=rows) (k+1)
   rw [IZ hx,Zf] at h2
   simp only [Q8,rM,bW hx,nn,Q3,hx,Q9,Q4]
   rw [room (by omega),Q4,aN (by omega),<- IZ hx]
   exact ih (k+1) g (by omega) (by omega)
 have lp2:∀ (m k fuel:Nat),k+m=rows.length->m < fuel->Q8 (lS d rows (DS d)) fuel ((rows.take k).flatten,((k:Nat):Int))=some rows.flatten:=by
  intro m
  induction m with
  | zero =>
   intro k fuel e h
   obtain ⟨g,rfl⟩:∃ g,fuel=g+1:=⟨fuel - 1,by omega⟩
   obtain rfl:k=rows.length:=by omega
   simp only [Q8,lS,bB,Q5]
   rw [List.take_length];rfl
  | succ m ih =>
   intro k fuel e h
   obtain ⟨g,rfl⟩:∃ g,fuel=g+1:=⟨fuel - 1,by omega⟩
   have hk:k < rows.length:=by omega
   have hx:=Z6 hk
   have h2:=Vc (rows:=rows) (k+1)
   rw [IZ hx,Zf] at h2
   simp only [Q8,lS,bW hx,nn,Q3,hx,Q9,Q4]
   rw [room (by omega),Q4,aN (by omega),<- IZ hx]
   exact ih (k+1) g (by omega) (by omega)
 have lp0:∀ (m k fuel:Nat),k+m=rows.length->m < fuel->Q8 (rO d rows (rN d rows)) fuel ((((rows.take k).flatten.length:Nat):Int),((k:Nat):Int))=rN d rows ((rows.flatten.length:Nat):Int):=by
  intro m
  induction m with
  | zero =>
   intro k fuel e h
   obtain ⟨g,rfl⟩:∃ g,fuel=g+1:=⟨fuel - 1,by omega⟩
   obtain rfl:k=rows.length:=by omega
   simp only [Q8,rO,bB,Q5]
   rw [List.take_length]
  | succ m ih =>
   intro k fuel e h
   obtain ⟨g,rfl⟩:∃ g,fuel=g+1:=⟨fuel - 1,by omega⟩
   have hk:k < rows.length:=by omega
   have hx:=Z6 hk
   have h2:=Vc (rows:=rows) (k+1)
   have h3:=IZ hx
   have h4:(rows.take (k+1)).flatten.length=(rows.take k).flatten.length+(rows[k]).length:=by rw [h3,Zf]
   simp only [Q8,rO,bW hx,nn,Q3,hx,Q9,Q4]
   rw [wr (n:=(((rows.take k).flatten.length:Nat):Int)+(((rows[k]).length:Nat):Int)) (by omega) (by omega),Z4 (by omega),Q5,aN (by omega),show (((rows.take k).flatten.length:Nat):Int)+(((rows[k]).length:Nat):Int)=(((rows.take (k+1)).flatten.length:Nat):Int) by omega]
   exact ih (k+1) g (by omega) (by omega)
 refine (lp0 rows.length 0 Qd (by omega) (by rw [Q6];omega)).trans ?_
 unfold rN
 have e0:IntKind.i64.wrap ((0:Int) - ((0:Nat):Int))=0:=by rw [wr (by omega) (by omega)];rfl
 rw [Z4 (by omega),Q5,e0,Int.sub_zero,wr (by omega) (by omega)]
 by_cases h:rows.flatten.length=0
 .rw [Z4 (by omega),Q5]
  exact lp2 rows.length 0 Qd (by omega) (by rw [Q6];omega)
 .rw [Z5 (by omega),Q4,show Nat.ble 0 0=true from rfl,Q4,nn,Zg,Z5 (by unfold Q7;omega),Q4,Q3,List.length_replicate,show Nat.ble (rows.flatten.length*48) Q7=true by rw [Nat.ble_eq];unfold Q7;omega,Q4]
  rw [show decide (0<=((0:Nat):Int))=true from rfl,Q4,show (((0:Nat):Int)).toNat=0 from rfl,show Nat.ble 0 rows.flatten.length=true by rw [Nat.ble_eq];omega,Q4,List.take_zero]
  exact lp1 rows.length 0 Qd (by omega) (by rw [Q6];omega)
def LF (f:dw) (p:Pk):Bool:=(IntKind.i64.wrap ((BitVec.ofInt IntKind.i64.bits (([p.2.1,p.2.2.1,p.2.2.2.1,p.2.2.2.2.1]:List Int).getD f.2.1.toNat 0) &&& BitVec.ofInt IntKind.i64.bits f.2.2.1).toNat:Int))==f.2.2.2.1
theorem Qwf {d:Nat} {f:dw} {p:Pk} (h:0<=f.2.1/\f.2.1<=3):Gt (d+2) f p=some (LF f p):=by
 rw [T6,K6,Q9,Z5 h.1,Q4,nh (l:=[p.2.1,p.2.2.1,p.2.2.2.1,p.2.2.2.2.1]) (z:=0) (by simp only [Z9,Zb];omega),Q9]
 rfl
theorem Qph {d:Nat} {f:dw} {p:Pk} (h:0<=f.2.1/\f.2.1<=3):FJ (d+2) f p=some (LF f p):=by
 have h4:f.2.1.toNat < ([p.2.1,p.2.2.1,p.2.2.2.1,p.2.2.2.2.1]:List Int).length:=by simp only [Z9,Zb];omega
 rw [SY,SX,Z5 h.1,Q4,Qp h4,Q4,nh (l:=[p.2.1,p.2.2.1,p.2.2.2.1,p.2.2.2.2.1]) (z:=0) h4,Q9,Q9]
 rfl
structure Lr (x:Ld):Prop where
 fo:∀ f∈x.2.2.2.2.2.2.1,0<=f.2.1/\f.2.1<=3
 tl:x.2.2.2.2.2.2.2.1.length=x.2.2.2.2.2.2.1.length
 f16:x.2.2.2.2.2.2.1.length<=16
 ai:∀ c∈x.2.1,c.2.2.2.2.2.2.2<=60
 rat:∀ c∈x.2.1,1<=c.2.2.1/\c.2.2.1<=100000/\1<=c.2.2.2.1/\c.2.2.2.1<=100000
 l0:∀ c∈x.2.1,0<=c.2.2.2.2.2.2.2
 bul:∀ c∈x.2.1,1500<=c.2.2.2.2.1/\1500<=c.2.2.2.2.2.1/\0<=c.2.2.2.2.2.2.1/\c.2.2.2.2.2.2.1<=7
theorem Iw {x:Ld} (h:eR x=true):Lr x:=by
 unfold eR Di at h
 simp only [Z8,Zj] at h
 obtain ⟨hz,hg,s1,s2,s3,s4,s5,s6,s7⟩:=h
 have G:=ri hg
 have hc:=G.cl
 unfold kE at hc
 simp only [Z8] at hc
 obtain ⟨_,_,_,_,_,h6,h7,h8,h9⟩:=hc
 have hm:∀ c∈x.2.1,c∈(eL x).2.1:=fun c hc=>AF.mem_iff.2 hc
 refine ⟨fun f hf=>?_,?_,hz.2,fun c hc=>?_,fun c hc=>?_,fun c hc=>?_,fun c hc=>?_⟩
 .have:=(G.Lj f hf).2.2
  unfold zy at this
  simp only [Z8,Zj] at this
  omega
 .rw [s6]
  show (x.2.2.2.2.2.2.1.map _).length=_
  rw [List.length_map]
 .have:=Z3 h9 c (hm c hc)
  unfold nK at this
  split at this
  .simp only [Zj] at this;omega
  .simp only [beq_iff_eq] at this;omega
 .have:=Z3 h6 c (hm c hc)
  unfold lX at this
  simp only [Zj] at this
  omega
 .have:=Z3 h9 c (hm c hc)
  unfold nK at this
  split at this
  .simp only [Zj] at this;omega
  .simp only [beq_iff_eq] at this;omega
 .have:=Z3 h8 c (hm c hc)
  unfold mJ at this
  simp only [Zj] at this
  omega
def uK (fs:List dw) (p:Pk):Int:=fh (fun f=>LF f p) fs 0
theorem Qf4 {d:Nat} {fs:List dw} {p:Pk} (hl:fs.length<=1000) (h:∀ f∈fs,0<=f.2.1/\f.2.1<=3):Gv (d+3) fs p=some (uK fs p):=by
 rw [T7]
 refine (Qb (fun (t:Int) (i:Int)=>(t,i)) fs (fun f i t k=>aa (LF f p) (some ((i:Nat):Int)) (k t)) (fun _=>some (-1)) ?_ ?_ (by rw [Q6];omega) 0).trans (DV fs 0 _)
 .intro ag t i f hx
  have hi:=(Z0 hx).1
  simp only [qn,bW hx,nn,Q3,hx,Q9,Q4]
  rw [Qwf (h f (Zc hx)),Q9,aN (by omega)]
 .intro ag t;simp only [qn,bB,Q5];rfl
theorem Qpi {d:Nat} {fs:List dw} {p:Pk} (hl:fs.length<=1000) (h:∀ f∈fs,0<=f.2.1/\f.2.1<=3):FL (d+3) fs p=some (uK fs p):=by
 rw [SZ]
 refine (Qb (fun (t:Int) (i:Int)=>(t,i)) fs (fun f i t k=>aa (LF f p) (some ((i:Nat):Int)) (k t)) (fun _=>some (-1)) ?_ ?_ (by rw [Q6];omega) 0).trans (DV fs 0 _)
 .intro ag t i f hx
  have hi:=(Z0 hx).1
  simp only [pJ,bW hx,nn,Q3,hx,Q9,Q4]
  rw [Qph (h f (Zc hx)),Q9,aN (by omega)]
 .intro ag t;simp only [pJ,bB,Q5];rfl
def cC (x:Ld) (p:Pk):Int:=if uK x.2.2.2.2.2.2.1 p>=0 then x.2.2.2.2.2.2.2.1.getD (uK x.2.2.2.2.2.2.1 p).toNat 0 else x.2.2.2.2.2.2.2.2
theorem Vd {fs:List dw} {p:Pk} (h:0<=uK fs p):uK fs p < ((fs.length:Nat):Int):=by
 obtain ⟨j,y,h1,h2,h3,_⟩:=IJ h
 have:=(Z0 h2).1
 unfold uK at *
 omega
theorem YB {d:Nat} {x:Ld} {p:Pk} (R:Lr x):Oq (d+4) x p=some (cC x p):=by
 have Fj:=R.f16
 rw [e91,Qf4 (by omega) R.fo,Q9]
 unfold cC
 by_cases h:uK x.2.2.2.2.2.2.1 p>=0
 .have:=Vd h
  have:=R.tl
  rw [Z5 h,Q4,Q4,nh (l:=x.2.2.2.2.2.2.2.1) (z:=0) (by omega),Q9,if_pos h]
 .rw [Z4 h,Q5,if_neg h]
theorem YF {d:Nat} {x:Ld} {p:Pk} (R:Lr x):Oh (d+4) x p=some (cC x p):=by
 have Fj:=R.f16
 rw [e74,Qpi (by omega) R.fo,Q9]
 unfold cC
 by_cases h:uK x.2.2.2.2.2.2.1 p>=0
 .have:=Vd h
  have:=R.tl
  rw [Z5 h,Q4,Q4,nh (l:=x.2.2.2.2.2.2.2.1) (z:=0) (by omega),Q9,if_pos h]
 .rw [Z4 h,Q5,if_neg h]
def mD (x:Ld) (w:Int):Int:=(aX x.2.1 w).2.2.2.2.2.2.2
def zF (x:Ld) (w:Int) (row:List Pk):Bool := !decide (((row.length:Nat):Int) > mD x w)&&row.all (fun p=>jR p&&(cC x p==w))
def OS (r:Rg):Bool:=decide (r.2.2.1.length=(bT r.1.2.2.2.1).length)&&(decide (-1<=r.2.2.2.1/\r.2.2.2.1 < (((bT r.1.2.2.2.1).length:Nat):Int))&&decide (0<=r.2.2.2.2/\r.2.2.2.2<=1000000))
def mE (r:Rg):Bool:=eR r.1&&(AX r.1 r.2.1&&(OS r&&(eI (fun w i=>zF r.1 w (r.2.2.1.getD i [])) (bT r.1.2.2.2.1) 0&&LB r.2.2.1.flatten)))
theorem Fi {F:List Int} {w:Int} (h:w∈bT F):0<=w/\w < ((F.length:Nat):Int):=by
 obtain ⟨j,x,h1,h2,h3⟩:=Ul _ _ h
 have:=(Z0 h1).1
 omega
theorem Ve {l:List (List Pk)} {i:Nat} (h:i < l.length):l[i]? = some (l.getD i []):=by
 rw [Zr,Z6 h];rfl
theorem Qpl {x:Ld} {rows:List (List Pk)} {W:List Int} (R:Lr x) (hW:∀ w∈W,vI x.2.1 w) (hl:rows.length=W.length) (h:eI (fun w i=>zF x w (rows.getD i [])) W 0=true):(∀ row∈rows,row.length<=60)/\∀ row∈rows,∀ p∈row,jR p=true:=by
 rw [rS] at h
 have key:∀ row∈rows,row.length<=60/\∀ p∈row,jR p=true:=by
  intro row hr
  obtain ⟨i,hi⟩:=List.getElem?_of_mem hr
  have au:=(Z0 hi).1
  have hw:=Z6 (l:=W) (i:=i) (by omega)
  have:=h i _ hw
  rw [Zo,Zr,hi] at this
  unfold zF mD at this
  simp only [Option.getD_some,Z8,Bool.not_eq_true',decide_eq_false_iff_not,List.all_eq_true] at this
  have hv:=hW _ (Zc hw)
  have Iz:=R.ai _ (Zc (fy hv))
  exact ⟨by omega,fun p hp=>(this.2 p hp).1⟩
 exact ⟨fun row hr=>(key row hr).1,fun row hr=>(key row hr).2⟩
theorem OT {B:Nat}:∀ {rows:List (List Pk)},(∀ row∈rows,row.length<=B)->rows.flatten.length<=rows.length*B
 | [],_=>by simp
 | r::rows,h=>by
  have:=OT (B:=B) (rows:=rows) fun row hr=>h row (by simp [hr])
  have:=h r (by simp)
  rw [Ze,Zf,Z9,Nat.add_mul,Nat.one_mul]
  omega
theorem YG {d:Nat} {r:Rg} (h:AJ r.1):Ot (d+28) r=some (mE r):=by
 rw [e42,Qmt h,Q9]
 unfold mE OS zf
 cases hg:eR r.1 with
 | false=>rfl
 | true =>
  have L:=vr hg
  have R:=Iw hg
  have iy:=L.fF
  have hf:=L.fl
  have hv:=AI (F:=r.1.2.2.2.1)
  rw [Zl,Q5,show d+27=d+26+1 by omega,Qf3 (by omega),Q9,Zg]
  cases hb:AX r.1 r.2.1 with
  | false=>rfl
  | true =>
   rw [Zl,Q5,Ki (by omega) hf,Q9,Zg]
   unfold ki
   by_cases a:r.2.2.1.length=(bT r.1.2.2.2.1).length
   case neg=>rw [show ((((r.2.2.1.length:Nat):Int)) != (((bT r.1.2.2.2.1).length:Nat):Int))=true by simp;omega,Q4,Q4,Z4 a];rfl
   rw [show ((((r.2.2.1.length:Nat):Int)) != (((bT r.1.2.2.2.1).length:Nat):Int))=false by simp;omega,Q5,Z5 a,Zg]
   by_cases a1:r.2.2.2.1 < -1
   .rw [Z5 a1,Q4,Q4,Z4 (show ¬ (-1<=r.2.2.2.1/\r.2.2.2.1 < (((bT r.1.2.2.2.1).length:Nat):Int)) by omega)];rfl
   rw [Z4 a1,Q5]
   by_cases a2:r.2.2.2.1>=(((bT r.1.2.2.2.1).length:Nat):Int)
   .rw [Z5 a2,Q4,Q4,Z4 (show ¬ (-1<=r.2.2.2.1/\r.2.2.2.1 < (((bT r.1.2.2.2.1).length:Nat):Int)) by omega)];rfl
   rw [Z4 a2,Q5,Z5 (show -1<=r.2.2.2.1/\r.2.2.2.1 < (((bT r.1.2.2.2.1).length:Nat):Int) by omega),Zg]
   by_cases a3:r.2.2.2.2 < 0
   .rw [Z5 a3,Q4,Q4,Z4 (show ¬ (0<=r.2.2.2.2/\r.2.2.2.2<=1000000) by omega)];rfl
   rw [Z4 a3,Q5]
   by_cases a4:r.2.2.2.2 > 1000000
   .rw [Z5 a4,Q4,Z4 (show ¬ (0<=r.2.2.2.2/\r.2.2.2.2<=1000000) by omega)];rfl
   rw [Z4 a4,Q5,Z5 (show 0<=r.2.2.2.2/\r.2.2.2.2<=1000000 by omega),Zg]
   have hW:∀ w∈bT r.1.2.2.2.1,vI r.1.2.1 w:=fun w hw=>by obtain ⟨q1,q2⟩:=Fi hw;exact ⟨q1,by omega⟩
   refine (Qb (fun (b:Bool) (i:Int)=>(b,i)) (bT r.1.2.2.2.1) (fun w i b k=>aa (zF r.1 w (r.2.2.1.getD i [])) (k b) (some false)) (fun b=>za (d+26+1) r b) ?_ ?_ (by rw [Q6];omega) false).trans ?_
   .intro ag b i w hx
    have hi:=(Z0 hx).1
    have gM:=hW w (Zc hx)
    have Iz:=R.ai _ (Zc (fy gM))
    simp only [zd,bW hx,nn,Q3,hx,Q9,Q4,sS hx]
    rw [Ve (l:=r.2.2.1) (by omega)]
    simp only [Q9]
    rw [Z5 gM.1,Q4,fy gM,Q9]
    unfold zF mD
    by_cases b1:((((r.2.2.1.getD i []).length:Nat):Int)) > (aX r.1.2.1 w).2.2.2.2.2.2.2
    .rw [Z5 b1,Q4,Zl,Bool.false_and,Q5]
    .rw [Z4 b1,Q5,Bool.not_false,Zg]
     refine (Qb (fun (b:Bool) (j:Int)=>(b,j)) (r.2.2.1.getD i []) (fun p _ b k=>aa (jR p&&(cC r.1 p==w)) (k b) (some false)) (fun b=>ag (b,((i+1:Nat):Int))) ?_ ?_ (by rw [Q6];omega) b).trans ?_
     .intro Vf b' j p hp
      have hj:=(Z0 hp).1
      simp only [zb,bW hp,nn,Q3,hp,Q9,Q4]
      rw [show d+26+1=d+25+2 by omega,Qdd,Q9,show d+25+2=d+23+4 by omega,YB R,Q9,aN (by omega)]
      cases jR p with
      | false=>rfl
      | true =>
       rw [Zl,Q5,Zg]
       by_cases e:cC r.1 p=w
       .rw [show (cC r.1 p != w)=false by rw [e];exact bne_self_eq_false _,Q5,show (cC r.1 p==w)=true from beq_iff_eq.2 e,Q4]
       .rw [show (cC r.1 p != w)=true from bne_iff_ne.2 e,Q4,show (cC r.1 p==w)=false from beq_eq_false_iff_ne.2 e,Q5]
     .intro Vf b'
      simp only [zb,bB,Q5]
      unfold DT
      rw [aN (by omega)]
     .rw [B5 (p:=fun p=>jR p&&(cC r.1 p==w))]
   .intro ag t;simp only [zd,bB,Q5]
   .rw [qq]
    cases hk:eI (fun w i=>zF r.1 w (r.2.2.1.getD i [])) (bT r.1.2.2.2.1) 0 with
    | false=>rfl
    | true =>
     obtain ⟨r1,r2⟩:=Qpl R hW a hk
     have:=OT r1
     rw [Q4,Zg]
     unfold za
     rw [show d+26+1=d+25+2 by omega,Qss (by omega) (by omega),Q9,show d+25+2=d+22+5 by omega,Qn5 (by omega),Q9]
def uL {α τ:Type} (p:α->Nat->τ->Bool) (f:α->Nat->τ->τ):List α->Nat->τ->Bool
 | [],_,_=>true
 | x::r,i,t=>p x i t&&uL p f r (i+1) (f x i t)
theorem Vg {α τ β:Type} {p:α->Nat->τ->Bool} {f:α->Nat->τ->τ} {step:α->Nat->τ->(τ->Option β)->Option β} {no:Option β} {fin:τ->Option β} (I:Nat->τ->Prop):∀ (l:List α) (i:Nat) (t:τ),I i t->(∀ j x t k,l[j]? = some x->I (i+j) t->step x (i+j) t k=aa (p x (i+j) t) (k (f x (i+j) t)) no/\(p x (i+j) t=true->I (i+j+1) (f x (i+j) t)))->d_ step fin l i t=aa (uL p f l i t) (fin (cD f l i t)) no
 | [],i,t,_,_=>rfl
 | x::r,i,t,hI,h=>by
  simp only [d_,cD,uL]
  obtain ⟨h1,h2⟩:=h 0 x t (fun t'=>d_ step fin r (i+1) t') rfl hI
  rw [Nat.add_zero] at h1 h2
  rw [h1]
  cases hp:p x i t with
  | false=>rfl
  | true =>
   rw [Q4,Zg]
   exact Vg I r (i+1) _ (h2 hp) (fun j y t k hy ht=>by
    have:=h (j+1) y t k (by simpa using hy)
    rw [show i+(j+1)=i+1+j by omega] at this
    exact this ht)
abbrev Bs:=Bool×List Int
def I0 (x:Ld) (w:Int) (p:Pk) (_:Nat) (t:Bs):Bool:=jR p&&((cC x p==w) && !(t.2.any fun z=>z==p.1))
def Eb (p:Pk) (_:Nat) (t:Bs):Bs:=(t.1,t.2++[p.1])
def I1 (x:Ld) (W:List Int) (row:List Pk) (i:Nat) (t:Bs):Bool := !decide (((row.length:Nat):Int) > mD x (W.getD i 0))&&uL (I0 x (W.getD i 0)) Eb row 0 t
def AZ (row:List Pk) (_:Nat) (t:Bs):Bs:=(t.1,t.2++row.map fun p=>p.1)
theorem Qlr:∀ (row:List Pk) (i:Nat) (t:Bs),cD Eb row i t=AZ row 0 t
 | [],i,t=>by simp [cD,AZ]
 | p::r,i,t=>by
  simp only [cD]
  rw [Qlr r (i+1)]
  simp [AZ,Eb]
theorem Quz {x:Ld} {w:Int}:∀ (row:List Pk) (i:Nat) (t:Bs),uL (I0 x w) Eb row i t=true↔(∀ p∈row,jR p=true/\cC x p=w)/\(∀ p∈row,p.1∉t.2)/\(row.map fun p=>p.1).Nodup
 | [],i,t=>by simp [uL]
 | p::r,i,t=>by
  simp only [uL,Z8,Quz r (i+1),I0,Eb,beq_iff_eq,Bool.not_eq_true',List.any_eq_false,List.mem_cons,forall_eq_or_imp,List.map_cons,List.nodup_cons,Zh,List.mem_singleton]
  constructor
  .rintro ⟨⟨a1,a2,a3⟩,b1,b2,b3⟩
   refine ⟨⟨⟨a1,a2⟩,b1⟩,⟨fun hm=>a3 _ hm rfl,fun q hq hm=>b2 q hq (Or.inl hm)⟩,fun hm=>?_,b3⟩
   obtain ⟨q,hq,e⟩:=List.mem_map.1 hm
   exact b2 q hq (Or.inr (Or.inl e))
  .rintro ⟨⟨⟨a1,a2⟩,b1⟩,⟨c1,c2⟩,n1,n2⟩
   refine ⟨⟨a1,a2,fun z hz e=>c1 (e▸hz)⟩,b1,fun q hq hm=>?_,n2⟩
   rcases hm with hm | hm | hm
   .exact c2 q hq hm
   .exact n1 (List.mem_map.2 ⟨q,hq,hm⟩)
   .simp at hm
theorem Qv0 {x:Ld} {W:List Int}:∀ (rows:List (List Pk)) (i:Nat) (t:Bs),uL (I1 x W) AZ rows i t=true↔(∀ j row,rows[j]? = some row->zF x (W.getD (i+j) 0) row=true)/\(∀ p∈rows.flatten,p.1∉t.2)/\(rows.flatten.map fun p=>p.1).Nodup
 | [],i,t=>by simp [uL]
 | row::rows,i,t=>by
  simp only [uL,Z8,Qv0 rows (i+1),I1,Quz,AZ,Ze,Zh,List.map_append,Zn]
  have cx:zF x (W.getD i 0) row=true↔(!decide (((row.length:Nat):Int) > mD x (W.getD i 0)))=true/\∀ p∈row,jR p=true/\cC x p=W.getD i 0:=by
   unfold zF
   simp only [Z8,List.all_eq_true,beq_iff_eq]
  constructor
  .rintro ⟨⟨a1,a2,a3,a4⟩,b1,b2,b3⟩
   refine ⟨fun j r hj=>?_,fun p hp hm=>?_,a4,b3,fun y hy z hz e=>?_⟩
   .cases j with
    | zero=>simp only [List.getElem?_cons_zero,Option.some.injEq] at hj;subst hj;exact cx.2 ⟨a1,a2⟩
    | succ j=>have:=b1 j r (by simpa using hj);rw [show i+(j+1)=i+1+j by omega];exact this
   .rcases hp with hp | hp
    .exact a3 p hp hm
    .exact b2 p hp (Or.inl hm)
   .obtain ⟨q,hq,rfl⟩:=List.mem_map.1 hz
    exact b2 q hq (Or.inr (e▸hy))
  .rintro ⟨h1,h2,n1,n2,n3⟩
   obtain ⟨a1,a2⟩:=cx.1 (h1 0 row rfl)
   refine ⟨⟨a1,a2,fun p hp=>h2 p (Or.inl hp),n1⟩,fun j r hj=>?_,fun p hp hm=>?_,n2⟩
   .have:=h1 (j+1) r (by simpa using hj);rw [show i+(j+1)=i+1+j by omega] at this;exact this
   .rcases hm with hm | hm
    .exact h2 p (Or.inr hp) hm
    .exact n3 _ hm _ (List.mem_map.2 ⟨p,hp,rfl⟩) rfl
theorem Qwg {x:Ld} {rows:List (List Pk)} {W:List Int} (hl:rows.length=W.length):uL (I1 x W) AZ rows 0 (false,[])=(eI (fun w i=>zF x w (rows.getD i [])) W 0&&LB rows.flatten):=by
 rw [Bool.eq_iff_iff,Qv0,Z8,rS,Qz5]
 constructor
 .rintro ⟨h1,_,h3⟩
  refine ⟨fun j w hw=>?_,fun p hp=>?_,h3⟩
  .have hj:=(Z0 hw).1
   have:=h1 j _ (Ve (l:=rows) (i:=j) (by omega))
   rw [Zo] at this ⊢
   rw [Zr (l:=W),hw] at this
   exact this
  .obtain ⟨row,hr,hp⟩:=List.mem_flatten.1 hp
   obtain ⟨j,hj⟩:=List.getElem?_of_mem hr
   have:=h1 j _ hj
   unfold zF at this
   simp only [Z8,List.all_eq_true] at this
   exact (this.2 p hp).1
 .rintro ⟨h1,h2,h3⟩
  refine ⟨fun j row hj=>?_,fun p _ hm=>by simp at hm,h3⟩
  have au:=(Z0 hj).1
  have:=h1 j _ (nh (l:=W) (i:=j) (z:=0) (by omega))
  rw [Zo] at this ⊢
  rw [Zr (l:=rows),hj] at this
  exact this
theorem Qst {d:Nat} {l:List Int} {n:Int} (hl:l.length < 4194304):Oi (d+1) l n=some (l.any fun x=>x==n):=by
 rw [e75]
 refine (Qb (fun (t:Bool) (i:Int)=>(t,i)) l (fun x _ t k=>aa (x==n) (some true) (k t)) (fun _=>some false) ?_ ?_ (by rw [Q6];exact hl) false).trans ?_
 .intro ag t i x hx;have hi:=(Z0 hx).1;simp only [xF,bW hx,nn,Q3,hx,Q9,Q4];rw [aN (by omega)]
 .intro ag t;simp only [xF,bB,Q5];rfl
 .exact OB l 0 false
theorem Vh {d:Nat} {r:Rg} (R:Lr r.1) {W:List Int} {w:Int} {i:Nat} (hw:W[i]? = some w) (hW:W.length<=1000) {row:List Pk} {k:Bs->Option Bool} (t:Bs) (ht:t.2.length<=10000) (hr:row.length<=60) :
  Q8 (nu (d+4) r W (i:Int) row (fun b _ l=>k (b,l))) Qd (t.1,t.2,0)=aa (uL (I0 r.1 w) Eb row 0 t) (k (AZ row 0 t)) (some false):=by
 refine (Qb (fun (t:Bs) (i:Int)=>(t.1,t.2,i)) row (fun p _ t k=>aa (jR p) (aa (cC r.1 p==w) (Q1 (Oi (d+4) t.2 p.1) fun h=>aa h (some false) (aa (Nat.ble ((t.2.length+[p.1].length)*8) Q7) (k (t.1,t.2++[p.1])) none)) (some false)) (some false)) (fun t=>k t) ?_ ?_ (by rw [Q6];omega) t).trans ?_
 .intro Vf b' j p hp
  have hj:=(Z0 hp).1
  simp only [nu,bW hp,nn,Q3,hp,Q9,Q4,sS hw,hw]
  rw [show d+4=d+1+3 by omega,Qsq,Q9,show d+1+3=d+4 by omega,YF R,Q9,aN (by omega)]
  cases jR p with
  | false=>rfl
  | true =>
   rw [Zl,Q5,Q4]
   by_cases e:cC r.1 p=w
   .rw [show (cC r.1 p != w)=false by rw [e];exact bne_self_eq_false _,Q5,show (cC r.1 p==w)=true from beq_iff_eq.2 e,Q4]
   .rw [show (cC r.1 p != w)=true from bne_iff_ne.2 e,Q4,show (cC r.1 p==w)=false from beq_eq_false_iff_ne.2 e,Q5]
 .intro Vf b'
  simp only [nu,bB,Q5]
 .rw [Vg (p:=I0 r.1 w) (f:=Eb) (fun j t=>t.2.length<=10000+j) row 0 t (by omega) ?_,Qlr]
  intro j p t k hp hI
  have hj:=(Z0 hp).1
  rw [show d+4=d+3+1 by omega,Qst (by omega),Q9,room (by simp;omega),Q4]
  refine ⟨?_,fun _=>by unfold Eb;simp;omega⟩
  unfold I0
  cases jR p with
  | false=>rfl
  | true =>
   rw [Q4,Zg]
   cases (cC r.1 p==w) with
   | false=>rfl
   | true=>rw [Q4,Zg];cases (t.2.any fun z=>z==p.1)<;>rfl
theorem Qsu {d:Nat} {r:Rg} (h:AJ r.1):S0 (d+13) r=some (mE r):=by
 rw [e35,Qsn h,Q9]
 unfold mE OS
 cases hg:eR r.1 with
 | false=>rfl
 | true =>
  have L:=vr hg
  have R:=Iw hg
  have iy:=L.fF
  have hf:=L.fl
  have hv:=AI (F:=r.1.2.2.2.1)
  cases hb:AX r.1 r.2.1 with
  | false=>rfl
  | true =>
   rw [Zg,Zg,Zg,Zl,Q5,show d+12=d+10+2 by omega,Iy (by omega) hf,Q9]
   unfold rH
   by_cases a:r.2.2.1.length=(bT r.1.2.2.2.1).length
   case neg=>rw [show ((((r.2.2.1.length:Nat):Int)) != (((bT r.1.2.2.2.1).length:Nat):Int))=true by simp;omega,Q4,Q4,Z4 a];rfl
   rw [show ((((r.2.2.1.length:Nat):Int)) != (((bT r.1.2.2.2.1).length:Nat):Int))=false by simp;omega,Q5,Z5 a,Zg,show d+10+2=d+11+1 by omega,vF,Q9,wr (by omega) (by omega)]
   by_cases a1:-1<=r.2.2.2.1/\r.2.2.2.1 < (((bT r.1.2.2.2.1).length:Nat):Int)
   case neg=>rw [Z4 (show ¬ (-1<=r.2.2.2.1/\r.2.2.2.1<=(((bT r.1.2.2.2.1).length:Nat):Int) - 1) by omega),Bool.not_false,Q4,Q4,Z4 a1];rfl
   rw [Z5 (show -1<=r.2.2.2.1/\r.2.2.2.1<=(((bT r.1.2.2.2.1).length:Nat):Int) - 1 by omega),Zl,Q5,Z5 a1,Zg,vF,Q9]
   cases decide (0<=r.2.2.2.2/\r.2.2.2.2<=1000000) with
   | false=>rfl
   | true =>
    rw [Zl,Q5,Zg,<- Qwg a]
    have hW:∀ w∈bT r.1.2.2.2.1,vI r.1.2.1 w:=fun w hw=>by obtain ⟨q1,q2⟩:=Fi hw;exact ⟨q1,by omega⟩
    refine (Qb (fun (t:Bs) (i:Int)=>(t.1,t.2,i)) r.2.2.1 (fun row i t k=>aa (decide (((row.length:Nat):Int) > mD r.1 ((bT r.1.2.2.2.1).getD i 0))) (some false) (Q8 (nu (d+11+1) r (bT r.1.2.2.2.1) (i:Int) row (fun b _ l=>k (b,l))) Qd (t.1,t.2,0))) (fun _=>some true) ?_ ?_ (by rw [Q6];omega) (false,[])).trans ?_
    .intro ag t i row hx
     have hi:=(Z0 hx).1
     have au:i < (bT r.1.2.2.2.1).length:=by omega
     have hw:=nh (l:=bT r.1.2.2.2.1) (i:=i) (z:=0) au
     have gM:=hW _ (Zc hw)
     simp only [xJ,bW hx,nn,Q3,hx,Q9,Q4]
     rw [Qp au,Q4,hw,Q9,Z5 gM.1,Q4,fy gM,Q9]
     rw [show xH (d+11+1) ag (i:Int)=fun b _ l=>ag (b,l,((i+1:Nat):Int)) from by
      funext b n l
      unfold xH
      rw [aN (by omega)]]
     rfl
    .intro ag t;simp only [xJ,bB,Q5];rfl
    .rw [Vg (p:=I1 r.1 (bT r.1.2.2.2.1)) (f:=AZ) (fun i t=>t.2.length<=60*i) r.2.2.1 0 (false,[]) (by simp) ?_]
     .cases uL (I1 r.1 (bT r.1.2.2.2.1)) AZ r.2.2.1 0 (false,[])<;>rfl
     .intro j row t k hj hI
      rw [Zo] at hI ⊢
      have hi:=(Z0 hj).1
      have hw:=nh (l:=bT r.1.2.2.2.1) (i:=j) (z:=0) (by omega)
      have gM:=hW _ (Zc hw)
      have Iz:=R.ai _ (Zc (fy gM))
      unfold I1
      by_cases b1:((row.length:Nat):Int) > mD r.1 ((bT r.1.2.2.2.1).getD j 0)
      .rw [Z5 b1,Q4,Zl,Bool.false_and,Q5]
       exact ⟨rfl,fun h=>absurd h (by simp)⟩
      .rw [Z4 b1,Q5,Bool.not_false,Zg]
       unfold mD at b1
       rw [show d+11+1=d+8+4 by omega,Vh R hw (by omega) t (by omega) (by omega)]
       refine ⟨rfl,fun _=>?_⟩
       unfold AZ
       simp only [Zf,List.length_map]
       omega
structure Ro (r:Rg):Prop where
 lk:Lk r.1
 lr:Lr r.1
 t1:r.2.1.1.length=r.1.2.1.length
 t2:r.2.1.2.length=r.1.2.1.length
 rl:r.2.2.1.length=(bT r.1.2.2.2.1).length
 rb:∀ row∈r.2.2.1,row.length<=60
 rp:∀ row∈r.2.2.1,∀ p∈row,jR p=true
 la:-1<=r.2.2.2.1/\r.2.2.2.1 < (((bT r.1.2.2.2.1).length:Nat):Int)
 nw:0<=r.2.2.2.2/\r.2.2.2.2<=1000000
theorem N_ {r:Rg} (h:mE r=true):Ro r:=by
 unfold mE OS at h
 simp only [Z8,Zj] at h
 obtain ⟨h1,h2,⟨h3,h4,h5⟩,h6,h7⟩:=h
 have L:=vr h1
 have R:=Iw h1
 obtain ⟨t1,t2⟩:=Qwb h2
 have hf:=L.fl
 obtain ⟨r1,r2⟩:=Qpl R (fun w hw=>by obtain ⟨q1,q2⟩:=Fi hw;exact ⟨q1,by omega⟩) h3 h6
 exact ⟨L,R,t1,t2,h3,r1,r2,h4,h5⟩
theorem YK {r:Rg} (h:mE r=true):eR r.1=true:=by
 unfold mE at h
 simp only [Z8] at h
 exact h.1
theorem Qz7 {d:Nat} {x:Ld} {id:Int} (hl:x.2.1.length<=1000):S3 (d+1) x id=some (bU x.2.1 id):=by
 rw [e56]
 refine (Qb (fun (t:Int) (i:Int)=>(t,i)) x.2.1 (fun y i t k=>aa (y.1==id) (some ((i:Nat):Int)) (k t)) (fun _=>some (-1)) ?_ ?_ (by rw [Q6];omega) 0).trans (DV x.2.1 0 _)
 .intro ag t i x hx;have hi:=(Z0 hx).1;simp only [xL,bW hx,nn,Q3,hx,Q9,Q4];rw [aN (by omega)]
 .intro ag t;simp only [xL,bB,Q5];rfl
theorem RM {r:Rg} (O:Ro r):r.2.2.1.length<=24:=by
 have iy:=O.lk.fF
 have hf:=O.lk.fl
 have hv:=AI (F:=r.1.2.2.2.1)
 have jZ:=O.rl
 omega
theorem Qsw {d:Nat} {x:Ld} (hg:eR x=true):KR (d+26) x=some (eL x):=by
 unfold eR at hg
 simp only [Z8,Zj] at hg
 obtain ⟨⟨h1,h2⟩,h3,h4⟩:=hg
 obtain ⟨c,hc,c1,c2,c3,c4⟩:=Qln (d:=d) (x:=x) (by omega) (by omega)
 obtain ⟨u1,u2⟩:=Qz2 c1 c2 c3 c4
 rw [hc,u2 h3]
theorem Qwh {x:Ld} (h:eR x=true):(eL x).2.1.length<=24/\(eL x).2.2.1.length<=16:=by
 unfold eR at h
 simp only [Z8,Zj] at h
 refine ⟨?_,h.1.2⟩
 show (Dh x.2.1).length<=24
 rw [AF.length_eq];exact h.1.1
theorem Vi {α γ δ β:Type} {e:α->γ} {f:α->δ} {fin:List γ×List δ->Option β} {w v:Nat}:∀ (l:List α) (i:Nat) (t:List γ×List δ),(t.1.length+l.length)*w<=100000000->(t.2.length+l.length)*v<=100000000 ->
  d_ (fun x _ t k=>aa (Nat.ble ((t.1.length+[e x].length)*w) Q7) (aa (Nat.ble ((t.2.length+[f x].length)*v) Q7) (k (t.1++[e x],t.2++[f x])) none) none) fin l i t=fin (t.1++l.map e,t.2++l.map f)
 | [],i,t,_,_=>by simp [d_]
 | x::r,i,t,h,h'=>by
  simp only [d_]
  rw [room (by
   have:(t.1.length+[e x].length)*w<=(t.1.length+(x::r).length)*w:=Zk w (by simp)
   omega),Q4,room (by
   have:(t.2.length+[f x].length)*v<=(t.2.length+(x::r).length)*v:=Zk v (by simp)
   omega),Q4]
  rw [Vi r (i+1) (t.1++[e x],t.2++[f x]) (by
   refine Nat.le_trans (Zk w ?_) h
   simp;omega) (by
   refine Nat.le_trans (Zk v ?_) h'
   simp;omega)]
  simp
def BB (x:Ld):Tk:=(x.2.1.map fun c=>c.2.2.2.2.1,x.2.1.map fun c=>c.2.2.2.2.2.1)
theorem Qhn {d:Nat} {x:Ld} (hl:x.2.1.length<=1000):T' (d+1) x=some (BB x):=by
 rw [e96]
 refine (Qb (fun (t:Tk) (i:Int)=>(i,t)) x.2.1 (fun c _ t k=>aa (Nat.ble ((t.1.length+[c.2.2.2.2.1].length)*8) Q7) (aa (Nat.ble ((t.2.length+[c.2.2.2.2.2.1].length)*8) Q7) (k (t.1++[c.2.2.2.2.1],t.2++[c.2.2.2.2.2.1])) none) none) (fun t=>some t) ?_ ?_ (by rw [Q6];omega) ([],[])).trans ?_
 .intro ag t i x hx;have hi:=(Z0 hx).1;simp only [zg,bW hx,nn,Q3,hx,Q9,Q4];rw [aN (by omega)]
 .intro ag t;simp only [zg,bB,Q5];rfl
 .rw [Vi (e:=fun c:aC=>c.2.2.2.2.1) (f:=fun c:aC=>c.2.2.2.2.2.1) x.2.1 0 ([],[]) (by simp;omega) (by simp;omega)]
  rfl
theorem Qsx {d:Nat} {x:Ld} (hl:x.2.1.length<=1000):FO (d+1) x=some (BB x):=by
 rw [S4]
 refine (Qb (fun (t:Tk) (i:Int)=>(i,t)) x.2.1 (fun c _ t k=>aa (Nat.ble ((t.1.length+[c.2.2.2.2.1].length)*8) Q7) (aa (Nat.ble ((t.2.length+[c.2.2.2.2.2.1].length)*8) Q7) (k (t.1++[c.2.2.2.2.1],t.2++[c.2.2.2.2.2.1])) none) none) (fun t=>some t) ?_ ?_ (by rw [Q6];omega) ([],[])).trans ?_
 .intro ag t i x hx;have hi:=(Z0 hx).1;simp only [pK,bW hx,nn,Q3,hx,Q9,Q4];rw [aN (by omega)]
 .intro ag t;simp only [pK,bB,Q5];rfl
 .rw [Vi (e:=fun c:aC=>c.2.2.2.2.1) (f:=fun c:aC=>c.2.2.2.2.2.1) x.2.1 0 ([],[]) (by simp;omega) (by simp;omega)]
  rfl
theorem Qv1 {x:Ld} (h:eR x=true):bS (eL x)=x:=by
 unfold eR Di at h
 simp only [Z8,Zj,beq_iff_eq] at h
 obtain ⟨_,_,s1,s2,s3,s4,s5,s6,s7⟩:=h
 exact Prod.ext rfl (Prod.ext s1.symm (Prod.ext s2.symm (Prod.ext s3.symm (Prod.ext s4.symm (Prod.ext s5.symm (Prod.ext rfl (Prod.ext s6.symm s7.symm)))))))
theorem N6 {x:Ld} (h:eR x=true):gb (eL x)=true:=by
 unfold eR at h
 simp only [Z8] at h
 exact h.2.1
theorem Qsz {c:Cf} (G:Gd c):(bS c).2.2.2.2.1.length<=24/\(bS c).2.2.2.2.2.1.length<=24/\(bS c).2.2.2.2.2.2.2.1.length<=16:=by
 have h1:=GI G.tr
 have h2:=G.tr.fF
 have h3:=G.f16
 refine ⟨?_,?_,?_⟩
 .show ((aG c.2.1).map (fun i=>pW c.2.1 (uH c.2.1 i))).length<=24
  rw [List.length_map];omega
 .show ((aG c.2.1).mapIdx (nL c.2.1)).length<=24
  rw [List.length_mapIdx];omega
 .show (c.2.2.1.map (fun f=>pW c.2.1 (bU c.2.1 f.2.2.2.2))).length<=16
  rw [List.length_map];omega
theorem Qwi {x:Ld} (h:eR x=true):x.2.2.2.2.1.length<=24/\x.2.2.2.2.2.1.length<=24/\x.2.2.2.2.2.2.2.1.length<=16:=by
 have:=Qsz (ri (N6 h))
 rw [Qv1 h] at this;exact this
theorem Qpo {α γ:Type} {c:α->Nat->Bool} {e:α->Nat->γ}:∀ (l:List α) (i j:Nat) (x:α),l[j]? = some x->c x (i+j)=true->e x (i+j)∈fL c e l i
 | [],i,j,x,h,_=>by simp at h
 | y::r,i,0,x,h,hc=>by
  simp only [List.getElem?_cons_zero,Option.some.injEq] at h
  subst h
  rw [Nat.add_zero] at hc ⊢
  unfold fL;rw [if_pos hc];simp
 | y::r,i,j+1,x,h,hc=>by
  have:=Qpo (c:=c) (e:=e) r (i+1) j x (by simpa using h) (by rw [show i+1+j=i+(j+1) by omega];exact hc)
  rw [show i+1+j=i+(j+1) by omega] at this
  unfold fL
  split
  .exact List.mem_cons_of_mem _ this
  .exact this
theorem Qpp {c:Cf} (G:Gd c) {id:Int} (hv:vI c.2.1 (bU c.2.1 id)) (hl:ij c.2.1 id=true):pW c.2.1 (bU c.2.1 id)∈bT (bS c).2.2.2.1:=by
 have T:=G.tr
 obtain ⟨k,h1,h2⟩:=By T hv
 obtain ⟨_,x,e1,e2,e3⟩:=Bz hv.1
 have hid:(aX c.2.1 (bU c.2.1 id)).1=id:=by rw [e1,kK e2,e3]
 have hk:cg c.2.1 (bU c.2.1 id)=[]:=by
  unfold cg nG
  rw [hid]
  have:=Lb (c:=fun x:aC=>x.2.1==id) (e:=fun _ k=>((k:Nat):Int)) c.2.1 0
  unfold ij at hl
  rw [hl] at this
  exact Z1 (by simpa using this)
 have hF:(bS c).2.2.2.1[k]? = some (-1):=by
  show ((aG c.2.1).map (fun i=>pW c.2.1 (vL c.2.1 i)))[k]? = some (-1)
  rw [List.getElem?_map,h1]
  show some (pW c.2.1 ((cg c.2.1 (bU c.2.1 id)).headD (-1)))=some (-1)
  rw [hk]
  exact congrArg some (uG T (by simp))
 rw [h2]
 have:=Qpo (c:=fun (f:Int) _=>decide (f < 0)) (e:=fun _ k=>((k:Nat):Int)) (bS c).2.2.2.1 0 k (-1) hF (by simp)
 rw [Zo] at this
 exact this
theorem Vj {c:Cf} (G:Gd c) (p:Pk):cC (bS c) p < 0\/cC (bS c) p∈bT (bS c).2.2.2.1:=by
 unfold cC
 split
 .rename_i h
  have au:=Vd h
  right
  have hm:(bS c).2.2.2.2.2.2.2.1.getD (uK (bS c).2.2.2.2.2.2.1 p).toNat 0∈(bS c).2.2.2.2.2.2.2.1:=by
   refine Zc (i:=(uK (bS c).2.2.2.2.2.2.1 p).toNat) (nh ?_)
   show _ < (c.2.2.1.map _).length
   rw [List.length_map]
   have:uK (bS c).2.2.2.2.2.2.1 p < ((c.2.2.1.length:Nat):Int):=au
   omega
  generalize (bS c).2.2.2.2.2.2.2.1.getD (uK (bS c).2.2.2.2.2.2.1 p).toNat 0=w at hm
  obtain ⟨f,hf,rfl⟩:=List.mem_map.1 (show w∈c.2.2.1.map (fun f=>pW c.2.1 (bU c.2.1 f.2.2.2.2)) from hm)
  obtain ⟨t1,t2,_⟩:=G.Lj f hf
  exact Qpp G t1 t2
 .show vp c < 0\/vp c∈_
  unfold vp
  split
  .left;omega
  .rename_i h
   obtain ⟨t1,t2⟩:=G.Kc h
   exact Or.inr (Qpp G t1 t2)
structure Pu (x:Ld) (rows:List (List Pk)):Prop where
 lk:Lk x
 lr:Lr x
 lf:∀ p,cC x p < 0\/cC x p∈bT x.2.2.2.1
 rl:rows.length=(bT x.2.2.2.1).length
 lm:∀ (k:Nat) w,(bT x.2.2.2.1)[k]? = some w->(((rows.getD k []).length:Nat):Int)<=mD x w
def lZ (x:Ld) (p:Pk):Nat:=(vK (bT x.2.2.2.1) (cC x p)).toNat
def rj (x:Ld) (rows:List (List Pk)) (p:Pk):List Pk:=rows.getD (lZ x p) []
def Iv (x:Ld) (rows:List (List Pk)) (p:Pk):List (List Pk):=rows.set (lZ x p) (rj x rows p++[p])
def Dk {τ:Type} (x:Ld) (rows:List (List Pk)) (p:Pk) (A:τ) (B C:aC->τ):τ:=if cC x p < 0 then A else if (((rj x rows p).length:Nat):Int)=mD x (cC x p) then B (aX x.2.1 (cC x p)) else C (aX x.2.1 (cC x p))
theorem Qlt {e:Nat->Int} (he:∀ k,e k=(k:Int)) {c:Int->Nat->Bool}:∀ (l:List Int) (i:Nat),(fL c (fun _ k=>e k) l i).Pairwise (· < ·)/\∀ x∈fL c (fun _ k=>e k) l i,((i:Nat):Int)<=x
 | [],i=>⟨List.Pairwise.nil,fun x h=>by simp [fL] at h⟩
 | y::r,i=>by
  obtain ⟨h1,h2⟩:=Qlt he (c:=c) r (i+1)
  unfold fL
  split
  .refine ⟨List.Pairwise.cons (fun x hx=>?_) h1,fun x hx=>?_⟩
   .have:=h2 x hx;rw [he];omega
   .rcases Z2 hx with rfl | hx
    .rw [he];omega
    .have:=h2 x hx;omega
  .exact ⟨h1,fun x hx=>by have:=h2 x hx;omega⟩
theorem RV {F:List Int}:(bT F).Nodup:=by
 have:=(Qlt (e:=fun k=>((k:Nat):Int)) (fun _=>rfl) (c:=fun f _=>decide (f < 0)) F 0).1
 exact this.imp fun h=>by omega
structure At (x:Ld) (rows:List (List Pk)) (p:Pk):Prop where
 get:(bT x.2.2.2.1)[lZ x p]? = some (cC x p)
 pos:vK (bT x.2.2.2.1) (cC x p)=((lZ x p:Nat):Int)
 lt:lZ x p < rows.length
 v:vI x.2.1 (cC x p)
 row:rows[lZ x p]? = some (rj x rows p)
 ai:(((rj x rows p).length:Nat):Int)<=mD x (cC x p)
 l60:(rj x rows p).length<=60
theorem RD {x:Ld} {rows:List (List Pk)} {p:Pk} (P:Pu x rows) (h:¬ cC x p < 0):At x rows p:=by
 have hm:=(P.lf p).resolve_left h
 obtain ⟨k,h1,h2⟩:=Qp0 RV hm
 have hk:lZ x p=k:=by unfold lZ;rw [h2];rfl
 have au:=(Z0 h1).1
 have jZ:=P.rl
 have hf:=P.lk.fl
 obtain ⟨v1,v2⟩:=Fi hm
 have hv:vI x.2.1 (cC x p):=⟨v1,by omega⟩
 have aH:=P.lm k _ h1
 have Iz:=P.lr.ai _ (Zc (fy hv))
 have cx:rj x rows p=rows.getD k []:=by unfold rj;rw [hk]
 refine ⟨by rw [hk];exact h1,by rw [hk];exact h2,by omega,hv,by rw [hk,cx];exact Ve (by omega),by rw [cx];exact aH,?_⟩
 rw [cx]
 unfold mD at aH
 omega
theorem RK {β:Type} {d:Nat} {x:Ld} {rows:List (List Pk)} {p:Pk} (P:Pu x rows) {A:Option β} {B:aC->Option β} {C:aC->List (List Pk)->Option β} :
  aa (decide (cC x p < 0)) A (aa (decide (0<=cC x p)) (aa (Nat.blt (cC x p).toNat x.2.1.length) (Q1 (x.2.1[(cC x p).toNat]?) fun y=>Q1 (DP (d+1) x) fun ls=>Q1 (xW (d+1) ls (cC x p)) fun k=>aa (decide (0<=k)) (aa (Nat.blt k.toNat rows.length) (Q1 (rows[k.toNat]?) fun row=>aa (((row.length:Nat):Int)==y.2.2.2.2.2.2.2) (B y) (aa (decide (0<=k)) (aa (Nat.blt k.toNat rows.length) (Q1 (rows[k.toNat]?) fun zG=>aa (Nat.ble ((zG.length+[p].length)*48) Q7) (aa (decide (0<=k)) (aa (Nat.blt k.toNat rows.length) (aa (Nat.beq k.toNat k.toNat) (Q1 (rows[k.toNat]?) fun _=>C y (rows.set k.toNat (zG++[p]))) none) none) none) none) none) none)) none) none) none) none)
  = Dk x rows p A B (fun y=>C y (Iv x rows p)):=by
 unfold Dk
 by_cases h:cC x p < 0
 .rw [Z5 h,Q4,if_pos h]
 .have a:=RD P h
  have iy:=P.lk.fF
  have hv:=AI (F:=x.2.2.2.1)
  have hf:=P.lk.fl
  have Iz:=a.l60
  rw [Z4 h,Q5,if_neg h,Z5 a.v.1,Q4,Qp (by have:=a.v;unfold vI at this;omega),Q4,fy a.v,Q9,Ki (by omega) hf,Q9,ZL (by omega),Q9]
  have hp:fh (fun y=>y==cC x p) (bT x.2.2.2.1) 0=((lZ x p:Nat):Int):=a.pos
  rw [hp]
  simp only [nn,Q3,Q4,Qp a.lt,a.row,Q9]
  rw [room (by simp;omega),Q4,show Nat.beq (lZ x p) (lZ x p)=true by rw [Nat.beq_eq],Q4]
  by_cases e:(((rj x rows p).length:Nat):Int)=mD x (cC x p)
  .rw [if_pos e,show ((((rj x rows p).length:Nat):Int)==(aX x.2.1 (cC x p)).2.2.2.2.2.2.2)=true from beq_iff_eq.2 e,Q4]
  .rw [if_neg e,show ((((rj x rows p).length:Nat):Int)==(aX x.2.1 (cC x p)).2.2.2.2.2.2.2)=false from beq_eq_false_iff_ne.2 e,Q5]
   rfl
theorem Qz8 {β:Type} {d:Nat} {x:Ld} {rows:List (List Pk)} {p:Pk} {F:(Int->Option β)->Int->Option β} {K:Int->Option β} (a:At x rows p) (h1:x.2.1.length<=1000) (hf:x.2.2.2.1.length=x.2.1.length)
  (hF:∀ ag k,F ag k=Q1 (DK (d+2) x) fun ls=>aa (decide (0<=k)) (aa (Nat.blt k.toNat ls.length) (Q1 (ls[k.toNat]?) fun w=>aa (w != cC x p) (ag (IntKind.i64.wrap (k+1))) (K k)) none) none):Q8 F Qd 0=K ((lZ x p:Nat):Int):=by
 have hv:=AI (F:=x.2.2.2.1)
 have au:=(Z0 a.get).1
 have key:∀ (m k fuel:Nat),k+m=lZ x p->m < fuel->Q8 F fuel ((k:Nat):Int)=K ((lZ x p:Nat):Int):=by
  intro m
  induction m with
  | zero =>
   intro k fuel e h
   obtain ⟨g,rfl⟩:∃ g,fuel=g+1:=⟨fuel - 1,by omega⟩
   obtain rfl:k=lZ x p:=by omega
   simp only [Q8]
   rw [hF,Iy h1 hf,Q9,nn,Q4,Q3,Qp au,Q4,a.get,Q9,bne_self_eq_false,Q5]
  | succ m ih =>
   intro k fuel e h
   obtain ⟨g,rfl⟩:∃ g,fuel=g+1:=⟨fuel - 1,by omega⟩
   have hk:k < (bT x.2.2.2.1).length:=by omega
   have hx:=Z6 hk
   have aU:(bT x.2.2.2.1)[k]≠cC x p:=fun e'=>by
    have:=rT RV hx
    rw [e',a.pos] at this
    omega
   simp only [Q8]
   rw [hF,Iy h1 hf,Q9,nn,Q4,Q3,Qp hk,Q4,hx,Q9,bne_iff_ne.2 aU,Q4,aN (by omega)]
   exact ih (k+1) g (by omega) (by omega)
 exact key (lZ x p) 0 Qd (by omega) (by rw [Q6];omega)
def RT {β:Type} (rows:List (List Pk)) (p:Pk) (B:aC->Option β) (C:aC->List (List Pk)->Option β) (y:aC) (k:Int):Option β:=aa (decide (0<=k)) (aa (Nat.blt k.toNat rows.length) (Q1 (rows[k.toNat]?) fun row=>aa (decide (((row.length:Nat):Int)>=y.2.2.2.2.2.2.2)) (B y) (aa (decide (0<=k)) (aa (Nat.blt k.toNat rows.length) (Q1 (rows[k.toNat]?) fun zG=>aa (Nat.ble ((zG.length+[p].length)*48) Q7) (aa (decide (0<=k)) (aa (Nat.blt k.toNat rows.length) (aa (Nat.beq k.toNat k.toNat) (Q1 (rows[k.toNat]?) fun _=>C y (rows.set k.toNat (zG++[p]))) none) none) none) none) none) none)) none) none
theorem RS {β:Type} {x:Ld} {rows:List (List Pk)} {p:Pk} (P:Pu x rows) {A:Option β} {B:aC->Option β} {C:aC->List (List Pk)->Option β} {I:aC->Option β}
  (hI:At x rows p->∀ y,I y=RT rows p B C y ((lZ x p:Nat):Int)) :
  aa (decide (cC x p < 0)) A (aa (decide (0<=cC x p)) (aa (Nat.blt (cC x p).toNat x.2.1.length) (Q1 (x.2.1[(cC x p).toNat]?) I) none) none)=Dk x rows p A B (fun y=>C y (Iv x rows p)):=by
 unfold Dk
 by_cases h:cC x p < 0
 .rw [Z5 h,Q4,if_pos h]
 .have a:=RD P h
  have Iz:=a.l60
  have aH:=a.ai
  rw [Z4 h,Q5,if_neg h,Z5 a.v.1,Q4,Qp (by have:=a.v;unfold vI at this;omega),Q4,fy a.v,Q9,hI a]
  unfold RT
  simp only [nn,Q3,Q4,Qp a.lt,a.row,Q9]
  rw [room (by simp;omega),Q4,show Nat.beq (lZ x p) (lZ x p)=true by rw [Nat.beq_eq],Q4]
  by_cases e:(((rj x rows p).length:Nat):Int)=mD x (cC x p)
  .rw [if_pos e,Z5 (show (((rj x rows p).length:Nat):Int)>=(aX x.2.1 (cC x p)).2.2.2.2.2.2.2 by unfold mD at e;omega),Q4]
  .rw [if_neg e,Z4 (show ¬ (((rj x rows p).length:Nat):Int)>=(aX x.2.1 (cC x p)).2.2.2.2.2.2.2 by unfold mD at e aH;omega),Q5]
   rfl
theorem RG {x:Ld} (h:eR x=true) (p:Pk):cC x p < 0\/cC x p∈bT x.2.2.2.1:=by
 have:=Vj (ri (N6 h)) p
 rw [Qv1 h] at this;exact this
def mP (k:Nat):Pk:=((k:Int),((k+1:Nat):Int),((k+1+1:Nat):Int),((k+1+1+1:Nat):Int),((k+1+1+1+1:Nat):Int),((k+1+1+1+1+1:Nat):Int))
def mM:Nat->Nat->List Pk
 | _,0=>[]
 | k,n+1=>mP k::mM (k+1+1+1+1+1+1) n
def vO:Nat->List (List Pk)->List (List Pk)
 | _,[]=>[]
 | k,q::r=>mM k q.length::vO (k+6*q.length) r
theorem Qv2 {d:Nat}:∀ (r:List Pk) {p:List Pk} {k fuel:Nat},r.length < fuel->p.length+r.length<=2000000->k+6*r.length<=1000000000 ->
  Q8 (lU d (qo d)) fuel ((k:Int),((p.length:Nat):Int),p++r)=some (((k+6*r.length:Nat):Int),p++mM k r.length)
 | _,p,k,0,h,_,_=>by omega
 | [],p,k,fuel+1,h,h2,h3=>by
  simp only [Q8,lU]
  rw [List.append_nil,bB,Q5]
  unfold qo
  simp [mM]
 | x::r,p,k,fuel+1,h,h2,h3=>by
  simp only [Z9] at h h2 h3
  have au:p.length < (p++x::r).length:=by simp
  have hg:(p++x::r)[p.length]? = some x:=by simp
  simp only [Q8,lU,Q3,nn,Q4]
  rw [Z5 (show ((p.length:Nat):Int) < (((p++x::r).length:Nat):Int) by omega),Q4,Qp au,Q4,hg,Q9]
  simp only [List.length_set,List.set_set,List.getElem?_set_self au,Q9,Qp au,Q4]
  rw [Fg,aN (by omega),aN (by omega),aN (by omega),aN (by omega),aN (by omega),aN (by omega),aN (by omega)]
  have:=Qv2 (d:=d) r (p:=p++[mP k]) (k:=k+1+1+1+1+1+1) (fuel:=fuel) (by omega) (by simp;omega) (by omega)
  rw [Zf,show (p++[mP k])++r=p++mP k::r by simp] at this
  simp only [Z9,Zb,mM]
  rw [show k+6*(r.length+1)=k+1+1+1+1+1+1+6*r.length by omega,show p++mP k::mM (k+1+1+1+1+1+1) r.length=(p++[mP k])++mM (k+1+1+1+1+1+1) r.length by simp]
  exact this
theorem Qv3 {d:Nat} {l:List Pk}:∀ (n:Nat) {p:List Pk} {k fuel:Nat},l=p++mM k n->n < fuel->p.length+n<=2000000->k+6*n<=1000000000 ->
  Q8 (kO d l (oU d)) fuel ((k:Int),0,((p.length:Nat):Int))=some ((k+6*n:Nat):Int)
 | n,p,k,0,_,h,_,_=>by omega
 | 0,p,k,fuel+1,e,h,h2,h3=>by
  simp only [mM,List.append_nil] at e
  subst e
  simp only [Q8,kO]
  rw [bB,Q5]
  unfold oU
  simp
 | n+1,p,k,fuel+1,e,h,h2,h3=>by
  have hg:l[p.length]? = some (mP k):=by rw [e];simp [mM]
  have au:=(Z0 hg).1
  simp only [Q8,kO,Q3,nn,Q4]
  rw [Z5 (show ((p.length:Nat):Int) < ((l.length:Nat):Int) by omega),Q4,hg]
  simp only [Q9]
  rw [aN (by omega),aN (by omega),aN (by omega),aN (by omega),aN (by omega),aN (by omega),aN (by omega)]
  unfold mP
  simp only [bne_self_eq_false,Q5]
  have:=Qv3 (d:=d) (l:=l) n (p:=p++[mP k]) (k:=k+1+1+1+1+1+1) (fuel:=fuel) (by rw [e];simp [mM]) (by omega) (by simp;omega) (by omega)
  rw [Zf] at this
  simp only [Z9,Zb] at this
  rw [show k+6*(n+1)=k+1+1+1+1+1+1+6*n by omega]
  exact this
theorem Qho {d:Nat} {β:Type} {F:((Int×Int×List (List Pk))->Option β)->(Int×Int×List (List Pk))->Option β} {kx:Int->List (List Pk)->Option β}
  (hF:∀ ag n i rs,F ag (n,i,rs)=aa (decide (i < ((rs.length:Nat):Int))) (aa (decide (0<=i)) (aa (Nat.blt i.toNat rs.length) (Q1 (rs[i.toNat]?) fun a=>Q1 (rs[i.toNat]?) fun b=>aa (Nat.beq b.length a.length) (Q1 (zv (d+1) a n) fun z=>ag (z.1,IntKind.i64.wrap (i+1),rs.set i.toNat z.2)) none) none) none) (kx n rs)) :
  ∀ (r:List (List Pk)) {p:List (List Pk)} {k fuel:Nat},r.length < fuel->p.length+r.length<=2000000->(∀ q∈r,q.length<=1048576)->k+6*r.flatten.length<=100000000 ->
  Q8 F fuel ((k:Int),((p.length:Nat):Int),p++r)=kx ((k+6*r.flatten.length:Nat):Int) (p++vO k r)
 | _,p,k,0,h,_,_,_=>by omega
 | [],p,k,fuel+1,h,h2,_,h3=>by
  simp only [Q8]
  rw [hF,List.append_nil,bB,Q5]
  simp [vO]
 | q::r,p,k,fuel+1,h,h2,hq,h3=>by
  simp only [Z9,Ze,Zf] at h h2 h3
  have au:p.length < (p++q::r).length:=by simp
  have hg:(p++q::r)[p.length]? = some q:=by simp
  simp only [Q8]
  rw [hF,Z5 (show ((p.length:Nat):Int) < (((p++q::r).length:Nat):Int) by omega),Q4,nn,Q4,Q3,Qp au,Q4,hg,Q9,Q9,show Nat.beq q.length q.length=true by rw [Nat.beq_eq],Q4,Ue]
  have h1:=Qv2 (d:=d) q (p:=[]) (k:=k) (fuel:=Qd) (by have:=hq q (by simp);rw [Q6];omega) (by have:=hq q (by simp);simp;omega) (by omega)
  rw [List.nil_append,List.nil_append] at h1
  rw [show ((([]:List Pk).length:Nat):Int)=0 from rfl] at h1
  rw [h1,Q9]
  simp only []
  rw [Fg,aN (by omega)]
  have:=Qho hF r (p:=p++[mM k q.length]) (k:=k+6*q.length) (fuel:=fuel) (by omega) (by simp;omega) (fun x hx=>hq x (by simp [hx])) (by omega)
  rw [Zf,show (p++[mM k q.length])++r=p++mM k q.length::r by simp] at this
  simp only [Z9,Zb,vO,Ze,Zf]
  rw [show k+6*(q.length+r.flatten.length)=k+6*q.length+6*r.flatten.length by omega,show p++mM k q.length::vO (k+6*q.length) r=(p++[mM k q.length])++vO (k+6*q.length) r by simp]
  exact this
theorem YV {d k:Nat} {β:Type} {F:((Int×Int×List (List Pk))->Option β)->(Int×Int×List (List Pk))->Option β} {kx:Int->List (List Pk)->Option β} {rows:List (List Pk)}
  (hF:∀ ag n i rs,F ag (n,i,rs)=aa (decide (i < ((rs.length:Nat):Int))) (aa (decide (0<=i)) (aa (Nat.blt i.toNat rs.length) (Q1 (rs[i.toNat]?) fun a=>Q1 (rs[i.toNat]?) fun b=>aa (Nat.beq b.length a.length) (Q1 (zv (d+1) a n) fun z=>ag (z.1,IntKind.i64.wrap (i+1),rs.set i.toNat z.2)) none) none) none) (kx n rs))
  (h:LC rows) (hf:rows.flatten.length<=1048576) (hk:k<=50000000):Q8 F Qd ((k:Int),0,rows)=kx ((k+6*rows.flatten.length:Nat):Int) (vO k rows) :=
 Qho hF rows (p:=[]) (by have:=h.1;rw [Q6];omega) (by have:=h.1;simp;omega) h.2 (by omega)
theorem Qhp {d:Nat} {l:List (List Pk)}:∀ (r:List (List Pk)) {p:List (List Pk)} {k fuel:Nat},l=p++vO k r->r.length < fuel->p.length+r.length<=2000000->(∀ q∈r,q.length<=1048576)->k+6*r.flatten.length<=100000000 ->
  Q8 (rF (d+1) l (w8 (d+1))) fuel ((k:Int),0,((p.length:Nat):Int))=some ((k+6*r.flatten.length:Nat):Int)
 | _,p,k,0,_,h,_,_,_=>by omega
 | [],p,k,fuel+1,e,h,h2,_,h3=>by
  simp only [vO,List.append_nil] at e
  subst e
  simp only [Q8,rF]
  rw [bB,Q5]
  unfold w8
  simp
 | q::r,p,k,fuel+1,e,h,h2,hq,h3=>by
  simp only [Z9,Ze,Zf] at h h2 h3
  have hg:l[p.length]? = some (mM k q.length):=by rw [e];simp [vO]
  have au:=(Z0 hg).1
  simp only [Q8,rF,Q3,nn,Q4]
  rw [Z5 (show ((p.length:Nat):Int) < ((l.length:Nat):Int) by omega),Q4,hg,Q9,Sv]
  have h1:=Qv3 (d:=d) q.length (p:=[]) (k:=k) (fuel:=Qd) rfl (by have:=hq q (by simp);rw [Q6];omega) (by have:=hq q (by simp);simp;omega) (by omega)
  rw [show ((([]:List Pk).length:Nat):Int)=0 from rfl,List.nil_append] at h1
  rw [h1,Q9,Z4 (by omega),Q5,aN (by omega)]
  have:=Qhp (d:=d) (l:=l) r (p:=p++[mM k q.length]) (k:=k+6*q.length) (fuel:=fuel) (by rw [e];simp [vO]) (by omega) (by simp;omega) (fun x hx=>hq x (by simp [hx])) (by omega)
  rw [Zf] at this
  simp only [Z9,Zb,Ze,Zf] at this ⊢
  rw [show k+6*(q.length+r.flatten.length)=k+6*q.length+6*r.flatten.length by omega]
  exact this
def AK (r:Rg):Prop:=AW r.1/\(r.2.1.1.length<=1048576/\r.2.1.2.length<=1048576)/\r.2.2.1.length<=1000/\∀ q∈r.2.2.1,q.length<=1000
theorem AK.l {r:Rg} (h:AK r):LD r/\r.2.2.1.flatten.length<=1000000:=by
 obtain ⟨h1,⟨h2,h3⟩,h4,h5⟩:=h
 have:=OT h5
 exact ⟨⟨h1,h2,h3,by omega,fun q hq=>by have:=h5 q hq;omega⟩,by omega⟩
def Kq (r:Rg):Rg:=(U9 1 r.1,mL (BE 1 r.1) r.2.1,vO (IA (BE 1 r.1) r.2.1) r.2.2.1,r.2.2.2)
def wI (r:Rg):Nat:=IA (BE 1 r.1) r.2.1+6*r.2.2.1.flatten.length
theorem Qpq {d:Nat} {r:Rg} (h:AK r):g19 (d+3) (Kq r) ((1:Nat):Int)=some ((wI r:Nat):Int):=by
 obtain ⟨h1,⟨h2,h3⟩,h4,h5⟩:=h
 have hf:=OT h5
 have hL:=Ob (k:=1) h1
 rw [e19]
 unfold Kq
 simp only []
 rw [Qhh h1 (by omega),Q9,Z4 (by omega),Q5,Qhi h2 h3 (by omega),Q9,Z4 (by omega),Q5,e55]
 have:=Qhp (d:=d) r.2.2.1 (p:=[]) (k:=IA (BE 1 r.1) r.2.1) (fuel:=Qd) rfl (by rw [Q6];omega) (by simp;omega) (fun q hq=>by have:=h5 q hq;omega) (by unfold IA;omega)
 rw [show ((([]:List (List Pk)).length:Nat):Int)=0 from rfl,List.nil_append] at this
 rw [this,Q9,Z4 (by omega),Q5]
 rfl
end Go.Proofs.YtcoimfbmgjhcjaaGreatDoor
