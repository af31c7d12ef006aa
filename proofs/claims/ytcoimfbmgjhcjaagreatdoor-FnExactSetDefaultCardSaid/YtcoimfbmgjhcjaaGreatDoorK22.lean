/-
  Configurations by value. And what stood behind it in 6 texts.
  Conditions: said at the theorems.
-/
import Derived.Test.YtcoimfbmgjhcjaaGreatDoorK15
set_option linter.all false
namespace Go.Proofs.YtcoimfbmgjhcjaaGreatDoor
open Go.Ev Go.Pv
instance aad:DecidableEq (Int×Int×Int×Int):=inferInstance
theorem Quo {p:aC->Bool}:∀ {l:List aC},(∀ y∈l,p y=true)->l.takeWhile p=l
 | [],_=>rfl
 | z::l,h=>by rw [List.takeWhile_cons,if_pos (h z (by simp)),Quo (fun y hy=>h y (by simp [hy]))]
def rZ (l:List aC) (x:aC):List aC:=(l.takeWhile fun y=>decide (y.1 < x.1))++x::l.dropWhile fun y=>decide (y.1 < x.1)
def De (l:List aC):List aC:=cD (fun x _ t=>rZ t x) l 0 []
theorem Qhb {l:List aC} {x:aC}:(rZ l x).Perm (x::l):=by
 unfold rZ
 refine List.perm_middle.trans (List.Perm.cons x ?_)
 rw [List.takeWhile_append_dropWhile]
theorem Qsj {l:List aC} {x:aC}:(rZ l x).length=l.length+1:=by rw [Qhb.length_eq];rfl
theorem Q9u {x:aC}:∀ {l:List aC},dh cu l->∀ y∈l.dropWhile (fun y=>decide (y.1 < x.1)),x.1<=y.1
 | [],_,y,hy=>by simp at hy
 | z::l,h,y,hy=>by
  rw [List.dropWhile_cons] at hy
  have h':=List.pairwise_cons.1 h
  by_cases hz:z.1 < x.1
  .rw [if_pos (by simpa using hz)] at hy
   exact Q9u h'.2 y hy
  .rw [if_neg (by simpa using hz)] at hy
   rcases Z2 hy with rfl | hy
   .omega
   .have:=h'.1 y hy;unfold cu at this;omega
theorem Q9v {x:aC}:∀ {l:List aC},∀ y∈l.takeWhile (fun y=>decide (y.1 < x.1)),y.1 < x.1
 | [],y,hy=>by simp at hy
 | z::l,y,hy=>by
  rw [List.takeWhile_cons] at hy
  by_cases hz:z.1 < x.1
  .rw [if_pos (by simpa using hz)] at hy
   rcases Z2 hy with rfl | hy
   .exact hz
   .exact Q9v y hy
  .rw [if_neg (by simpa using hz)] at hy;simp at hy
theorem Qsk {l:List aC} {x:aC} (h:dh cu l):dh cu (rZ l x):=by
 have hl:dh cu (l.takeWhile (fun y=>decide (y.1 < x.1))++l.dropWhile (fun y=>decide (y.1 < x.1))):=by rw [List.takeWhile_append_dropWhile];exact h
 unfold rZ dh
 unfold dh at hl
 rw [List.pairwise_append] at hl ⊢
 refine ⟨hl.1,List.pairwise_cons.2 ⟨fun y hy=>Q9u h y hy,hl.2.1⟩,fun a ha b hb=>?_⟩
 rcases Z2 hb with rfl | hb
 .have:=Q9v a ha;unfold cu;omega
 .exact hl.2.2 a ha b hb
theorem UT:∀ (l:List aC) (i:Nat) (t:List aC),dh cu t->dh cu (cD (fun x _ t=>rZ t x) l i t)/\(cD (fun x _ t=>rZ t x) l i t).Perm (l++t)
 | [],i,t,h=>⟨h,List.Perm.refl _⟩
 | x::r,i,t,h=>by
  simp only [cD]
  obtain ⟨h1,h2⟩:=UT r (i+1) (rZ t x) (Qsk h)
  refine ⟨h1,h2.trans ?_⟩
  exact (List.Perm.append_left r Qhb).trans List.perm_middle
theorem Yn {l:List aC}:dh cu (De l):=(UT l 0 [] List.Pairwise.nil).1
theorem AF {l:List aC}:(De l).Perm l:=by
 have:=(UT l 0 [] List.Pairwise.nil).2
 rw [List.append_nil] at this;exact this
theorem Rn {l:List aC} (h:qZ l=true):(l.map (·.1)).Nodup:=by
 rw [List.nodup_iff_pairwise_ne,List.pairwise_map,List.pairwise_iff_getElem]
 intro i j hi hj ng e
 have:=J' h j i _ _ ng (Z6 hi) (Z6 hj)
 omega
theorem Yo {l:List aC} (h:(l.map (·.1)).Nodup) {a b:aC} (ha:a∈l) (hb:b∈l) (e:a.1=b.1):a=b:=by
 obtain ⟨i,hi⟩:=List.getElem?_of_mem ha
 obtain ⟨j,hj⟩:=List.getElem?_of_mem hb
 obtain ⟨hi1,hi2⟩:=Z0 hi
 obtain ⟨Uq,uJ⟩:=Z0 hj
 have:=(List.getElem_inj (h₀:=show i < (l.map (·.1)).length by simpa using hi1) (h₁:=show j < (l.map (·.1)).length by simpa using Uq) h).1 (by simp [hi2,uJ,e])
 subst this
 rw [<- hi2,<- uJ]
theorem Qz1 {l S:List aC} (h:cR cu l S) (hd:(l.map (·.1)).Nodup):S=De l:=by
 refine List.Perm.eq_of_pairwise (le:=fun a b=>cu a<=cu b) (fun a b ha hb h1 h2=>?_) h.vN Yn (h.perm.trans AF.symm)
 unfold cu at h1 h2
 exact Yo hd (h.perm.mem_iff.1 ha) (AF.mem_iff.1 hb) (by omega)
theorem Rs {c:Cf} {l:List aC} (h:ga c=true) (hp:c.2.1.Perm l):(l.map (·.1)).Nodup:=by
 have hc:=(q_ h).cl
 unfold kE at hc
 simp only [Z8] at hc
 exact (hp.map _).nodup_iff.1 (Rn hc.2.1)
def Bw (x:Ld):Int:=if 0<=x.2.2.2.2.2.2.2.2/\x.2.2.2.2.2.2.2.2 < ((x.2.1.length:Nat):Int) then (aW x.2.1 x.2.2.2.2.2.2.2.2).1 else 0
def eI (x:Ld):Cf:=(x.1,De x.2.1,x.2.2.2.2.2.2.1,Bw x)
theorem Qz2 {x:Ld} {c:Cf} (h1:c.1=x.1) (h2:cR cu x.2.1 c.2.1) (h3:c.2.2.1=x.2.2.2.2.2.2.1) (h4:c.2.2.2=Bw x):ga c=ga (eI x)/\(ga (eI x)=true->c=eI x):=by
 obtain ⟨c1,c2,c3,c4⟩:=c
 simp only at h1 h2 h3 h4
 subst h1 h3 h4
 by_cases hd:(x.2.1.map (·.1)).Nodup
 .have e:=Qz1 h2 hd
  subst e
  exact ⟨rfl,fun _=>rfl⟩
 .have e1:ga (x.1,c2,x.2.2.2.2.2.2.1,Bw x)=false:=Bool.eq_false_iff.2 fun h=>hd (Rs h h2.perm)
  have e2:ga (eI x)=false:=Bool.eq_false_iff.2 fun h=>hd (Rs h AF)
  exact ⟨by rw [e1,e2],fun h=>by rw [e2] at h;simp at h⟩
theorem UU {d:Nat} {l:List aC} {b:Bool} (hl:l.length<=1000000):Ok (BO (d+25) l b) fun r=>cR cu l r:=by
 rw [TB]
 exact Ok.bind (Qpc hl) fun r hr=>Ok.some hr
theorem Qln {d:Nat} {x:Ld} (hl:x.2.1.length<=1000) (hf:x.2.2.2.2.2.2.1.length<=1000):Ok (KL (d+26) x) fun c=>c.1=x.1/\cR cu x.2.1 c.2.1/\c.2.2.1=x.2.2.2.2.2.2.1/\c.2.2.2=Bw x:=by
 rw [e60,Qse hl,Q9,Qlh (by omega),Q9]
 unfold yA Bw
 by_cases h0:x.2.2.2.2.2.2.2.2>=0
 .rw [Z5 h0,Q4]
  by_cases h1:x.2.2.2.2.2.2.2.2 < ((x.2.1.length:Nat):Int)
  .rw [Z5 h1,Q4,Q4,Gy h0 h1,Q9,if_pos ⟨h0,h1⟩]
   exact Ok.bind (UU (by omega)) fun r hr=>Ok.some ⟨rfl,hr,rfl,rfl⟩
  .rw [Z4 h1,Q5,if_neg (fun h=>h1 h.2)]
   exact Ok.bind (UU (by omega)) fun r hr=>Ok.some ⟨rfl,hr,rfl,rfl⟩
 .rw [Z4 h0,Q5,Q5,if_neg (fun h=>h0 h.1)]
  exact Ok.bind (UU (by omega)) fun r hr=>Ok.some ⟨rfl,hr,rfl,rfl⟩
theorem Qwa {d:Nat} {l:List aC} {x:aC} (hl:l.length<=10000):BH (d+1) l x=some (rZ l x):=by
 rw [SE]
 have fin:kT d l x (((l.takeWhile fun y=>decide (y.1 < x.1)).length:Nat):Int)=some (rZ l x):=by
  have hle:(l.takeWhile fun y=>decide (y.1 < x.1)).length<=l.length:=by
   have:=congrArg List.length (List.takeWhile_append_dropWhile (p:=fun y:aC=>decide (y.1 < x.1)) (l:=l))
   rw [Zf] at this;omega
  have ht:l.take (l.takeWhile fun y=>decide (y.1 < x.1)).length=l.takeWhile fun y=>decide (y.1 < x.1):=by
   conv=>lhs;arg 2;rw [<- List.takeWhile_append_dropWhile (p:=fun y:aC=>decide (y.1 < x.1)) (l:=l)]
   rw [List.take_left]
  have hd:l.drop (l.takeWhile fun y=>decide (y.1 < x.1)).length=l.dropWhile fun y=>decide (y.1 < x.1):=by
   conv=>lhs;arg 2;rw [<- List.takeWhile_append_dropWhile (p:=fun y:aC=>decide (y.1 < x.1)) (l:=l)]
   rw [List.drop_left]
  unfold kT
  simp only [nn,Q3,Q4]
  rw [K4 hle,Q4,Q4,room (by simp;omega),Q4,room (by simp;omega),Q4,room (by simp;omega),Q4,ht,hd]
  unfold rZ
  simp
 have key:∀ (B A:List aC) (fuel:Nat),l=A++B->(∀ y∈A,y.1 < x.1)->B.length < fuel->Q8 (kU d l x (kT d l x)) fuel ((A.length:Nat):Int)=some (rZ l x):=by
  intro B
  induction B with
  | nil =>
   intro A fuel e hA hf
   obtain ⟨g,rfl⟩:∃ g,fuel=g+1:=⟨fuel - 1,by omega⟩
   rw [List.append_nil] at e
   have ht:(l.takeWhile fun y=>decide (y.1 < x.1))=A:=by rw [e];exact Quo (fun y hy=>by simpa using hA y hy)
   simp only [Q8,kU]
   rw [show (l.length:Int)=((A.length:Nat):Int) by rw [e],bB,Q5]
   rw [ht] at fin;exact fin
  | cons z B ih =>
   intro A fuel e hA hf
   obtain ⟨g,rfl⟩:∃ g,fuel=g+1:=⟨fuel - 1,by omega⟩
   have au:A.length < l.length:=by rw [e];simp
   have hg:l[A.length]? = some z:=by rw [e];simp
   simp only [Q8,kU]
   rw [Z5 (show ((A.length:Nat):Int) < ((l.length:Nat):Int) by omega),Q4,nn,Q4,Q3,hg,Q9]
   by_cases hz:z.1 < x.1
   .rw [Z5 hz,Q4,aN (by omega)]
    have:=ih (A++[z]) g (by rw [e];simp) (fun y hy=>by
     rcases List.mem_append.1 hy with h | h
     .exact hA y h
     .simp at h;subst h;exact hz) (by simpa using hf)
    rw [Zf] at this
    exact this
   .rw [Z4 hz,Q5]
    have ht:(l.takeWhile fun y=>decide (y.1 < x.1))=A:=by
     rw [e,List.takeWhile_append_of_pos (fun y hy=>by simpa using hA y hy),List.takeWhile_cons,if_neg (by simpa using hz),List.append_nil]
    rw [ht] at fin;exact fin
 exact key l [] Qd rfl (by simp) (by rw [Q6];omega)
theorem YC {d:Nat} {x:Ld} (hl:x.2.1.length<=1000) (hf:x.2.2.2.2.2.2.1.length<=1000):N9 (d+2) x=some (eI x):=by
 rw [e57,room (by simp;omega),Q4,List.nil_append]
 refine (Qb (fun (t:List aC) (i:Int)=>(i,((x.1,t,x.2.2.2.2.2.2.1,0):Cf))) x.2.1 (fun y _ t k=>Q1 (BH (d+1) t y) fun r=>k r) (fun t=>xy (d+1) x x.1 0 t x.2.2.2.2.2.2.1) ?_ ?_ (by rw [Q6];omega) []).trans ?_
 .intro ag t i y hx
  have hi:=(Z0 hx).1
  simp only [xz,bW hx,nn,Q3,hx,Q9,Q4]
  rw [aN (by omega)]
 .intro ag t;simp only [xz,bB,Q5]
 .rw [UK (f:=fun y _ t=>rZ t y) (fun k t=>t.length=k) x.2.1 0 [] rfl (fun j y t k hy ht=>by
   have hj:=(Z0 hy).1
   rw [Qwa (by omega),Q9]
   exact ⟨rfl,by rw [Qsj];omega⟩)]
  unfold xy
  rw [vG,Q9]
  show _=some (x.1,De x.2.1,x.2.2.2.2.2.2.1,Bw x)
  unfold Bw
  rw [wr (by omega) (by omega)]
  by_cases h:0<=x.2.2.2.2.2.2.2.2/\x.2.2.2.2.2.2.2.2 < ((x.2.1.length:Nat):Int)
  .rw [if_pos h,Z5 (show 0<=x.2.2.2.2.2.2.2.2/\x.2.2.2.2.2.2.2.2<=((x.2.1.length:Nat):Int) - 1 by omega),Q4,Z5 h.1,Q4,Gy h.1 h.2,Q9]
   rfl
  .rw [if_neg h,Z4 (show ¬ (0<=x.2.2.2.2.2.2.2.2/\x.2.2.2.2.2.2.2.2<=((x.2.1.length:Nat):Int) - 1) by omega),Q5]
   rfl
theorem IU {α:Type} [DecidableEq α]:∀ {a b:List α} {i:Nat} {c:List α},i=c.length->a.length=b.length->eF (fun x j=>decide ((c++b)[j]? = some x)) a i=decide (a=b)
 | [],[],i,c,_,_=>by simp [eF]
 | x::a,y::b,i,c,hi,h=>by
  subst hi
  have h1:(c++y::b)[c.length]? = some y:=by simp
  have ih:=IU (a:=a) (b:=b) (i:=c.length+1) (c:=c++[y]) (by simp) (by simpa using h)
  rw [show c++[y]++b=c++y::b by simp] at ih
  simp only [eF]
  rw [ih,h1]
  by_cases gE:x=y
  .subst gE;simp
  .rw [Z4 (show ¬ some y=some x by simp;exact fun e=>gE e.symm),Bool.false_and,Z4 (by simp [gE])]
 | [],_::_,_,_,_,h=>by simp at h
 | _::_,[],_,_,_,h=>by simp at h
theorem Lp {d:Nat} {a b:List Int} (hl:a.length < 4000000):ql (d+1) a b=some (decide (a=b)):=by
 rw [TU]
 by_cases h:a.length=b.length
 case neg=>rw [show ((((a.length:Nat):Int)) != ((b.length:Nat):Int))=true by simp;omega,Q4,Z4 (fun e=>h (by rw [e]))]
 rw [show ((((a.length:Nat):Int)) != ((b.length:Nat):Int))=false by simp;omega,Q5]
 refine (Qb (fun (t:Bool) (i:Int)=>(t,i)) a (fun x i t k=>aa (decide (([]++b)[i]? = some x)) (k t) (some false)) (fun _=>some true) ?_ ?_ (by rw [Q6];omega) false).trans ?_
 .intro ag t i x hx;have hi:=(Z0 hx).1;simp only [qk,bW hx,nn,Q3,hx,Q9,Q4];rw [aN (by omega)]
  have hb:i < b.length:=by omega
  rw [List.nil_append,Z6 hb,Q9]
  by_cases gE:x=b[i]
  .rw [show (x != b[i])=false by simp [gE],Q5,Z5 (by rw [gE]),Q4]
  .rw [show (x != b[i])=true by simp [gE],Q4,Z4 (show ¬ some b[i]=some x by simp;exact fun e=>gE e.symm),Q5]
 .intro ag t;simp only [qk,bB,Q5];rfl
 .rw [qp,IU (i:=0) (c:=[]) rfl h];cases decide (a=b)<;>rfl
theorem Lq {d:Nat} {a b:List Int} (hl:a.length < 4000000):pe (d+1) a b=some (decide (a=b)):=by
 rw [SI]
 by_cases h:a.length=b.length
 case neg=>rw [show ((((a.length:Nat):Int)) != ((b.length:Nat):Int))=true by simp;omega,Q4,Z4 (fun e=>h (by rw [e]))]
 rw [show ((((a.length:Nat):Int)) != ((b.length:Nat):Int))=false by simp;omega,Q5]
 refine (Qb (fun (t:Bool) (i:Int)=>(t,i)) a (fun x i t k=>aa (decide (([]++b)[i]? = some x)) (k t) (some false)) (fun _=>some true) ?_ ?_ (by rw [Q6];omega) false).trans ?_
 .intro ag t i x hx;have hi:=(Z0 hx).1;simp only [o_,bW hx,nn,Q3,hx,Q9,Q4];rw [aN (by omega)]
  have hb:i < b.length:=by omega
  rw [List.nil_append,Z6 hb,Q9]
  by_cases gE:x=b[i]
  .rw [show (x != b[i])=false by simp [gE],Q5,Z5 (by rw [gE]),Q4]
  .rw [show (x != b[i])=true by simp [gE],Q4,Z4 (show ¬ some b[i]=some x by simp;exact fun e=>gE e.symm),Q5]
 .intro ag t;simp only [o_,bB,Q5];rfl
 .rw [qp,IU (i:=0) (c:=[]) rfl h];cases decide (a=b)<;>rfl
theorem Quq {x y:aC}:((x.1==y.1)&&((x.2.1==y.2.1)&&((x.2.2.1==y.2.2.1)&&((x.2.2.2.1==y.2.2.2.1)&&((x.2.2.2.2.1==y.2.2.2.2.1)&&((x.2.2.2.2.2.1==y.2.2.2.2.2.1)&&((x.2.2.2.2.2.2.1==y.2.2.2.2.2.2.1)&&((x.2.2.2.2.2.2.2==y.2.2.2.2.2.2.2)&&true))))))))=decide (x=y):=by
 obtain ⟨x1,x2,x3,x4,x5,x6,x7,x8⟩:=x
 obtain ⟨y1,y2,y3,y4,y5,y6,y7,y8⟩:=y
 rw [Bool.eq_iff_iff];simp
theorem Qz3 {x y:dR}:((x.1==y.1)&&((x.2.1==y.2.1)&&((x.2.2.1==y.2.2.1)&&((x.2.2.2.1==y.2.2.2.1)&&((x.2.2.2.2==y.2.2.2.2)&&true)))))=decide (x=y):=by
 obtain ⟨x1,x2,x3,x4,x5⟩:=x
 obtain ⟨y1,y2,y3,y4,y5⟩:=y
 rw [Bool.eq_iff_iff];simp
theorem UW {d:Nat} {a b:List aC} (hl:a.length < 4000000):Gn (d+1) a b=some (decide (a=b)):=by
 rw [TT]
 by_cases h:a.length=b.length
 case neg=>rw [show ((((a.length:Nat):Int)) != ((b.length:Nat):Int))=true by simp;omega,Q4,Z4 (fun e=>h (by rw [e]))]
 rw [show ((((a.length:Nat):Int)) != ((b.length:Nat):Int))=false by simp;omega,Q5]
 refine (Qb (fun (t:Bool) (i:Int)=>(t,i)) a (fun x i t k=>aa (decide (([]++b)[i]? = some x)) (k t) (some false)) (fun _=>some true) ?_ ?_ (by rw [Q6];omega) false).trans ?_
 .intro ag t i x hx;have hi:=(Z0 hx).1;simp only [qj,bW hx,nn,Q3,hx,Q9,Q4];rw [aN (by omega)]
  have hb:i < b.length:=by omega
  rw [List.nil_append,Z6 hb,Q9,Quq]
  by_cases gE:x=b[i]
  .rw [Z5 gE,Zl,Q5,Z5 (by rw [gE]),Q4]
  .rw [Z4 gE,Bool.not_false,Q4,Z4 (show ¬ some b[i]=some x by simp;exact fun e=>gE e.symm),Q5]
 .intro ag t;simp only [qj,bB,Q5];rfl
 .rw [qp,IU (i:=0) (c:=[]) rfl h];cases decide (a=b)<;>rfl
def Df (x y:Ld):Bool:=decide (x.2.1=y.2.1)&&(decide (x.2.2.1=y.2.2.1)&&(decide (x.2.2.2.1=y.2.2.2.1)&&(decide (x.2.2.2.2.1=y.2.2.2.2.1)&&(decide (x.2.2.2.2.2.1=y.2.2.2.2.2.1)&&(decide (x.2.2.2.2.2.2.2.1=y.2.2.2.2.2.2.2.1)&&(x.2.2.2.2.2.2.2.2==y.2.2.2.2.2.2.2.2))))))
def eP (x:Ld):Bool:=decide (x.2.1.length<=24/\x.2.2.2.2.2.2.1.length<=16)&&(ga (eI x)&&Df x (bS (eI x)))
def AJ (x:Ld):Prop:=x.1.size < 4000000/\x.2.1.length < 4000000/\x.2.2.1.length < 4000000/\x.2.2.2.1.length < 4000000/\x.2.2.2.2.1.length < 4000000/\x.2.2.2.2.2.1.length < 4000000/\x.2.2.2.2.2.2.1.length < 4000000/\x.2.2.2.2.2.2.2.1.length < 4000000
theorem Qmt {d:Nat} {x:Ld} (h:AJ x):TW (d+27) x=some (eP x):=by
 obtain ⟨z1,z2,z3,z4,z5,z6,z7,z8⟩:=h
 rw [e87]
 unfold yP eP
 by_cases h1:x.2.1.length<=24
 case neg=>rw [Z5 (show ((x.2.1.length:Nat):Int) > 24 by omega),Q4,Q4,Z4 (fun h=>h1 h.1)];rfl
 rw [Z4 (show ¬ ((x.2.1.length:Nat):Int) > 24 by omega),Q5]
 by_cases h2:x.2.2.2.2.2.2.1.length<=16
 case neg=>rw [Z5 (show ((x.2.2.2.2.2.2.1.length:Nat):Int) > 16 by omega),Q4,Z4 (fun h=>h2 h.2)];rfl
 rw [Z4 (show ¬ ((x.2.2.2.2.2.2.1.length:Nat):Int) > 16 by omega),Q5,Z5 ⟨h1,h2⟩,Zg]
 obtain ⟨c,hc,c1,c2,c3,c4⟩:=Qln (d:=d) (x:=x) (by omega) (by omega)
 obtain ⟨u1,u2⟩:=Qz2 c1 c2 c3 c4
 have fq:=c2.len
 rw [hc,Q9,show d+26=(d+18)+8 by omega,Yy (by omega) (by rw [c3];omega),Q9,u1]
 cases hg:ga (eI x) with
 | false=>rfl
 | true =>
  have e:=u2 hg
  subst e
  rw [Zl,Q5,show d+18+8=(d+12)+14 by omega,Yu (q_ hg),Q9,Zg]
  unfold Df
  rw [show d+12+14=(d+25)+1 by omega,UW (by omega),Q9]
  cases decide (x.2.1=(bS (eI x)).2.1) with
  | false=>rfl
  | true =>
  rw [Q4,Lp (by omega),Q9]
  cases decide (x.2.2.1=(bS (eI x)).2.2.1) with
  | false=>rfl
  | true =>
  rw [Q4,Lp (by omega),Q9]
  cases decide (x.2.2.2.1=(bS (eI x)).2.2.2.1) with
  | false=>rfl
  | true =>
  rw [Q4,Lp (by omega),Q9]
  cases decide (x.2.2.2.2.1=(bS (eI x)).2.2.2.2.1) with
  | false=>rfl
  | true =>
  rw [Q4,Lp (by omega),Q9]
  cases decide (x.2.2.2.2.2.1=(bS (eI x)).2.2.2.2.2.1) with
  | false=>rfl
  | true =>
  rw [Q4,Lp (by omega),Q9]
  cases decide (x.2.2.2.2.2.2.2.1=(bS (eI x)).2.2.2.2.2.2.2.1) with
  | false=>rfl
  | true=>rw [Q4];rfl
theorem Qsl {d:Nat} {u y:Ld} (h:AJ u) (hn:u.1=y.1) (hf:u.2.2.2.2.2.2.1=y.2.2.2.2.2.2.1):FD (d+2) u y=some (Df u y):=by
 obtain ⟨z1,z2,z3,z4,z5,z6,z7,z8⟩:=h
 rw [SJ,Ov,Z5 (by rw [hn]),Zl,Q5]
 unfold jc Df
 by_cases hc:u.2.1.length=y.2.1.length
 case neg=>rw [show ((((u.2.1.length:Nat):Int)) != ((y.2.1.length:Nat):Int))=true by simp;omega,Q4,Q4,Z4 (fun e=>hc (by rw [e]))];rfl
 rw [show ((((u.2.1.length:Nat):Int)) != ((y.2.1.length:Nat):Int))=false by simp;omega,Q5,show ((((u.2.2.2.2.2.2.1.length:Nat):Int)) != ((y.2.2.2.2.2.2.1.length:Nat):Int))=false by rw [hf];simp,Q5]
 by_cases hd:u.2.2.2.2.2.2.2.2=y.2.2.2.2.2.2.2.2
 case neg=>rw [show (u.2.2.2.2.2.2.2.2 != y.2.2.2.2.2.2.2.2)=true by simp [hd],Q4,show (u.2.2.2.2.2.2.2.2==y.2.2.2.2.2.2.2.2)=false by simp [hd]];simp
 rw [show (u.2.2.2.2.2.2.2.2 != y.2.2.2.2.2.2.2.2)=false by simp [hd],Q5,show (u.2.2.2.2.2.2.2.2==y.2.2.2.2.2.2.2.2)=true by simp [hd],Bool.and_true]
 refine (Qb (fun (t:Bool) (i:Int)=>(t,i)) u.2.1 (fun z i t k=>aa (decide (([]++y.2.1)[i]? = some z)) (k t) (some false)) (fun t=>pq (d+1) u y t) ?_ ?_ (by rw [Q6];omega) false).trans ?_
 .intro ag t i x hx;have hi:=(Z0 hx).1;simp only [pz,bW hx,nn,Q3,hx,Q9,Q4];rw [aN (by omega)]
  have hb:i < y.2.1.length:=by omega
  rw [List.nil_append,Z6 hb,Q9,Quq]
  by_cases gE:x=y.2.1[i]
  .rw [Z5 gE,Zl,Q5,Z5 (by rw [gE]),Q4]
  .rw [Z4 gE,Bool.not_false,Q4,Z4 (show ¬ some y.2.1[i]=some x by simp;exact fun e=>gE e.symm),Q5]
 .intro ag t;simp only [pz,bB,Q5]
 .rw [qp,IU (i:=0) (c:=[]) rfl hc]
  cases decide (u.2.1=y.2.1) with
  | false=>rfl
  | true =>
  rw [Q4,Zg]
  unfold pq
  have cF:u.2.2.2.2.2.2.1.length=y.2.2.2.2.2.2.1.length:=by rw [hf]
  refine (Qb (fun (t:Bool) (i:Int)=>(t,i)) u.2.2.2.2.2.2.1 (fun z i t k=>aa (decide (([]++y.2.2.2.2.2.2.1)[i]? = some z)) (k t) (some false)) (fun t=>pg (d+1) u y t) ?_ ?_ (by rw [Q6];omega) false).trans ?_
  .intro ag t i x hx;have hi:=(Z0 hx).1;simp only [pn,bW hx,nn,Q3,hx,Q9,Q4];rw [aN (by omega)]
   have hb:i < y.2.2.2.2.2.2.1.length:=by omega
   rw [List.nil_append,Z6 hb,Q9,Qz3]
   by_cases gE:x=y.2.2.2.2.2.2.1[i]
   .rw [Z5 gE,Zl,Q5,Z5 (by rw [gE]),Q4]
   .rw [Z4 gE,Bool.not_false,Q4,Z4 (show ¬ some y.2.2.2.2.2.2.1[i]=some x by simp;exact fun e=>gE e.symm),Q5]
  .intro ag t;simp only [pn,bB,Q5]
  .rw [qp,IU (i:=0) (c:=[]) rfl cF,Z5 hf,Q4]
   unfold pg
   rw [Lq (by omega),Q9]
   cases decide (u.2.2.1=y.2.2.1) with
   | false=>rfl
   | true =>
   rw [Q4,Lq (by omega),Q9]
   cases decide (u.2.2.2.1=y.2.2.2.1) with
   | false=>rfl
   | true =>
   rw [Q4,Lq (by omega),Q9]
   cases decide (u.2.2.2.2.1=y.2.2.2.2.1) with
   | false=>rfl
   | true =>
   rw [Q4,Lq (by omega),Q9]
   cases decide (u.2.2.2.2.2.1=y.2.2.2.2.2.1) with
   | false=>rfl
   | true=>rw [Q4,Lq (by omega),Q9];rfl
theorem Qsm {d:Nat} {x:Ld} (h:AJ x):FE (d+11) x=some (eP x):=by
 have h':=h
 obtain ⟨z1,z2,z3,z4,z5,z6,z7,z8⟩:=h
 rw [SK]
 unfold pE eP
 by_cases h1:x.2.1.length<=24
 case neg=>rw [Z5 (show ((x.2.1.length:Nat):Int) > 24 by omega),Q4,Q4,Z4 (fun h=>h1 h.1)];rfl
 rw [Z4 (show ¬ ((x.2.1.length:Nat):Int) > 24 by omega),Q5]
 by_cases h2:x.2.2.2.2.2.2.1.length<=16
 case neg=>rw [Z5 (show ((x.2.2.2.2.2.2.1.length:Nat):Int) > 16 by omega),Q4,Z4 (fun h=>h2 h.2)];rfl
 rw [Z4 (show ¬ ((x.2.2.2.2.2.2.1.length:Nat):Int) > 16 by omega),Q5,Z5 ⟨h1,h2⟩,Zg]
 rw [show d+10=(d+8)+2 by omega,YC (by omega) (by omega),Q9,show d+8+2=(d+5)+5 by omega,Yz (c:=eI x) z1 (show x.2.2.2.2.2.2.1.length < 4000000 by omega),Q9]
 cases hg:ga (eI x) with
 | false=>rfl
 | true=>rw [Q4,show d+5+5=d+10 by omega,Yv (q_ hg),Q9,show d+10=(d+8)+2 by omega,Qsl (y:=bS (eI x)) h' rfl rfl,Q9,Zg]
theorem Lt {α:Type} {l:List α} {z x:α} {k:Nat} (hx:l[k]? = some x):(l.take k++List.replicate (l.length - k) z).set k x=l.take (k+1)++List.replicate (l.length - (k+1)) z:=by
 have hk:=(Z0 hx).1
 have e:=(Z0 hx).2
 have hl:(l.take k).length=k:=by rw [List.length_take];omega
 rw [List.set_append_right _ _ (by omega),hl,Nat.sub_self,show l.length - k=(l.length - (k+1))+1 by omega,List.replicate_succ,List.set_cons_zero,List.take_succ_eq_append_getElem hk,e]
 simp
theorem Qmu {d:Nat} {l:List aC} (hl:l.length<=1048576):R9 (d+2) l=some l:=by
 rw [e41,nn,Q4,Q4,Q3,show (Nat.ble l.length l.length&&Nat.ble (l.length*64) Q7)=true by rw [Z8,Nat.ble_eq,Nat.ble_eq];unfold Q7;omega,Q4]
 refine Ok.val (lV (fun j (s:Int×List aC)=>∃ k:Nat,k+j=l.length/\s.1=(k:Int)/\s.2=l.take k++List.replicate (l.length - k) ((0,0,0,0,0,0,0,0):aC)) ?_ _ l.length _ (by rw [Q6];omega) ⟨0,by omega,rfl,by simp⟩)
 rintro j ⟨n,r⟩ ag ⟨k,hk,h1,h2⟩ eo
 simp only at h1 h2
 subst h1
 have jZ:r.length=l.length:=by rw [h2];simp;omega
 simp only [Dt]
 rcases Nat.lt_or_ge k l.length with au | sQ
 .have hx:=Z6 au
  rw [bW hx,Q4,nn,Q4,Q3,hx,Q9,e86,Q9,Q4,Qp (by omega),Q4,Z6 (by omega),Q9,aN (by omega)]
  exact eo (j - 1) _ (by omega) ⟨k+1,by omega,rfl,by rw [h2];exact Lt hx⟩
 .have:k=l.length:=by omega
  subst this
  rw [bB,Q5]
  unfold Ds
  exact Ok.some (by rw [h2];simp)
theorem Qju {d:Nat} {l:List dR} (hl:l.length<=1048576):R8 (d+2) l=some l:=by
 rw [e27,nn,Q4,Q4,Q3,show (Nat.ble l.length l.length&&Nat.ble (l.length*40) Q7)=true by rw [Z8,Nat.ble_eq,Nat.ble_eq];unfold Q7;omega,Q4]
 refine Ok.val (lV (fun j (s:Int×List dR)=>∃ k:Nat,k+j=l.length/\s.1=(k:Int)/\s.2=l.take k++List.replicate (l.length - k) ((0,0,0,0,0):dR)) ?_ _ l.length _ (by rw [Q6];omega) ⟨0,by omega,rfl,by simp⟩)
 rintro j ⟨n,r⟩ ag ⟨k,hk,h1,h2⟩ eo
 simp only at h1 h2
 subst h1
 have jZ:r.length=l.length:=by rw [h2];simp;omega
 simp only [Dr]
 rcases Nat.lt_or_ge k l.length with au | sQ
 .have hx:=Z6 au
  rw [bW hx,Q4,nn,Q4,Q3,hx,Q9,e64,Q9,Q4,Qp (by omega),Q4,Z6 (by omega),Q9,aN (by omega)]
  exact eo (j - 1) _ (by omega) ⟨k+1,by omega,rfl,by rw [h2];exact Lt hx⟩
 .have:k=l.length:=by omega
  subst this
  rw [bB,Q5]
  unfold Dq
  exact Ok.some (by rw [h2];simp)
theorem GM {d:Nat} {l:List Int} (hl:l.length<=1048576):BG (d+1) l=some l:=by
 rw [e84,nn,Q4,Q4,Q3,show (Nat.ble l.length l.length&&Nat.ble (l.length*8) Q7)=true by rw [Z8,Nat.ble_eq,Nat.ble_eq];unfold Q7;omega,Q4]
 refine Ok.val (lV (fun j (s:Int×List Int)=>∃ k:Nat,k+j=l.length/\s.1=(k:Int)/\s.2=l.take k++List.replicate (l.length - k) (0:Int)) ?_ _ l.length _ (by rw [Q6];omega) ⟨0,by omega,rfl,by simp⟩)
 rintro j ⟨n,r⟩ ag ⟨k,hk,h1,h2⟩ eo
 simp only at h1 h2
 subst h1
 have jZ:r.length=l.length:=by rw [h2];simp;omega
 simp only [Dv]
 rcases Nat.lt_or_ge k l.length with au | sQ
 .have hx:=Z6 au
  rw [bW hx,Q4,nn,Q4,Q3,hx,Q9,Q4,Qp (by omega),Q4,Z6 (by omega),Q9,aN (by omega)]
  exact eo (j - 1) _ (by omega) ⟨k+1,by omega,rfl,by rw [h2];exact Lt hx⟩
 .have:k=l.length:=by omega
  subst this
  rw [bB,Q5]
  unfold Du
  exact Ok.some (by rw [h2];simp)
def UX (n:Int) (k:Nat) (r:Int):Prop:=r < 0\/(0<=r/\r<=n/\(k:Int)<=n)
theorem Qmv {d:Nat} {l:List aC} {n:Int} (h0:0<=n) (h1:n<=1048576) (hl:l.length<=9223372036854775807):Ok (R4 (d+1) l n) fun r=>UX n l.length r:=by
 rw [e34,wr (by omega) (by omega)]
 by_cases h:n - ((l.length:Nat):Int) < 0
 .rw [Z5 h,Q4];exact Ok.some (Or.inl (by omega))
 .rw [Z4 h,Q5];exact Ok.some (Or.inr ⟨by omega,by omega,by omega⟩)
theorem Qjv {d:Nat} {l:List dR} {n:Int} (h0:0<=n) (h1:n<=1048576) (hl:l.length<=9223372036854775807):Ok (R3 (d+1) l n) fun r=>UX n l.length r:=by
 rw [e25,wr (by omega) (by omega)]
 by_cases h:n - ((l.length:Nat):Int) < 0
 .rw [Z5 h,Q4];exact Ok.some (Or.inl (by omega))
 .rw [Z4 h,Q5];exact Ok.some (Or.inr ⟨by omega,by omega,by omega⟩)
theorem GN {d:Nat} {l:List Int} {n:Int} (h0:0<=n) (h1:n<=1048576) (hl:l.length<=9223372036854775807):Ok (BF (d+1) l n) fun r=>UX n l.length r:=by
 rw [e68,wr (by omega) (by omega)]
 by_cases h:n - ((l.length:Nat):Int) < 0
 .rw [Z5 h,Q4];exact Ok.some (Or.inl (by omega))
 .rw [Z4 h,Q5];exact Ok.some (Or.inr ⟨by omega,by omega,by omega⟩)
theorem Qmw {d:Nat} {l:List aC} (hl:l.length<=2000000):Sg (d+2) l l=some true:=by
 rw [e48,bne_self_eq_false,Q5]
 refine (Qb (fun (t:Bool) (i:Int)=>(t,i)) l (fun x i t k=>k t) (DC (d+1)) ?_ ?_ (by rw [Q6];omega) false).trans ?_
 .intro ag t i x hx;have hi:=(Z0 hx).1;simp only [wW,bW hx,nn,Q3,hx,Q9,Q4]
  rw [Sf]
  simp only [bne_self_eq_false,Q5,Zl,Q9]
  rw [aN (by omega)]
 .intro ag t;simp only [wW,bB,Q5]
 .rw [wI (f:=fun _ _ t=>t)];rfl
theorem Qjw {d:Nat} {l:List dR} (hl:l.length<=2000000):Se (d+2) l l=some true:=by
 rw [e29,bne_self_eq_false,Q5]
 refine (Qb (fun (t:Bool) (i:Int)=>(t,i)) l (fun x i t k=>k t) (DB (d+1)) ?_ ?_ (by rw [Q6];omega) false).trans ?_
 .intro ag t i x hx;have hi:=(Z0 hx).1;simp only [wU,bW hx,nn,Q3,hx,Q9,Q4]
  rw [e67]
  simp only [bne_self_eq_false,Q5,Zl,Q9]
  rw [aN (by omega)]
 .intro ag t;simp only [wU,bB,Q5]
 .rw [wI (f:=fun _ _ t=>t)];rfl
theorem Dn {d:Nat} {l:List Int} (hl:l.length<=2000000):g14 (d+1) l l=some true:=by
 rw [e14,bne_self_eq_false,Q5]
 refine (Qb (fun (t:Bool) (i:Int)=>(t,i)) l (fun x i t k=>k t) (DA d) ?_ ?_ (by rw [Q6];omega) false).trans ?_
 .intro ag t i x hx;have hi:=(Z0 hx).1;simp only [wS,bW hx,nn,Q3,hx,Q9,Q4]
  simp only [bne_self_eq_false,Q5]
  rw [aN (by omega)]
 .intro ag t;simp only [wS,bB,Q5]
 .rw [wI (f:=fun _ _ t=>t)];rfl
def AV (x:Ld):Prop:=x.1.size<=1048576/\x.2.1.length<=1048576/\x.2.2.1.length<=1048576/\x.2.2.2.1.length<=1048576/\x.2.2.2.2.1.length<=1048576/\x.2.2.2.2.2.1.length<=1048576/\x.2.2.2.2.2.2.1.length<=1048576/\x.2.2.2.2.2.2.2.1.length<=1048576
theorem Qmx {d:Nat} {x:Ld} (h:AV x):Sh (d+3) x x=some true:=by
 obtain ⟨z1,z2,z3,z4,z5,z6,z7,z8⟩:=h
 rw [e45,beq_self_eq_true,Zl,Q5,Qmw (by omega),Q9,Zl,Q5,Dn (by omega),Q9,Zl,Q5,Dn (by omega),Q9,Zl,Q5,Dn (by omega),Q9,Zl,Q5,Dn (by omega),Q9,Zl,Q5,Qjw (by omega),Q9,Zl,Q5,Dn (by omega),Q9,Zl,Q5,bne_self_eq_false,Q5]
theorem Qmy {d:Nat} {x:Ld} (h:AV x):R_ (d+3) x=some x:=by
 obtain ⟨z1,z2,z3,z4,z5,z6,z7,z8⟩:=h
 rw [e38,Qmu z2,Q9,GM z3,Q9,GM z4,Q9,GM z5,Q9,GM z6,Q9,Qju z7,Q9,GM z8,Q9]
def RY (x:Ld):Prop:=x.1.size<=9223372036854775807/\x.2.1.length<=9223372036854775807/\x.2.2.1.length<=9223372036854775807/\x.2.2.2.1.length<=9223372036854775807/\x.2.2.2.2.1.length<=9223372036854775807/\x.2.2.2.2.2.1.length<=9223372036854775807/\x.2.2.2.2.2.2.1.length<=9223372036854775807/\x.2.2.2.2.2.2.2.1.length<=9223372036854775807
theorem Qmz {d:Nat} {x:Ld} {n:Int} (h0:0<=n) (h1:n<=1048576) (h:RY x):Ok (R5 (d+2) x n) fun r=>r < 0\/(0<=r/\r<=n/\AV x):=by
 obtain ⟨z1,z2,z3,z4,z5,z6,z7,z8⟩:=h
 have no:Ok (some (-1:Int)) fun r=>r < 0\/(0<=r/\r<=n/\AV x):=Ok.some (Or.inl (by omega))
 rw [e31,wr (by omega) (by omega)]
 refine Ok.aa (fun _=>no) (fun hs=>?_)
 simp only [decide_eq_false_iff_not] at hs
 refine Ok.bind (Qmv (by omega) (by omega) z2) fun r3 g3=>?_
 refine Ok.aa (fun _=>no) (fun B6=>?_)
 simp only [decide_eq_false_iff_not] at B6
 have g3:=g3.resolve_left B6
 refine Ok.bind (GN (by omega) (by omega) z3) fun r4 g4=>?_
 refine Ok.aa (fun _=>no) (fun D_=>?_)
 simp only [decide_eq_false_iff_not] at D_
 have g4:=g4.resolve_left D_
 refine Ok.bind (GN (by omega) (by omega) z4) fun r5 g5=>?_
 refine Ok.aa (fun _=>no) (fun Lu=>?_)
 simp only [decide_eq_false_iff_not] at Lu
 have g5:=g5.resolve_left Lu
 refine Ok.bind (GN (by omega) (by omega) z5) fun r6 g6=>?_
 refine Ok.aa (fun _=>no) (fun hs6=>?_)
 simp only [decide_eq_false_iff_not] at hs6
 have g6:=g6.resolve_left hs6
 refine Ok.bind (GN (by omega) (by omega) z6) fun r7 g7=>?_
 refine Ok.aa (fun _=>no) (fun hs7=>?_)
 simp only [decide_eq_false_iff_not] at hs7
 have g7:=g7.resolve_left hs7
 refine Ok.bind (Qjv (by omega) (by omega) z7) fun r8 g8=>?_
 refine Ok.aa (fun _=>no) (fun hs8=>?_)
 simp only [decide_eq_false_iff_not] at hs8
 have g8:=g8.resolve_left hs8
 refine Ok.bind (GN (by omega) (by omega) z8) fun r9 g9=>?_
 refine Ok.aa (fun _=>no) (fun hs9=>?_)
 simp only [decide_eq_false_iff_not] at hs9
 have g9:=g9.resolve_left hs9
 exact Ok.some (Or.inr ⟨by omega,by omega,by omega,by omega,by omega,by omega,by omega,by omega,by omega,by omega⟩)
theorem AV.sz {x:Ld} (h:AV x):AJ x:=by
 obtain ⟨z1,z2,z3,z4,z5,z6,z7,z8⟩:=h
 exact ⟨by omega,by omega,by omega,by omega,by omega,by omega,by omega,by omega⟩
def mC (k:Nat):aC:=((k:Int),((k+1:Nat):Int),((k+1+1:Nat):Int),((k+1+1+1:Nat):Int),((k+1+1+1+1:Nat):Int),((k+1+1+1+1+1:Nat):Int),((k+1+1+1+1+1+1:Nat):Int),((k+1+1+1+1+1+1+1:Nat):Int))
def mF (k:Nat):dR:=((k:Int),((k+1:Nat):Int),((k+1+1:Nat):Int),((k+1+1+1:Nat):Int),((k+1+1+1+1:Nat):Int))
def uM:Nat->Nat->List aC
 | _,0=>[]
 | k,n+1=>mC k::uM (k+1+1+1+1+1+1+1+1) n
def uN:Nat->Nat->List dR
 | _,0=>[]
 | k,n+1=>mF k::uN (k+1+1+1+1+1) n
theorem Ff {α:Type} {p r:List α} {x y:α}:(p++x::r).set p.length y=p++y::r:=by
 rw [List.set_append_right _ _ (Zd _),Nat.sub_self,List.set_cons_zero]
theorem Qur {d:Nat}:∀ (r:List aC) {p:List aC} {k fuel:Nat},r.length < fuel->p.length+r.length<=2000000->k+8*r.length<=1000000000 ->
  Q8 (rS d (zq d)) fuel ((k:Int),((p.length:Nat):Int),p++r)=some (((k+8*r.length:Nat):Int),p++uM k r.length)
 | _,p,k,0,h,_,_=>by omega
 | [],p,k,fuel+1,h,h2,h3=>by
  simp only [Q8,rS]
  rw [List.append_nil,bB,Q5]
  unfold zq
  simp [uM]
 | x::r,p,k,fuel+1,h,h2,h3=>by
  simp only [Z9] at h h2 h3
  have au:p.length < (p++x::r).length:=by simp
  have hg:(p++x::r)[p.length]? = some x:=by simp
  simp only [Q8,rS,Q3,nn,Q4]
  rw [Z5 (show ((p.length:Nat):Int) < (((p++x::r).length:Nat):Int) by omega),Q4,Qp au,Q4,hg,Q9]
  simp only [List.length_set,List.set_set,List.getElem?_set_self au,Q9,Qp au,Q4]
  rw [Ff,aN (by omega),aN (by omega),aN (by omega),aN (by omega),aN (by omega),aN (by omega),aN (by omega),aN (by omega),aN (by omega)]
  have:=Qur (d:=d) r (p:=p++[mC k]) (k:=k+1+1+1+1+1+1+1+1) (fuel:=fuel) (by omega) (by simp;omega) (by omega)
  rw [Zf,show (p++[mC k])++r=p++mC k::r by simp] at this
  simp only [Z9,Zb,uM]
  rw [show k+8*(r.length+1)=k+1+1+1+1+1+1+1+1+8*r.length by omega,show p++mC k::uM (k+1+1+1+1+1+1+1+1) r.length=(p++[mC k])++uM (k+1+1+1+1+1+1+1+1) r.length by simp]
  exact this
theorem Qus {d:Nat} {l:List aC}:∀ (n:Nat) {p:List aC} {k fuel:Nat},l=p++uM k n->n < fuel->p.length+n<=2000000->k+8*n<=1000000000 ->
  Q8 (kM d l (oS d)) fuel ((k:Int),0,((p.length:Nat):Int))=some ((k+8*n:Nat):Int)
 | n,p,k,0,_,h,_,_=>by omega
 | 0,p,k,fuel+1,e,h,h2,h3=>by
  simp only [uM,List.append_nil] at e
  subst e
  simp only [Q8,kM]
  rw [bB,Q5]
  unfold oS
  simp
 | n+1,p,k,fuel+1,e,h,h2,h3=>by
  have hg:l[p.length]? = some (mC k):=by rw [e];simp [uM]
  have au:=(Z0 hg).1
  simp only [Q8,kM,Q3,nn,Q4]
  rw [Z5 (show ((p.length:Nat):Int) < ((l.length:Nat):Int) by omega),Q4,hg]
  simp only [Q9]
  rw [aN (by omega),aN (by omega),aN (by omega),aN (by omega),aN (by omega),aN (by omega),aN (by omega),aN (by omega),aN (by omega)]
  unfold mC
  simp only [bne_self_eq_false,Q5]
  have:=Qus (d:=d) (l:=l) n (p:=p++[mC k]) (k:=k+1+1+1+1+1+1+1+1) (fuel:=fuel) (by rw [e];simp [uM]) (by omega) (by simp;omega) (by omega)
  rw [Zf] at this
  simp only [Z9,Zb] at this
  rw [show k+8*(n+1)=k+1+1+1+1+1+1+1+1+8*n by omega]
  exact this
theorem Qut {d:Nat}:∀ (r:List dR) {p:List dR} {k fuel:Nat},r.length < fuel->p.length+r.length<=2000000->k+5*r.length<=1000000000 ->
  Q8 (rR d (zn d)) fuel ((k:Int),((p.length:Nat):Int),p++r)=some (((k+5*r.length:Nat):Int),p++uN k r.length)
 | _,p,k,0,h,_,_=>by omega
 | [],p,k,fuel+1,h,h2,h3=>by
  simp only [Q8,rR]
  rw [List.append_nil,bB,Q5]
  unfold zn
  simp [uN]
 | x::r,p,k,fuel+1,h,h2,h3=>by
  simp only [Z9] at h h2 h3
  have au:p.length < (p++x::r).length:=by simp
  have hg:(p++x::r)[p.length]? = some x:=by simp
  simp only [Q8,rR,Q3,nn,Q4]
  rw [Z5 (show ((p.length:Nat):Int) < (((p++x::r).length:Nat):Int) by omega),Q4,Qp au,Q4,hg,Q9]
  simp only [List.length_set,List.set_set,List.getElem?_set_self au,Q9,Qp au,Q4]
  rw [Ff,aN (by omega),aN (by omega),aN (by omega),aN (by omega),aN (by omega),aN (by omega)]
  have:=Qut (d:=d) r (p:=p++[mF k]) (k:=k+1+1+1+1+1) (fuel:=fuel) (by omega) (by simp;omega) (by omega)
  rw [Zf,show (p++[mF k])++r=p++mF k::r by simp] at this
  simp only [Z9,Zb,uN]
  rw [show k+5*(r.length+1)=k+1+1+1+1+1+5*r.length by omega,show p++mF k::uN (k+1+1+1+1+1) r.length=(p++[mF k])++uN (k+1+1+1+1+1) r.length by simp]
  exact this
theorem Quu {d:Nat} {l:List dR}:∀ (n:Nat) {p:List dR} {k fuel:Nat},l=p++uN k n->n < fuel->p.length+n<=2000000->k+5*n<=1000000000 ->
  Q8 (kN d l (oT d)) fuel ((k:Int),0,((p.length:Nat):Int))=some ((k+5*n:Nat):Int)
 | n,p,k,0,_,h,_,_=>by omega
 | 0,p,k,fuel+1,e,h,h2,h3=>by
  simp only [uN,List.append_nil] at e
  subst e
  simp only [Q8,kN]
  rw [bB,Q5]
  unfold oT
  simp
 | n+1,p,k,fuel+1,e,h,h2,h3=>by
  have hg:l[p.length]? = some (mF k):=by rw [e];simp [uN]
  have au:=(Z0 hg).1
  simp only [Q8,kN,Q3,nn,Q4]
  rw [Z5 (show ((p.length:Nat):Int) < ((l.length:Nat):Int) by omega),Q4,hg]
  simp only [Q9]
  rw [aN (by omega),aN (by omega),aN (by omega),aN (by omega),aN (by omega),aN (by omega)]
  unfold mF
  simp only [bne_self_eq_false,Q5]
  have:=Quu (d:=d) (l:=l) n (p:=p++[mF k]) (k:=k+1+1+1+1+1) (fuel:=fuel) (by rw [e];simp [uN]) (by omega) (by simp;omega) (by omega)
  rw [Zf] at this
  simp only [Z9,Zb] at this
  rw [show k+5*(n+1)=k+1+1+1+1+1+5*n by omega]
  exact this
def jL:Nat->Nat->List Int
 | _,0=>[]
 | k,n+1=>(k:Int)::jL (k+1) n
theorem Quv {d:Nat}:∀ (r:List Int) {p:List Int} {k fuel:Nat},r.length < fuel->p.length+r.length<=2000000->k+r.length<=1000000000 ->
  Q8 (rC d (w5 d)) fuel ((k:Int),((p.length:Nat):Int),p++r)=some (((k+r.length:Nat):Int),p++jL k r.length)
 | _,p,k,0,h,_,_=>by omega
 | [],p,k,fuel+1,h,h2,h3=>by
  simp only [Q8,rC]
  rw [List.append_nil,bB,Q5]
  unfold w5
  simp [jL]
 | x::r,p,k,fuel+1,h,h2,h3=>by
  simp only [Z9] at h h2 h3
  have au:p.length < (p++x::r).length:=by simp
  have hg:(p++x::r)[p.length]? = some x:=by simp
  simp only [Q8,rC,Q3,nn,Q4]
  rw [Z5 (show ((p.length:Nat):Int) < (((p++x::r).length:Nat):Int) by omega),Q4,Qp au,Q4,hg,Q9]
  rw [Ff,aN (by omega),aN (by omega)]
  have:=Quv (d:=d) r (p:=p++[(k:Int)]) (k:=k+1) (fuel:=fuel) (by omega) (by simp;omega) (by omega)
  rw [Zf,show (p++[(k:Int)])++r=p++(k:Int)::r by simp] at this
  simp only [Z9,Zb,jL]
  rw [show k+(r.length+1)=k+1+r.length by omega,show p++(k:Int)::jL (k+1) r.length=(p++[(k:Int)])++jL (k+1) r.length by simp]
  exact this
theorem Quw {d:Nat} {l:List Int}:∀ (n:Nat) {p:List Int} {k fuel:Nat},l=p++jL k n->n < fuel->p.length+n<=2000000->k+n<=1000000000 ->
  Q8 (rD d l (w7 d)) fuel ((k:Int),0,((p.length:Nat):Int))=some ((k+n:Nat):Int)
 | n,p,k,0,_,h,_,_=>by omega
 | 0,p,k,fuel+1,e,h,h2,h3=>by
  simp only [jL,List.append_nil] at e
  subst e
  simp only [Q8,rD]
  rw [bB,Q5]
  unfold w7
  simp
 | n+1,p,k,fuel+1,e,h,h2,h3=>by
  have hg:l[p.length]? = some (k:Int):=by rw [e];simp [jL]
  have au:=(Z0 hg).1
  simp only [Q8,rD,Q3,nn,Q4]
  rw [Z5 (show ((p.length:Nat):Int) < ((l.length:Nat):Int) by omega),Q4,hg]
  simp only [Q9]
  rw [aN (by omega),aN (by omega)]
  simp only [bne_self_eq_false,Q5]
  have:=Quw (d:=d) (l:=l) n (p:=p++[(k:Int)]) (k:=k+1) (fuel:=fuel) (by rw [e];simp [jL]) (by omega) (by simp;omega) (by omega)
  rw [Zf] at this
  simp only [Z9,Zb] at this
  rw [show k+(n+1)=k+1+n by omega]
  exact this
theorem oQ {d k:Nat} {l:List Int} (hl:l.length<=1048576) (hk:k<=100000000):g18 (d+1) l (k:Int)=some (((k+l.length:Nat):Int),jL k l.length):=by
 rw [e18]
 exact Quv l (p:=[]) (by rw [Q6];omega) (by simp;omega) (by omega)
theorem YH {d k:Nat} {l:List aC} (hl:l.length<=1048576) (hk:k<=100000000):On (d+1) l (k:Int)=some (((k+8*l.length:Nat):Int),uM k l.length):=by
 rw [e52]
 exact Qur l (p:=[]) (by rw [Q6];omega) (by simp;omega) (by omega)
theorem YI {d k:Nat} {l:List dR} (hl:l.length<=1048576) (hk:k<=100000000):Om (d+1) l (k:Int)=some (((k+5*l.length:Nat):Int),uN k l.length):=by
 rw [e30]
 exact Qut l (p:=[]) (by rw [Q6];omega) (by simp;omega) (by omega)
theorem Dp {d k n:Nat} (hl:n<=1048576) (hk:k<=100000000):g20 (d+1) (jL k n) (k:Int)=some (((k+n:Nat):Int)):=by
 rw [e20]
 exact Quw n (p:=[]) rfl (by rw [Q6];omega) (by simp;omega) (by omega)
theorem Qhc {d k n:Nat} (hl:n<=1048576) (hk:k<=100000000):Fk (d+1) (uM k n) (k:Int)=some (((k+8*n:Nat):Int)):=by
 rw [Sm]
 exact Qus n (p:=[]) rfl (by rw [Q6];omega) (by simp;omega) (by omega)
theorem Qey {d k n:Nat} (hl:n<=1048576) (hk:k<=100000000):Fl (d+1) (uN k n) (k:Int)=some (((k+5*n:Nat):Int)):=by
 rw [Sn]
 exact Quu n (p:=[]) rfl (by rw [Q6];omega) (by simp;omega) (by omega)
def UY (k:Nat) (x:Ld):Ld:=(x.1,uM k x.2.1.length,jL (k+8*x.2.1.length) x.2.2.1.length,jL (k+8*x.2.1.length+x.2.2.1.length) x.2.2.2.1.length,jL (k+8*x.2.1.length+x.2.2.1.length+x.2.2.2.1.length) x.2.2.2.2.1.length,jL (k+8*x.2.1.length+x.2.2.1.length+x.2.2.2.1.length+x.2.2.2.2.1.length) x.2.2.2.2.2.1.length,uN (k+8*x.2.1.length+x.2.2.1.length+x.2.2.2.1.length+x.2.2.2.2.1.length+x.2.2.2.2.2.1.length) x.2.2.2.2.2.2.1.length,jL (k+8*x.2.1.length+x.2.2.1.length+x.2.2.2.1.length+x.2.2.2.2.1.length+x.2.2.2.2.2.1.length+5*x.2.2.2.2.2.2.1.length) x.2.2.2.2.2.2.2.1.length,x.2.2.2.2.2.2.2.2)
def BD (k:Nat) (x:Ld):Nat:=k+8*x.2.1.length+x.2.2.1.length+x.2.2.2.1.length+x.2.2.2.2.1.length+x.2.2.2.2.2.1.length+5*x.2.2.2.2.2.2.1.length+x.2.2.2.2.2.2.2.1.length
theorem N6 {k:Nat} {x:Ld} (h:AV x):BD k x<=k+20000000:=by
 obtain ⟨z1,z2,z3,z4,z5,z6,z7,z8⟩:=h
 unfold BD;omega
theorem Qhd {d k:Nat} {x:Ld} (h:AV x) (hk:k<=10000000):So (d+2) (UY k x) (k:Int)=some ((BD k x:Nat):Int):=by
 obtain ⟨z1,z2,z3,z4,z5,z6,z7,z8⟩:=h
 rw [e53]
 unfold UY
 simp only []
 rw [Qhc (by omega) (by omega),Q9,Z4 (by omega),Q5,Dp (by omega) (by omega),Q9,Z4 (by omega),Q5,Dp (by omega) (by omega),Q9,Z4 (by omega),Q5,Dp (by omega) (by omega),Q9,Z4 (by omega),Q5,Dp (by omega) (by omega),Q9,Z4 (by omega),Q5,Qey (by omega) (by omega),Q9,Z4 (by omega),Q5,Dp (by omega) (by omega),Q9,Z4 (by omega),Q5]
 rfl
def mL (k:Nat) (t:Tk):Tk:=(jL k t.1.length,jL (k+t.1.length) t.2.length)
def Iz (k:Nat) (t:Tk):Nat:=k+t.1.length+t.2.length
theorem Qhe {d k:Nat} {t:Tk} (h1:t.1.length<=1048576) (h2:t.2.length<=1048576) (hk:k<=90000000):Sp (d+2) (mL k t) (k:Int)=some ((Iz k t:Nat):Int):=by
 rw [e54]
 unfold mL
 simp only []
 rw [Dp (by omega) (by omega),Q9,Z4 (by omega),Q5,Dp (by omega) (by omega),Q9,Z4 (by omega),Q5]
 rfl
theorem Qn0 {d:Nat} {t:Tk} (h1:t.1.length<=2000000) (h2:t.2.length<=2000000):Si (d+2) t t=some true:=by
 rw [e46,Dn h1,Q9,Zl,Q5,Dn h2,Q9,Zl,Q5]
theorem Qn1 {d:Nat} {t:Tk} (h1:t.1.length<=1048576) (h2:t.2.length<=1048576):Sa (d+2) t=some t:=by
 rw [e39,GM h1,Q9,GM h2,Q9]
theorem Qn2 {d:Nat} {t:Tk} {n:Int} (h0:0<=n) (h1:n<=1048576) (z1:t.1.length<=9223372036854775807) (z2:t.2.length<=9223372036854775807):Ok (R6 (d+2) t n) fun r=>r < 0\/(0<=r/\r<=n/\t.1.length<=1048576/\t.2.length<=1048576):=by
 have no:Ok (some (-1:Int)) fun r=>r < 0\/(0<=r/\r<=n/\t.1.length<=1048576/\t.2.length<=1048576):=Ok.some (Or.inl (by omega))
 rw [e32]
 refine Ok.bind (GN (by omega) (by omega) z1) fun r3 g3=>?_
 refine Ok.aa (fun _=>no) (fun B6=>?_)
 simp only [decide_eq_false_iff_not] at B6
 have g3:=g3.resolve_left B6
 refine Ok.bind (GN (by omega) (by omega) z2) fun r4 g4=>?_
 refine Ok.aa (fun _=>no) (fun D_=>?_)
 simp only [decide_eq_false_iff_not] at D_
 have g4:=g4.resolve_left D_
 exact Ok.some (Or.inr ⟨by omega,by omega,by omega,by omega⟩)
theorem nh {l:List Int} {i:Nat} {z:Int} (h:i < l.length):l[i]? = some (l.getD i z):=by
 rw [Zr,Z6 h];rfl
def oz (t:Tk) (c:aC) (i:Nat):Bool:=decide (0<=t.1.getD i 0/\t.1.getD i 0<=c.2.2.2.2.1)&&decide (0<=t.2.getD i 0/\t.2.getD i 0<=c.2.2.2.2.2.1)
def AW (x:Ld) (t:Tk):Bool:=decide (t.1.length=x.2.1.length/\t.2.length=x.2.1.length)&&eF (oz t) x.2.1 0
theorem Qwb {x:Ld} {t:Tk} (h:AW x t=true):t.1.length=x.2.1.length/\t.2.length=x.2.1.length:=by
 unfold AW at h
 simp only [Z8,Zj] at h
 exact h.1
theorem Qez {d:Nat} {x:Ld} {t:Tk} (hl:x.2.1.length<=1000):TX (d+1) x t=some (AW x t):=by
 rw [e88]
 unfold yT AW
 by_cases h1:t.1.length=x.2.1.length
 case neg=>rw [show ((((t.1.length:Nat):Int)) != ((x.2.1.length:Nat):Int))=true by simp;omega,Q4,Q4,Z4 (fun h=>h1 h.1)];rfl
 by_cases h2:t.2.length=x.2.1.length
 case neg=>rw [show ((((t.1.length:Nat):Int)) != ((x.2.1.length:Nat):Int))=false by simp;omega,Q5,show ((((t.2.length:Nat):Int)) != ((x.2.1.length:Nat):Int))=true by simp;omega,Q4,Z4 (fun h=>h2 h.2)];rfl
 rw [show ((((t.1.length:Nat):Int)) != ((x.2.1.length:Nat):Int))=false by simp;omega,Q5,show ((((t.2.length:Nat):Int)) != ((x.2.1.length:Nat):Int))=false by simp;omega,Q5,Z5 ⟨h1,h2⟩,Zg]
 refine (Qb (fun (t:Bool) (i:Int)=>(t,i)) x.2.1 (fun c i b k=>aa (oz t c i) (k b) (some false)) (fun _=>some true) ?_ ?_ (by rw [Q6];omega) false).trans ?_
 .intro ag b i c hx
  have hi:=(Z0 hx).1
  simp only [yR,bW hx,nn,Q3,hx,Q9,Q4]
  rw [nh (l:=t.1) (z:=0) (by omega),nh (l:=t.2) (z:=0) (by omega)]
  simp only [Q9]
  unfold nC
  by_cases a1:t.1.getD i 0 < 0
  .rw [Z5 a1,Q4,Q4,show oz t c i=false by unfold oz;rw [Z4 (by omega),Bool.false_and],Q5]
  by_cases a2:t.1.getD i 0 > c.2.2.2.2.1
  .rw [Z4 a1,Q5,Z5 a2,Q4,Q4,show oz t c i=false by unfold oz;rw [Z4 (by omega),Bool.false_and],Q5]
  by_cases a3:t.2.getD i 0 < 0
  .rw [Z4 a1,Q5,Z4 a2,Q5,Z5 a3,Q4,Q4,show oz t c i=false by unfold oz;rw [Bool.and_comm,Z4 (by omega),Bool.false_and],Q5]
  by_cases a4:t.2.getD i 0 > c.2.2.2.2.2.1
  .rw [Z4 a1,Q5,Z4 a2,Q5,Z4 a3,Q5,Z5 a4,Q4,show oz t c i=false by unfold oz;rw [Bool.and_comm,Z4 (by omega),Bool.false_and],Q5]
  .rw [Z4 a1,Q5,Z4 a2,Q5,Z4 a3,Q5,Z4 a4,Q5,show oz t c i=true by unfold oz;rw [Z5 (by omega),Z5 (by omega)];rfl,Q4,aN (by omega)]
 .intro ag t;simp only [yR,bB,Q5];rfl
 .rw [qp];cases eF (oz t) x.2.1 0<;>rfl
theorem Qn3 {d:Nat} {x:Ld} {t:Tk} (hl:x.2.1.length<=1000):FG (d+2) x t=some (AW x t):=by
 rw [SL]
 unfold pH AW
 by_cases h1:t.1.length=x.2.1.length
 case neg=>rw [show ((((t.1.length:Nat):Int)) != ((x.2.1.length:Nat):Int))=true by simp;omega,Q4,Q4,Z4 (fun h=>h1 h.1)];rfl
 by_cases h2:t.2.length=x.2.1.length
 case neg=>rw [show ((((t.1.length:Nat):Int)) != ((x.2.1.length:Nat):Int))=false by simp;omega,Q5,show ((((t.2.length:Nat):Int)) != ((x.2.1.length:Nat):Int))=true by simp;omega,Q4,Z4 (fun h=>h2 h.2)];rfl
 rw [show ((((t.1.length:Nat):Int)) != ((x.2.1.length:Nat):Int))=false by simp;omega,Q5,show ((((t.2.length:Nat):Int)) != ((x.2.1.length:Nat):Int))=false by simp;omega,Q5,Z5 ⟨h1,h2⟩,Zg]
 refine (Qb (fun (t:Bool) (i:Int)=>(t,i)) x.2.1 (fun c i b k=>aa (oz t c i) (k b) (some false)) (fun _=>some true) ?_ ?_ (by rw [Q6];omega) false).trans ?_
 .intro ag b i c hx
  have hi:=(Z0 hx).1
  simp only [pG,bW hx,nn,Q3,hx,Q9,Q4]
  rw [nh (l:=t.1) (z:=0) (by omega),nh (l:=t.2) (z:=0) (by omega),Q9,Q9,vG,Q9,vG,Q9,aN (by omega)]
  unfold oz
  cases decide (0<=t.1.getD i 0/\t.1.getD i 0<=c.2.2.2.2.1) with
  | false=>rfl
  | true=>cases decide (0<=t.2.getD i 0/\t.2.getD i 0<=c.2.2.2.2.2.1)<;>rfl
 .intro ag t;simp only [pG,bB,Q5];rfl
 .rw [qp];cases eF (oz t) x.2.1 0<;>rfl
theorem Qux {x:Ld} (h:eP x=true):x.2.1.length<=24:=by
 unfold eP at h
 simp only [Z8,Zj] at h
 exact h.1.1
theorem Qsn {d:Nat} {x:Ld} {t:Tk} (h:AJ x):SM (d+12) x t=some (eP x&&AW x t):=by
 rw [e70,Qsm h,Q9]
 cases hg:eP x with
 | false=>rfl
 | true =>
  have:=Qux hg
  rw [Q4,show d+11=d+9+2 by omega,Qn3 (by omega),Q9,Zg]
def bT (F:List Int):List Int:=fK (fun f _=>decide (f < 0)) (fun _ k=>((k:Nat):Int)) F 0
theorem AI {F:List Int}:(bT F).length<=F.length:=T' _ _
theorem Ke {d:Nat} {x:Ld} (hl:x.2.1.length<=1000) (hE:x.2.2.2.1.length=x.2.1.length):DO (d+1) x=some (bT x.2.2.2.1):=by
 rw [e89]
 refine (Qb (fun (t:List Int) (i:Int)=>(t,i)) x.2.2.2.1 (fun f i t k=>aa (decide (f < 0)) (aa (Nat.ble ((t.length+[((i:Nat):Int)].length)*8) Q7) (k (t++[((i:Nat):Int)])) none) (k t)) (fun t=>some t) ?_ ?_ (by rw [Q6];omega) []).trans ?_
 .intro ag t i f hx
  have hi:=(Z0 hx).1
  simp only [yU,<- hE,bW hx,nn,Q3,hx,Q9,Q4]
  rw [aN (by omega)]
 .intro ag t;simp only [yU,<- hE,bB,Q5];rfl
 .rw [DV (c:=fun f _=>decide (f < 0)) (e:=fun (_:Int) (k:Nat)=>((k:Nat):Int)) (w:=8) x.2.2.2.1 0 [] (by simp;omega)]
  rfl
theorem Qso {d k:Nat} {x:Ld} {f:Int} (h:x.2.2.2.1[k]? = some f):FH (d+1) x ((k:Nat):Int)=some (decide (f < 0)):=by
 rw [SN,nn,Q4,Q3,h,Q9]
theorem Ix {d:Nat} {x:Ld} (hl:x.2.1.length<=1000) (hE:x.2.2.2.1.length=x.2.1.length):DJ (d+2) x=some (bT x.2.2.2.1):=by
 rw [e71]
 refine (Qb (fun (t:List Int) (i:Int)=>(t,i)) x.2.2.2.1 (fun f i t k=>aa (decide (f < 0)) (aa (Nat.ble ((t.length+[((i:Nat):Int)].length)*8) Q7) (k (t++[((i:Nat):Int)])) none) (k t)) (fun t=>some t) ?_ ?_ (by rw [Q6];omega) []).trans ?_
 .intro ag t i f hx
  have hi:=(Z0 hx).1
  simp only [xD,<- hE,bW hx,Q4]
  rw [Qso hx,Q9,aN (by omega)]
 .intro ag t;simp only [xD,<- hE,bB,Q5];rfl
 .rw [DV (c:=fun f _=>decide (f < 0)) (e:=fun (_:Int) (k:Nat)=>((k:Nat):Int)) (w:=8) x.2.2.2.1 0 [] (by simp;omega)]
  rfl
theorem Qn4 {l:List aC} (T:Tr l) {i:Int} (hi:vI l i) (hp:0<=bN l i):pW l (bN l i) < pW l i:=by
 have hv:=GC (l:=l) (i:=i) hp
 obtain ⟨A,B,e⟩:=Up T _ (bN l i) (Zd _) hv
 rw [IM T hv] at e
 have hm:i∈(cg l (bN l i)).flatMap (iK l):=List.mem_flatMap.2 ⟨i,(AS T hv).2 ⟨hi,rfl⟩,by rw [IM T hi];simp⟩
 obtain ⟨m,hm⟩:=List.getElem?_of_mem hm
 have au:=(Z0 hm).1
 have h1:(aG l)[A.length]? = some (bN l i):=by rw [e];simp
 have h2:(aG l)[A.length+1+m]? = some i:=by
  rw [e,List.append_assoc,Zq (by omega),show A.length+1+m - A.length=m+1 by omega,List.cons_append,List.getElem?_cons_succ,List.getElem?_append_left au,hm]
 unfold pW
 rw [rV (qY T) h1,rV (qY T) h2]
 omega
structure Lk (x:Ld):Prop where
 fE:x.2.1.length<=24
 pl:x.2.2.1.length=x.2.1.length
 fl:x.2.2.2.1.length=x.2.1.length
 pd:∀ (k:Nat) (p:Int),x.2.2.1[k]? = some p->p < (k:Int)
 bur:∀ c∈x.2.1,c.2.2.2.2.1<=1000000/\c.2.2.2.2.2.1<=1000000
theorem vz {x:Ld} (h:eP x=true):Lk x:=by
 have iw:=Qux h
 unfold eP Df at h
 simp only [Z8,Zj] at h
 obtain ⟨_,hg,s1,s2,s3,_⟩:=h
 have G:=q_ hg
 have T:=G.tr
 have e1:x.2.1.length=(aG (eI x).2.1).length:=by rw [s1];show ((aG (eI x).2.1).map _).length=_;rw [List.length_map]
 refine ⟨iw,?_,?_,?_,?_⟩
 .rw [e1,s2];show ((aG (eI x).2.1).map _).length=_;rw [List.length_map]
 .rw [e1,s3];show ((aG (eI x).2.1).map _).length=_;rw [List.length_map]
 .intro k p hp
  rw [s2] at hp
  have GO:((aG (eI x).2.1).map fun i=>pW (eI x).2.1 (bN (eI x).2.1 i))[k]? = some p:=hp
  rw [List.getElem?_map] at GO
  obtain ⟨i,hi,rfl⟩:=Option.map_eq_some_iff.1 GO
  have hv:=(jz T).1 (Zc hi)
  have hk:pW (eI x).2.1 i=(k:Int):=rV (qY T) hi
  rcases Int.lt_or_le (bN (eI x).2.1 i) 0 with h0 | h0
  .rw [uK T h0];omega
  .have:=Qn4 T hv h0;omega
 .intro c hc
  have hm:c∈(eI x).2.1:=AF.mem_iff.2 hc
  have:=G.cl
  unfold kE at this
  simp only [Z8] at this
  have:=Z3 this.2.2.2.2.2.2.2.1 c hm
  unfold mJ at this
  simp only [Zj] at this
  omega
abbrev Pk:=Int×Int×Int×Int×Int×Int
def IV (n:Int):Bool:=decide (0<=n/\n<=65535)
def jR (p:Pk):Bool:=decide (1<=p.1/\p.1<=100000/\0<=p.2.1/\p.2.1<=65535/\0<=p.2.2.1/\p.2.2.1<=65535/\0<=p.2.2.2.1/\p.2.2.2.1<=65535/\0<=p.2.2.2.2.1/\p.2.2.2.2.1<=65535/\1<=p.2.2.2.2.2/\p.2.2.2.2.2<=1500)
theorem Qda {d:Nat} {x:Pk}:Oi (d+2) x=some (jR x):=by
 rw [e90,KY,Q9]
 refine (Qb (fun (t:Bool) (i:Int)=>(t,i)) [x.2.1,x.2.2.1,x.2.2.2.1,x.2.2.2.2.1] (fun y _ t k=>aa (IV y) (k t) (some false)) (yW (d+1) x) ?_ ?_ (by rw [Q6];simp) false).trans ?_
 .intro ag t i y hy
  have hi:i < 4:=by have:=(Z0 hy).1;simpa using this
  have h4:decide ((i:Int) < 4)=true:=by simp;omega
  simp only [DP,h4,nn,Q3,Q4]
  rw [hy,Q9,aN (by omega)]
  unfold IV
  by_cases h1:y < 0
  .rw [Z5 h1,Q4,Z4 (by omega),Q5]
  .rw [Z4 h1,Q5]
   by_cases h2:y > 65535
   .rw [Z5 h2,Q4,Z4 (by omega),Q5]
   .rw [Z4 h2,Q5,Z5 (by omega),Q4]
 .intro ag t;rfl
 .rw [BZ (p:=IV)]
  unfold yW
  simp only [uG]
  congr 1
  rw [Bool.eq_iff_iff]
  simp only [List.all_cons,List.all_nil,Bool.and_true,IV,jR]
  simp
  omega
theorem Qsp {d:Nat} {n:Int}:tI (d+2) n=some (IV n):=by
 rw [SO,vG,Q9];rfl
theorem Qsq {d:Nat} {x:Pk}:SP (d+3) x=some (jR x):=by
 rw [e73]
 simp only [vG,Qsp,Q9,uG]
 congr 1
 rw [Bool.eq_iff_iff]
 simp [IV,jR]
 omega
theorem UZ {a b:Nat} (h:a<=b):Nat.ble a b=true:=by rw [Nat.ble_eq];exact h
def Qz4 (l:List Pk):Prop:=∀ p∈l,jR p=true
def AX (l:List Pk) (id:Int):Bool:=l.any fun p=>p.1==id
theorem Qhf {β:Type} {id:Int} {yes:Nat->Option β} {fin:Int->Option β} (hy:∀ i j,yes i=yes j):∀ (l:List Pk) (i:Nat) (t:Int),
  dY (fun (x:Pk) i (t:Int) k=>aa (x.1==id) (yes i) (k t)) fin l i t=if AX l id then yes 0 else fin t
 | [],i,t=>by simp [dY,AX]
 | x::r,i,t=>by
  simp only [dY]
  cases h:x.1==id with
  | true=>simp only [Q4,AX,List.any_cons,h,Bool.true_or,if_true];exact hy i 0
  | false=>simp only [Q5,AX,List.any_cons,h,Bool.false_or];exact Qhf hy r (i+1) t
theorem Qwc {d:Nat} {l:List Pk} {id:Int} (hl:l.length < 4194304):Gu (d+4) l id=some (AX l id):=by
 rw [T0]
 refine (Qb (fun (t:Int) (i:Int)=>(t,i)) l (fun (x:Pk) i (t:Int) k=>aa (x.1==id) (some true) (k t)) (fun _=>some false) ?_ ?_ (by rw [Q6];exact hl) 0).trans ?_
 .intro ag t i x hx
  have hi:=(Z0 hx).1
  simp only [dK,bW hx,nn,Q3,hx,Q9,Q4]
  rw [aN (by omega)]
  first | done | rfl | simp
 .intro ag t;simp only [dK,bB,Q5];rfl
 .rw [Qhf (fun _ _=>rfl)];cases AX l id<;>rfl
def IW (l:List Pk) (x:Pk) (i:Nat):Bool:=jR x && !AX (l.take i) x.1
def Lv (l:List Pk):Bool:=eF (IW l) l 0
theorem Quy (l:List Pk):∀ (r pre:List Pk),l=pre++r->(eF (IW l) r pre.length=true↔(∀ x∈r,jR x=true)/\(∀ x∈r,∀ y∈pre,y.1≠x.1)/\(r.map fun p=>p.1).Nodup)
 | [],pre,_=>by simp [eF]
 | x::r,pre,h=>by
  have ih:=Quy l r (pre++[x]) (by rw [h];simp)
  simp only [Zf,Z9,Zb,Zo] at ih
  have ht:l.take pre.length=pre:=by rw [h];simp
  simp only [eF,Z8,ih,IW,ht,Bool.not_eq_true',List.map_cons,List.nodup_cons,List.mem_cons,forall_eq_or_imp,Zh,List.mem_singleton]
  have hh:AX pre x.1=false↔∀ y∈pre,y.1≠x.1:=by
   unfold AX;rw [List.any_eq_false];simp
  rw [hh]
  constructor
  .rintro ⟨⟨a,b⟩,c,e,f⟩
   refine ⟨⟨a,c⟩,⟨b,fun z hz y hy=>e z hz y (.inl hy)⟩,fun hm=>?_,f⟩
   obtain ⟨z,hz,hzx⟩:=List.mem_map.1 hm
   exact e z hz x (.inr (.inl rfl)) hzx.symm
  .rintro ⟨⟨a,c⟩,⟨b,e⟩,g,f⟩
   refine ⟨⟨a,b⟩,c,fun z hz y hy=>?_,f⟩
   rcases hy with hy | hy | hy
   .exact e z hz y hy
   .subst hy;exact fun he=>g (List.mem_map.2 ⟨z,hz,he.symm⟩)
   .simp at hy
theorem Qz5 (l:List Pk):Lv l=true↔Qz4 l/\(l.map fun p=>p.1).Nodup:=by
 have:=Quy l l [] rfl
 simp only [Zb,List.not_mem_nil,false_imp_iff,implies_true,true_and] at this
 exact this
theorem Qn5 {d:Nat} {l:List Pk} (hl:l.length < 4194304):T1 (d+5) l=some (Lv l):=by
 rw [e92]
 refine (Qb (fun (t:Bool) (i:Int)=>(t,i)) l (fun x i t k=>aa (IW l x i) (k t) (some false)) (fun _=>some true) ?_ ?_ (by rw [Q6];exact hl) false).trans ?_
 .intro ag t i x hx
  have hi:=(Z0 hx).1
  simp only [yY,bW hx,nn,Q3,hx,Q9,Q4,Qda]
  rw [aN (by omega),UZ (show i<=l.length by omega),Q4,Qwc (by simp;omega),Q9]
  unfold IW
  cases jR x<;>cases AX (l.take i) x.1<;>rfl
 .intro ag t;simp only [yY,bB,Q5];rfl
 .rw [qp];unfold Lv;cases eF (IW l) l 0<;>rfl
abbrev Rg:=Ld×Tk×List (List Pk)×Int×Int
def Lw (l:List (List Pk)):Prop:=l.length<=1048576/\∀ r∈l,r.length<=1048576
theorem IX {rows:List (List Pk)} {k:Nat} {row:List Pk} (hx:rows[k]? = some row):(rows.take (k+1)).flatten=(rows.take k).flatten++row:=by
 have hk:=(Z0 hx).1
 have e:=(Z0 hx).2
 rw [List.take_succ_eq_append_getElem hk,List.flatten_append,e]
 simp
theorem U0 {rows:List (List Pk)} (k:Nat):(rows.take k).flatten.length<=rows.flatten.length:=by
 have:rows.flatten=(rows.take k).flatten++(rows.drop k).flatten:=by rw [<- List.flatten_append,List.take_append_drop]
 rw [this,Zf];omega
theorem Qhg {d:Nat} {l:List (List Pk)} {n:Int} (h0:0<=n) (h1:n<=1048576) (hl:l.length<=9223372036854775807) (hr:∀ r∈l,r.length<=9223372036854775807):Ok (R7 (d+2) l n) fun r=>r < 0\/(0<=r/\Lw l/\l.flatten.length<=1048576/\0<=r/\r<=1048576):=by
 rw [e33,wr (by omega) (by omega)]
 by_cases h:n - ((l.length:Nat):Int) < 0
 .rw [Z5 h,Q4];exact Ok.some (Or.inl (by omega))
 rw [Z4 h,Q5]
 refine OE (fun (t:Int×Int) (i:Int)=>(t.1,t.2,i)) l (fun k t=>(0<=t.1/\t.1+(((l.take k).flatten.length:Nat):Int)<=1048576)/\∀ (j:Nat) r,j < k->l[j]? = some r->r.length<=1048576) ?_ ?_ Qd 0 (n - ((l.length:Nat):Int),0) (by rw [Q6];omega) (by omega) ⟨⟨by simp only;omega,by simp only [List.take_zero,List.flatten_nil,Zb];omega⟩,fun j r hj=>absurd hj (by omega)⟩
 .rintro ag ⟨a,b⟩ k row hx ⟨⟨a0,a1⟩,hp⟩ eo
  simp only at a0 a1
  have hk:=(Z0 hx).1
  have cx:=hr row (Zc hx)
  simp only [wL,bW hx,nn,Q3,hx,Q9,Q4]
  rw [e69,wr (by omega) (by omega)]
  by_cases h5:a - ((row.length:Nat):Int) < 0
  .rw [Z5 h5,Q4,Q9,Z5 (show (-1:Int) < 0 by omega),Q4];exact Ok.some (Or.inl (by omega))
  .rw [Z4 h5,Q5,Q9,Z4 h5,Q5,aN (by omega)]
   have h6:(l.take (k+1)).flatten.length=(l.take k).flatten.length+row.length:=by rw [IX hx,Zf]
   refine eo (a - ((row.length:Nat):Int),b) ⟨⟨by simp only;omega,by simp only;omega⟩,fun j r hj hg=>?_⟩
   by_cases e:j=k
   .subst e;rw [hx] at hg;injection hg with hg;subst hg;omega
   .exact hp j r (by omega) hg
 .rintro ag ⟨a,b⟩ ⟨⟨a0,a1⟩,hp⟩
  simp only at a0 a1
  simp only [wL,bB,Q5]
  rw [List.take_length] at a1
  refine Ok.some (Or.inr ⟨a0,⟨by omega,fun r hr=>?_⟩,by omega,a0,by omega⟩)
  obtain ⟨j,hj⟩:=List.getElem?_of_mem hr
  exact hp j r (Z0 hj).1 hj
def Lx (r:Rg):Prop:=AV r.1/\r.2.1.1.length<=1048576/\r.2.1.2.length<=1048576/\Lw r.2.2.1
def R0 (r:Rg):Prop:=RY r.1/\(r.2.1.1.length<=9223372036854775807/\r.2.1.2.length<=9223372036854775807)/\r.2.2.1.length<=9223372036854775807/\∀ q∈r.2.2.1,q.length<=9223372036854775807
theorem Qwd {d:Nat} {r:Rg} (h:R0 r):Ok (g7 (d+3) r 1048576) fun z=>z < 0\/(0<=z/\z<=1048576/\Lx r/\r.2.2.1.flatten.length<=1048576):=by
 obtain ⟨z1,z2,z3,z4⟩:=h
 have no:Ok (some (-1:Int)) fun z=>z < 0\/(0<=z/\z<=1048576/\Lx r/\r.2.2.1.flatten.length<=1048576):=Ok.some (Or.inl (by omega))
 rw [e7]
 refine Ok.bind (Qmz (by omega) (by omega) z1) fun r3 g3=>?_
 refine Ok.aa (fun _=>no) (fun B6=>?_)
 simp only [decide_eq_false_iff_not] at B6
 have g3:=g3.resolve_left B6
 refine Ok.bind (Qn2 (by omega) (by omega) z2.1 z2.2) fun r4 g4=>?_
 refine Ok.aa (fun _=>no) (fun D_=>?_)
 simp only [decide_eq_false_iff_not] at D_
 have g4:=g4.resolve_left D_
 refine Ok.bind (Qhg (by omega) (by omega) z3 z4) fun r5 g5=>?_
 refine Ok.aa (fun _=>no) (fun Lu=>?_)
 simp only [decide_eq_false_iff_not] at Lu
 have g5:=g5.resolve_left Lu
 exact Ok.some (Or.inr ⟨g5.1,g5.2.2.2.2,⟨g3.2.2,g4.2.2.1,g4.2.2.2,g5.2.1⟩,g5.2.2.1⟩)
theorem Qjy {d:Nat} {l:List Pk} (hl:l.length<=1048576):Sc (d+2) l=some l:=by
 rw [e85,nn,Q4,Q4,Q3,show (Nat.ble l.length l.length&&Nat.ble (l.length*48) Q7)=true by rw [Z8,Nat.ble_eq,Nat.ble_eq];unfold Q7;omega,Q4]
 refine Ok.val (lV (fun j (s:Int×List Pk)=>∃ k:Nat,k+j=l.length/\s.1=(k:Int)/\s.2=l.take k++List.replicate (l.length - k) ((0,0,0,0,0,0):Pk)) ?_ _ l.length _ (by rw [Q6];omega) ⟨0,by omega,rfl,by simp⟩)
 rintro j ⟨n,r⟩ ag ⟨k,hk,h1,h2⟩ eo
 simp only at h1 h2
 subst h1
 have jZ:r.length=l.length:=by rw [h2];simp;omega
 simp only [Dx]
 rcases Nat.lt_or_ge k l.length with au | sQ
 .have hx:=Z6 au
  rw [bW hx,Q4,nn,Q4,Q3,hx,Q9,Sb,Q9,Q4,Qp (by omega),Q4,Z6 (by omega),Q9,aN (by omega)]
  exact eo (j - 1) _ (by omega) ⟨k+1,by omega,rfl,by rw [h2];exact Lt hx⟩
 .have:k=l.length:=by omega
  subst this
  rw [bB,Q5]
  unfold Dw
  exact Ok.some (by rw [h2];simp)
theorem Qhh {d:Nat} {l:List (List Pk)} (h:Lw l):Sd (d+3) l=some l:=by
 obtain ⟨hl,hr⟩:=h
 rw [e40,nn,Q4,Q4,Q3,show (Nat.ble l.length l.length&&Nat.ble (l.length*24) Q7)=true by rw [Z8,Nat.ble_eq,Nat.ble_eq];unfold Q7;omega,Q4]
 refine Ok.val (lV (fun j (s:Int×List (List Pk))=>∃ k:Nat,k+j=l.length/\s.1=(k:Int)/\s.2=l.take k++List.replicate (l.length - k) ([]:List Pk)) ?_ _ l.length _ (by rw [Q6];omega) ⟨0,by omega,rfl,by simp⟩)
 rintro j ⟨n,r⟩ ag ⟨k,hk,h1,h2⟩ eo
 simp only at h1 h2
 subst h1
 have jZ:r.length=l.length:=by rw [h2];simp;omega
 simp only [Dz]
 rcases Nat.lt_or_ge k l.length with au | sQ
 .have hx:=Z6 au
  rw [bW hx,Q4,nn,Q4,Q3,hx,Q9,Qjy (hr _ (List.getElem_mem au)),Q9,Q4,Qp (by omega),Q4,Z6 (show k < r.length by omega),Q9,aN (by omega)]
  exact eo (j - 1) _ (by omega) ⟨k+1,by omega,rfl,by rw [h2];exact Lt hx⟩
 .have:k=l.length:=by omega
  subst this
  rw [bB,Q5]
  unfold Dy
  exact Ok.some (by rw [h2];simp)
theorem Qwe {d:Nat} {r:Rg} (h:Lx r):g10 (d+4) r=some r:=by
 obtain ⟨h1,h2,h3,h4⟩:=h
 rw [e10,Qmy h1,Q9,show d+3=d+1+2 by omega,Qn1 h2 h3,Q9,show d+1+2=d+3 by omega,Qhh h4,Q9]
theorem Qjz {d:Nat} {l:List Pk} (hl:l.length<=2000000):Fj (d+2) l l=some true:=by
 rw [Sk,bne_self_eq_false,Q5]
 refine (Qb (fun (t:Bool) (i:Int)=>(t,i)) l (fun x i t k=>k t) (wY (d+1)) ?_ ?_ (by rw [Q6];omega) false).trans ?_
 .intro ag t i x hx;have hi:=(Z0 hx).1;simp only [oR,bW hx,nn,Q3,hx,Q9,Q4]
  rw [Sj]
  simp only [bne_self_eq_false,Q5,Zl,Q9]
  rw [aN (by omega)]
 .intro ag t;simp only [oR,bB,Q5]
 .rw [wI (f:=fun _ _ t=>t)];rfl
theorem Qhi {d:Nat} {l:List (List Pk)} (h:Lw l):Sl (d+3) l l=some true:=by
 obtain ⟨hl,hr⟩:=h
 rw [e47,bne_self_eq_false,Q5]
 refine (Qb (fun (t:Bool) (i:Int)=>(t,i)) l (fun x i t k=>k t) (DD (d+2)) ?_ ?_ (by rw [Q6];omega) false).trans ?_
 .intro ag t i x hx;have hi:=(Z0 hx).1;simp only [wZ,bW hx,nn,Q3,hx,Q9,Q4]
  have:=hr _ (Zc hx)
  rw [Qjz (by omega),Q9,Zl,Q5,aN (by omega)]
 .intro ag t;simp only [wZ,bB,Q5]
 .rw [wI (f:=fun _ _ t=>t)];rfl
theorem YG {d:Nat} {r:Rg} (h:Lx r):g13 (d+4) r r=some true:=by
 obtain ⟨h1,h2,h3,h4⟩:=h
 rw [e13,Qmx h1,Q9,Zl,Q5,show d+3=d+1+2 by omega,Qn0 (by omega) (by omega),Q9,Zl,Q5,show d+1+2=d+3 by omega,Qhi h4,Q9,Zl,Q5,bne_self_eq_false,Q5,bne_self_eq_false,Q5]
theorem Qss {d:Nat} {rows:List (List Pk)} (hl:rows.length<=1000) (hs:rows.flatten.length<=100000):T2 (d+2) rows=some rows.flatten:=by
 rw [e93]
 have lp1:∀ (m k fuel:Nat),k+m=rows.length->m < fuel->Q8 (rO d rows (DQ d)) fuel ((rows.take k).flatten,((k:Nat):Int))=some rows.flatten:=by
  intro m
  induction m with
  | zero =>
   intro k fuel e h
   obtain ⟨g,rfl⟩:∃ g,fuel=g+1:=⟨fuel - 1,by omega⟩
   obtain rfl:k=rows.length:=by omega
   simp only [Q8,rO,bB,Q5]
   rw [List.take_length];rfl
  | succ m ih =>
   intro k fuel e h
   obtain ⟨g,rfl⟩:∃ g,fuel=g+1:=⟨fuel - 1,by omega⟩
   have hk:k < rows.length:=by omega
   have hx:=Z6 hk
   have h2:=U0 (rows:=rows) (k+1)
   rw [IX hx,Zf] at h2
   simp only [Q8,rO,bW hx,nn,Q3,hx,Q9,Q4]
   rw [room (by omega),Q4,aN (by omega),<- IX hx]
   exact ih (k+1) g (by omega) (by omega)
 have lp2:∀ (m k fuel:Nat),k+m=rows.length->m < fuel->Q8 (lR d rows (DR d)) fuel ((rows.take k).flatten,((k:Nat):Int))=some rows.flatten:=by
  intro m
  induction m with
  | zero =>
   intro k fuel e h
   obtain ⟨g,rfl⟩:∃ g,fuel=g+1:=⟨fuel - 1,by omega⟩
   obtain rfl:k=rows.length:=by omega
   simp only [Q8,lR,bB,Q5]
   rw [List.take_length];rfl
  | succ m ih =>
   intro k fuel e h
   obtain ⟨g,rfl⟩:∃ g,fuel=g+1:=⟨fuel - 1,by omega⟩
   have hk:k < rows.length:=by omega
   have hx:=Z6 hk
   have h2:=U0 (rows:=rows) (k+1)
   rw [IX hx,Zf] at h2
   simp only [Q8,lR,bW hx,nn,Q3,hx,Q9,Q4]
   rw [room (by omega),Q4,aN (by omega),<- IX hx]
   exact ih (k+1) g (by omega) (by omega)
 have lp0:∀ (m k fuel:Nat),k+m=rows.length->m < fuel->Q8 (rQ d rows (rP d rows)) fuel ((((rows.take k).flatten.length:Nat):Int),((k:Nat):Int))=rP d rows ((rows.flatten.length:Nat):Int):=by
  intro m
  induction m with
  | zero =>
   intro k fuel e h
   obtain ⟨g,rfl⟩:∃ g,fuel=g+1:=⟨fuel - 1,by omega⟩
   obtain rfl:k=rows.length:=by omega
   simp only [Q8,rQ,bB,Q5]
   rw [List.take_length]
  | succ m ih =>
   intro k fuel e h
   obtain ⟨g,rfl⟩:∃ g,fuel=g+1:=⟨fuel - 1,by omega⟩
   have hk:k < rows.length:=by omega
   have hx:=Z6 hk
   have h2:=U0 (rows:=rows) (k+1)
   have h3:=IX hx
   have h4:(rows.take (k+1)).flatten.length=(rows.take k).flatten.length+(rows[k]).length:=by rw [h3,Zf]
   simp only [Q8,rQ,bW hx,nn,Q3,hx,Q9,Q4]
   rw [wr (n:=(((rows.take k).flatten.length:Nat):Int)+(((rows[k]).length:Nat):Int)) (by omega) (by omega),Z4 (by omega),Q5,aN (by omega),show (((rows.take k).flatten.length:Nat):Int)+(((rows[k]).length:Nat):Int)=(((rows.take (k+1)).flatten.length:Nat):Int) by omega]
   exact ih (k+1) g (by omega) (by omega)
 refine (lp0 rows.length 0 Qd (by omega) (by rw [Q6];omega)).trans ?_
 unfold rP
 have e0:IntKind.i64.wrap ((0:Int) - ((0:Nat):Int))=0:=by rw [wr (by omega) (by omega)];rfl
 rw [Z4 (by omega),Q5,e0,Int.sub_zero,wr (by omega) (by omega)]
 by_cases h:rows.flatten.length=0
 .rw [Z4 (by omega),Q5]
  exact lp2 rows.length 0 Qd (by omega) (by rw [Q6];omega)
 .rw [Z5 (by omega),Q4,show Nat.ble 0 0=true from rfl,Q4,nn,Zg,Z5 (by unfold Q7;omega),Q4,Q3,List.length_replicate,show Nat.ble (rows.flatten.length*48) Q7=true by rw [Nat.ble_eq];unfold Q7;omega,Q4]
  rw [show decide (0<=((0:Nat):Int))=true from rfl,Q4,show (((0:Nat):Int)).toNat=0 from rfl,show Nat.ble 0 rows.flatten.length=true by rw [Nat.ble_eq];omega,Q4,List.take_zero]
  exact lp1 rows.length 0 Qd (by omega) (by rw [Q6];omega)
def Ly (f:dR) (p:Pk):Bool:=(IntKind.i64.wrap ((BitVec.ofInt IntKind.i64.bits (([p.2.1,p.2.2.1,p.2.2.2.1,p.2.2.2.2.1]:List Int).getD f.2.1.toNat 0) &&& BitVec.ofInt IntKind.i64.bits f.2.2.1).toNat:Int))==f.2.2.2.1
theorem Qwf {d:Nat} {f:dR} {p:Pk} (h:0<=f.2.1/\f.2.1<=3):Gr (d+2) f p=some (Ly f p):=by
 rw [TY,KY,Q9,Z5 h.1,Q4,nh (l:=[p.2.1,p.2.2.1,p.2.2.2.1,p.2.2.2.2.1]) (z:=0) (by simp only [Z9,Zb];omega),Q9]
 rfl
theorem Qph {d:Nat} {f:dR} {p:Pk} (h:0<=f.2.1/\f.2.1<=3):FI (d+2) f p=some (Ly f p):=by
 have h4:f.2.1.toNat < ([p.2.1,p.2.2.1,p.2.2.2.1,p.2.2.2.2.1]:List Int).length:=by simp only [Z9,Zb];omega
 rw [SS,SQ,Z5 h.1,Q4,Qp h4,Q4,nh (l:=[p.2.1,p.2.2.1,p.2.2.2.1,p.2.2.2.2.1]) (z:=0) h4,Q9,Q9]
 rfl
structure Lr (x:Ld):Prop where
 fo:∀ f∈x.2.2.2.2.2.2.1,0<=f.2.1/\f.2.1<=3
 tl:x.2.2.2.2.2.2.2.1.length=x.2.2.2.2.2.2.1.length
 f16:x.2.2.2.2.2.2.1.length<=16
 ai:∀ c∈x.2.1,c.2.2.2.2.2.2.2<=60
 rat:∀ c∈x.2.1,1<=c.2.2.1/\c.2.2.1<=100000/\1<=c.2.2.2.1/\c.2.2.2.1<=100000
 l0:∀ c∈x.2.1,0<=c.2.2.2.2.2.2.2
 bul:∀ c∈x.2.1,1500<=c.2.2.2.2.1/\1500<=c.2.2.2.2.2.1/\0<=c.2.2.2.2.2.2.1/\c.2.2.2.2.2.2.1<=7
theorem Iv {x:Ld} (h:eP x=true):Lr x:=by
 unfold eP Df at h
 simp only [Z8,Zj] at h
 obtain ⟨hz,hg,s1,s2,s3,s4,s5,s6,s7⟩:=h
 have G:=q_ hg
 have hc:=G.cl
 unfold kE at hc
 simp only [Z8] at hc
 obtain ⟨_,_,_,_,_,h6,h7,h8,h9⟩:=hc
 have hm:∀ c∈x.2.1,c∈(eI x).2.1:=fun c hc=>AF.mem_iff.2 hc
 refine ⟨fun f hf=>?_,?_,hz.2,fun c hc=>?_,fun c hc=>?_,fun c hc=>?_,fun c hc=>?_⟩
 .have:=(G.Lc f hf).2.2
  unfold zy at this
  simp only [Z8,Zj] at this
  omega
 .rw [s6]
  show (x.2.2.2.2.2.2.1.map _).length=_
  rw [List.length_map]
 .have:=Z3 h9 c (hm c hc)
  unfold nJ at this
  split at this
  .simp only [Zj] at this;omega
  .simp only [beq_iff_eq] at this;omega
 .have:=Z3 h6 c (hm c hc)
  unfold lW at this
  simp only [Zj] at this
  omega
 .have:=Z3 h9 c (hm c hc)
  unfold nJ at this
  split at this
  .simp only [Zj] at this;omega
  .simp only [beq_iff_eq] at this;omega
 .have:=Z3 h8 c (hm c hc)
  unfold mJ at this
  simp only [Zj] at this
  omega
def uO (fs:List dR) (p:Pk):Int:=fe (fun f=>Ly f p) fs 0
theorem Qf0 {d:Nat} {fs:List dR} {p:Pk} (hl:fs.length<=1000) (h:∀ f∈fs,0<=f.2.1/\f.2.1<=3):Gt (d+3) fs p=some (uO fs p):=by
 rw [TZ]
 refine (Qb (fun (t:Int) (i:Int)=>(t,i)) fs (fun f i t k=>aa (Ly f p) (some ((i:Nat):Int)) (k t)) (fun _=>some (-1)) ?_ ?_ (by rw [Q6];omega) 0).trans (DU fs 0 _)
 .intro ag t i f hx
  have hi:=(Z0 hx).1
  simp only [qm,bW hx,nn,Q3,hx,Q9,Q4]
  rw [Qwf (h f (Zc hx)),Q9,aN (by omega)]
 .intro ag t;simp only [qm,bB,Q5];rfl
theorem Qpi {d:Nat} {fs:List dR} {p:Pk} (hl:fs.length<=1000) (h:∀ f∈fs,0<=f.2.1/\f.2.1<=3):FK (d+3) fs p=some (uO fs p):=by
 rw [SU]
 refine (Qb (fun (t:Int) (i:Int)=>(t,i)) fs (fun f i t k=>aa (Ly f p) (some ((i:Nat):Int)) (k t)) (fun _=>some (-1)) ?_ ?_ (by rw [Q6];omega) 0).trans (DU fs 0 _)
 .intro ag t i f hx
  have hi:=(Z0 hx).1
  simp only [pI,bW hx,nn,Q3,hx,Q9,Q4]
  rw [Qph (h f (Zc hx)),Q9,aN (by omega)]
 .intro ag t;simp only [pI,bB,Q5];rfl
def cC (x:Ld) (p:Pk):Int:=if uO x.2.2.2.2.2.2.1 p>=0 then x.2.2.2.2.2.2.2.1.getD (uO x.2.2.2.2.2.2.1 p).toNat 0 else x.2.2.2.2.2.2.2.2
theorem U3 {fs:List dR} {p:Pk} (h:0<=uO fs p):uO fs p < ((fs.length:Nat):Int):=by
 obtain ⟨j,y,h1,h2,h3,_⟩:=IG h
 have:=(Z0 h2).1
 unfold uO at *
 omega
theorem Ys {d:Nat} {x:Ld} {p:Pk} (R:Lr x):Oj (d+4) x p=some (cC x p):=by
 have Fi:=R.f16
 rw [e91,Qf0 (by omega) R.fo,Q9]
 unfold cC
 by_cases h:uO x.2.2.2.2.2.2.1 p>=0
 .have:=U3 h
  have:=R.tl
  rw [Z5 h,Q4,Q4,nh (l:=x.2.2.2.2.2.2.2.1) (z:=0) (by omega),Q9,if_pos h]
 .rw [Z4 h,Q5,if_neg h]
theorem Yw {d:Nat} {x:Ld} {p:Pk} (R:Lr x):N_ (d+4) x p=some (cC x p):=by
 have Fi:=R.f16
 rw [e74,Qpi (by omega) R.fo,Q9]
 unfold cC
 by_cases h:uO x.2.2.2.2.2.2.1 p>=0
 .have:=U3 h
  have:=R.tl
  rw [Z5 h,Q4,Q4,nh (l:=x.2.2.2.2.2.2.2.1) (z:=0) (by omega),Q9,if_pos h]
 .rw [Z4 h,Q5,if_neg h]
def mB (x:Ld) (w:Int):Int:=(aW x.2.1 w).2.2.2.2.2.2.2
def zF (x:Ld) (w:Int) (row:List Pk):Bool := !decide (((row.length:Nat):Int) > mB x w)&&row.all (fun p=>jR p&&(cC x p==w))
def ON (r:Rg):Bool:=decide (r.2.2.1.length=(bT r.1.2.2.2.1).length)&&(decide (-1<=r.2.2.2.1/\r.2.2.2.1 < (((bT r.1.2.2.2.1).length:Nat):Int))&&decide (0<=r.2.2.2.2/\r.2.2.2.2<=1000000))
def mD (r:Rg):Bool:=eP r.1&&(AW r.1 r.2.1&&(ON r&&(eF (fun w i=>zF r.1 w (r.2.2.1.getD i [])) (bT r.1.2.2.2.1) 0&&Lv r.2.2.1.flatten)))
theorem Fh {F:List Int} {w:Int} (h:w∈bT F):0<=w/\w < ((F.length:Nat):Int):=by
 obtain ⟨j,x,h1,h2,h3⟩:=Uc _ _ h
 have:=(Z0 h1).1
 omega
theorem U4 {l:List (List Pk)} {i:Nat} (h:i < l.length):l[i]? = some (l.getD i []):=by
 rw [Zr,Z6 h];rfl
theorem Qpl {x:Ld} {rows:List (List Pk)} {W:List Int} (R:Lr x) (hW:∀ w∈W,vI x.2.1 w) (hl:rows.length=W.length) (h:eF (fun w i=>zF x w (rows.getD i [])) W 0=true):(∀ row∈rows,row.length<=60)/\∀ row∈rows,∀ p∈row,jR p=true:=by
 rw [rU] at h
 have key:∀ row∈rows,row.length<=60/\∀ p∈row,jR p=true:=by
  intro row hr
  obtain ⟨i,hi⟩:=List.getElem?_of_mem hr
  have au:=(Z0 hi).1
  have hw:=Z6 (l:=W) (i:=i) (by omega)
  have:=h i _ hw
  rw [Zo,Zr,hi] at this
  unfold zF mB at this
  simp only [Option.getD_some,Z8,Bool.not_eq_true',decide_eq_false_iff_not,List.all_eq_true] at this
  have hv:=hW _ (Zc hw)
  have Iy:=R.ai _ (Zc (fu hv))
  exact ⟨by omega,fun p hp=>(this.2 p hp).1⟩
 exact ⟨fun row hr=>(key row hr).1,fun row hr=>(key row hr).2⟩
theorem OO {B:Nat}:∀ {rows:List (List Pk)},(∀ row∈rows,row.length<=B)->rows.flatten.length<=rows.length*B
 | [],_=>by simp
 | r::rows,h=>by
  have:=OO (B:=B) (rows:=rows) fun row hr=>h row (by simp [hr])
  have:=h r (by simp)
  rw [Ze,Zf,Z9,Nat.add_mul,Nat.one_mul]
  omega
theorem Yx {d:Nat} {r:Rg} (h:AJ r.1):Ol (d+28) r=some (mD r):=by
 rw [e42,Qmt h,Q9]
 unfold mD ON zf
 cases hg:eP r.1 with
 | false=>rfl
 | true =>
  have L:=vz hg
  have R:=Iv hg
  have iw:=L.fE
  have hf:=L.fl
  have hv:=AI (F:=r.1.2.2.2.1)
  rw [Zl,Q5,show d+27=d+26+1 by omega,Qez (by omega),Q9,Zg]
  cases hb:AW r.1 r.2.1 with
  | false=>rfl
  | true =>
   rw [Zl,Q5,Ke (by omega) hf,Q9,Zg]
   unfold ki
   by_cases a:r.2.2.1.length=(bT r.1.2.2.2.1).length
   case neg=>rw [show ((((r.2.2.1.length:Nat):Int)) != (((bT r.1.2.2.2.1).length:Nat):Int))=true by simp;omega,Q4,Q4,Z4 a];rfl
   rw [show ((((r.2.2.1.length:Nat):Int)) != (((bT r.1.2.2.2.1).length:Nat):Int))=false by simp;omega,Q5,Z5 a,Zg]
   by_cases a1:r.2.2.2.1 < -1
   .rw [Z5 a1,Q4,Q4,Z4 (show ¬ (-1<=r.2.2.2.1/\r.2.2.2.1 < (((bT r.1.2.2.2.1).length:Nat):Int)) by omega)];rfl
   rw [Z4 a1,Q5]
   by_cases a2:r.2.2.2.1>=(((bT r.1.2.2.2.1).length:Nat):Int)
   .rw [Z5 a2,Q4,Q4,Z4 (show ¬ (-1<=r.2.2.2.1/\r.2.2.2.1 < (((bT r.1.2.2.2.1).length:Nat):Int)) by omega)];rfl
   rw [Z4 a2,Q5,Z5 (show -1<=r.2.2.2.1/\r.2.2.2.1 < (((bT r.1.2.2.2.1).length:Nat):Int) by omega),Zg]
   by_cases a3:r.2.2.2.2 < 0
   .rw [Z5 a3,Q4,Q4,Z4 (show ¬ (0<=r.2.2.2.2/\r.2.2.2.2<=1000000) by omega)];rfl
   rw [Z4 a3,Q5]
   by_cases a4:r.2.2.2.2 > 1000000
   .rw [Z5 a4,Q4,Z4 (show ¬ (0<=r.2.2.2.2/\r.2.2.2.2<=1000000) by omega)];rfl
   rw [Z4 a4,Q5,Z5 (show 0<=r.2.2.2.2/\r.2.2.2.2<=1000000 by omega),Zg]
   have hW:∀ w∈bT r.1.2.2.2.1,vI r.1.2.1 w:=fun w hw=>by obtain ⟨q1,q2⟩:=Fh hw;exact ⟨q1,by omega⟩
   refine (Qb (fun (b:Bool) (i:Int)=>(b,i)) (bT r.1.2.2.2.1) (fun w i b k=>aa (zF r.1 w (r.2.2.1.getD i [])) (k b) (some false)) (fun b=>za (d+26+1) r b) ?_ ?_ (by rw [Q6];omega) false).trans ?_
   .intro ag b i w hx
    have hi:=(Z0 hx).1
    have gK:=hW w (Zc hx)
    have Iy:=R.ai _ (Zc (fu gK))
    simp only [zd,bW hx,nn,Q3,hx,Q9,Q4,sV hx]
    rw [U4 (l:=r.2.2.1) (by omega)]
    simp only [Q9]
    rw [Z5 gK.1,Q4,fu gK,Q9]
    unfold zF mB
    by_cases b1:((((r.2.2.1.getD i []).length:Nat):Int)) > (aW r.1.2.1 w).2.2.2.2.2.2.2
    .rw [Z5 b1,Q4,Zl,Bool.false_and,Q5]
    .rw [Z4 b1,Q5,Bool.not_false,Zg]
     refine (Qb (fun (b:Bool) (j:Int)=>(b,j)) (r.2.2.1.getD i []) (fun p _ b k=>aa (jR p&&(cC r.1 p==w)) (k b) (some false)) (fun b=>ag (b,((i+1:Nat):Int))) ?_ ?_ (by rw [Q6];omega) b).trans ?_
     .intro U5 b' j p hp
      have hj:=(Z0 hp).1
      simp only [zb,bW hp,nn,Q3,hp,Q9,Q4]
      rw [show d+26+1=d+25+2 by omega,Qda,Q9,show d+25+2=d+23+4 by omega,Ys R,Q9,aN (by omega)]
      cases jR p with
      | false=>rfl
      | true =>
       rw [Zl,Q5,Zg]
       by_cases e:cC r.1 p=w
       .rw [show (cC r.1 p != w)=false by rw [e];exact bne_self_eq_false _,Q5,show (cC r.1 p==w)=true from beq_iff_eq.2 e,Q4]
       .rw [show (cC r.1 p != w)=true from bne_iff_ne.2 e,Q4,show (cC r.1 p==w)=false from beq_eq_false_iff_ne.2 e,Q5]
     .intro U5 b'
      simp only [zb,bB,Q5]
      unfold DS
      rw [aN (by omega)]
     .rw [BZ (p:=fun p=>jR p&&(cC r.1 p==w))]
   .intro ag t;simp only [zd,bB,Q5]
   .rw [qp]
    cases hk:eF (fun w i=>zF r.1 w (r.2.2.1.getD i [])) (bT r.1.2.2.2.1) 0 with
    | false=>rfl
    | true =>
     obtain ⟨r1,r2⟩:=Qpl R hW a hk
     have:=OO r1
     rw [Q4,Zg]
     unfold za
     rw [show d+26+1=d+25+2 by omega,Qss (by omega) (by omega),Q9,show d+25+2=d+22+5 by omega,Qn5 (by omega),Q9]
def uP {α τ:Type} (p:α->Nat->τ->Bool) (f:α->Nat->τ->τ):List α->Nat->τ->Bool
 | [],_,_=>true
 | x::r,i,t=>p x i t&&uP p f r (i+1) (f x i t)
theorem U6 {α τ β:Type} {p:α->Nat->τ->Bool} {f:α->Nat->τ->τ} {step:α->Nat->τ->(τ->Option β)->Option β} {no:Option β} {fin:τ->Option β} (I:Nat->τ->Prop):∀ (l:List α) (i:Nat) (t:τ),I i t->(∀ j x t k,l[j]? = some x->I (i+j) t->step x (i+j) t k=aa (p x (i+j) t) (k (f x (i+j) t)) no/\(p x (i+j) t=true->I (i+j+1) (f x (i+j) t)))->dY step fin l i t=aa (uP p f l i t) (fin (cD f l i t)) no
 | [],i,t,_,_=>rfl
 | x::r,i,t,hI,h=>by
  simp only [dY,cD,uP]
  obtain ⟨h1,h2⟩:=h 0 x t (fun t'=>dY step fin r (i+1) t') rfl hI
  rw [Nat.add_zero] at h1 h2
  rw [h1]
  cases hp:p x i t with
  | false=>rfl
  | true =>
   rw [Q4,Zg]
   exact U6 I r (i+1) _ (h2 hp) (fun j y t k hy ht=>by
    have:=h (j+1) y t k (by simpa using hy)
    rw [show i+(j+1)=i+1+j by omega] at this
    exact this ht)
abbrev Bs:=Bool×List Int
def IY (x:Ld) (w:Int) (p:Pk) (_:Nat) (t:Bs):Bool:=jR p&&((cC x p==w) && !(t.2.any fun z=>z==p.1))
def Ea (p:Pk) (_:Nat) (t:Bs):Bs:=(t.1,t.2++[p.1])
def IZ (x:Ld) (W:List Int) (row:List Pk) (i:Nat) (t:Bs):Bool := !decide (((row.length:Nat):Int) > mB x (W.getD i 0))&&uP (IY x (W.getD i 0)) Ea row 0 t
def AY (row:List Pk) (_:Nat) (t:Bs):Bs:=(t.1,t.2++row.map fun p=>p.1)
theorem Qlr:∀ (row:List Pk) (i:Nat) (t:Bs),cD Ea row i t=AY row 0 t
 | [],i,t=>by simp [cD,AY]
 | p::r,i,t=>by
  simp only [cD]
  rw [Qlr r (i+1)]
  simp [AY,Ea]
theorem Quz {x:Ld} {w:Int}:∀ (row:List Pk) (i:Nat) (t:Bs),uP (IY x w) Ea row i t=true↔(∀ p∈row,jR p=true/\cC x p=w)/\(∀ p∈row,p.1∉t.2)/\(row.map fun p=>p.1).Nodup
 | [],i,t=>by simp [uP]
 | p::r,i,t=>by
  simp only [uP,Z8,Quz r (i+1),IY,Ea,beq_iff_eq,Bool.not_eq_true',List.any_eq_false,List.mem_cons,forall_eq_or_imp,List.map_cons,List.nodup_cons,Zh,List.mem_singleton]
  constructor
  .rintro ⟨⟨a1,a2,a3⟩,b1,b2,b3⟩
   refine ⟨⟨⟨a1,a2⟩,b1⟩,⟨fun hm=>a3 _ hm rfl,fun q hq hm=>b2 q hq (Or.inl hm)⟩,fun hm=>?_,b3⟩
   obtain ⟨q,hq,e⟩:=List.mem_map.1 hm
   exact b2 q hq (Or.inr (Or.inl e))
  .rintro ⟨⟨⟨a1,a2⟩,b1⟩,⟨c1,c2⟩,n1,n2⟩
   refine ⟨⟨a1,a2,fun z hz e=>c1 (e▸hz)⟩,b1,fun q hq hm=>?_,n2⟩
   rcases hm with hm | hm | hm
   .exact c2 q hq hm
   .exact n1 (List.mem_map.2 ⟨q,hq,hm⟩)
   .simp at hm
theorem Qv0 {x:Ld} {W:List Int}:∀ (rows:List (List Pk)) (i:Nat) (t:Bs),uP (IZ x W) AY rows i t=true↔(∀ j row,rows[j]? = some row->zF x (W.getD (i+j) 0) row=true)/\(∀ p∈rows.flatten,p.1∉t.2)/\(rows.flatten.map fun p=>p.1).Nodup
 | [],i,t=>by simp [uP]
 | row::rows,i,t=>by
  simp only [uP,Z8,Qv0 rows (i+1),IZ,Quz,AY,Ze,Zh,List.map_append,Zn]
  have cx:zF x (W.getD i 0) row=true↔(!decide (((row.length:Nat):Int) > mB x (W.getD i 0)))=true/\∀ p∈row,jR p=true/\cC x p=W.getD i 0:=by
   unfold zF
   simp only [Z8,List.all_eq_true,beq_iff_eq]
  constructor
  .rintro ⟨⟨a1,a2,a3,a4⟩,b1,b2,b3⟩
   refine ⟨fun j r hj=>?_,fun p hp hm=>?_,a4,b3,fun y hy z hz e=>?_⟩
   .cases j with
    | zero=>simp only [List.getElem?_cons_zero,Option.some.injEq] at hj;subst hj;exact cx.2 ⟨a1,a2⟩
    | succ j=>have:=b1 j r (by simpa using hj);rw [show i+(j+1)=i+1+j by omega];exact this
   .rcases hp with hp | hp
    .exact a3 p hp hm
    .exact b2 p hp (Or.inl hm)
   .obtain ⟨q,hq,rfl⟩:=List.mem_map.1 hz
    exact b2 q hq (Or.inr (e▸hy))
  .rintro ⟨h1,h2,n1,n2,n3⟩
   obtain ⟨a1,a2⟩:=cx.1 (h1 0 row rfl)
   refine ⟨⟨a1,a2,fun p hp=>h2 p (Or.inl hp),n1⟩,fun j r hj=>?_,fun p hp hm=>?_,n2⟩
   .have:=h1 (j+1) r (by simpa using hj);rw [show i+(j+1)=i+1+j by omega] at this;exact this
   .rcases hm with hm | hm
    .exact h2 p (Or.inr hp) hm
    .exact n3 _ hm _ (List.mem_map.2 ⟨p,hp,rfl⟩) rfl
theorem Qwg {x:Ld} {rows:List (List Pk)} {W:List Int} (hl:rows.length=W.length):uP (IZ x W) AY rows 0 (false,[])=(eF (fun w i=>zF x w (rows.getD i [])) W 0&&Lv rows.flatten):=by
 rw [Bool.eq_iff_iff,Qv0,Z8,rU,Qz5]
 constructor
 .rintro ⟨h1,_,h3⟩
  refine ⟨fun j w hw=>?_,fun p hp=>?_,h3⟩
  .have hj:=(Z0 hw).1
   have:=h1 j _ (U4 (l:=rows) (i:=j) (by omega))
   rw [Zo] at this ⊢
   rw [Zr (l:=W),hw] at this
   exact this
  .obtain ⟨row,hr,hp⟩:=List.mem_flatten.1 hp
   obtain ⟨j,hj⟩:=List.getElem?_of_mem hr
   have:=h1 j _ hj
   unfold zF at this
   simp only [Z8,List.all_eq_true] at this
   exact (this.2 p hp).1
 .rintro ⟨h1,h2,h3⟩
  refine ⟨fun j row hj=>?_,fun p _ hm=>by simp at hm,h3⟩
  have au:=(Z0 hj).1
  have:=h1 j _ (nh (l:=W) (i:=j) (z:=0) (by omega))
  rw [Zo] at this ⊢
  rw [Zr (l:=rows),hj] at this
  exact this
theorem Qst {d:Nat} {l:List Int} {n:Int} (hl:l.length < 4194304):Oa (d+1) l n=some (l.any fun x=>x==n):=by
 rw [e75]
 refine (Qb (fun (t:Bool) (i:Int)=>(t,i)) l (fun x _ t k=>aa (x==n) (some true) (k t)) (fun _=>some false) ?_ ?_ (by rw [Q6];exact hl) false).trans ?_
 .intro ag t i x hx;have hi:=(Z0 hx).1;simp only [xF,bW hx,nn,Q3,hx,Q9,Q4];rw [aN (by omega)]
 .intro ag t;simp only [xF,bB,Q5];rfl
 .exact Ow l 0 false
theorem U7 {d:Nat} {r:Rg} (R:Lr r.1) {W:List Int} {w:Int} {i:Nat} (hw:W[i]? = some w) (hW:W.length<=1000) {row:List Pk} {k:Bs->Option Bool} (t:Bs) (ht:t.2.length<=10000) (hr:row.length<=60) :
  Q8 (nu (d+4) r W (i:Int) row (fun b _ l=>k (b,l))) Qd (t.1,t.2,0)=aa (uP (IY r.1 w) Ea row 0 t) (k (AY row 0 t)) (some false):=by
 refine (Qb (fun (t:Bs) (i:Int)=>(t.1,t.2,i)) row (fun p _ t k=>aa (jR p) (aa (cC r.1 p==w) (Q1 (Oa (d+4) t.2 p.1) fun h=>aa h (some false) (aa (Nat.ble ((t.2.length+[p.1].length)*8) Q7) (k (t.1,t.2++[p.1])) none)) (some false)) (some false)) (fun t=>k t) ?_ ?_ (by rw [Q6];omega) t).trans ?_
 .intro U5 b' j p hp
  have hj:=(Z0 hp).1
  simp only [nu,bW hp,nn,Q3,hp,Q9,Q4,sV hw,hw]
  rw [show d+4=d+1+3 by omega,Qsq,Q9,show d+1+3=d+4 by omega,Yw R,Q9,aN (by omega)]
  cases jR p with
  | false=>rfl
  | true =>
   rw [Zl,Q5,Q4]
   by_cases e:cC r.1 p=w
   .rw [show (cC r.1 p != w)=false by rw [e];exact bne_self_eq_false _,Q5,show (cC r.1 p==w)=true from beq_iff_eq.2 e,Q4]
   .rw [show (cC r.1 p != w)=true from bne_iff_ne.2 e,Q4,show (cC r.1 p==w)=false from beq_eq_false_iff_ne.2 e,Q5]
 .intro U5 b'
  simp only [nu,bB,Q5]
 .rw [U6 (p:=IY r.1 w) (f:=Ea) (fun j t=>t.2.length<=10000+j) row 0 t (by omega) ?_,Qlr]
  intro j p t k hp hI
  have hj:=(Z0 hp).1
  rw [show d+4=d+3+1 by omega,Qst (by omega),Q9,room (by simp;omega),Q4]
  refine ⟨?_,fun _=>by unfold Ea;simp;omega⟩
  unfold IY
  cases jR p with
  | false=>rfl
  | true =>
   rw [Q4,Zg]
   cases (cC r.1 p==w) with
   | false=>rfl
   | true=>rw [Q4,Zg];cases (t.2.any fun z=>z==p.1)<;>rfl
theorem Qsu {d:Nat} {r:Rg} (h:AJ r.1):SV (d+13) r=some (mD r):=by
 rw [e35,Qsn h,Q9]
 unfold mD ON
 cases hg:eP r.1 with
 | false=>rfl
 | true =>
  have L:=vz hg
  have R:=Iv hg
  have iw:=L.fE
  have hf:=L.fl
  have hv:=AI (F:=r.1.2.2.2.1)
  cases hb:AW r.1 r.2.1 with
  | false=>rfl
  | true =>
   rw [Zg,Zg,Zg,Zl,Q5,show d+12=d+10+2 by omega,Ix (by omega) hf,Q9]
   unfold rH
   by_cases a:r.2.2.1.length=(bT r.1.2.2.2.1).length
   case neg=>rw [show ((((r.2.2.1.length:Nat):Int)) != (((bT r.1.2.2.2.1).length:Nat):Int))=true by simp;omega,Q4,Q4,Z4 a];rfl
   rw [show ((((r.2.2.1.length:Nat):Int)) != (((bT r.1.2.2.2.1).length:Nat):Int))=false by simp;omega,Q5,Z5 a,Zg,show d+10+2=d+11+1 by omega,vG,Q9,wr (by omega) (by omega)]
   by_cases a1:-1<=r.2.2.2.1/\r.2.2.2.1 < (((bT r.1.2.2.2.1).length:Nat):Int)
   case neg=>rw [Z4 (show ¬ (-1<=r.2.2.2.1/\r.2.2.2.1<=(((bT r.1.2.2.2.1).length:Nat):Int) - 1) by omega),Bool.not_false,Q4,Q4,Z4 a1];rfl
   rw [Z5 (show -1<=r.2.2.2.1/\r.2.2.2.1<=(((bT r.1.2.2.2.1).length:Nat):Int) - 1 by omega),Zl,Q5,Z5 a1,Zg,vG,Q9]
   cases decide (0<=r.2.2.2.2/\r.2.2.2.2<=1000000) with
   | false=>rfl
   | true =>
    rw [Zl,Q5,Zg,<- Qwg a]
    have hW:∀ w∈bT r.1.2.2.2.1,vI r.1.2.1 w:=fun w hw=>by obtain ⟨q1,q2⟩:=Fh hw;exact ⟨q1,by omega⟩
    refine (Qb (fun (t:Bs) (i:Int)=>(t.1,t.2,i)) r.2.2.1 (fun row i t k=>aa (decide (((row.length:Nat):Int) > mB r.1 ((bT r.1.2.2.2.1).getD i 0))) (some false) (Q8 (nu (d+11+1) r (bT r.1.2.2.2.1) (i:Int) row (fun b _ l=>k (b,l))) Qd (t.1,t.2,0))) (fun _=>some true) ?_ ?_ (by rw [Q6];omega) (false,[])).trans ?_
    .intro ag t i row hx
     have hi:=(Z0 hx).1
     have au:i < (bT r.1.2.2.2.1).length:=by omega
     have hw:=nh (l:=bT r.1.2.2.2.1) (i:=i) (z:=0) au
     have gK:=hW _ (Zc hw)
     simp only [xJ,bW hx,nn,Q3,hx,Q9,Q4]
     rw [Qp au,Q4,hw,Q9,Z5 gK.1,Q4,fu gK,Q9]
     rw [show xH (d+11+1) ag (i:Int)=fun b _ l=>ag (b,l,((i+1:Nat):Int)) from by
      funext b n l
      unfold xH
      rw [aN (by omega)]]
     rfl
    .intro ag t;simp only [xJ,bB,Q5];rfl
    .rw [U6 (p:=IZ r.1 (bT r.1.2.2.2.1)) (f:=AY) (fun i t=>t.2.length<=60*i) r.2.2.1 0 (false,[]) (by simp) ?_]
     .cases uP (IZ r.1 (bT r.1.2.2.2.1)) AY r.2.2.1 0 (false,[])<;>rfl
     .intro j row t k hj hI
      rw [Zo] at hI ⊢
      have hi:=(Z0 hj).1
      have hw:=nh (l:=bT r.1.2.2.2.1) (i:=j) (z:=0) (by omega)
      have gK:=hW _ (Zc hw)
      have Iy:=R.ai _ (Zc (fu gK))
      unfold IZ
      by_cases b1:((row.length:Nat):Int) > mB r.1 ((bT r.1.2.2.2.1).getD j 0)
      .rw [Z5 b1,Q4,Zl,Bool.false_and,Q5]
       exact ⟨rfl,fun h=>absurd h (by simp)⟩
      .rw [Z4 b1,Q5,Bool.not_false,Zg]
       unfold mB at b1
       rw [show d+11+1=d+8+4 by omega,U7 R hw (by omega) t (by omega) (by omega)]
       refine ⟨rfl,fun _=>?_⟩
       unfold AY
       simp only [Zf,List.length_map]
       omega
structure Ro (r:Rg):Prop where
 lk:Lk r.1
 lr:Lr r.1
 t1:r.2.1.1.length=r.1.2.1.length
 t2:r.2.1.2.length=r.1.2.1.length
 rl:r.2.2.1.length=(bT r.1.2.2.2.1).length
 rb:∀ row∈r.2.2.1,row.length<=60
 rp:∀ row∈r.2.2.1,∀ p∈row,jR p=true
 la:-1<=r.2.2.2.1/\r.2.2.2.1 < (((bT r.1.2.2.2.1).length:Nat):Int)
 nw:0<=r.2.2.2.2/\r.2.2.2.2<=1000000
theorem N4 {r:Rg} (h:mD r=true):Ro r:=by
 unfold mD ON at h
 simp only [Z8,Zj] at h
 obtain ⟨h1,h2,⟨h3,h4,h5⟩,h6,h7⟩:=h
 have L:=vz h1
 have R:=Iv h1
 obtain ⟨t1,t2⟩:=Qwb h2
 have hf:=L.fl
 obtain ⟨r1,r2⟩:=Qpl R (fun w hw=>by obtain ⟨q1,q2⟩:=Fh hw;exact ⟨q1,by omega⟩) h3 h6
 exact ⟨L,R,t1,t2,h3,r1,r2,h4,h5⟩
theorem YB {r:Rg} (h:mD r=true):eP r.1=true:=by
 unfold mD at h
 simp only [Z8] at h
 exact h.1
theorem Qz7 {d:Nat} {x:Ld} {id:Int} (hl:x.2.1.length<=1000):SW (d+1) x id=some (bU x.2.1 id):=by
 rw [e56]
 refine (Qb (fun (t:Int) (i:Int)=>(t,i)) x.2.1 (fun y i t k=>aa (y.1==id) (some ((i:Nat):Int)) (k t)) (fun _=>some (-1)) ?_ ?_ (by rw [Q6];omega) 0).trans (DU x.2.1 0 _)
 .intro ag t i x hx;have hi:=(Z0 hx).1;simp only [xL,bW hx,nn,Q3,hx,Q9,Q4];rw [aN (by omega)]
 .intro ag t;simp only [xL,bB,Q5];rfl
theorem RG {r:Rg} (O:Ro r):r.2.2.1.length<=24:=by
 have iw:=O.lk.fE
 have hf:=O.lk.fl
 have hv:=AI (F:=r.1.2.2.2.1)
 have jZ:=O.rl
 omega
theorem Qsw {d:Nat} {x:Ld} (hg:eP x=true):KL (d+26) x=some (eI x):=by
 unfold eP at hg
 simp only [Z8,Zj] at hg
 obtain ⟨⟨h1,h2⟩,h3,h4⟩:=hg
 obtain ⟨c,hc,c1,c2,c3,c4⟩:=Qln (d:=d) (x:=x) (by omega) (by omega)
 obtain ⟨u1,u2⟩:=Qz2 c1 c2 c3 c4
 rw [hc,u2 h3]
theorem Qwh {x:Ld} (h:eP x=true):(eI x).2.1.length<=24/\(eI x).2.2.1.length<=16:=by
 unfold eP at h
 simp only [Z8,Zj] at h
 refine ⟨?_,h.1.2⟩
 show (De x.2.1).length<=24
 rw [AF.length_eq];exact h.1.1
theorem U8 {α γ δ β:Type} {e:α->γ} {f:α->δ} {fin:List γ×List δ->Option β} {w v:Nat}:∀ (l:List α) (i:Nat) (t:List γ×List δ),(t.1.length+l.length)*w<=100000000->(t.2.length+l.length)*v<=100000000 ->
  dY (fun x _ t k=>aa (Nat.ble ((t.1.length+[e x].length)*w) Q7) (aa (Nat.ble ((t.2.length+[f x].length)*v) Q7) (k (t.1++[e x],t.2++[f x])) none) none) fin l i t=fin (t.1++l.map e,t.2++l.map f)
 | [],i,t,_,_=>by simp [dY]
 | x::r,i,t,h,h'=>by
  simp only [dY]
  rw [room (by
   have:(t.1.length+[e x].length)*w<=(t.1.length+(x::r).length)*w:=Zk w (by simp)
   omega),Q4,room (by
   have:(t.2.length+[f x].length)*v<=(t.2.length+(x::r).length)*v:=Zk v (by simp)
   omega),Q4]
  rw [U8 r (i+1) (t.1++[e x],t.2++[f x]) (by
   refine Nat.le_trans (Zk w ?_) h
   simp;omega) (by
   refine Nat.le_trans (Zk v ?_) h'
   simp;omega)]
  simp
def BA (x:Ld):Tk:=(x.2.1.map fun c=>c.2.2.2.2.1,x.2.1.map fun c=>c.2.2.2.2.2.1)
theorem Qhj {d:Nat} {x:Ld} (hl:x.2.1.length<=1000):T3 (d+1) x=some (BA x):=by
 rw [e96]
 refine (Qb (fun (t:Tk) (i:Int)=>(i,t)) x.2.1 (fun c _ t k=>aa (Nat.ble ((t.1.length+[c.2.2.2.2.1].length)*8) Q7) (aa (Nat.ble ((t.2.length+[c.2.2.2.2.2.1].length)*8) Q7) (k (t.1++[c.2.2.2.2.1],t.2++[c.2.2.2.2.2.1])) none) none) (fun t=>some t) ?_ ?_ (by rw [Q6];omega) ([],[])).trans ?_
 .intro ag t i x hx;have hi:=(Z0 hx).1;simp only [zg,bW hx,nn,Q3,hx,Q9,Q4];rw [aN (by omega)]
 .intro ag t;simp only [zg,bB,Q5];rfl
 .rw [U8 (e:=fun c:aC=>c.2.2.2.2.1) (f:=fun c:aC=>c.2.2.2.2.2.1) x.2.1 0 ([],[]) (by simp;omega) (by simp;omega)]
  rfl
theorem Qsx {d:Nat} {x:Ld} (hl:x.2.1.length<=1000):FN (d+1) x=some (BA x):=by
 rw [SX]
 refine (Qb (fun (t:Tk) (i:Int)=>(i,t)) x.2.1 (fun c _ t k=>aa (Nat.ble ((t.1.length+[c.2.2.2.2.1].length)*8) Q7) (aa (Nat.ble ((t.2.length+[c.2.2.2.2.2.1].length)*8) Q7) (k (t.1++[c.2.2.2.2.1],t.2++[c.2.2.2.2.2.1])) none) none) (fun t=>some t) ?_ ?_ (by rw [Q6];omega) ([],[])).trans ?_
 .intro ag t i x hx;have hi:=(Z0 hx).1;simp only [pJ,bW hx,nn,Q3,hx,Q9,Q4];rw [aN (by omega)]
 .intro ag t;simp only [pJ,bB,Q5];rfl
 .rw [U8 (e:=fun c:aC=>c.2.2.2.2.1) (f:=fun c:aC=>c.2.2.2.2.2.1) x.2.1 0 ([],[]) (by simp;omega) (by simp;omega)]
  rfl
theorem Qv1 {x:Ld} (h:eP x=true):bS (eI x)=x:=by
 unfold eP Df at h
 simp only [Z8,Zj,beq_iff_eq] at h
 obtain ⟨_,_,s1,s2,s3,s4,s5,s6,s7⟩:=h
 exact Prod.ext rfl (Prod.ext s1.symm (Prod.ext s2.symm (Prod.ext s3.symm (Prod.ext s4.symm (Prod.ext s5.symm (Prod.ext rfl (Prod.ext s6.symm s7.symm)))))))
theorem NZ {x:Ld} (h:eP x=true):ga (eI x)=true:=by
 unfold eP at h
 simp only [Z8] at h
 exact h.2.1
theorem Qsz {c:Cf} (G:Gd c):(bS c).2.2.2.2.1.length<=24/\(bS c).2.2.2.2.2.1.length<=24/\(bS c).2.2.2.2.2.2.2.1.length<=16:=by
 have h1:=GH G.tr
 have h2:=G.tr.fE
 have h3:=G.f16
 refine ⟨?_,?_,?_⟩
 .show ((aG c.2.1).map (fun i=>pW c.2.1 (uL c.2.1 i))).length<=24
  rw [List.length_map];omega
 .show ((aG c.2.1).mapIdx (nK c.2.1)).length<=24
  rw [List.length_mapIdx];omega
 .show (c.2.2.1.map (fun f=>pW c.2.1 (bU c.2.1 f.2.2.2.2))).length<=16
  rw [List.length_map];omega
theorem Qwi {x:Ld} (h:eP x=true):x.2.2.2.2.1.length<=24/\x.2.2.2.2.2.1.length<=24/\x.2.2.2.2.2.2.2.1.length<=16:=by
 have:=Qsz (q_ (NZ h))
 rw [Qv1 h] at this;exact this
theorem Qpo {α γ:Type} {c:α->Nat->Bool} {e:α->Nat->γ}:∀ (l:List α) (i j:Nat) (x:α),l[j]? = some x->c x (i+j)=true->e x (i+j)∈fK c e l i
 | [],i,j,x,h,_=>by simp at h
 | y::r,i,0,x,h,hc=>by
  simp only [List.getElem?_cons_zero,Option.some.injEq] at h
  subst h
  rw [Nat.add_zero] at hc ⊢
  unfold fK;rw [if_pos hc];simp
 | y::r,i,j+1,x,h,hc=>by
  have:=Qpo (c:=c) (e:=e) r (i+1) j x (by simpa using h) (by rw [show i+1+j=i+(j+1) by omega];exact hc)
  rw [show i+1+j=i+(j+1) by omega] at this
  unfold fK
  split
  .exact List.mem_cons_of_mem _ this
  .exact this
theorem Qpp {c:Cf} (G:Gd c) {id:Int} (hv:vI c.2.1 (bU c.2.1 id)) (hl:ic c.2.1 id=true):pW c.2.1 (bU c.2.1 id)∈bT (bS c).2.2.2.1:=by
 have T:=G.tr
 obtain ⟨k,h1,h2⟩:=Bx T hv
 obtain ⟨_,x,e1,e2,e3⟩:=By hv.1
 have hid:(aW c.2.1 (bU c.2.1 id)).1=id:=by rw [e1,kK e2,e3]
 have hk:cg c.2.1 (bU c.2.1 id)=[]:=by
  unfold cg nF
  rw [hid]
  have:=K6 (c:=fun x:aC=>x.2.1==id) (e:=fun _ k=>((k:Nat):Int)) c.2.1 0
  unfold ic at hl
  rw [hl] at this
  exact Z1 (by simpa using this)
 have hF:(bS c).2.2.2.1[k]? = some (-1):=by
  show ((aG c.2.1).map (fun i=>pW c.2.1 (vM c.2.1 i)))[k]? = some (-1)
  rw [List.getElem?_map,h1]
  show some (pW c.2.1 ((cg c.2.1 (bU c.2.1 id)).headD (-1)))=some (-1)
  rw [hk]
  exact congrArg some (uK T (by simp))
 rw [h2]
 have:=Qpo (c:=fun (f:Int) _=>decide (f < 0)) (e:=fun _ k=>((k:Nat):Int)) (bS c).2.2.2.1 0 k (-1) hF (by simp)
 rw [Zo] at this
 exact this
theorem U9 {c:Cf} (G:Gd c) (p:Pk):cC (bS c) p < 0\/cC (bS c) p∈bT (bS c).2.2.2.1:=by
 unfold cC
 split
 .rename_i h
  have au:=U3 h
  right
  have hm:(bS c).2.2.2.2.2.2.2.1.getD (uO (bS c).2.2.2.2.2.2.1 p).toNat 0∈(bS c).2.2.2.2.2.2.2.1:=by
   refine Zc (i:=(uO (bS c).2.2.2.2.2.2.1 p).toNat) (nh ?_)
   show _ < (c.2.2.1.map _).length
   rw [List.length_map]
   have:uO (bS c).2.2.2.2.2.2.1 p < ((c.2.2.1.length:Nat):Int):=au
   omega
  generalize (bS c).2.2.2.2.2.2.2.1.getD (uO (bS c).2.2.2.2.2.2.1 p).toNat 0=w at hm
  obtain ⟨f,hf,rfl⟩:=List.mem_map.1 (show w∈c.2.2.1.map (fun f=>pW c.2.1 (bU c.2.1 f.2.2.2.2)) from hm)
  obtain ⟨t1,t2,_⟩:=G.Lc f hf
  exact Qpp G t1 t2
 .show vu c < 0\/vu c∈_
  unfold vu
  split
  .left;omega
  .rename_i h
   obtain ⟨t1,t2⟩:=G.Ka h
   exact Or.inr (Qpp G t1 t2)
structure Pu (x:Ld) (rows:List (List Pk)):Prop where
 lk:Lk x
 lr:Lr x
 lf:∀ p,cC x p < 0\/cC x p∈bT x.2.2.2.1
 rl:rows.length=(bT x.2.2.2.1).length
 lm:∀ (k:Nat) w,(bT x.2.2.2.1)[k]? = some w->(((rows.getD k []).length:Nat):Int)<=mB x w
def lY (x:Ld) (p:Pk):Nat:=(vL (bT x.2.2.2.1) (cC x p)).toNat
def ri (x:Ld) (rows:List (List Pk)) (p:Pk):List Pk:=rows.getD (lY x p) []
def Iu (x:Ld) (rows:List (List Pk)) (p:Pk):List (List Pk):=rows.set (lY x p) (ri x rows p++[p])
def Dh {τ:Type} (x:Ld) (rows:List (List Pk)) (p:Pk) (A:τ) (B C:aC->τ):τ:=if cC x p < 0 then A else if (((ri x rows p).length:Nat):Int)=mB x (cC x p) then B (aW x.2.1 (cC x p)) else C (aW x.2.1 (cC x p))
theorem Qlt {e:Nat->Int} (he:∀ k,e k=(k:Int)) {c:Int->Nat->Bool}:∀ (l:List Int) (i:Nat),(fK c (fun _ k=>e k) l i).Pairwise (· < ·)/\∀ x∈fK c (fun _ k=>e k) l i,((i:Nat):Int)<=x
 | [],i=>⟨List.Pairwise.nil,fun x h=>by simp [fK] at h⟩
 | y::r,i=>by
  obtain ⟨h1,h2⟩:=Qlt he (c:=c) r (i+1)
  unfold fK
  split
  .refine ⟨List.Pairwise.cons (fun x hx=>?_) h1,fun x hx=>?_⟩
   .have:=h2 x hx;rw [he];omega
   .rcases Z2 hx with rfl | hx
    .rw [he];omega
    .have:=h2 x hx;omega
  .exact ⟨h1,fun x hx=>by have:=h2 x hx;omega⟩
theorem RQ {F:List Int}:(bT F).Nodup:=by
 have:=(Qlt (e:=fun k=>((k:Nat):Int)) (fun _=>rfl) (c:=fun f _=>decide (f < 0)) F 0).1
 exact this.imp fun h=>by omega
structure At (x:Ld) (rows:List (List Pk)) (p:Pk):Prop where
 get:(bT x.2.2.2.1)[lY x p]? = some (cC x p)
 pos:vL (bT x.2.2.2.1) (cC x p)=((lY x p:Nat):Int)
 lt:lY x p < rows.length
 v:vI x.2.1 (cC x p)
 row:rows[lY x p]? = some (ri x rows p)
 ai:(((ri x rows p).length:Nat):Int)<=mB x (cC x p)
 l60:(ri x rows p).length<=60
theorem Ry {x:Ld} {rows:List (List Pk)} {p:Pk} (P:Pu x rows) (h:¬ cC x p < 0):At x rows p:=by
 have hm:=(P.lf p).resolve_left h
 obtain ⟨k,h1,h2⟩:=ZU RQ hm
 have hk:lY x p=k:=by unfold lY;rw [h2];rfl
 have au:=(Z0 h1).1
 have jZ:=P.rl
 have hf:=P.lk.fl
 obtain ⟨v1,v2⟩:=Fh hm
 have hv:vI x.2.1 (cC x p):=⟨v1,by omega⟩
 have aH:=P.lm k _ h1
 have Iy:=P.lr.ai _ (Zc (fu hv))
 have cx:ri x rows p=rows.getD k []:=by unfold ri;rw [hk]
 refine ⟨by rw [hk];exact h1,by rw [hk];exact h2,by omega,hv,by rw [hk,cx];exact U4 (by omega),by rw [cx];exact aH,?_⟩
 rw [cx]
 unfold mB at aH
 omega
theorem RF {β:Type} {d:Nat} {x:Ld} {rows:List (List Pk)} {p:Pk} (P:Pu x rows) {A:Option β} {B:aC->Option β} {C:aC->List (List Pk)->Option β} :
  aa (decide (cC x p < 0)) A (aa (decide (0<=cC x p)) (aa (Nat.blt (cC x p).toNat x.2.1.length) (Q1 (x.2.1[(cC x p).toNat]?) fun y=>Q1 (DO (d+1) x) fun ls=>Q1 (xV (d+1) ls (cC x p)) fun k=>aa (decide (0<=k)) (aa (Nat.blt k.toNat rows.length) (Q1 (rows[k.toNat]?) fun row=>aa (((row.length:Nat):Int)==y.2.2.2.2.2.2.2) (B y) (aa (decide (0<=k)) (aa (Nat.blt k.toNat rows.length) (Q1 (rows[k.toNat]?) fun zG=>aa (Nat.ble ((zG.length+[p].length)*48) Q7) (aa (decide (0<=k)) (aa (Nat.blt k.toNat rows.length) (aa (Nat.beq k.toNat k.toNat) (Q1 (rows[k.toNat]?) fun _=>C y (rows.set k.toNat (zG++[p]))) none) none) none) none) none) none)) none) none) none) none)
  = Dh x rows p A B (fun y=>C y (Iu x rows p)):=by
 unfold Dh
 by_cases h:cC x p < 0
 .rw [Z5 h,Q4,if_pos h]
 .have a:=Ry P h
  have iw:=P.lk.fE
  have hv:=AI (F:=x.2.2.2.1)
  have hf:=P.lk.fl
  have Iy:=a.l60
  rw [Z4 h,Q5,if_neg h,Z5 a.v.1,Q4,Qp (by have:=a.v;unfold vI at this;omega),Q4,fu a.v,Q9,Ke (by omega) hf,Q9,ZB (by omega),Q9]
  have hp:fe (fun y=>y==cC x p) (bT x.2.2.2.1) 0=((lY x p:Nat):Int):=a.pos
  rw [hp]
  simp only [nn,Q3,Q4,Qp a.lt,a.row,Q9]
  rw [room (by simp;omega),Q4,show Nat.beq (lY x p) (lY x p)=true by rw [Nat.beq_eq],Q4]
  by_cases e:(((ri x rows p).length:Nat):Int)=mB x (cC x p)
  .rw [if_pos e,show ((((ri x rows p).length:Nat):Int)==(aW x.2.1 (cC x p)).2.2.2.2.2.2.2)=true from beq_iff_eq.2 e,Q4]
  .rw [if_neg e,show ((((ri x rows p).length:Nat):Int)==(aW x.2.1 (cC x p)).2.2.2.2.2.2.2)=false from beq_eq_false_iff_ne.2 e,Q5]
   rfl
theorem Qz8 {β:Type} {d:Nat} {x:Ld} {rows:List (List Pk)} {p:Pk} {F:(Int->Option β)->Int->Option β} {K:Int->Option β} (a:At x rows p) (h1:x.2.1.length<=1000) (hf:x.2.2.2.1.length=x.2.1.length)
  (hF:∀ ag k,F ag k=Q1 (DJ (d+2) x) fun ls=>aa (decide (0<=k)) (aa (Nat.blt k.toNat ls.length) (Q1 (ls[k.toNat]?) fun w=>aa (w != cC x p) (ag (IntKind.i64.wrap (k+1))) (K k)) none) none):Q8 F Qd 0=K ((lY x p:Nat):Int):=by
 have hv:=AI (F:=x.2.2.2.1)
 have au:=(Z0 a.get).1
 have key:∀ (m k fuel:Nat),k+m=lY x p->m < fuel->Q8 F fuel ((k:Nat):Int)=K ((lY x p:Nat):Int):=by
  intro m
  induction m with
  | zero =>
   intro k fuel e h
   obtain ⟨g,rfl⟩:∃ g,fuel=g+1:=⟨fuel - 1,by omega⟩
   obtain rfl:k=lY x p:=by omega
   simp only [Q8]
   rw [hF,Ix h1 hf,Q9,nn,Q4,Q3,Qp au,Q4,a.get,Q9,bne_self_eq_false,Q5]
  | succ m ih =>
   intro k fuel e h
   obtain ⟨g,rfl⟩:∃ g,fuel=g+1:=⟨fuel - 1,by omega⟩
   have hk:k < (bT x.2.2.2.1).length:=by omega
   have hx:=Z6 hk
   have aU:(bT x.2.2.2.1)[k]≠cC x p:=fun e'=>by
    have:=rV RQ hx
    rw [e',a.pos] at this
    omega
   simp only [Q8]
   rw [hF,Ix h1 hf,Q9,nn,Q4,Q3,Qp hk,Q4,hx,Q9,bne_iff_ne.2 aU,Q4,aN (by omega)]
   exact ih (k+1) g (by omega) (by omega)
 exact key (lY x p) 0 Qd (by omega) (by rw [Q6];omega)
def RO {β:Type} (rows:List (List Pk)) (p:Pk) (B:aC->Option β) (C:aC->List (List Pk)->Option β) (y:aC) (k:Int):Option β:=aa (decide (0<=k)) (aa (Nat.blt k.toNat rows.length) (Q1 (rows[k.toNat]?) fun row=>aa (decide (((row.length:Nat):Int)>=y.2.2.2.2.2.2.2)) (B y) (aa (decide (0<=k)) (aa (Nat.blt k.toNat rows.length) (Q1 (rows[k.toNat]?) fun zG=>aa (Nat.ble ((zG.length+[p].length)*48) Q7) (aa (decide (0<=k)) (aa (Nat.blt k.toNat rows.length) (aa (Nat.beq k.toNat k.toNat) (Q1 (rows[k.toNat]?) fun _=>C y (rows.set k.toNat (zG++[p]))) none) none) none) none) none) none)) none) none
theorem RN {β:Type} {x:Ld} {rows:List (List Pk)} {p:Pk} (P:Pu x rows) {A:Option β} {B:aC->Option β} {C:aC->List (List Pk)->Option β} {I:aC->Option β}
  (hI:At x rows p->∀ y,I y=RO rows p B C y ((lY x p:Nat):Int)) :
  aa (decide (cC x p < 0)) A (aa (decide (0<=cC x p)) (aa (Nat.blt (cC x p).toNat x.2.1.length) (Q1 (x.2.1[(cC x p).toNat]?) I) none) none)=Dh x rows p A B (fun y=>C y (Iu x rows p)):=by
 unfold Dh
 by_cases h:cC x p < 0
 .rw [Z5 h,Q4,if_pos h]
 .have a:=Ry P h
  have Iy:=a.l60
  have aH:=a.ai
  rw [Z4 h,Q5,if_neg h,Z5 a.v.1,Q4,Qp (by have:=a.v;unfold vI at this;omega),Q4,fu a.v,Q9,hI a]
  unfold RO
  simp only [nn,Q3,Q4,Qp a.lt,a.row,Q9]
  rw [room (by simp;omega),Q4,show Nat.beq (lY x p) (lY x p)=true by rw [Nat.beq_eq],Q4]
  by_cases e:(((ri x rows p).length:Nat):Int)=mB x (cC x p)
  .rw [if_pos e,Z5 (show (((ri x rows p).length:Nat):Int)>=(aW x.2.1 (cC x p)).2.2.2.2.2.2.2 by unfold mB at e;omega),Q4]
  .rw [if_neg e,Z4 (show ¬ (((ri x rows p).length:Nat):Int)>=(aW x.2.1 (cC x p)).2.2.2.2.2.2.2 by unfold mB at e aH;omega),Q5]
   rfl
theorem RB {x:Ld} (h:eP x=true) (p:Pk):cC x p < 0\/cC x p∈bT x.2.2.2.1:=by
 have:=U9 (q_ (NZ h)) p
 rw [Qv1 h] at this;exact this
def mP (k:Nat):Pk:=((k:Int),((k+1:Nat):Int),((k+1+1:Nat):Int),((k+1+1+1:Nat):Int),((k+1+1+1+1:Nat):Int),((k+1+1+1+1+1:Nat):Int))
def mM:Nat->Nat->List Pk
 | _,0=>[]
 | k,n+1=>mP k::mM (k+1+1+1+1+1+1) n
def vP:Nat->List (List Pk)->List (List Pk)
 | _,[]=>[]
 | k,q::r=>mM k q.length::vP (k+6*q.length) r
theorem Qv2 {d:Nat}:∀ (r:List Pk) {p:List Pk} {k fuel:Nat},r.length < fuel->p.length+r.length<=2000000->k+6*r.length<=1000000000 ->
  Q8 (lT d (qn d)) fuel ((k:Int),((p.length:Nat):Int),p++r)=some (((k+6*r.length:Nat):Int),p++mM k r.length)
 | _,p,k,0,h,_,_=>by omega
 | [],p,k,fuel+1,h,h2,h3=>by
  simp only [Q8,lT]
  rw [List.append_nil,bB,Q5]
  unfold qn
  simp [mM]
 | x::r,p,k,fuel+1,h,h2,h3=>by
  simp only [Z9] at h h2 h3
  have au:p.length < (p++x::r).length:=by simp
  have hg:(p++x::r)[p.length]? = some x:=by simp
  simp only [Q8,lT,Q3,nn,Q4]
  rw [Z5 (show ((p.length:Nat):Int) < (((p++x::r).length:Nat):Int) by omega),Q4,Qp au,Q4,hg,Q9]
  simp only [List.length_set,List.set_set,List.getElem?_set_self au,Q9,Qp au,Q4]
  rw [Ff,aN (by omega),aN (by omega),aN (by omega),aN (by omega),aN (by omega),aN (by omega),aN (by omega)]
  have:=Qv2 (d:=d) r (p:=p++[mP k]) (k:=k+1+1+1+1+1+1) (fuel:=fuel) (by omega) (by simp;omega) (by omega)
  rw [Zf,show (p++[mP k])++r=p++mP k::r by simp] at this
  simp only [Z9,Zb,mM]
  rw [show k+6*(r.length+1)=k+1+1+1+1+1+1+6*r.length by omega,show p++mP k::mM (k+1+1+1+1+1+1) r.length=(p++[mP k])++mM (k+1+1+1+1+1+1) r.length by simp]
  exact this
theorem Qv3 {d:Nat} {l:List Pk}:∀ (n:Nat) {p:List Pk} {k fuel:Nat},l=p++mM k n->n < fuel->p.length+n<=2000000->k+6*n<=1000000000 ->
  Q8 (kO d l (oU d)) fuel ((k:Int),0,((p.length:Nat):Int))=some ((k+6*n:Nat):Int)
 | n,p,k,0,_,h,_,_=>by omega
 | 0,p,k,fuel+1,e,h,h2,h3=>by
  simp only [mM,List.append_nil] at e
  subst e
  simp only [Q8,kO]
  rw [bB,Q5]
  unfold oU
  simp
 | n+1,p,k,fuel+1,e,h,h2,h3=>by
  have hg:l[p.length]? = some (mP k):=by rw [e];simp [mM]
  have au:=(Z0 hg).1
  simp only [Q8,kO,Q3,nn,Q4]
  rw [Z5 (show ((p.length:Nat):Int) < ((l.length:Nat):Int) by omega),Q4,hg]
  simp only [Q9]
  rw [aN (by omega),aN (by omega),aN (by omega),aN (by omega),aN (by omega),aN (by omega),aN (by omega)]
  unfold mP
  simp only [bne_self_eq_false,Q5]
  have:=Qv3 (d:=d) (l:=l) n (p:=p++[mP k]) (k:=k+1+1+1+1+1+1) (fuel:=fuel) (by rw [e];simp [mM]) (by omega) (by simp;omega) (by omega)
  rw [Zf] at this
  simp only [Z9,Zb] at this
  rw [show k+6*(n+1)=k+1+1+1+1+1+1+6*n by omega]
  exact this
theorem Qhk {d:Nat} {β:Type} {F:((Int×Int×List (List Pk))->Option β)->(Int×Int×List (List Pk))->Option β} {kx:Int->List (List Pk)->Option β}
  (hF:∀ ag n i rs,F ag (n,i,rs)=aa (decide (i < ((rs.length:Nat):Int))) (aa (decide (0<=i)) (aa (Nat.blt i.toNat rs.length) (Q1 (rs[i.toNat]?) fun a=>Q1 (rs[i.toNat]?) fun b=>aa (Nat.beq b.length a.length) (Q1 (zv (d+1) a n) fun z=>ag (z.1,IntKind.i64.wrap (i+1),rs.set i.toNat z.2)) none) none) none) (kx n rs)) :
  ∀ (r:List (List Pk)) {p:List (List Pk)} {k fuel:Nat},r.length < fuel->p.length+r.length<=2000000->(∀ q∈r,q.length<=1048576)->k+6*r.flatten.length<=100000000 ->
  Q8 F fuel ((k:Int),((p.length:Nat):Int),p++r)=kx ((k+6*r.flatten.length:Nat):Int) (p++vP k r)
 | _,p,k,0,h,_,_,_=>by omega
 | [],p,k,fuel+1,h,h2,_,h3=>by
  simp only [Q8]
  rw [hF,List.append_nil,bB,Q5]
  simp [vP]
 | q::r,p,k,fuel+1,h,h2,hq,h3=>by
  simp only [Z9,Ze,Zf] at h h2 h3
  have au:p.length < (p++q::r).length:=by simp
  have hg:(p++q::r)[p.length]? = some q:=by simp
  simp only [Q8]
  rw [hF,Z5 (show ((p.length:Nat):Int) < (((p++q::r).length:Nat):Int) by omega),Q4,nn,Q4,Q3,Qp au,Q4,hg,Q9,Q9,show Nat.beq q.length q.length=true by rw [Nat.beq_eq],Q4,T5]
  have h1:=Qv2 (d:=d) q (p:=[]) (k:=k) (fuel:=Qd) (by have:=hq q (by simp);rw [Q6];omega) (by have:=hq q (by simp);simp;omega) (by omega)
  rw [List.nil_append,List.nil_append] at h1
  rw [show ((([]:List Pk).length:Nat):Int)=0 from rfl] at h1
  rw [h1,Q9]
  simp only []
  rw [Ff,aN (by omega)]
  have:=Qhk hF r (p:=p++[mM k q.length]) (k:=k+6*q.length) (fuel:=fuel) (by omega) (by simp;omega) (fun x hx=>hq x (by simp [hx])) (by omega)
  rw [Zf,show (p++[mM k q.length])++r=p++mM k q.length::r by simp] at this
  simp only [Z9,Zb,vP,Ze,Zf]
  rw [show k+6*(q.length+r.flatten.length)=k+6*q.length+6*r.flatten.length by omega,show p++mM k q.length::vP (k+6*q.length) r=(p++[mM k q.length])++vP (k+6*q.length) r by simp]
  exact this
theorem YJ {d k:Nat} {β:Type} {F:((Int×Int×List (List Pk))->Option β)->(Int×Int×List (List Pk))->Option β} {kx:Int->List (List Pk)->Option β} {rows:List (List Pk)}
  (hF:∀ ag n i rs,F ag (n,i,rs)=aa (decide (i < ((rs.length:Nat):Int))) (aa (decide (0<=i)) (aa (Nat.blt i.toNat rs.length) (Q1 (rs[i.toNat]?) fun a=>Q1 (rs[i.toNat]?) fun b=>aa (Nat.beq b.length a.length) (Q1 (zv (d+1) a n) fun z=>ag (z.1,IntKind.i64.wrap (i+1),rs.set i.toNat z.2)) none) none) none) (kx n rs))
  (h:Lw rows) (hf:rows.flatten.length<=1048576) (hk:k<=50000000):Q8 F Qd ((k:Int),0,rows)=kx ((k+6*rows.flatten.length:Nat):Int) (vP k rows) :=
 Qhk hF rows (p:=[]) (by have:=h.1;rw [Q6];omega) (by have:=h.1;simp;omega) h.2 (by omega)
theorem Qhl {d:Nat} {l:List (List Pk)}:∀ (r:List (List Pk)) {p:List (List Pk)} {k fuel:Nat},l=p++vP k r->r.length < fuel->p.length+r.length<=2000000->(∀ q∈r,q.length<=1048576)->k+6*r.flatten.length<=100000000 ->
  Q8 (rE (d+1) l (w9 (d+1))) fuel ((k:Int),0,((p.length:Nat):Int))=some ((k+6*r.flatten.length:Nat):Int)
 | _,p,k,0,_,h,_,_,_=>by omega
 | [],p,k,fuel+1,e,h,h2,_,h3=>by
  simp only [vP,List.append_nil] at e
  subst e
  simp only [Q8,rE]
  rw [bB,Q5]
  unfold w9
  simp
 | q::r,p,k,fuel+1,e,h,h2,hq,h3=>by
  simp only [Z9,Ze,Zf] at h h2 h3
  have hg:l[p.length]? = some (mM k q.length):=by rw [e];simp [vP]
  have au:=(Z0 hg).1
  simp only [Q8,rE,Q3,nn,Q4]
  rw [Z5 (show ((p.length:Nat):Int) < ((l.length:Nat):Int) by omega),Q4,hg,Q9,Sq]
  have h1:=Qv3 (d:=d) q.length (p:=[]) (k:=k) (fuel:=Qd) rfl (by have:=hq q (by simp);rw [Q6];omega) (by have:=hq q (by simp);simp;omega) (by omega)
  rw [show ((([]:List Pk).length:Nat):Int)=0 from rfl,List.nil_append] at h1
  rw [h1,Q9,Z4 (by omega),Q5,aN (by omega)]
  have:=Qhl (d:=d) (l:=l) r (p:=p++[mM k q.length]) (k:=k+6*q.length) (fuel:=fuel) (by rw [e];simp [vP]) (by omega) (by simp;omega) (fun x hx=>hq x (by simp [hx])) (by omega)
  rw [Zf] at this
  simp only [Z9,Zb,Ze,Zf] at this ⊢
  rw [show k+6*(q.length+r.flatten.length)=k+6*q.length+6*r.flatten.length by omega]
  exact this
def AK (r:Rg):Prop:=AV r.1/\(r.2.1.1.length<=1048576/\r.2.1.2.length<=1048576)/\r.2.2.1.length<=1000/\∀ q∈r.2.2.1,q.length<=1000
theorem AK.l {r:Rg} (h:AK r):Lx r/\r.2.2.1.flatten.length<=1000000:=by
 obtain ⟨h1,⟨h2,h3⟩,h4,h5⟩:=h
 have:=OO h5
 exact ⟨⟨h1,h2,h3,by omega,fun q hq=>by have:=h5 q hq;omega⟩,by omega⟩
def Kk (r:Rg):Rg:=(UY 1 r.1,mL (BD 1 r.1) r.2.1,vP (Iz (BD 1 r.1) r.2.1) r.2.2.1,r.2.2.2)
def wJ (r:Rg):Nat:=Iz (BD 1 r.1) r.2.1+6*r.2.2.1.flatten.length
theorem Qpq {d:Nat} {r:Rg} (h:AK r):g19 (d+3) (Kk r) ((1:Nat):Int)=some ((wJ r:Nat):Int):=by
 obtain ⟨h1,⟨h2,h3⟩,h4,h5⟩:=h
 have hf:=OO h5
 have hL:=N6 (k:=1) h1
 rw [e19]
 unfold Kk
 simp only []
 rw [Qhd h1 (by omega),Q9,Z4 (by omega),Q5,Qhe h2 h3 (by omega),Q9,Z4 (by omega),Q5,e55]
 have:=Qhl (d:=d) r.2.2.1 (p:=[]) (k:=Iz (BD 1 r.1) r.2.1) (fuel:=Qd) rfl (by rw [Q6];omega) (by simp;omega) (fun q hq=>by have:=h5 q hq;omega) (by unfold Iz;omega)
 rw [show ((([]:List (List Pk)).length:Nat):Int)=0 from rfl,List.nil_append] at this
 rw [this,Q9,Z4 (by omega),Q5]
 rfl
end Go.Proofs.YtcoimfbmgjhcjaaGreatDoor
