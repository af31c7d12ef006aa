/-
  Configurations by value. And what stood behind it in 5 texts.
  Conditions: said at the theorems.
-/
import Derived.Test.YtcoimfbmgjhcjaaGreatDoorK15
set_option linter.all false
namespace Go.Proofs.YtcoimfbmgjhcjaaGreatDoor
open Go.Ev Go.Pv
instance aad:DecidableEq (Int×Int×Int×Int):=inferInstance
theorem Qur {p:aC->Bool}:∀ {l:List aC},(∀ y∈l,p y=true)->l.takeWhile p=l
 | [],_=>rfl
 | z::l,h=>by rw [List.takeWhile_cons,if_pos (h z (by simp)),Qur (fun y hy=>h y (by simp [hy]))]
def rY (l:List aC) (x:aC):List aC:=(l.takeWhile fun y=>decide (y.1 < x.1))++x::l.dropWhile fun y=>decide (y.1 < x.1)
def Df (l:List aC):List aC:=cE (fun x _ t=>rY t x) l 0 []
theorem Qhc {l:List aC} {x:aC}:(rY l x).Perm (x::l):=by
 unfold rY
 refine List.perm_middle.trans (List.Perm.cons x ?_)
 rw [List.takeWhile_append_dropWhile]
theorem Qsk {l:List aC} {x:aC}:(rY l x).length=l.length+1:=by rw [Qhc.length_eq];rfl
theorem Q9v {x:aC}:∀ {l:List aC},di cu l->∀ y∈l.dropWhile (fun y=>decide (y.1 < x.1)),x.1<=y.1
 | [],_,y,hy=>by simp at hy
 | z::l,h,y,hy=>by
  rw [List.dropWhile_cons] at hy
  have h':=List.pairwise_cons.1 h
  by_cases hz:z.1 < x.1
  .rw [if_pos (by simpa using hz)] at hy
   exact Q9v h'.2 y hy
  .rw [if_neg (by simpa using hz)] at hy
   rcases Z2 hy with rfl | hy
   .omega
   .have:=h'.1 y hy;unfold cu at this;omega
theorem Q9w {x:aC}:∀ {l:List aC},∀ y∈l.takeWhile (fun y=>decide (y.1 < x.1)),y.1 < x.1
 | [],y,hy=>by simp at hy
 | z::l,y,hy=>by
  rw [List.takeWhile_cons] at hy
  by_cases hz:z.1 < x.1
  .rw [if_pos (by simpa using hz)] at hy
   rcases Z2 hy with rfl | hy
   .exact hz
   .exact Q9w y hy
  .rw [if_neg (by simpa using hz)] at hy;simp at hy
theorem Qsl {l:List aC} {x:aC} (h:di cu l):di cu (rY l x):=by
 have hl:di cu (l.takeWhile (fun y=>decide (y.1 < x.1))++l.dropWhile (fun y=>decide (y.1 < x.1))):=by rw [List.takeWhile_append_dropWhile];exact h
 unfold rY di
 unfold di at hl
 rw [List.pairwise_append] at hl ⊢
 refine ⟨hl.1,List.pairwise_cons.2 ⟨fun y hy=>Q9v h y hy,hl.2.1⟩,fun a ha b hb=>?_⟩
 rcases Z2 hb with rfl | hb
 .have:=Q9w a ha;unfold cu;omega
 .exact hl.2.2 a ha b hb
theorem UU:∀ (l:List aC) (i:Nat) (t:List aC),di cu t->di cu (cE (fun x _ t=>rY t x) l i t)/\(cE (fun x _ t=>rY t x) l i t).Perm (l++t)
 | [],i,t,h=>⟨h,List.Perm.refl _⟩
 | x::r,i,t,h=>by
  simp only [cE]
  obtain ⟨h1,h2⟩:=UU r (i+1) (rY t x) (Qsl h)
  refine ⟨h1,h2.trans ?_⟩
  exact (List.Perm.append_left r Qhc).trans List.perm_middle
theorem Yv {l:List aC}:di cu (Df l):=(UU l 0 [] List.Pairwise.nil).1
theorem wK {l:List aC}:(Df l).Perm l:=by
 have:=(UU l 0 [] List.Pairwise.nil).2
 rw [List.append_nil] at this;exact this
theorem RB {l:List aC} (h:rm l=true):(l.map (·.1)).Nodup:=by
 rw [List.nodup_iff_pairwise_ne,List.pairwise_map,List.pairwise_iff_getElem]
 intro i j hi hj nh e
 have:=Kh h j i _ _ nh (Z6 hi) (Z6 hj)
 omega
theorem Yw {l:List aC} (h:(l.map (·.1)).Nodup) {a b:aC} (ha:a∈l) (hb:b∈l) (e:a.1=b.1):a=b:=by
 obtain ⟨i,hi⟩:=List.getElem?_of_mem ha
 obtain ⟨j,hj⟩:=List.getElem?_of_mem hb
 obtain ⟨hi1,hi2⟩:=Z0 hi
 obtain ⟨Ur,uH⟩:=Z0 hj
 have:=(List.getElem_inj (h₀:=show i < (l.map (·.1)).length by simpa using hi1) (h₁:=show j < (l.map (·.1)).length by simpa using Ur) h).1 (by simp [hi2,uH,e])
 subst this
 rw [<- hi2,<- uH]
theorem Qz6 {l S:List aC} (h:cS cu l S) (hd:(l.map (·.1)).Nodup):S=Df l:=by
 refine List.Perm.eq_of_pairwise (le:=fun a b=>cu a<=cu b) (fun a b ha hb h1 h2=>?_) h.vQ Yv (h.perm.trans wK.symm)
 unfold cu at h1 h2
 exact Yw hd (h.perm.mem_iff.1 ha) (wK.mem_iff.1 hb) (by omega)
theorem RE {c:Cf} {l:List aC} (h:gb c=true) (hp:c.2.1.Perm l):(l.map (·.1)).Nodup:=by
 have hc:=(q_ h).cl
 unfold kC at hc
 simp only [Z8] at hc
 exact (hp.map _).nodup_iff.1 (RB hc.2.1)
def Bz (x:Ld):Int:=if 0<=x.2.2.2.2.2.2.2.2/\x.2.2.2.2.2.2.2.2 < ((x.2.1.length:Nat):Int) then (aU x.2.1 x.2.2.2.2.2.2.2.2).1 else 0
def dm (x:Ld):Cf:=(x.1,Df x.2.1,x.2.2.2.2.2.2.1,Bz x)
theorem Qz7 {x:Ld} {c:Cf} (h1:c.1=x.1) (h2:cS cu x.2.1 c.2.1) (h3:c.2.2.1=x.2.2.2.2.2.2.1) (h4:c.2.2.2=Bz x):gb c=gb (dm x)/\(gb (dm x)=true->c=dm x):=by
 obtain ⟨c1,c2,c3,c4⟩:=c
 simp only at h1 h2 h3 h4
 subst h1 h3 h4
 by_cases hd:(x.2.1.map (·.1)).Nodup
 .have e:=Qz6 h2 hd
  subst e
  exact ⟨rfl,fun _=>rfl⟩
 .have e1:gb (x.1,c2,x.2.2.2.2.2.2.1,Bz x)=false:=Bool.eq_false_iff.2 fun h=>hd (RE h h2.perm)
  have e2:gb (dm x)=false:=Bool.eq_false_iff.2 fun h=>hd (RE h wK)
  exact ⟨by rw [e1,e2],fun h=>by rw [e2] at h;simp at h⟩
theorem UW {d:Nat} {l:List aC} {b:Bool} (hl:l.length<=1000000):Ok (BO (d+25) l b) fun r=>cS cu l r:=by
 rw [TG]
 exact Ok.bind (Qpd hl) fun r hr=>Ok.some hr
theorem Qlo {d:Nat} {x:Ld} (hl:x.2.1.length<=1000) (hf:x.2.2.2.2.2.2.1.length<=1000):Ok (KM (d+26) x) fun c=>c.1=x.1/\cS cu x.2.1 c.2.1/\c.2.2.1=x.2.2.2.2.2.2.1/\c.2.2.2=Bz x:=by
 rw [e60,Qsf hl,Q9,Qli (by omega),Q9]
 unfold yG Bz
 by_cases h0:x.2.2.2.2.2.2.2.2>=0
 .rw [Z5 h0,Q4]
  by_cases h1:x.2.2.2.2.2.2.2.2 < ((x.2.1.length:Nat):Int)
  .rw [Z5 h1,Q4,Q4,Gx h0 h1,Q9,if_pos ⟨h0,h1⟩]
   exact Ok.bind (UW (by omega)) fun r hr=>Ok.some ⟨rfl,hr,rfl,rfl⟩
  .rw [Z4 h1,Q5,if_neg (fun h=>h1 h.2)]
   exact Ok.bind (UW (by omega)) fun r hr=>Ok.some ⟨rfl,hr,rfl,rfl⟩
 .rw [Z4 h0,Q5,Q5,if_neg (fun h=>h0 h.1)]
  exact Ok.bind (UW (by omega)) fun r hr=>Ok.some ⟨rfl,hr,rfl,rfl⟩
theorem Qwe {d:Nat} {l:List aC} {x:aC} (hl:l.length<=10000):BH (d+1) l x=some (rY l x):=by
 rw [SK]
 have fin:kU d l x (((l.takeWhile fun y=>decide (y.1 < x.1)).length:Nat):Int)=some (rY l x):=by
  have hle:(l.takeWhile fun y=>decide (y.1 < x.1)).length<=l.length:=by
   have:=congrArg List.length (List.takeWhile_append_dropWhile (p:=fun y:aC=>decide (y.1 < x.1)) (l:=l))
   rw [Zf] at this;omega
  have ht:l.take (l.takeWhile fun y=>decide (y.1 < x.1)).length=l.takeWhile fun y=>decide (y.1 < x.1):=by
   conv=>lhs;arg 2;rw [<- List.takeWhile_append_dropWhile (p:=fun y:aC=>decide (y.1 < x.1)) (l:=l)]
   rw [List.take_left]
  have hd:l.drop (l.takeWhile fun y=>decide (y.1 < x.1)).length=l.dropWhile fun y=>decide (y.1 < x.1):=by
   conv=>lhs;arg 2;rw [<- List.takeWhile_append_dropWhile (p:=fun y:aC=>decide (y.1 < x.1)) (l:=l)]
   rw [List.drop_left]
  unfold kU
  simp only [nn,Q3,Q4]
  rw [K5 hle,Q4,Q4,room (by simp;omega),Q4,room (by simp;omega),Q4,room (by simp;omega),Q4,ht,hd]
  unfold rY
  simp
 have key:∀ (B A:List aC) (fuel:Nat),l=A++B->(∀ y∈A,y.1 < x.1)->B.length < fuel->Q8 (kV d l x (kU d l x)) fuel ((A.length:Nat):Int)=some (rY l x):=by
  intro B
  induction B with
  | nil =>
   intro A fuel e hA hf
   obtain ⟨g,rfl⟩:∃ g,fuel=g+1:=⟨fuel - 1,by omega⟩
   rw [List.append_nil] at e
   have ht:(l.takeWhile fun y=>decide (y.1 < x.1))=A:=by rw [e];exact Qur (fun y hy=>by simpa using hA y hy)
   simp only [Q8,kV]
   rw [show (l.length:Int)=((A.length:Nat):Int) by rw [e],bB,Q5]
   rw [ht] at fin;exact fin
  | cons z B ih =>
   intro A fuel e hA hf
   obtain ⟨g,rfl⟩:∃ g,fuel=g+1:=⟨fuel - 1,by omega⟩
   have au:A.length < l.length:=by rw [e];simp
   have hg:l[A.length]? = some z:=by rw [e];simp
   simp only [Q8,kV]
   rw [Z5 (show ((A.length:Nat):Int) < ((l.length:Nat):Int) by omega),Q4,nn,Q4,Q3,hg,Q9]
   by_cases hz:z.1 < x.1
   .rw [Z5 hz,Q4,aN (by omega)]
    have:=ih (A++[z]) g (by rw [e];simp) (fun y hy=>by
     rcases List.mem_append.1 hy with h | h
     .exact hA y h
     .simp at h;subst h;exact hz) (by simpa using hf)
    rw [Zf] at this
    exact this
   .rw [Z4 hz,Q5]
    have ht:(l.takeWhile fun y=>decide (y.1 < x.1))=A:=by
     rw [e,List.takeWhile_append_of_pos (fun y hy=>by simpa using hA y hy),List.takeWhile_cons,if_neg (by simpa using hz),List.append_nil]
    rw [ht] at fin;exact fin
 exact key l [] Qd rfl (by simp) (by rw [Q6];omega)
theorem YN {d:Nat} {x:Ld} (hl:x.2.1.length<=1000) (hf:x.2.2.2.2.2.2.1.length<=1000):N9 (d+2) x=some (dm x):=by
 rw [e57,room (by simp;omega),Q4,List.nil_append]
 refine (Qb (fun (t:List aC) (i:Int)=>(i,((x.1,t,x.2.2.2.2.2.2.1,0):Cf))) x.2.1 (fun y _ t k=>Q1 (BH (d+1) t y) fun r=>k r) (fun t=>xE (d+1) x x.1 0 t x.2.2.2.2.2.2.1) ?_ ?_ (by rw [Q6];omega) []).trans ?_
 .intro ag t i y hx
  have hi:=(Z0 hx).1
  simp only [xF,bW hx,nn,Q3,hx,Q9,Q4]
  rw [aN (by omega)]
 .intro ag t;simp only [xF,bB,Q5]
 .rw [UL (f:=fun y _ t=>rY t y) (fun k t=>t.length=k) x.2.1 0 [] rfl (fun j y t k hy ht=>by
   have hj:=(Z0 hy).1
   rw [Qwe (by omega),Q9]
   exact ⟨rfl,by rw [Qsk];omega⟩)]
  unfold xE
  rw [vL,Q9]
  show _=some (x.1,Df x.2.1,x.2.2.2.2.2.2.1,Bz x)
  unfold Bz
  rw [wr (by omega) (by omega)]
  by_cases h:0<=x.2.2.2.2.2.2.2.2/\x.2.2.2.2.2.2.2.2 < ((x.2.1.length:Nat):Int)
  .rw [if_pos h,Z5 (show 0<=x.2.2.2.2.2.2.2.2/\x.2.2.2.2.2.2.2.2<=((x.2.1.length:Nat):Int) - 1 by omega),Q4,Z5 h.1,Q4,Gx h.1 h.2,Q9]
   rfl
  .rw [if_neg h,Z4 (show ¬ (0<=x.2.2.2.2.2.2.2.2/\x.2.2.2.2.2.2.2.2<=((x.2.1.length:Nat):Int) - 1) by omega),Q5]
   rfl
theorem IX {α:Type} [DecidableEq α]:∀ {a b:List α} {i:Nat} {c:List α},i=c.length->a.length=b.length->eJ (fun x j=>decide ((c++b)[j]? = some x)) a i=decide (a=b)
 | [],[],i,c,_,_=>by simp [eJ]
 | x::a,y::b,i,c,hi,h=>by
  subst hi
  have h1:(c++y::b)[c.length]? = some y:=by simp
  have ih:=IX (a:=a) (b:=b) (i:=c.length+1) (c:=c++[y]) (by simp) (by simpa using h)
  rw [show c++[y]++b=c++y::b by simp] at ih
  simp only [eJ]
  rw [ih,h1]
  by_cases gE:x=y
  .subst gE;simp
  .rw [Z4 (show ¬ some y=some x by simp;exact fun e=>gE e.symm),Bool.false_and,Z4 (by simp [gE])]
 | [],_::_,_,_,_,h=>by simp at h
 | _::_,[],_,_,_,h=>by simp at h
theorem Lp {d:Nat} {a b:List Int} (hl:a.length < 4000000):qm (d+1) a b=some (decide (a=b)):=by
 rw [T0]
 by_cases h:a.length=b.length
 case neg=>rw [show ((((a.length:Nat):Int)) != ((b.length:Nat):Int))=true by simp;omega,Q4,Z4 (fun e=>h (by rw [e]))]
 rw [show ((((a.length:Nat):Int)) != ((b.length:Nat):Int))=false by simp;omega,Q5]
 refine (Qb (fun (t:Bool) (i:Int)=>(t,i)) a (fun x i t k=>aa (decide (([]++b)[i]? = some x)) (k t) (some false)) (fun _=>some true) ?_ ?_ (by rw [Q6];omega) false).trans ?_
 .intro ag t i x hx;have hi:=(Z0 hx).1;simp only [ql,bW hx,nn,Q3,hx,Q9,Q4];rw [aN (by omega)]
  have hb:i < b.length:=by omega
  rw [List.nil_append,Z6 hb,Q9]
  by_cases gE:x=b[i]
  .rw [show (x != b[i])=false by simp [gE],Q5,Z5 (by rw [gE]),Q4]
  .rw [show (x != b[i])=true by simp [gE],Q4,Z4 (show ¬ some b[i]=some x by simp;exact fun e=>gE e.symm),Q5]
 .intro ag t;simp only [ql,bB,Q5];rfl
 .rw [qp,IX (i:=0) (c:=[]) rfl h];cases decide (a=b)<;>rfl
theorem Lq {d:Nat} {a b:List Int} (hl:a.length < 4000000):pg (d+1) a b=some (decide (a=b)):=by
 rw [SO]
 by_cases h:a.length=b.length
 case neg=>rw [show ((((a.length:Nat):Int)) != ((b.length:Nat):Int))=true by simp;omega,Q4,Z4 (fun e=>h (by rw [e]))]
 rw [show ((((a.length:Nat):Int)) != ((b.length:Nat):Int))=false by simp;omega,Q5]
 refine (Qb (fun (t:Bool) (i:Int)=>(t,i)) a (fun x i t k=>aa (decide (([]++b)[i]? = some x)) (k t) (some false)) (fun _=>some true) ?_ ?_ (by rw [Q6];omega) false).trans ?_
 .intro ag t i x hx;have hi:=(Z0 hx).1;simp only [pe,bW hx,nn,Q3,hx,Q9,Q4];rw [aN (by omega)]
  have hb:i < b.length:=by omega
  rw [List.nil_append,Z6 hb,Q9]
  by_cases gE:x=b[i]
  .rw [show (x != b[i])=false by simp [gE],Q5,Z5 (by rw [gE]),Q4]
  .rw [show (x != b[i])=true by simp [gE],Q4,Z4 (show ¬ some b[i]=some x by simp;exact fun e=>gE e.symm),Q5]
 .intro ag t;simp only [pe,bB,Q5];rfl
 .rw [qp,IX (i:=0) (c:=[]) rfl h];cases decide (a=b)<;>rfl
theorem Qut {x y:aC}:((x.1==y.1)&&((x.2.1==y.2.1)&&((x.2.2.1==y.2.2.1)&&((x.2.2.2.1==y.2.2.2.1)&&((x.2.2.2.2.1==y.2.2.2.2.1)&&((x.2.2.2.2.2.1==y.2.2.2.2.2.1)&&((x.2.2.2.2.2.2.1==y.2.2.2.2.2.2.1)&&((x.2.2.2.2.2.2.2==y.2.2.2.2.2.2.2)&&true))))))))=decide (x=y):=by
 obtain ⟨x1,x2,x3,x4,x5,x6,x7,x8⟩:=x
 obtain ⟨y1,y2,y3,y4,y5,y6,y7,y8⟩:=y
 rw [Bool.eq_iff_iff];simp
theorem Qz8 {x y:dU}:((x.1==y.1)&&((x.2.1==y.2.1)&&((x.2.2.1==y.2.2.1)&&((x.2.2.2.1==y.2.2.2.1)&&((x.2.2.2.2==y.2.2.2.2)&&true)))))=decide (x=y):=by
 obtain ⟨x1,x2,x3,x4,x5⟩:=x
 obtain ⟨y1,y2,y3,y4,y5⟩:=y
 rw [Bool.eq_iff_iff];simp
theorem UX {d:Nat} {a b:List aC} (hl:a.length < 4000000):Gn (d+1) a b=some (decide (a=b)):=by
 rw [TZ]
 by_cases h:a.length=b.length
 case neg=>rw [show ((((a.length:Nat):Int)) != ((b.length:Nat):Int))=true by simp;omega,Q4,Z4 (fun e=>h (by rw [e]))]
 rw [show ((((a.length:Nat):Int)) != ((b.length:Nat):Int))=false by simp;omega,Q5]
 refine (Qb (fun (t:Bool) (i:Int)=>(t,i)) a (fun x i t k=>aa (decide (([]++b)[i]? = some x)) (k t) (some false)) (fun _=>some true) ?_ ?_ (by rw [Q6];omega) false).trans ?_
 .intro ag t i x hx;have hi:=(Z0 hx).1;simp only [qk,bW hx,nn,Q3,hx,Q9,Q4];rw [aN (by omega)]
  have hb:i < b.length:=by omega
  rw [List.nil_append,Z6 hb,Q9,Qut]
  by_cases gE:x=b[i]
  .rw [Z5 gE,Zl,Q5,Z5 (by rw [gE]),Q4]
  .rw [Z4 gE,Bool.not_false,Q4,Z4 (show ¬ some b[i]=some x by simp;exact fun e=>gE e.symm),Q5]
 .intro ag t;simp only [qk,bB,Q5];rfl
 .rw [qp,IX (i:=0) (c:=[]) rfl h];cases decide (a=b)<;>rfl
def Dg (x y:Ld):Bool:=decide (x.2.1=y.2.1)&&(decide (x.2.2.1=y.2.2.1)&&(decide (x.2.2.2.1=y.2.2.2.1)&&(decide (x.2.2.2.2.1=y.2.2.2.2.1)&&(decide (x.2.2.2.2.2.1=y.2.2.2.2.2.1)&&(decide (x.2.2.2.2.2.2.2.1=y.2.2.2.2.2.2.2.1)&&(x.2.2.2.2.2.2.2.2==y.2.2.2.2.2.2.2.2))))))
def eS (x:Ld):Bool:=decide (x.2.1.length<=24/\x.2.2.2.2.2.2.1.length<=16)&&(gb (dm x)&&Dg x (bU (dm x)))
def AN (x:Ld):Prop:=x.1.size < 4000000/\x.2.1.length < 4000000/\x.2.2.1.length < 4000000/\x.2.2.2.1.length < 4000000/\x.2.2.2.2.1.length < 4000000/\x.2.2.2.2.2.1.length < 4000000/\x.2.2.2.2.2.2.1.length < 4000000/\x.2.2.2.2.2.2.2.1.length < 4000000
theorem Qmt {d:Nat} {x:Ld} (h:AN x):T1 (d+27) x=some (eS x):=by
 obtain ⟨z1,z2,z3,z4,z5,z6,z7,z8⟩:=h
 rw [e87]
 unfold yU eS
 by_cases h1:x.2.1.length<=24
 case neg=>rw [Z5 (show ((x.2.1.length:Nat):Int) > 24 by omega),Q4,Q4,Z4 (fun h=>h1 h.1)];rfl
 rw [Z4 (show ¬ ((x.2.1.length:Nat):Int) > 24 by omega),Q5]
 by_cases h2:x.2.2.2.2.2.2.1.length<=16
 case neg=>rw [Z5 (show ((x.2.2.2.2.2.2.1.length:Nat):Int) > 16 by omega),Q4,Z4 (fun h=>h2 h.2)];rfl
 rw [Z4 (show ¬ ((x.2.2.2.2.2.2.1.length:Nat):Int) > 16 by omega),Q5,Z5 ⟨h1,h2⟩,Zg]
 obtain ⟨c,hc,c1,c2,c3,c4⟩:=Qlo (d:=d) (x:=x) (by omega) (by omega)
 obtain ⟨u1,u2⟩:=Qz7 c1 c2 c3 c4
 have fB:=c2.len
 rw [hc,Q9,show d+26=(d+18)+8 by omega,YI (by omega) (by rw [c3];omega),Q9,u1]
 cases hg:gb (dm x) with
 | false=>rfl
 | true =>
  have e:=u2 hg
  subst e
  rw [Zl,Q5,show d+18+8=(d+12)+14 by omega,YC (q_ hg),Q9,Zg]
  unfold Dg
  rw [show d+12+14=(d+25)+1 by omega,UX (by omega),Q9]
  cases decide (x.2.1=(bU (dm x)).2.1) with
  | false=>rfl
  | true =>
  rw [Q4,Lp (by omega),Q9]
  cases decide (x.2.2.1=(bU (dm x)).2.2.1) with
  | false=>rfl
  | true =>
  rw [Q4,Lp (by omega),Q9]
  cases decide (x.2.2.2.1=(bU (dm x)).2.2.2.1) with
  | false=>rfl
  | true =>
  rw [Q4,Lp (by omega),Q9]
  cases decide (x.2.2.2.2.1=(bU (dm x)).2.2.2.2.1) with
  | false=>rfl
  | true =>
  rw [Q4,Lp (by omega),Q9]
  cases decide (x.2.2.2.2.2.1=(bU (dm x)).2.2.2.2.2.1) with
  | false=>rfl
  | true =>
  rw [Q4,Lp (by omega),Q9]
  cases decide (x.2.2.2.2.2.2.2.1=(bU (dm x)).2.2.2.2.2.2.2.1) with
  | false=>rfl
  | true=>rw [Q4];rfl
theorem Qsm {d:Nat} {u y:Ld} (h:AN u) (hn:u.1=y.1) (hf:u.2.2.2.2.2.2.1=y.2.2.2.2.2.2.1):FC (d+2) u y=some (Dg u y):=by
 obtain ⟨z1,z2,z3,z4,z5,z6,z7,z8⟩:=h
 rw [SP,Ow,Z5 (by rw [hn]),Zl,Q5]
 unfold jc Dg
 by_cases hc:u.2.1.length=y.2.1.length
 case neg=>rw [show ((((u.2.1.length:Nat):Int)) != ((y.2.1.length:Nat):Int))=true by simp;omega,Q4,Q4,Z4 (fun e=>hc (by rw [e]))];rfl
 rw [show ((((u.2.1.length:Nat):Int)) != ((y.2.1.length:Nat):Int))=false by simp;omega,Q5,show ((((u.2.2.2.2.2.2.1.length:Nat):Int)) != ((y.2.2.2.2.2.2.1.length:Nat):Int))=false by rw [hf];simp,Q5]
 by_cases hd:u.2.2.2.2.2.2.2.2=y.2.2.2.2.2.2.2.2
 case neg=>rw [show (u.2.2.2.2.2.2.2.2 != y.2.2.2.2.2.2.2.2)=true by simp [hd],Q4,show (u.2.2.2.2.2.2.2.2==y.2.2.2.2.2.2.2.2)=false by simp [hd]];simp
 rw [show (u.2.2.2.2.2.2.2.2 != y.2.2.2.2.2.2.2.2)=false by simp [hd],Q5,show (u.2.2.2.2.2.2.2.2==y.2.2.2.2.2.2.2.2)=true by simp [hd],Bool.and_true]
 refine (Qb (fun (t:Bool) (i:Int)=>(t,i)) u.2.1 (fun z i t k=>aa (decide (([]++y.2.1)[i]? = some z)) (k t) (some false)) (fun t=>pz (d+1) u y t) ?_ ?_ (by rw [Q6];omega) false).trans ?_
 .intro ag t i x hx;have hi:=(Z0 hx).1;simp only [pE,bW hx,nn,Q3,hx,Q9,Q4];rw [aN (by omega)]
  have hb:i < y.2.1.length:=by omega
  rw [List.nil_append,Z6 hb,Q9,Qut]
  by_cases gE:x=y.2.1[i]
  .rw [Z5 gE,Zl,Q5,Z5 (by rw [gE]),Q4]
  .rw [Z4 gE,Bool.not_false,Q4,Z4 (show ¬ some y.2.1[i]=some x by simp;exact fun e=>gE e.symm),Q5]
 .intro ag t;simp only [pE,bB,Q5]
 .rw [qp,IX (i:=0) (c:=[]) rfl hc]
  cases decide (u.2.1=y.2.1) with
  | false=>rfl
  | true =>
  rw [Q4,Zg]
  unfold pz
  have cG:u.2.2.2.2.2.2.1.length=y.2.2.2.2.2.2.1.length:=by rw [hf]
  refine (Qb (fun (t:Bool) (i:Int)=>(t,i)) u.2.2.2.2.2.2.1 (fun z i t k=>aa (decide (([]++y.2.2.2.2.2.2.1)[i]? = some z)) (k t) (some false)) (fun t=>pn (d+1) u y t) ?_ ?_ (by rw [Q6];omega) false).trans ?_
  .intro ag t i x hx;have hi:=(Z0 hx).1;simp only [pq,bW hx,nn,Q3,hx,Q9,Q4];rw [aN (by omega)]
   have hb:i < y.2.2.2.2.2.2.1.length:=by omega
   rw [List.nil_append,Z6 hb,Q9,Qz8]
   by_cases gE:x=y.2.2.2.2.2.2.1[i]
   .rw [Z5 gE,Zl,Q5,Z5 (by rw [gE]),Q4]
   .rw [Z4 gE,Bool.not_false,Q4,Z4 (show ¬ some y.2.2.2.2.2.2.1[i]=some x by simp;exact fun e=>gE e.symm),Q5]
  .intro ag t;simp only [pq,bB,Q5]
  .rw [qp,IX (i:=0) (c:=[]) rfl cG,Z5 hf,Q4]
   unfold pn
   rw [Lq (by omega),Q9]
   cases decide (u.2.2.1=y.2.2.1) with
   | false=>rfl
   | true =>
   rw [Q4,Lq (by omega),Q9]
   cases decide (u.2.2.2.1=y.2.2.2.1) with
   | false=>rfl
   | true =>
   rw [Q4,Lq (by omega),Q9]
   cases decide (u.2.2.2.2.1=y.2.2.2.2.1) with
   | false=>rfl
   | true =>
   rw [Q4,Lq (by omega),Q9]
   cases decide (u.2.2.2.2.2.1=y.2.2.2.2.2.1) with
   | false=>rfl
   | true=>rw [Q4,Lq (by omega),Q9];rfl
theorem Qsn {d:Nat} {x:Ld} (h:AN x):FD (d+11) x=some (eS x):=by
 have h':=h
 obtain ⟨z1,z2,z3,z4,z5,z6,z7,z8⟩:=h
 rw [SQ]
 unfold pG eS
 by_cases h1:x.2.1.length<=24
 case neg=>rw [Z5 (show ((x.2.1.length:Nat):Int) > 24 by omega),Q4,Q4,Z4 (fun h=>h1 h.1)];rfl
 rw [Z4 (show ¬ ((x.2.1.length:Nat):Int) > 24 by omega),Q5]
 by_cases h2:x.2.2.2.2.2.2.1.length<=16
 case neg=>rw [Z5 (show ((x.2.2.2.2.2.2.1.length:Nat):Int) > 16 by omega),Q4,Z4 (fun h=>h2 h.2)];rfl
 rw [Z4 (show ¬ ((x.2.2.2.2.2.2.1.length:Nat):Int) > 16 by omega),Q5,Z5 ⟨h1,h2⟩,Zg]
 rw [show d+10=(d+8)+2 by omega,YN (by omega) (by omega),Q9,show d+8+2=(d+5)+5 by omega,YJ (c:=dm x) z1 (show x.2.2.2.2.2.2.1.length < 4000000 by omega),Q9]
 cases hg:gb (dm x) with
 | false=>rfl
 | true=>rw [Q4,show d+5+5=d+10 by omega,YD (q_ hg),Q9,show d+10=(d+8)+2 by omega,Qsm (y:=bU (dm x)) h' rfl rfl,Q9,Zg]
theorem Lt {α:Type} {l:List α} {z x:α} {k:Nat} (hx:l[k]? = some x):(l.take k++List.replicate (l.length - k) z).set k x=l.take (k+1)++List.replicate (l.length - (k+1)) z:=by
 have hk:=(Z0 hx).1
 have e:=(Z0 hx).2
 have hl:(l.take k).length=k:=by rw [List.length_take];omega
 rw [List.set_append_right _ _ (by omega),hl,Nat.sub_self,show l.length - k=(l.length - (k+1))+1 by omega,List.replicate_succ,List.set_cons_zero,List.take_succ_eq_append_getElem hk,e]
 simp
theorem Qmu {d:Nat} {l:List aC} (hl:l.length<=1048576):Sf (d+2) l=some l:=by
 rw [e41,nn,Q4,Q4,Q3,show (Nat.ble l.length l.length&&Nat.ble (l.length*64) Q7)=true by rw [Z8,Nat.ble_eq,Nat.ble_eq];unfold Q7;omega,Q4]
 refine Ok.val (lW (fun j (s:Int×List aC)=>∃ k:Nat,k+j=l.length/\s.1=(k:Int)/\s.2=l.take k++List.replicate (l.length - k) ((0,0,0,0,0,0,0,0):aC)) ?_ _ l.length _ (by rw [Q6];omega) ⟨0,by omega,rfl,by simp⟩)
 rintro j ⟨n,r⟩ ag ⟨k,hk,h1,h2⟩ eu
 simp only at h1 h2
 subst h1
 have jY:r.length=l.length:=by rw [h2];simp;omega
 simp only [Dq]
 rcases Nat.lt_or_ge k l.length with au | sP
 .have hx:=Z6 au
  rw [bW hx,Q4,nn,Q4,Q3,hx,Q9,e86,Q9,Q4,Qo (by omega),Q4,Z6 (by omega),Q9,aN (by omega)]
  exact eu (j - 1) _ (by omega) ⟨k+1,by omega,rfl,by rw [h2];exact Lt hx⟩
 .have:k=l.length:=by omega
  subst this
  rw [bB,Q5]
  unfold Dp
  exact Ok.some (by rw [h2];simp)
theorem Qjt {d:Nat} {l:List dU} (hl:l.length<=1048576):Se (d+2) l=some l:=by
 rw [e27,nn,Q4,Q4,Q3,show (Nat.ble l.length l.length&&Nat.ble (l.length*40) Q7)=true by rw [Z8,Nat.ble_eq,Nat.ble_eq];unfold Q7;omega,Q4]
 refine Ok.val (lW (fun j (s:Int×List dU)=>∃ k:Nat,k+j=l.length/\s.1=(k:Int)/\s.2=l.take k++List.replicate (l.length - k) ((0,0,0,0,0):dU)) ?_ _ l.length _ (by rw [Q6];omega) ⟨0,by omega,rfl,by simp⟩)
 rintro j ⟨n,r⟩ ag ⟨k,hk,h1,h2⟩ eu
 simp only at h1 h2
 subst h1
 have jY:r.length=l.length:=by rw [h2];simp;omega
 simp only [Dn]
 rcases Nat.lt_or_ge k l.length with au | sP
 .have hx:=Z6 au
  rw [bW hx,Q4,nn,Q4,Q3,hx,Q9,e64,Q9,Q4,Qo (by omega),Q4,Z6 (by omega),Q9,aN (by omega)]
  exact eu (j - 1) _ (by omega) ⟨k+1,by omega,rfl,by rw [h2];exact Lt hx⟩
 .have:k=l.length:=by omega
  subst this
  rw [bB,Q5]
  unfold Dm
  exact Ok.some (by rw [h2];simp)
theorem GL {d:Nat} {l:List Int} (hl:l.length<=1048576):BG (d+1) l=some l:=by
 rw [e84,nn,Q4,Q4,Q3,show (Nat.ble l.length l.length&&Nat.ble (l.length*8) Q7)=true by rw [Z8,Nat.ble_eq,Nat.ble_eq];unfold Q7;omega,Q4]
 refine Ok.val (lW (fun j (s:Int×List Int)=>∃ k:Nat,k+j=l.length/\s.1=(k:Int)/\s.2=l.take k++List.replicate (l.length - k) (0:Int)) ?_ _ l.length _ (by rw [Q6];omega) ⟨0,by omega,rfl,by simp⟩)
 rintro j ⟨n,r⟩ ag ⟨k,hk,h1,h2⟩ eu
 simp only at h1 h2
 subst h1
 have jY:r.length=l.length:=by rw [h2];simp;omega
 simp only [Ds]
 rcases Nat.lt_or_ge k l.length with au | sP
 .have hx:=Z6 au
  rw [bW hx,Q4,nn,Q4,Q3,hx,Q9,Q4,Qo (by omega),Q4,Z6 (by omega),Q9,aN (by omega)]
  exact eu (j - 1) _ (by omega) ⟨k+1,by omega,rfl,by rw [h2];exact Lt hx⟩
 .have:k=l.length:=by omega
  subst this
  rw [bB,Q5]
  unfold Dr
  exact Ok.some (by rw [h2];simp)
def UY (n:Int) (k:Nat) (r:Int):Prop:=r < 0\/(0<=r/\r<=n/\(k:Int)<=n)
theorem Qmv {d:Nat} {l:List aC} {n:Int} (h0:0<=n) (h1:n<=1048576) (hl:l.length<=9223372036854775807):Ok (Sa (d+1) l n) fun r=>UY n l.length r:=by
 rw [e34,wr (by omega) (by omega)]
 by_cases h:n - ((l.length:Nat):Int) < 0
 .rw [Z5 h,Q4];exact Ok.some (Or.inl (by omega))
 .rw [Z4 h,Q5];exact Ok.some (Or.inr ⟨by omega,by omega,by omega⟩)
theorem Qju {d:Nat} {l:List dU} {n:Int} (h0:0<=n) (h1:n<=1048576) (hl:l.length<=9223372036854775807):Ok (R_ (d+1) l n) fun r=>UY n l.length r:=by
 rw [e25,wr (by omega) (by omega)]
 by_cases h:n - ((l.length:Nat):Int) < 0
 .rw [Z5 h,Q4];exact Ok.some (Or.inl (by omega))
 .rw [Z4 h,Q5];exact Ok.some (Or.inr ⟨by omega,by omega,by omega⟩)
theorem GM {d:Nat} {l:List Int} {n:Int} (h0:0<=n) (h1:n<=1048576) (hl:l.length<=9223372036854775807):Ok (BF (d+1) l n) fun r=>UY n l.length r:=by
 rw [e68,wr (by omega) (by omega)]
 by_cases h:n - ((l.length:Nat):Int) < 0
 .rw [Z5 h,Q4];exact Ok.some (Or.inl (by omega))
 .rw [Z4 h,Q5];exact Ok.some (Or.inr ⟨by omega,by omega,by omega⟩)
theorem Qmw {d:Nat} {l:List aC} (hl:l.length<=2000000):Sn (d+2) l l=some true:=by
 rw [e48,bne_self_eq_false,Q5]
 refine (Qb (fun (t:Bool) (i:Int)=>(t,i)) l (fun x i t k=>k t) (Dz (d+1)) ?_ ?_ (by rw [Q6];omega) false).trans ?_
 .intro ag t i x hx;have hi:=(Z0 hx).1;simp only [w7,bW hx,nn,Q3,hx,Q9,Q4]
  rw [Sm]
  simp only [bne_self_eq_false,Q5,Zl,Q9]
  rw [aN (by omega)]
 .intro ag t;simp only [w7,bB,Q5]
 .rw [wQ (f:=fun _ _ t=>t)];rfl
theorem Qjv {d:Nat} {l:List dU} (hl:l.length<=2000000):Sl (d+2) l l=some true:=by
 rw [e29,bne_self_eq_false,Q5]
 refine (Qb (fun (t:Bool) (i:Int)=>(t,i)) l (fun x i t k=>k t) (Dy (d+1)) ?_ ?_ (by rw [Q6];omega) false).trans ?_
 .intro ag t i x hx;have hi:=(Z0 hx).1;simp only [w5,bW hx,nn,Q3,hx,Q9,Q4]
  rw [e67]
  simp only [bne_self_eq_false,Q5,Zl,Q9]
  rw [aN (by omega)]
 .intro ag t;simp only [w5,bB,Q5]
 .rw [wQ (f:=fun _ _ t=>t)];rfl
theorem GN {d:Nat} {l:List Int} (hl:l.length<=2000000):g14 (d+1) l l=some true:=by
 rw [e14,bne_self_eq_false,Q5]
 refine (Qb (fun (t:Bool) (i:Int)=>(t,i)) l (fun x i t k=>k t) (Dx d) ?_ ?_ (by rw [Q6];omega) false).trans ?_
 .intro ag t i x hx;have hi:=(Z0 hx).1;simp only [wZ,bW hx,nn,Q3,hx,Q9,Q4]
  simp only [bne_self_eq_false,Q5]
  rw [aN (by omega)]
 .intro ag t;simp only [wZ,bB,Q5]
 .rw [wQ (f:=fun _ _ t=>t)];rfl
def AJ (x:Ld):Prop:=x.1.size<=1048576/\x.2.1.length<=1048576/\x.2.2.1.length<=1048576/\x.2.2.2.1.length<=1048576/\x.2.2.2.2.1.length<=1048576/\x.2.2.2.2.2.1.length<=1048576/\x.2.2.2.2.2.2.1.length<=1048576/\x.2.2.2.2.2.2.2.1.length<=1048576
theorem Qmx {d:Nat} {x:Ld} (h:AJ x):So (d+3) x x=some true:=by
 obtain ⟨z1,z2,z3,z4,z5,z6,z7,z8⟩:=h
 rw [e45,beq_self_eq_true,Zl,Q5,Qmw (by omega),Q9,Zl,Q5,GN (by omega),Q9,Zl,Q5,GN (by omega),Q9,Zl,Q5,GN (by omega),Q9,Zl,Q5,GN (by omega),Q9,Zl,Q5,Qjv (by omega),Q9,Zl,Q5,GN (by omega),Q9,Zl,Q5,bne_self_eq_false,Q5]
theorem Qmy {d:Nat} {x:Ld} (h:AJ x):Sg (d+3) x=some x:=by
 obtain ⟨z1,z2,z3,z4,z5,z6,z7,z8⟩:=h
 rw [e38,Qmu z2,Q9,GL z3,Q9,GL z4,Q9,GL z5,Q9,GL z6,Q9,Qjt z7,Q9,GL z8,Q9]
def R7 (x:Ld):Prop:=x.1.size<=9223372036854775807/\x.2.1.length<=9223372036854775807/\x.2.2.1.length<=9223372036854775807/\x.2.2.2.1.length<=9223372036854775807/\x.2.2.2.2.1.length<=9223372036854775807/\x.2.2.2.2.2.1.length<=9223372036854775807/\x.2.2.2.2.2.2.1.length<=9223372036854775807/\x.2.2.2.2.2.2.2.1.length<=9223372036854775807
theorem Qmz {d:Nat} {x:Ld} {n:Int} (h0:0<=n) (h1:n<=1048576) (h:R7 x):Ok (Sb (d+2) x n) fun r=>r < 0\/(0<=r/\r<=n/\AJ x):=by
 obtain ⟨z1,z2,z3,z4,z5,z6,z7,z8⟩:=h
 have no:Ok (some (-1:Int)) fun r=>r < 0\/(0<=r/\r<=n/\AJ x):=Ok.some (Or.inl (by omega))
 rw [e31,wr (by omega) (by omega)]
 refine Ok.aa (fun _=>no) (fun hs=>?_)
 simp only [decide_eq_false_iff_not] at hs
 refine Ok.bind (Qmv (by omega) (by omega) z2) fun r3 g3=>?_
 refine Ok.aa (fun _=>no) (fun B3=>?_)
 simp only [decide_eq_false_iff_not] at B3
 have g3:=g3.resolve_left B3
 refine Ok.bind (GM (by omega) (by omega) z3) fun r4 g4=>?_
 refine Ok.aa (fun _=>no) (fun D5=>?_)
 simp only [decide_eq_false_iff_not] at D5
 have g4:=g4.resolve_left D5
 refine Ok.bind (GM (by omega) (by omega) z4) fun r5 g5=>?_
 refine Ok.aa (fun _=>no) (fun Lu=>?_)
 simp only [decide_eq_false_iff_not] at Lu
 have g5:=g5.resolve_left Lu
 refine Ok.bind (GM (by omega) (by omega) z5) fun r6 g6=>?_
 refine Ok.aa (fun _=>no) (fun hs6=>?_)
 simp only [decide_eq_false_iff_not] at hs6
 have g6:=g6.resolve_left hs6
 refine Ok.bind (GM (by omega) (by omega) z6) fun r7 g7=>?_
 refine Ok.aa (fun _=>no) (fun hs7=>?_)
 simp only [decide_eq_false_iff_not] at hs7
 have g7:=g7.resolve_left hs7
 refine Ok.bind (Qju (by omega) (by omega) z7) fun r8 g8=>?_
 refine Ok.aa (fun _=>no) (fun hs8=>?_)
 simp only [decide_eq_false_iff_not] at hs8
 have g8:=g8.resolve_left hs8
 refine Ok.bind (GM (by omega) (by omega) z8) fun r9 g9=>?_
 refine Ok.aa (fun _=>no) (fun hs9=>?_)
 simp only [decide_eq_false_iff_not] at hs9
 have g9:=g9.resolve_left hs9
 exact Ok.some (Or.inr ⟨by omega,by omega,by omega,by omega,by omega,by omega,by omega,by omega,by omega,by omega⟩)
theorem AJ.sz {x:Ld} (h:AJ x):AN x:=by
 obtain ⟨z1,z2,z3,z4,z5,z6,z7,z8⟩:=h
 exact ⟨by omega,by omega,by omega,by omega,by omega,by omega,by omega,by omega⟩
def mC (k:Nat):aC:=((k:Int),((k+1:Nat):Int),((k+1+1:Nat):Int),((k+1+1+1:Nat):Int),((k+1+1+1+1:Nat):Int),((k+1+1+1+1+1:Nat):Int),((k+1+1+1+1+1+1:Nat):Int),((k+1+1+1+1+1+1+1:Nat):Int))
def mF (k:Nat):dU:=((k:Int),((k+1:Nat):Int),((k+1+1:Nat):Int),((k+1+1+1:Nat):Int),((k+1+1+1+1:Nat):Int))
def uK:Nat->Nat->List aC
 | _,0=>[]
 | k,n+1=>mC k::uK (k+1+1+1+1+1+1+1+1) n
def uL:Nat->Nat->List dU
 | _,0=>[]
 | k,n+1=>mF k::uL (k+1+1+1+1+1) n
theorem Fa {α:Type} {p r:List α} {x y:α}:(p++x::r).set p.length y=p++y::r:=by
 rw [List.set_append_right _ _ (Zd _),Nat.sub_self,List.set_cons_zero]
theorem Quu {d:Nat}:∀ (r:List aC) {p:List aC} {k fuel:Nat},r.length < fuel->p.length+r.length<=2000000->k+8*r.length<=1000000000 ->
  Q8 (rS d (zx d)) fuel ((k:Int),((p.length:Nat):Int),p++r)=some (((k+8*r.length:Nat):Int),p++uK k r.length)
 | _,p,k,0,h,_,_=>by omega
 | [],p,k,fuel+1,h,h2,h3=>by
  simp only [Q8,rS]
  rw [List.append_nil,bB,Q5]
  unfold zx
  simp [uK]
 | x::r,p,k,fuel+1,h,h2,h3=>by
  simp only [Z9] at h h2 h3
  have au:p.length < (p++x::r).length:=by simp
  have hg:(p++x::r)[p.length]? = some x:=by simp
  simp only [Q8,rS,Q3,nn,Q4]
  rw [Z5 (show ((p.length:Nat):Int) < (((p++x::r).length:Nat):Int) by omega),Q4,Qo au,Q4,hg,Q9]
  simp only [List.length_set,List.set_set,List.getElem?_set_self au,Q9,Qo au,Q4]
  rw [Fa,aN (by omega),aN (by omega),aN (by omega),aN (by omega),aN (by omega),aN (by omega),aN (by omega),aN (by omega),aN (by omega)]
  have:=Quu (d:=d) r (p:=p++[mC k]) (k:=k+1+1+1+1+1+1+1+1) (fuel:=fuel) (by omega) (by simp;omega) (by omega)
  rw [Zf,show (p++[mC k])++r=p++mC k::r by simp] at this
  simp only [Z9,Zb,uK]
  rw [show k+8*(r.length+1)=k+1+1+1+1+1+1+1+1+8*r.length by omega,show p++mC k::uK (k+1+1+1+1+1+1+1+1) r.length=(p++[mC k])++uK (k+1+1+1+1+1+1+1+1) r.length by simp]
  exact this
theorem Quv {d:Nat} {l:List aC}:∀ (n:Nat) {p:List aC} {k fuel:Nat},l=p++uK k n->n < fuel->p.length+n<=2000000->k+8*n<=1000000000 ->
  Q8 (kO d l (oT d)) fuel ((k:Int),0,((p.length:Nat):Int))=some ((k+8*n:Nat):Int)
 | n,p,k,0,_,h,_,_=>by omega
 | 0,p,k,fuel+1,e,h,h2,h3=>by
  simp only [uK,List.append_nil] at e
  subst e
  simp only [Q8,kO]
  rw [bB,Q5]
  unfold oT
  simp
 | n+1,p,k,fuel+1,e,h,h2,h3=>by
  have hg:l[p.length]? = some (mC k):=by rw [e];simp [uK]
  have au:=(Z0 hg).1
  simp only [Q8,kO,Q3,nn,Q4]
  rw [Z5 (show ((p.length:Nat):Int) < ((l.length:Nat):Int) by omega),Q4,hg]
  simp only [Q9]
  rw [aN (by omega),aN (by omega),aN (by omega),aN (by omega),aN (by omega),aN (by omega),aN (by omega),aN (by omega),aN (by omega)]
  unfold mC
  simp only [bne_self_eq_false,Q5]
  have:=Quv (d:=d) (l:=l) n (p:=p++[mC k]) (k:=k+1+1+1+1+1+1+1+1) (fuel:=fuel) (by rw [e];simp [uK]) (by omega) (by simp;omega) (by omega)
  rw [Zf] at this
  simp only [Z9,Zb] at this
  rw [show k+8*(n+1)=k+1+1+1+1+1+1+1+1+8*n by omega]
  exact this
theorem Quw {d:Nat}:∀ (r:List dU) {p:List dU} {k fuel:Nat},r.length < fuel->p.length+r.length<=2000000->k+5*r.length<=1000000000 ->
  Q8 (rR d (zv d)) fuel ((k:Int),((p.length:Nat):Int),p++r)=some (((k+5*r.length:Nat):Int),p++uL k r.length)
 | _,p,k,0,h,_,_=>by omega
 | [],p,k,fuel+1,h,h2,h3=>by
  simp only [Q8,rR]
  rw [List.append_nil,bB,Q5]
  unfold zv
  simp [uL]
 | x::r,p,k,fuel+1,h,h2,h3=>by
  simp only [Z9] at h h2 h3
  have au:p.length < (p++x::r).length:=by simp
  have hg:(p++x::r)[p.length]? = some x:=by simp
  simp only [Q8,rR,Q3,nn,Q4]
  rw [Z5 (show ((p.length:Nat):Int) < (((p++x::r).length:Nat):Int) by omega),Q4,Qo au,Q4,hg,Q9]
  simp only [List.length_set,List.set_set,List.getElem?_set_self au,Q9,Qo au,Q4]
  rw [Fa,aN (by omega),aN (by omega),aN (by omega),aN (by omega),aN (by omega),aN (by omega)]
  have:=Quw (d:=d) r (p:=p++[mF k]) (k:=k+1+1+1+1+1) (fuel:=fuel) (by omega) (by simp;omega) (by omega)
  rw [Zf,show (p++[mF k])++r=p++mF k::r by simp] at this
  simp only [Z9,Zb,uL]
  rw [show k+5*(r.length+1)=k+1+1+1+1+1+5*r.length by omega,show p++mF k::uL (k+1+1+1+1+1) r.length=(p++[mF k])++uL (k+1+1+1+1+1) r.length by simp]
  exact this
theorem Qux {d:Nat} {l:List dU}:∀ (n:Nat) {p:List dU} {k fuel:Nat},l=p++uL k n->n < fuel->p.length+n<=2000000->k+5*n<=1000000000 ->
  Q8 (kP d l (oU d)) fuel ((k:Int),0,((p.length:Nat):Int))=some ((k+5*n:Nat):Int)
 | n,p,k,0,_,h,_,_=>by omega
 | 0,p,k,fuel+1,e,h,h2,h3=>by
  simp only [uL,List.append_nil] at e
  subst e
  simp only [Q8,kP]
  rw [bB,Q5]
  unfold oU
  simp
 | n+1,p,k,fuel+1,e,h,h2,h3=>by
  have hg:l[p.length]? = some (mF k):=by rw [e];simp [uL]
  have au:=(Z0 hg).1
  simp only [Q8,kP,Q3,nn,Q4]
  rw [Z5 (show ((p.length:Nat):Int) < ((l.length:Nat):Int) by omega),Q4,hg]
  simp only [Q9]
  rw [aN (by omega),aN (by omega),aN (by omega),aN (by omega),aN (by omega),aN (by omega)]
  unfold mF
  simp only [bne_self_eq_false,Q5]
  have:=Qux (d:=d) (l:=l) n (p:=p++[mF k]) (k:=k+1+1+1+1+1) (fuel:=fuel) (by rw [e];simp [uL]) (by omega) (by simp;omega) (by omega)
  rw [Zf] at this
  simp only [Z9,Zb] at this
  rw [show k+5*(n+1)=k+1+1+1+1+1+5*n by omega]
  exact this
def lZ:Nat->Nat->List Int
 | _,0=>[]
 | k,n+1=>(k:Int)::lZ (k+1) n
theorem Quy {d:Nat}:∀ (r:List Int) {p:List Int} {k fuel:Nat},r.length < fuel->p.length+r.length<=2000000->k+r.length<=1000000000 ->
  Q8 (rF d (xe d)) fuel ((k:Int),((p.length:Nat):Int),p++r)=some (((k+r.length:Nat):Int),p++lZ k r.length)
 | _,p,k,0,h,_,_=>by omega
 | [],p,k,fuel+1,h,h2,h3=>by
  simp only [Q8,rF]
  rw [List.append_nil,bB,Q5]
  unfold xe
  simp [lZ]
 | x::r,p,k,fuel+1,h,h2,h3=>by
  simp only [Z9] at h h2 h3
  have au:p.length < (p++x::r).length:=by simp
  have hg:(p++x::r)[p.length]? = some x:=by simp
  simp only [Q8,rF,Q3,nn,Q4]
  rw [Z5 (show ((p.length:Nat):Int) < (((p++x::r).length:Nat):Int) by omega),Q4,Qo au,Q4,hg,Q9]
  rw [Fa,aN (by omega),aN (by omega)]
  have:=Quy (d:=d) r (p:=p++[(k:Int)]) (k:=k+1) (fuel:=fuel) (by omega) (by simp;omega) (by omega)
  rw [Zf,show (p++[(k:Int)])++r=p++(k:Int)::r by simp] at this
  simp only [Z9,Zb,lZ]
  rw [show k+(r.length+1)=k+1+r.length by omega,show p++(k:Int)::lZ (k+1) r.length=(p++[(k:Int)])++lZ (k+1) r.length by simp]
  exact this
theorem Quz {d:Nat} {l:List Int}:∀ (n:Nat) {p:List Int} {k fuel:Nat},l=p++lZ k n->n < fuel->p.length+n<=2000000->k+n<=1000000000 ->
  Q8 (rG d l (xh d)) fuel ((k:Int),0,((p.length:Nat):Int))=some ((k+n:Nat):Int)
 | n,p,k,0,_,h,_,_=>by omega
 | 0,p,k,fuel+1,e,h,h2,h3=>by
  simp only [lZ,List.append_nil] at e
  subst e
  simp only [Q8,rG]
  rw [bB,Q5]
  unfold xh
  simp
 | n+1,p,k,fuel+1,e,h,h2,h3=>by
  have hg:l[p.length]? = some (k:Int):=by rw [e];simp [lZ]
  have au:=(Z0 hg).1
  simp only [Q8,rG,Q3,nn,Q4]
  rw [Z5 (show ((p.length:Nat):Int) < ((l.length:Nat):Int) by omega),Q4,hg]
  simp only [Q9]
  rw [aN (by omega),aN (by omega)]
  simp only [bne_self_eq_false,Q5]
  have:=Quz (d:=d) (l:=l) n (p:=p++[(k:Int)]) (k:=k+1) (fuel:=fuel) (by rw [e];simp [lZ]) (by omega) (by simp;omega) (by omega)
  rw [Zf] at this
  simp only [Z9,Zb] at this
  rw [show k+(n+1)=k+1+n by omega]
  exact this
theorem rE {d k:Nat} {l:List Int} (hl:l.length<=1048576) (hk:k<=100000000):g18 (d+1) l (k:Int)=some (((k+l.length:Nat):Int),lZ k l.length):=by
 rw [e18]
 exact Quy l (p:=[]) (by rw [Q6];omega) (by simp;omega) (by omega)
theorem YR {d k:Nat} {l:List aC} (hl:l.length<=1048576) (hk:k<=100000000):Oo (d+1) l (k:Int)=some (((k+8*l.length:Nat):Int),uK k l.length):=by
 rw [e52]
 exact Quu l (p:=[]) (by rw [Q6];omega) (by simp;omega) (by omega)
theorem YS {d k:Nat} {l:List dU} (hl:l.length<=1048576) (hk:k<=100000000):On (d+1) l (k:Int)=some (((k+5*l.length:Nat):Int),uL k l.length):=by
 rw [e30]
 exact Quw l (p:=[]) (by rw [Q6];omega) (by simp;omega) (by omega)
theorem GO {d k n:Nat} (hl:n<=1048576) (hk:k<=100000000):g20 (d+1) (lZ k n) (k:Int)=some (((k+n:Nat):Int)):=by
 rw [e20]
 exact Quz n (p:=[]) rfl (by rw [Q6];omega) (by simp;omega) (by omega)
theorem Qhd {d k n:Nat} (hl:n<=1048576) (hk:k<=100000000):Fj (d+1) (uK k n) (k:Int)=some (((k+8*n:Nat):Int)):=by
 rw [Su]
 exact Quv n (p:=[]) rfl (by rw [Q6];omega) (by simp;omega) (by omega)
theorem Qez {d k n:Nat} (hl:n<=1048576) (hk:k<=100000000):Fk (d+1) (uL k n) (k:Int)=some (((k+5*n:Nat):Int)):=by
 rw [Sv]
 exact Qux n (p:=[]) rfl (by rw [Q6];omega) (by simp;omega) (by omega)
def Ry (k:Nat) (x:Ld):Ld:=(x.1,uK k x.2.1.length,lZ (k+8*x.2.1.length) x.2.2.1.length,lZ (k+8*x.2.1.length+x.2.2.1.length) x.2.2.2.1.length,lZ (k+8*x.2.1.length+x.2.2.1.length+x.2.2.2.1.length) x.2.2.2.2.1.length,lZ (k+8*x.2.1.length+x.2.2.1.length+x.2.2.2.1.length+x.2.2.2.2.1.length) x.2.2.2.2.2.1.length,uL (k+8*x.2.1.length+x.2.2.1.length+x.2.2.2.1.length+x.2.2.2.2.1.length+x.2.2.2.2.2.1.length) x.2.2.2.2.2.2.1.length,lZ (k+8*x.2.1.length+x.2.2.1.length+x.2.2.2.1.length+x.2.2.2.2.1.length+x.2.2.2.2.2.1.length+5*x.2.2.2.2.2.2.1.length) x.2.2.2.2.2.2.2.1.length,x.2.2.2.2.2.2.2.2)
def By (k:Nat) (x:Ld):Nat:=k+8*x.2.1.length+x.2.2.1.length+x.2.2.2.1.length+x.2.2.2.2.1.length+x.2.2.2.2.2.1.length+5*x.2.2.2.2.2.2.1.length+x.2.2.2.2.2.2.2.1.length
theorem NY {k:Nat} {x:Ld} (h:AJ x):By k x<=k+20000000:=by
 obtain ⟨z1,z2,z3,z4,z5,z6,z7,z8⟩:=h
 unfold By;omega
theorem Qhe {d k:Nat} {x:Ld} (h:AJ x) (hk:k<=10000000):Sw (d+2) (Ry k x) (k:Int)=some ((By k x:Nat):Int):=by
 obtain ⟨z1,z2,z3,z4,z5,z6,z7,z8⟩:=h
 rw [e53]
 unfold Ry
 simp only []
 rw [Qhd (by omega) (by omega),Q9,Z4 (by omega),Q5,GO (by omega) (by omega),Q9,Z4 (by omega),Q5,GO (by omega) (by omega),Q9,Z4 (by omega),Q5,GO (by omega) (by omega),Q9,Z4 (by omega),Q5,GO (by omega) (by omega),Q9,Z4 (by omega),Q5,Qez (by omega) (by omega),Q9,Z4 (by omega),Q5,GO (by omega) (by omega),Q9,Z4 (by omega),Q5]
 rfl
def mG (k:Nat) (t:Tk):Tk:=(lZ k t.1.length,lZ (k+t.1.length) t.2.length)
def Iy (k:Nat) (t:Tk):Nat:=k+t.1.length+t.2.length
theorem Qhf {d k:Nat} {t:Tk} (h1:t.1.length<=1048576) (h2:t.2.length<=1048576) (hk:k<=90000000):Sx (d+2) (mG k t) (k:Int)=some ((Iy k t:Nat):Int):=by
 rw [e54]
 unfold mG
 simp only []
 rw [GO (by omega) (by omega),Q9,Z4 (by omega),Q5,GO (by omega) (by omega),Q9,Z4 (by omega),Q5]
 rfl
theorem Qn0 {d:Nat} {t:Tk} (h1:t.1.length<=2000000) (h2:t.2.length<=2000000):Sp (d+2) t t=some true:=by
 rw [e46,GN h1,Q9,Zl,Q5,GN h2,Q9,Zl,Q5]
theorem Qn1 {d:Nat} {t:Tk} (h1:t.1.length<=1048576) (h2:t.2.length<=1048576):Sh (d+2) t=some t:=by
 rw [e39,GL h1,Q9,GL h2,Q9]
theorem Qn2 {d:Nat} {t:Tk} {n:Int} (h0:0<=n) (h1:n<=1048576) (z1:t.1.length<=9223372036854775807) (z2:t.2.length<=9223372036854775807):Ok (Sc (d+2) t n) fun r=>r < 0\/(0<=r/\r<=n/\t.1.length<=1048576/\t.2.length<=1048576):=by
 have no:Ok (some (-1:Int)) fun r=>r < 0\/(0<=r/\r<=n/\t.1.length<=1048576/\t.2.length<=1048576):=Ok.some (Or.inl (by omega))
 rw [e32]
 refine Ok.bind (GM (by omega) (by omega) z1) fun r3 g3=>?_
 refine Ok.aa (fun _=>no) (fun B3=>?_)
 simp only [decide_eq_false_iff_not] at B3
 have g3:=g3.resolve_left B3
 refine Ok.bind (GM (by omega) (by omega) z2) fun r4 g4=>?_
 refine Ok.aa (fun _=>no) (fun D5=>?_)
 simp only [decide_eq_false_iff_not] at D5
 have g4:=g4.resolve_left D5
 exact Ok.some (Or.inr ⟨by omega,by omega,by omega,by omega⟩)
theorem ni {l:List Int} {i:Nat} {z:Int} (h:i < l.length):l[i]? = some (l.getD i z):=by
 rw [Zr,Z6 h];rfl
def oA (t:Tk) (c:aC) (i:Nat):Bool:=decide (0<=t.1.getD i 0/\t.1.getD i 0<=c.2.2.2.2.1)&&decide (0<=t.2.getD i 0/\t.2.getD i 0<=c.2.2.2.2.2.1)
def AZ (x:Ld) (t:Tk):Bool:=decide (t.1.length=x.2.1.length/\t.2.length=x.2.1.length)&&eJ (oA t) x.2.1 0
theorem Qwf {x:Ld} {t:Tk} (h:AZ x t=true):t.1.length=x.2.1.length/\t.2.length=x.2.1.length:=by
 unfold AZ at h
 simp only [Z8,Zj] at h
 exact h.1
theorem Qf0 {d:Nat} {x:Ld} {t:Tk} (hl:x.2.1.length<=1000):T2 (d+1) x t=some (AZ x t):=by
 rw [e88]
 unfold yX AZ
 by_cases h1:t.1.length=x.2.1.length
 case neg=>rw [show ((((t.1.length:Nat):Int)) != ((x.2.1.length:Nat):Int))=true by simp;omega,Q4,Q4,Z4 (fun h=>h1 h.1)];rfl
 by_cases h2:t.2.length=x.2.1.length
 case neg=>rw [show ((((t.1.length:Nat):Int)) != ((x.2.1.length:Nat):Int))=false by simp;omega,Q5,show ((((t.2.length:Nat):Int)) != ((x.2.1.length:Nat):Int))=true by simp;omega,Q4,Z4 (fun h=>h2 h.2)];rfl
 rw [show ((((t.1.length:Nat):Int)) != ((x.2.1.length:Nat):Int))=false by simp;omega,Q5,show ((((t.2.length:Nat):Int)) != ((x.2.1.length:Nat):Int))=false by simp;omega,Q5,Z5 ⟨h1,h2⟩,Zg]
 refine (Qb (fun (t:Bool) (i:Int)=>(t,i)) x.2.1 (fun c i b k=>aa (oA t c i) (k b) (some false)) (fun _=>some true) ?_ ?_ (by rw [Q6];omega) false).trans ?_
 .intro ag b i c hx
  have hi:=(Z0 hx).1
  simp only [yV,bW hx,nn,Q3,hx,Q9,Q4]
  rw [ni (l:=t.1) (z:=0) (by omega),ni (l:=t.2) (z:=0) (by omega)]
  simp only [Q9]
  unfold nE
  by_cases a1:t.1.getD i 0 < 0
  .rw [Z5 a1,Q4,Q4,show oA t c i=false by unfold oA;rw [Z4 (by omega),Bool.false_and],Q5]
  by_cases a2:t.1.getD i 0 > c.2.2.2.2.1
  .rw [Z4 a1,Q5,Z5 a2,Q4,Q4,show oA t c i=false by unfold oA;rw [Z4 (by omega),Bool.false_and],Q5]
  by_cases a3:t.2.getD i 0 < 0
  .rw [Z4 a1,Q5,Z4 a2,Q5,Z5 a3,Q4,Q4,show oA t c i=false by unfold oA;rw [Bool.and_comm,Z4 (by omega),Bool.false_and],Q5]
  by_cases a4:t.2.getD i 0 > c.2.2.2.2.2.1
  .rw [Z4 a1,Q5,Z4 a2,Q5,Z4 a3,Q5,Z5 a4,Q4,show oA t c i=false by unfold oA;rw [Bool.and_comm,Z4 (by omega),Bool.false_and],Q5]
  .rw [Z4 a1,Q5,Z4 a2,Q5,Z4 a3,Q5,Z4 a4,Q5,show oA t c i=true by unfold oA;rw [Z5 (by omega),Z5 (by omega)];rfl,Q4,aN (by omega)]
 .intro ag t;simp only [yV,bB,Q5];rfl
 .rw [qp];cases eJ (oA t) x.2.1 0<;>rfl
theorem Qn3 {d:Nat} {x:Ld} {t:Tk} (hl:x.2.1.length<=1000):FF (d+2) x t=some (AZ x t):=by
 rw [SS]
 unfold pI AZ
 by_cases h1:t.1.length=x.2.1.length
 case neg=>rw [show ((((t.1.length:Nat):Int)) != ((x.2.1.length:Nat):Int))=true by simp;omega,Q4,Q4,Z4 (fun h=>h1 h.1)];rfl
 by_cases h2:t.2.length=x.2.1.length
 case neg=>rw [show ((((t.1.length:Nat):Int)) != ((x.2.1.length:Nat):Int))=false by simp;omega,Q5,show ((((t.2.length:Nat):Int)) != ((x.2.1.length:Nat):Int))=true by simp;omega,Q4,Z4 (fun h=>h2 h.2)];rfl
 rw [show ((((t.1.length:Nat):Int)) != ((x.2.1.length:Nat):Int))=false by simp;omega,Q5,show ((((t.2.length:Nat):Int)) != ((x.2.1.length:Nat):Int))=false by simp;omega,Q5,Z5 ⟨h1,h2⟩,Zg]
 refine (Qb (fun (t:Bool) (i:Int)=>(t,i)) x.2.1 (fun c i b k=>aa (oA t c i) (k b) (some false)) (fun _=>some true) ?_ ?_ (by rw [Q6];omega) false).trans ?_
 .intro ag b i c hx
  have hi:=(Z0 hx).1
  simp only [pH,bW hx,nn,Q3,hx,Q9,Q4]
  rw [ni (l:=t.1) (z:=0) (by omega),ni (l:=t.2) (z:=0) (by omega),Q9,Q9,vL,Q9,vL,Q9,aN (by omega)]
  unfold oA
  cases decide (0<=t.1.getD i 0/\t.1.getD i 0<=c.2.2.2.2.1) with
  | false=>rfl
  | true=>cases decide (0<=t.2.getD i 0/\t.2.getD i 0<=c.2.2.2.2.2.1)<;>rfl
 .intro ag t;simp only [pH,bB,Q5];rfl
 .rw [qp];cases eJ (oA t) x.2.1 0<;>rfl
theorem Qv0 {x:Ld} (h:eS x=true):x.2.1.length<=24:=by
 unfold eS at h
 simp only [Z8,Zj] at h
 exact h.1.1
theorem Qso {d:Nat} {x:Ld} {t:Tk} (h:AN x):SU (d+12) x t=some (eS x&&AZ x t):=by
 rw [e70,Qsn h,Q9]
 cases hg:eS x with
 | false=>rfl
 | true =>
  have:=Qv0 hg
  rw [Q4,show d+11=d+9+2 by omega,Qn3 (by omega),Q9,Zg]
def bT (F:List Int):List Int:=fL (fun f _=>decide (f < 0)) (fun _ k=>((k:Nat):Int)) F 0
theorem AH {F:List Int}:(bT F).length<=F.length:=Ue _ _
theorem Kc {d:Nat} {x:Ld} (hl:x.2.1.length<=1000) (hE:x.2.2.2.1.length=x.2.1.length):Db (d+1) x=some (bT x.2.2.2.1):=by
 rw [e89]
 refine (Qb (fun (t:List Int) (i:Int)=>(t,i)) x.2.2.2.1 (fun f i t k=>aa (decide (f < 0)) (aa (Nat.ble ((t.length+[((i:Nat):Int)].length)*8) Q7) (k (t++[((i:Nat):Int)])) none) (k t)) (fun t=>some t) ?_ ?_ (by rw [Q6];omega) []).trans ?_
 .intro ag t i f hx
  have hi:=(Z0 hx).1
  simp only [yY,<- hE,bW hx,nn,Q3,hx,Q9,Q4]
  rw [aN (by omega)]
 .intro ag t;simp only [yY,<- hE,bB,Q5];rfl
 .rw [DQ (c:=fun f _=>decide (f < 0)) (e:=fun (_:Int) (k:Nat)=>((k:Nat):Int)) (w:=8) x.2.2.2.1 0 [] (by simp;omega)]
  rfl
theorem Qsp {d k:Nat} {x:Ld} {f:Int} (h:x.2.2.2.1[k]? = some f):FG (d+1) x ((k:Nat):Int)=some (decide (f < 0)):=by
 rw [SV,nn,Q4,Q3,h,Q9]
theorem Iw {d:Nat} {x:Ld} (hl:x.2.1.length<=1000) (hE:x.2.2.2.1.length=x.2.1.length):Dc (d+2) x=some (bT x.2.2.2.1):=by
 rw [e71]
 refine (Qb (fun (t:List Int) (i:Int)=>(t,i)) x.2.2.2.1 (fun f i t k=>aa (decide (f < 0)) (aa (Nat.ble ((t.length+[((i:Nat):Int)].length)*8) Q7) (k (t++[((i:Nat):Int)])) none) (k t)) (fun t=>some t) ?_ ?_ (by rw [Q6];omega) []).trans ?_
 .intro ag t i f hx
  have hi:=(Z0 hx).1
  simp only [xJ,<- hE,bW hx,Q4]
  rw [Qsp hx,Q9,aN (by omega)]
 .intro ag t;simp only [xJ,<- hE,bB,Q5];rfl
 .rw [DQ (c:=fun f _=>decide (f < 0)) (e:=fun (_:Int) (k:Nat)=>((k:Nat):Int)) (w:=8) x.2.2.2.1 0 [] (by simp;omega)]
  rfl
theorem Qn4 {l:List aC} (T:Tr l) {i:Int} (hi:vI l i) (hp:0<=bO l i):pW l (bO l i) < pW l i:=by
 have hv:=GB (l:=l) (i:=i) hp
 obtain ⟨A,B,e⟩:=Uq T _ (bO l i) (Zd _) hv
 rw [IQ T hv] at e
 have hm:i∈(cg l (bO l i)).flatMap (iK l):=List.mem_flatMap.2 ⟨i,(AW T hv).2 ⟨hi,rfl⟩,by rw [IQ T hi];simp⟩
 obtain ⟨m,hm⟩:=List.getElem?_of_mem hm
 have au:=(Z0 hm).1
 have h1:(aG l)[A.length]? = some (bO l i):=by rw [e];simp
 have h2:(aG l)[A.length+1+m]? = some i:=by
  rw [e,List.append_assoc,Zq (by omega),show A.length+1+m - A.length=m+1 by omega,List.cons_append,List.getElem?_cons_succ,List.getElem?_append_left au,hm]
 unfold pW
 rw [qZ (rj T) h1,qZ (rj T) h2]
 omega
structure Lk (x:Ld):Prop where
 eG:x.2.1.length<=24
 pl:x.2.2.1.length=x.2.1.length
 fl:x.2.2.2.1.length=x.2.1.length
 pd:∀ (k:Nat) (p:Int),x.2.2.1[k]? = some p->p < (k:Int)
 bur:∀ c∈x.2.1,c.2.2.2.2.1<=1000000/\c.2.2.2.2.2.1<=1000000
theorem vz {x:Ld} (h:eS x=true):Lk x:=by
 have iw:=Qv0 h
 unfold eS Dg at h
 simp only [Z8,Zj] at h
 obtain ⟨_,hg,s1,s2,s3,_⟩:=h
 have G:=q_ hg
 have T:=G.tr
 have e1:x.2.1.length=(aG (dm x).2.1).length:=by rw [s1];show ((aG (dm x).2.1).map _).length=_;rw [List.length_map]
 refine ⟨iw,?_,?_,?_,?_⟩
 .rw [e1,s2];show ((aG (dm x).2.1).map _).length=_;rw [List.length_map]
 .rw [e1,s3];show ((aG (dm x).2.1).map _).length=_;rw [List.length_map]
 .intro k p hp
  rw [s2] at hp
  have GP:((aG (dm x).2.1).map fun i=>pW (dm x).2.1 (bO (dm x).2.1 i))[k]? = some p:=hp
  rw [List.getElem?_map] at GP
  obtain ⟨i,hi,rfl⟩:=Option.map_eq_some_iff.1 GP
  have hv:=(jz T).1 (Zc hi)
  have hk:pW (dm x).2.1 i=(k:Int):=qZ (rj T) hi
  rcases Int.lt_or_le (bO (dm x).2.1 i) 0 with h0 | h0
  .rw [uI T h0];omega
  .have:=Qn4 T hv h0;omega
 .intro c hc
  have hm:c∈(dm x).2.1:=wK.mem_iff.2 hc
  have:=G.cl
  unfold kC at this
  simp only [Z8] at this
  have:=Z3 this.2.2.2.2.2.2.2.1 c hm
  unfold mM at this
  simp only [Zj] at this
  omega
abbrev Pk:=Int×Int×Int×Int×Int×Int
def IY (n:Int):Bool:=decide (0<=n/\n<=65535)
def jQ (p:Pk):Bool:=decide (1<=p.1/\p.1<=100000/\0<=p.2.1/\p.2.1<=65535/\0<=p.2.2.1/\p.2.2.1<=65535/\0<=p.2.2.2.1/\p.2.2.2.1<=65535/\0<=p.2.2.2.2.1/\p.2.2.2.2.1<=65535/\1<=p.2.2.2.2.2/\p.2.2.2.2.2<=1500)
theorem Qdb {d:Nat} {x:Pk}:Oj (d+2) x=some (jQ x):=by
 rw [e90,KZ,Q9]
 refine (Qb (fun (t:Bool) (i:Int)=>(t,i)) [x.2.1,x.2.2.1,x.2.2.2.1,x.2.2.2.2.1] (fun y _ t k=>aa (IY y) (k t) (some false)) (y_ (d+1) x) ?_ ?_ (by rw [Q6];simp) false).trans ?_
 .intro ag t i y hy
  have hi:i < 4:=by have:=(Z0 hy).1;simpa using this
  have h4:decide ((i:Int) < 4)=true:=by simp;omega
  simp only [DI,h4,nn,Q3,Q4]
  rw [hy,Q9,aN (by omega)]
  unfold IY
  by_cases h1:y < 0
  .rw [Z5 h1,Q4,Z4 (by omega),Q5]
  .rw [Z4 h1,Q5]
   by_cases h2:y > 65535
   .rw [Z5 h2,Q4,Z4 (by omega),Q5]
   .rw [Z4 h2,Q5,Z5 (by omega),Q4]
 .intro ag t;rfl
 .rw [BW (p:=IY)]
  unfold y_
  simp only [uE]
  congr 1
  rw [Bool.eq_iff_iff]
  simp only [List.all_cons,List.all_nil,Bool.and_true,IY,jQ]
  simp
  omega
theorem Qsq {d:Nat} {n:Int}:tH (d+2) n=some (IY n):=by
 rw [SW,vL,Q9];rfl
theorem Qsr {d:Nat} {x:Pk}:SX (d+3) x=some (jQ x):=by
 rw [e73]
 simp only [vL,Qsq,Q9,uE]
 congr 1
 rw [Bool.eq_iff_iff]
 simp [IY,jQ]
 omega
theorem UZ {a b:Nat} (h:a<=b):Nat.ble a b=true:=by rw [Nat.ble_eq];exact h
def Qz9 (l:List Pk):Prop:=∀ p∈l,jQ p=true
def A0 (l:List Pk) (id:Int):Bool:=l.any fun p=>p.1==id
theorem Qhg {β:Type} {id:Int} {yes:Nat->Option β} {fin:Int->Option β} (hy:∀ i j,yes i=yes j):∀ (l:List Pk) (i:Nat) (t:Int),
  d_ (fun (x:Pk) i (t:Int) k=>aa (x.1==id) (yes i) (k t)) fin l i t=if A0 l id then yes 0 else fin t
 | [],i,t=>by simp [d_,A0]
 | x::r,i,t=>by
  simp only [d_]
  cases h:x.1==id with
  | true=>simp only [Q4,A0,List.any_cons,h,Bool.true_or,if_true];exact hy i 0
  | false=>simp only [Q5,A0,List.any_cons,h,Bool.false_or];exact Qhg hy r (i+1) t
theorem Qwg {d:Nat} {l:List Pk} {id:Int} (hl:l.length < 4194304):Gu (d+4) l id=some (A0 l id):=by
 rw [T5]
 refine (Qb (fun (t:Int) (i:Int)=>(t,i)) l (fun (x:Pk) i (t:Int) k=>aa (x.1==id) (some true) (k t)) (fun _=>some false) ?_ ?_ (by rw [Q6];exact hl) 0).trans ?_
 .intro ag t i x hx
  have hi:=(Z0 hx).1
  simp only [dM,bW hx,nn,Q3,hx,Q9,Q4]
  rw [aN (by omega)]
  first | done | rfl | simp
 .intro ag t;simp only [dM,bB,Q5];rfl
 .rw [Qhg (fun _ _=>rfl)];cases A0 l id<;>rfl
def IZ (l:List Pk) (x:Pk) (i:Nat):Bool:=jQ x && !A0 (l.take i) x.1
def Lv (l:List Pk):Bool:=eJ (IZ l) l 0
theorem Qv1 (l:List Pk):∀ (r pre:List Pk),l=pre++r->(eJ (IZ l) r pre.length=true↔(∀ x∈r,jQ x=true)/\(∀ x∈r,∀ y∈pre,y.1≠x.1)/\(r.map fun p=>p.1).Nodup)
 | [],pre,_=>by simp [eJ]
 | x::r,pre,h=>by
  have ih:=Qv1 l r (pre++[x]) (by rw [h];simp)
  simp only [Zf,Z9,Zb,Zo] at ih
  have ht:l.take pre.length=pre:=by rw [h];simp
  simp only [eJ,Z8,ih,IZ,ht,Bool.not_eq_true',List.map_cons,List.nodup_cons,List.mem_cons,forall_eq_or_imp,Zh,List.mem_singleton]
  have hh:A0 pre x.1=false↔∀ y∈pre,y.1≠x.1:=by
   unfold A0;rw [List.any_eq_false];simp
  rw [hh]
  constructor
  .rintro ⟨⟨a,b⟩,c,e,f⟩
   refine ⟨⟨a,c⟩,⟨b,fun z hz y hy=>e z hz y (.inl hy)⟩,fun hm=>?_,f⟩
   obtain ⟨z,hz,hzx⟩:=List.mem_map.1 hm
   exact e z hz x (.inr (.inl rfl)) hzx.symm
  .rintro ⟨⟨a,c⟩,⟨b,e⟩,g,f⟩
   refine ⟨⟨a,b⟩,c,fun z hz y hy=>?_,f⟩
   rcases hy with hy | hy | hy
   .exact e z hz y hy
   .subst hy;exact fun he=>g (List.mem_map.2 ⟨z,hz,he.symm⟩)
   .simp at hy
theorem Qza (l:List Pk):Lv l=true↔Qz9 l/\(l.map fun p=>p.1).Nodup:=by
 have:=Qv1 l l [] rfl
 simp only [Zb,List.not_mem_nil,false_imp_iff,implies_true,true_and] at this
 exact this
theorem Qn5 {d:Nat} {l:List Pk} (hl:l.length < 4194304):T6 (d+5) l=some (Lv l):=by
 rw [e92]
 refine (Qb (fun (t:Bool) (i:Int)=>(t,i)) l (fun x i t k=>aa (IZ l x i) (k t) (some false)) (fun _=>some true) ?_ ?_ (by rw [Q6];exact hl) false).trans ?_
 .intro ag t i x hx
  have hi:=(Z0 hx).1
  simp only [zb,bW hx,nn,Q3,hx,Q9,Q4,Qdb]
  rw [aN (by omega),UZ (show i<=l.length by omega),Q4,Qwg (by simp;omega),Q9]
  unfold IZ
  cases jQ x<;>cases A0 (l.take i) x.1<;>rfl
 .intro ag t;simp only [zb,bB,Q5];rfl
 .rw [qp];unfold Lv;cases eJ (IZ l) l 0<;>rfl
abbrev Rg:=Ld×Tk×List (List Pk)×Int×Int
def Ke (l:List (List Pk)):Prop:=l.length<=1048576/\∀ r∈l,r.length<=1048576
theorem I0 {rows:List (List Pk)} {k:Nat} {row:List Pk} (hx:rows[k]? = some row):(rows.take (k+1)).flatten=(rows.take k).flatten++row:=by
 have hk:=(Z0 hx).1
 have e:=(Z0 hx).2
 rw [List.take_succ_eq_append_getElem hk,List.flatten_append,e]
 simp
theorem U0 {rows:List (List Pk)} (k:Nat):(rows.take k).flatten.length<=rows.flatten.length:=by
 have:rows.flatten=(rows.take k).flatten++(rows.drop k).flatten:=by rw [<- List.flatten_append,List.take_append_drop]
 rw [this,Zf];omega
theorem Qhh {d:Nat} {l:List (List Pk)} {n:Int} (h0:0<=n) (h1:n<=1048576) (hl:l.length<=9223372036854775807) (hr:∀ r∈l,r.length<=9223372036854775807):Ok (Sd (d+2) l n) fun r=>r < 0\/(0<=r/\Ke l/\l.flatten.length<=1048576/\0<=r/\r<=1048576):=by
 rw [e33,wr (by omega) (by omega)]
 by_cases h:n - ((l.length:Nat):Int) < 0
 .rw [Z5 h,Q4];exact Ok.some (Or.inl (by omega))
 rw [Z4 h,Q5]
 refine OG (fun (t:Int×Int) (i:Int)=>(t.1,t.2,i)) l (fun k t=>(0<=t.1/\t.1+(((l.take k).flatten.length:Nat):Int)<=1048576)/\∀ (j:Nat) r,j < k->l[j]? = some r->r.length<=1048576) ?_ ?_ Qd 0 (n - ((l.length:Nat):Int),0) (by rw [Q6];omega) (by omega) ⟨⟨by simp only;omega,by simp only [List.take_zero,List.flatten_nil,Zb];omega⟩,fun j r hj=>absurd hj (by omega)⟩
 .rintro ag ⟨a,b⟩ k row hx ⟨⟨a0,a1⟩,hp⟩ eu
  simp only at a0 a1
  have hk:=(Z0 hx).1
  have cy:=hr row (Zc hx)
  simp only [wS,bW hx,nn,Q3,hx,Q9,Q4]
  rw [e69,wr (by omega) (by omega)]
  by_cases h5:a - ((row.length:Nat):Int) < 0
  .rw [Z5 h5,Q4,Q9,Z5 (show (-1:Int) < 0 by omega),Q4];exact Ok.some (Or.inl (by omega))
  .rw [Z4 h5,Q5,Q9,Z4 h5,Q5,aN (by omega)]
   have h6:(l.take (k+1)).flatten.length=(l.take k).flatten.length+row.length:=by rw [I0 hx,Zf]
   refine eu (a - ((row.length:Nat):Int),b) ⟨⟨by simp only;omega,by simp only;omega⟩,fun j r hj hg=>?_⟩
   by_cases e:j=k
   .subst e;rw [hx] at hg;injection hg with hg;subst hg;omega
   .exact hp j r (by omega) hg
 .rintro ag ⟨a,b⟩ ⟨⟨a0,a1⟩,hp⟩
  simp only at a0 a1
  simp only [wS,bB,Q5]
  rw [List.take_length] at a1
  refine Ok.some (Or.inr ⟨a0,⟨by omega,fun r hr=>?_⟩,by omega,a0,by omega⟩)
  obtain ⟨j,hj⟩:=List.getElem?_of_mem hr
  exact hp j r (Z0 hj).1 hj
def Ix (r:Rg):Prop:=AJ r.1/\r.2.1.1.length<=1048576/\r.2.1.2.length<=1048576/\Ke r.2.2.1
def R9 (r:Rg):Prop:=R7 r.1/\(r.2.1.1.length<=9223372036854775807/\r.2.1.2.length<=9223372036854775807)/\r.2.2.1.length<=9223372036854775807/\∀ q∈r.2.2.1,q.length<=9223372036854775807
theorem Qwh {d:Nat} {r:Rg} (h:R9 r):Ok (g7 (d+3) r 1048576) fun z=>z < 0\/(0<=z/\z<=1048576/\Ix r/\r.2.2.1.flatten.length<=1048576):=by
 obtain ⟨z1,z2,z3,z4⟩:=h
 have no:Ok (some (-1:Int)) fun z=>z < 0\/(0<=z/\z<=1048576/\Ix r/\r.2.2.1.flatten.length<=1048576):=Ok.some (Or.inl (by omega))
 rw [e7]
 refine Ok.bind (Qmz (by omega) (by omega) z1) fun r3 g3=>?_
 refine Ok.aa (fun _=>no) (fun B3=>?_)
 simp only [decide_eq_false_iff_not] at B3
 have g3:=g3.resolve_left B3
 refine Ok.bind (Qn2 (by omega) (by omega) z2.1 z2.2) fun r4 g4=>?_
 refine Ok.aa (fun _=>no) (fun D5=>?_)
 simp only [decide_eq_false_iff_not] at D5
 have g4:=g4.resolve_left D5
 refine Ok.bind (Qhh (by omega) (by omega) z3 z4) fun r5 g5=>?_
 refine Ok.aa (fun _=>no) (fun Lu=>?_)
 simp only [decide_eq_false_iff_not] at Lu
 have g5:=g5.resolve_left Lu
 exact Ok.some (Or.inr ⟨g5.1,g5.2.2.2.2,⟨g3.2.2,g4.2.2.1,g4.2.2.2,g5.2.1⟩,g5.2.2.1⟩)
theorem Qjx {d:Nat} {l:List Pk} (hl:l.length<=1048576):Sj (d+2) l=some l:=by
 rw [e85,nn,Q4,Q4,Q3,show (Nat.ble l.length l.length&&Nat.ble (l.length*48) Q7)=true by rw [Z8,Nat.ble_eq,Nat.ble_eq];unfold Q7;omega,Q4]
 refine Ok.val (lW (fun j (s:Int×List Pk)=>∃ k:Nat,k+j=l.length/\s.1=(k:Int)/\s.2=l.take k++List.replicate (l.length - k) ((0,0,0,0,0,0):Pk)) ?_ _ l.length _ (by rw [Q6];omega) ⟨0,by omega,rfl,by simp⟩)
 rintro j ⟨n,r⟩ ag ⟨k,hk,h1,h2⟩ eu
 simp only at h1 h2
 subst h1
 have jY:r.length=l.length:=by rw [h2];simp;omega
 simp only [Du]
 rcases Nat.lt_or_ge k l.length with au | sP
 .have hx:=Z6 au
  rw [bW hx,Q4,nn,Q4,Q3,hx,Q9,Si,Q9,Q4,Qo (by omega),Q4,Z6 (by omega),Q9,aN (by omega)]
  exact eu (j - 1) _ (by omega) ⟨k+1,by omega,rfl,by rw [h2];exact Lt hx⟩
 .have:k=l.length:=by omega
  subst this
  rw [bB,Q5]
  unfold Dt
  exact Ok.some (by rw [h2];simp)
theorem Qhi {d:Nat} {l:List (List Pk)} (h:Ke l):Sk (d+3) l=some l:=by
 obtain ⟨hl,hr⟩:=h
 rw [e40,nn,Q4,Q4,Q3,show (Nat.ble l.length l.length&&Nat.ble (l.length*24) Q7)=true by rw [Z8,Nat.ble_eq,Nat.ble_eq];unfold Q7;omega,Q4]
 refine Ok.val (lW (fun j (s:Int×List (List Pk))=>∃ k:Nat,k+j=l.length/\s.1=(k:Int)/\s.2=l.take k++List.replicate (l.length - k) ([]:List Pk)) ?_ _ l.length _ (by rw [Q6];omega) ⟨0,by omega,rfl,by simp⟩)
 rintro j ⟨n,r⟩ ag ⟨k,hk,h1,h2⟩ eu
 simp only at h1 h2
 subst h1
 have jY:r.length=l.length:=by rw [h2];simp;omega
 simp only [Dw]
 rcases Nat.lt_or_ge k l.length with au | sP
 .have hx:=Z6 au
  rw [bW hx,Q4,nn,Q4,Q3,hx,Q9,Qjx (hr _ (List.getElem_mem au)),Q9,Q4,Qo (by omega),Q4,Z6 (show k < r.length by omega),Q9,aN (by omega)]
  exact eu (j - 1) _ (by omega) ⟨k+1,by omega,rfl,by rw [h2];exact Lt hx⟩
 .have:k=l.length:=by omega
  subst this
  rw [bB,Q5]
  unfold Dv
  exact Ok.some (by rw [h2];simp)
theorem Qwi {d:Nat} {r:Rg} (h:Ix r):g10 (d+4) r=some r:=by
 obtain ⟨h1,h2,h3,h4⟩:=h
 rw [e10,Qmy h1,Q9,show d+3=d+1+2 by omega,Qn1 h2 h3,Q9,show d+1+2=d+3 by omega,Qhi h4,Q9]
theorem Qjy {d:Nat} {l:List Pk} (hl:l.length<=2000000):Fi (d+2) l l=some true:=by
 rw [Sr,bne_self_eq_false,Q5]
 refine (Qb (fun (t:Bool) (i:Int)=>(t,i)) l (fun x i t k=>k t) (w9 (d+1)) ?_ ?_ (by rw [Q6];omega) false).trans ?_
 .intro ag t i x hx;have hi:=(Z0 hx).1;simp only [oS,bW hx,nn,Q3,hx,Q9,Q4]
  rw [Sq]
  simp only [bne_self_eq_false,Q5,Zl,Q9]
  rw [aN (by omega)]
 .intro ag t;simp only [oS,bB,Q5]
 .rw [wQ (f:=fun _ _ t=>t)];rfl
theorem Qhj {d:Nat} {l:List (List Pk)} (h:Ke l):Ss (d+3) l l=some true:=by
 obtain ⟨hl,hr⟩:=h
 rw [e47,bne_self_eq_false,Q5]
 refine (Qb (fun (t:Bool) (i:Int)=>(t,i)) l (fun x i t k=>k t) (DA (d+2)) ?_ ?_ (by rw [Q6];omega) false).trans ?_
 .intro ag t i x hx;have hi:=(Z0 hx).1;simp only [w_,bW hx,nn,Q3,hx,Q9,Q4]
  have:=hr _ (Zc hx)
  rw [Qjy (by omega),Q9,Zl,Q5,aN (by omega)]
 .intro ag t;simp only [w_,bB,Q5]
 .rw [wQ (f:=fun _ _ t=>t)];rfl
theorem YQ {d:Nat} {r:Rg} (h:Ix r):g13 (d+4) r r=some true:=by
 obtain ⟨h1,h2,h3,h4⟩:=h
 rw [e13,Qmx h1,Q9,Zl,Q5,show d+3=d+1+2 by omega,Qn0 (by omega) (by omega),Q9,Zl,Q5,show d+1+2=d+3 by omega,Qhj h4,Q9,Zl,Q5,bne_self_eq_false,Q5,bne_self_eq_false,Q5]
theorem Qst {d:Nat} {rows:List (List Pk)} (hl:rows.length<=1000) (hs:rows.flatten.length<=100000):T7 (d+2) rows=some rows.flatten:=by
 rw [e93]
 have lp1:∀ (m k fuel:Nat),k+m=rows.length->m < fuel->Q8 (rO d rows (DJ d)) fuel ((rows.take k).flatten,((k:Nat):Int))=some rows.flatten:=by
  intro m
  induction m with
  | zero =>
   intro k fuel e h
   obtain ⟨g,rfl⟩:∃ g,fuel=g+1:=⟨fuel - 1,by omega⟩
   obtain rfl:k=rows.length:=by omega
   simp only [Q8,rO,bB,Q5]
   rw [List.take_length];rfl
  | succ m ih =>
   intro k fuel e h
   obtain ⟨g,rfl⟩:∃ g,fuel=g+1:=⟨fuel - 1,by omega⟩
   have hk:k < rows.length:=by omega
   have hx:=Z6 hk
   have h2:=U0 (rows:=rows) (k+1)
   rw [I0 hx,Zf] at h2
   simp only [Q8,rO,bW hx,nn,Q3,hx,Q9,Q4]
   rw [room (by omega),Q4,aN (by omega),<- I0 hx]
   exact ih (k+1) g (by omega) (by omega)
 have lp2:∀ (m k fuel:Nat),k+m=rows.length->m < fuel->Q8 (lT d rows (DK d)) fuel ((rows.take k).flatten,((k:Nat):Int))=some rows.flatten:=by
  intro m
  induction m with
  | zero =>
   intro k fuel e h
   obtain ⟨g,rfl⟩:∃ g,fuel=g+1:=⟨fuel - 1,by omega⟩
   obtain rfl:k=rows.length:=by omega
   simp only [Q8,lT,bB,Q5]
   rw [List.take_length];rfl
  | succ m ih =>
   intro k fuel e h
   obtain ⟨g,rfl⟩:∃ g,fuel=g+1:=⟨fuel - 1,by omega⟩
   have hk:k < rows.length:=by omega
   have hx:=Z6 hk
   have h2:=U0 (rows:=rows) (k+1)
   rw [I0 hx,Zf] at h2
   simp only [Q8,lT,bW hx,nn,Q3,hx,Q9,Q4]
   rw [room (by omega),Q4,aN (by omega),<- I0 hx]
   exact ih (k+1) g (by omega) (by omega)
 have lp0:∀ (m k fuel:Nat),k+m=rows.length->m < fuel->Q8 (rQ d rows (rP d rows)) fuel ((((rows.take k).flatten.length:Nat):Int),((k:Nat):Int))=rP d rows ((rows.flatten.length:Nat):Int):=by
  intro m
  induction m with
  | zero =>
   intro k fuel e h
   obtain ⟨g,rfl⟩:∃ g,fuel=g+1:=⟨fuel - 1,by omega⟩
   obtain rfl:k=rows.length:=by omega
   simp only [Q8,rQ,bB,Q5]
   rw [List.take_length]
  | succ m ih =>
   intro k fuel e h
   obtain ⟨g,rfl⟩:∃ g,fuel=g+1:=⟨fuel - 1,by omega⟩
   have hk:k < rows.length:=by omega
   have hx:=Z6 hk
   have h2:=U0 (rows:=rows) (k+1)
   have h3:=I0 hx
   have h4:(rows.take (k+1)).flatten.length=(rows.take k).flatten.length+(rows[k]).length:=by rw [h3,Zf]
   simp only [Q8,rQ,bW hx,nn,Q3,hx,Q9,Q4]
   rw [wr (n:=(((rows.take k).flatten.length:Nat):Int)+(((rows[k]).length:Nat):Int)) (by omega) (by omega),Z4 (by omega),Q5,aN (by omega),show (((rows.take k).flatten.length:Nat):Int)+(((rows[k]).length:Nat):Int)=(((rows.take (k+1)).flatten.length:Nat):Int) by omega]
   exact ih (k+1) g (by omega) (by omega)
 refine (lp0 rows.length 0 Qd (by omega) (by rw [Q6];omega)).trans ?_
 unfold rP
 have e0:IntKind.i64.wrap ((0:Int) - ((0:Nat):Int))=0:=by rw [wr (by omega) (by omega)];rfl
 rw [Z4 (by omega),Q5,e0,Int.sub_zero,wr (by omega) (by omega)]
 by_cases h:rows.flatten.length=0
 .rw [Z4 (by omega),Q5]
  exact lp2 rows.length 0 Qd (by omega) (by rw [Q6];omega)
 .rw [Z5 (by omega),Q4,show Nat.ble 0 0=true from rfl,Q4,nn,Zg,Z5 (by unfold Q7;omega),Q4,Q3,List.length_replicate,show Nat.ble (rows.flatten.length*48) Q7=true by rw [Nat.ble_eq];unfold Q7;omega,Q4]
  rw [show decide (0<=((0:Nat):Int))=true from rfl,Q4,show (((0:Nat):Int)).toNat=0 from rfl,show Nat.ble 0 rows.flatten.length=true by rw [Nat.ble_eq];omega,Q4,List.take_zero]
  exact lp1 rows.length 0 Qd (by omega) (by rw [Q6];omega)
def Lw (f:dU) (p:Pk):Bool:=(IntKind.i64.wrap ((BitVec.ofInt IntKind.i64.bits (([p.2.1,p.2.2.1,p.2.2.2.1,p.2.2.2.2.1]:List Int).getD f.2.1.toNat 0) &&& BitVec.ofInt IntKind.i64.bits f.2.2.1).toNat:Int))==f.2.2.2.1
theorem Qwj {d:Nat} {f:dU} {p:Pk} (h:0<=f.2.1/\f.2.1<=3):Gr (d+2) f p=some (Lw f p):=by
 rw [T3,KZ,Q9,Z5 h.1,Q4,ni (l:=[p.2.1,p.2.2.1,p.2.2.2.1,p.2.2.2.2.1]) (z:=0) (by simp only [Z9,Zb];omega),Q9]
 rfl
theorem Qpi {d:Nat} {f:dU} {p:Pk} (h:0<=f.2.1/\f.2.1<=3):FH (d+2) f p=some (Lw f p):=by
 have h4:f.2.1.toNat < ([p.2.1,p.2.2.1,p.2.2.2.1,p.2.2.2.2.1]:List Int).length:=by simp only [Z9,Zb];omega
 rw [SZ,SY,Z5 h.1,Q4,Qo h4,Q4,ni (l:=[p.2.1,p.2.2.1,p.2.2.2.1,p.2.2.2.2.1]) (z:=0) h4,Q9,Q9]
 rfl
structure Lr (x:Ld):Prop where
 fo:∀ f∈x.2.2.2.2.2.2.1,0<=f.2.1/\f.2.1<=3
 tl:x.2.2.2.2.2.2.2.1.length=x.2.2.2.2.2.2.1.length
 f16:x.2.2.2.2.2.2.1.length<=16
 ai:∀ c∈x.2.1,c.2.2.2.2.2.2.2<=60
 rat:∀ c∈x.2.1,1<=c.2.2.1/\c.2.2.1<=100000/\1<=c.2.2.2.1/\c.2.2.2.1<=100000
 l0:∀ c∈x.2.1,0<=c.2.2.2.2.2.2.2
 bul:∀ c∈x.2.1,1500<=c.2.2.2.2.1/\1500<=c.2.2.2.2.2.1/\0<=c.2.2.2.2.2.2.1/\c.2.2.2.2.2.2.1<=7
theorem IA {x:Ld} (h:eS x=true):Lr x:=by
 unfold eS Dg at h
 simp only [Z8,Zj] at h
 obtain ⟨hz,hg,s1,s2,s3,s4,s5,s6,s7⟩:=h
 have G:=q_ hg
 have hc:=G.cl
 unfold kC at hc
 simp only [Z8] at hc
 obtain ⟨_,_,_,_,_,h6,h7,h8,h9⟩:=hc
 have hm:∀ c∈x.2.1,c∈(dm x).2.1:=fun c hc=>wK.mem_iff.2 hc
 refine ⟨fun f hf=>?_,?_,hz.2,fun c hc=>?_,fun c hc=>?_,fun c hc=>?_,fun c hc=>?_⟩
 .have:=(G.Lc f hf).2.2
  unfold zC at this
  simp only [Z8,Zj] at this
  omega
 .rw [s6]
  show (x.2.2.2.2.2.2.1.map _).length=_
  rw [List.length_map]
 .have:=Z3 h9 c (hm c hc)
  unfold nL at this
  split at this
  .simp only [Zj] at this;omega
  .simp only [beq_iff_eq] at this;omega
 .have:=Z3 h6 c (hm c hc)
  unfold lX at this
  simp only [Zj] at this
  omega
 .have:=Z3 h9 c (hm c hc)
  unfold nL at this
  split at this
  .simp only [Zj] at this;omega
  .simp only [beq_iff_eq] at this;omega
 .have:=Z3 h8 c (hm c hc)
  unfold mM at this
  simp only [Zj] at this
  omega
def uM (fs:List dU) (p:Pk):Int:=fm (fun f=>Lw f p) fs 0
theorem Qf1 {d:Nat} {fs:List dU} {p:Pk} (hl:fs.length<=1000) (h:∀ f∈fs,0<=f.2.1/\f.2.1<=3):Gt (d+3) fs p=some (uM fs p):=by
 rw [T4]
 refine (Qb (fun (t:Int) (i:Int)=>(t,i)) fs (fun f i t k=>aa (Lw f p) (some ((i:Nat):Int)) (k t)) (fun _=>some (-1)) ?_ ?_ (by rw [Q6];omega) 0).trans (DP fs 0 _)
 .intro ag t i f hx
  have hi:=(Z0 hx).1
  simp only [qn,bW hx,nn,Q3,hx,Q9,Q4]
  rw [Qwj (h f (Zc hx)),Q9,aN (by omega)]
 .intro ag t;simp only [qn,bB,Q5];rfl
theorem Qpj {d:Nat} {fs:List dU} {p:Pk} (hl:fs.length<=1000) (h:∀ f∈fs,0<=f.2.1/\f.2.1<=3):FJ (d+3) fs p=some (uM fs p):=by
 rw [S0]
 refine (Qb (fun (t:Int) (i:Int)=>(t,i)) fs (fun f i t k=>aa (Lw f p) (some ((i:Nat):Int)) (k t)) (fun _=>some (-1)) ?_ ?_ (by rw [Q6];omega) 0).trans (DP fs 0 _)
 .intro ag t i f hx
  have hi:=(Z0 hx).1
  simp only [pJ,bW hx,nn,Q3,hx,Q9,Q4]
  rw [Qpi (h f (Zc hx)),Q9,aN (by omega)]
 .intro ag t;simp only [pJ,bB,Q5];rfl
def cD (x:Ld) (p:Pk):Int:=if uM x.2.2.2.2.2.2.1 p>=0 then x.2.2.2.2.2.2.2.1.getD (uM x.2.2.2.2.2.2.1 p).toNat 0 else x.2.2.2.2.2.2.2.2
theorem U3 {fs:List dU} {p:Pk} (h:0<=uM fs p):uM fs p < ((fs.length:Nat):Int):=by
 obtain ⟨j,y,h1,h2,h3,_⟩:=IK h
 have:=(Z0 h2).1
 unfold uM at *
 omega
theorem YA {d:Nat} {x:Ld} {p:Pk} (R:Lr x):Ol (d+4) x p=some (cD x p):=by
 have Fe:=R.f16
 rw [e91,Qf1 (by omega) R.fo,Q9]
 unfold cD
 by_cases h:uM x.2.2.2.2.2.2.1 p>=0
 .have:=U3 h
  have:=R.tl
  rw [Z5 h,Q4,Q4,ni (l:=x.2.2.2.2.2.2.2.1) (z:=0) (by omega),Q9,if_pos h]
 .rw [Z4 h,Q5,if_neg h]
theorem YF {d:Nat} {x:Ld} {p:Pk} (R:Lr x):N_ (d+4) x p=some (cD x p):=by
 have Fe:=R.f16
 rw [e74,Qpj (by omega) R.fo,Q9]
 unfold cD
 by_cases h:uM x.2.2.2.2.2.2.1 p>=0
 .have:=U3 h
  have:=R.tl
  rw [Z5 h,Q4,Q4,ni (l:=x.2.2.2.2.2.2.2.1) (z:=0) (by omega),Q9,if_pos h]
 .rw [Z4 h,Q5,if_neg h]
def mD (x:Ld) (w:Int):Int:=(aU x.2.1 w).2.2.2.2.2.2.2
def zI (x:Ld) (w:Int) (row:List Pk):Bool := !decide (((row.length:Nat):Int) > mD x w)&&row.all (fun p=>jQ p&&(cD x p==w))
def OP (r:Rg):Bool:=decide (r.2.2.1.length=(bT r.1.2.2.2.1).length)&&(decide (-1<=r.2.2.2.1/\r.2.2.2.1 < (((bT r.1.2.2.2.1).length:Nat):Int))&&decide (0<=r.2.2.2.2/\r.2.2.2.2<=1000000))
def mH (r:Rg):Bool:=eS r.1&&(AZ r.1 r.2.1&&(OP r&&(eJ (fun w i=>zI r.1 w (r.2.2.1.getD i [])) (bT r.1.2.2.2.1) 0&&Lv r.2.2.1.flatten)))
theorem E_ {F:List Int} {w:Int} (h:w∈bT F):0<=w/\w < ((F.length:Nat):Int):=by
 obtain ⟨j,x,h1,h2,h3⟩:=Uf _ _ h
 have:=(Z0 h1).1
 omega
theorem Rp {l:List (List Pk)} {i:Nat} (h:i < l.length):l[i]? = some (l.getD i []):=by
 rw [Zr,Z6 h];rfl
theorem Qpm {x:Ld} {rows:List (List Pk)} {W:List Int} (R:Lr x) (hW:∀ w∈W,vI x.2.1 w) (hl:rows.length=W.length) (h:eJ (fun w i=>zI x w (rows.getD i [])) W 0=true):(∀ row∈rows,row.length<=60)/\∀ row∈rows,∀ p∈row,jQ p=true:=by
 rw [rU] at h
 have key:∀ row∈rows,row.length<=60/\∀ p∈row,jQ p=true:=by
  intro row hr
  obtain ⟨i,hi⟩:=List.getElem?_of_mem hr
  have au:=(Z0 hi).1
  have hw:=Z6 (l:=W) (i:=i) (by omega)
  have:=h i _ hw
  rw [Zo,Zr,hi] at this
  unfold zI mD at this
  simp only [Option.getD_some,Z8,Bool.not_eq_true',decide_eq_false_iff_not,List.all_eq_true] at this
  have hv:=hW _ (Zc hw)
  have Iv:=R.ai _ (Zc (eZ hv))
  exact ⟨by omega,fun p hp=>(this.2 p hp).1⟩
 exact ⟨fun row hr=>(key row hr).1,fun row hr=>(key row hr).2⟩
theorem NX {B:Nat}:∀ {rows:List (List Pk)},(∀ row∈rows,row.length<=B)->rows.flatten.length<=rows.length*B
 | [],_=>by simp
 | r::rows,h=>by
  have:=NX (B:=B) (rows:=rows) fun row hr=>h row (by simp [hr])
  have:=h r (by simp)
  rw [Ze,Zf,Z9,Nat.add_mul,Nat.one_mul]
  omega
theorem YH {d:Nat} {r:Rg} (h:AN r.1):Om (d+28) r=some (mH r):=by
 rw [e42,Qmt h,Q9]
 unfold mH OP zj
 cases hg:eS r.1 with
 | false=>rfl
 | true =>
  have L:=vz hg
  have R:=IA hg
  have iw:=L.eG
  have hf:=L.fl
  have hv:=AH (F:=r.1.2.2.2.1)
  rw [Zl,Q5,show d+27=d+26+1 by omega,Qf0 (by omega),Q9,Zg]
  cases hb:AZ r.1 r.2.1 with
  | false=>rfl
  | true =>
   rw [Zl,Q5,Kc (by omega) hf,Q9,Zg]
   unfold ke
   by_cases a:r.2.2.1.length=(bT r.1.2.2.2.1).length
   case neg=>rw [show ((((r.2.2.1.length:Nat):Int)) != (((bT r.1.2.2.2.1).length:Nat):Int))=true by simp;omega,Q4,Q4,Z4 a];rfl
   rw [show ((((r.2.2.1.length:Nat):Int)) != (((bT r.1.2.2.2.1).length:Nat):Int))=false by simp;omega,Q5,Z5 a,Zg]
   by_cases a1:r.2.2.2.1 < -1
   .rw [Z5 a1,Q4,Q4,Z4 (show ¬ (-1<=r.2.2.2.1/\r.2.2.2.1 < (((bT r.1.2.2.2.1).length:Nat):Int)) by omega)];rfl
   rw [Z4 a1,Q5]
   by_cases a2:r.2.2.2.1>=(((bT r.1.2.2.2.1).length:Nat):Int)
   .rw [Z5 a2,Q4,Q4,Z4 (show ¬ (-1<=r.2.2.2.1/\r.2.2.2.1 < (((bT r.1.2.2.2.1).length:Nat):Int)) by omega)];rfl
   rw [Z4 a2,Q5,Z5 (show -1<=r.2.2.2.1/\r.2.2.2.1 < (((bT r.1.2.2.2.1).length:Nat):Int) by omega),Zg]
   by_cases a3:r.2.2.2.2 < 0
   .rw [Z5 a3,Q4,Q4,Z4 (show ¬ (0<=r.2.2.2.2/\r.2.2.2.2<=1000000) by omega)];rfl
   rw [Z4 a3,Q5]
   by_cases a4:r.2.2.2.2 > 1000000
   .rw [Z5 a4,Q4,Z4 (show ¬ (0<=r.2.2.2.2/\r.2.2.2.2<=1000000) by omega)];rfl
   rw [Z4 a4,Q5,Z5 (show 0<=r.2.2.2.2/\r.2.2.2.2<=1000000 by omega),Zg]
   have hW:∀ w∈bT r.1.2.2.2.1,vI r.1.2.1 w:=fun w hw=>by obtain ⟨q1,q2⟩:=E_ hw;exact ⟨q1,by omega⟩
   refine (Qb (fun (b:Bool) (i:Int)=>(b,i)) (bT r.1.2.2.2.1) (fun w i b k=>aa (zI r.1 w (r.2.2.1.getD i [])) (k b) (some false)) (fun b=>ze (d+26+1) r b) ?_ ?_ (by rw [Q6];omega) false).trans ?_
   .intro ag b i w hx
    have hi:=(Z0 hx).1
    have gK:=hW w (Zc hx)
    have Iv:=R.ai _ (Zc (eZ gK))
    simp only [zh,bW hx,nn,Q3,hx,Q9,Q4,sU hx]
    rw [Rp (l:=r.2.2.1) (by omega)]
    simp only [Q9]
    rw [Z5 gK.1,Q4,eZ gK,Q9]
    unfold zI mD
    by_cases b1:((((r.2.2.1.getD i []).length:Nat):Int)) > (aU r.1.2.1 w).2.2.2.2.2.2.2
    .rw [Z5 b1,Q4,Zl,Bool.false_and,Q5]
    .rw [Z4 b1,Q5,Bool.not_false,Zg]
     refine (Qb (fun (b:Bool) (j:Int)=>(b,j)) (r.2.2.1.getD i []) (fun p _ b k=>aa (jQ p&&(cD r.1 p==w)) (k b) (some false)) (fun b=>ag (b,((i+1:Nat):Int))) ?_ ?_ (by rw [Q6];omega) b).trans ?_
     .intro U4 b' j p hp
      have hj:=(Z0 hp).1
      simp only [zf,bW hp,nn,Q3,hp,Q9,Q4]
      rw [show d+26+1=d+25+2 by omega,Qdb,Q9,show d+25+2=d+23+4 by omega,YA R,Q9,aN (by omega)]
      cases jQ p with
      | false=>rfl
      | true =>
       rw [Zl,Q5,Zg]
       by_cases e:cD r.1 p=w
       .rw [show (cD r.1 p != w)=false by rw [e];exact bne_self_eq_false _,Q5,show (cD r.1 p==w)=true from beq_iff_eq.2 e,Q4]
       .rw [show (cD r.1 p != w)=true from bne_iff_ne.2 e,Q4,show (cD r.1 p==w)=false from beq_eq_false_iff_ne.2 e,Q5]
     .intro U4 b'
      simp only [zf,bB,Q5]
      unfold DL
      rw [aN (by omega)]
     .rw [BW (p:=fun p=>jQ p&&(cD r.1 p==w))]
   .intro ag t;simp only [zh,bB,Q5]
   .rw [qp]
    cases hk:eJ (fun w i=>zI r.1 w (r.2.2.1.getD i [])) (bT r.1.2.2.2.1) 0 with
    | false=>rfl
    | true =>
     obtain ⟨r1,r2⟩:=Qpm R hW a hk
     have:=NX r1
     rw [Q4,Zg]
     unfold ze
     rw [show d+26+1=d+25+2 by omega,Qst (by omega) (by omega),Q9,show d+25+2=d+22+5 by omega,Qn5 (by omega),Q9]
def uN {α τ:Type} (p:α->Nat->τ->Bool) (f:α->Nat->τ->τ):List α->Nat->τ->Bool
 | [],_,_=>true
 | x::r,i,t=>p x i t&&uN p f r (i+1) (f x i t)
theorem U5 {α τ β:Type} {p:α->Nat->τ->Bool} {f:α->Nat->τ->τ} {step:α->Nat->τ->(τ->Option β)->Option β} {no:Option β} {fin:τ->Option β} (I:Nat->τ->Prop):∀ (l:List α) (i:Nat) (t:τ),I i t->(∀ j x t k,l[j]? = some x->I (i+j) t->step x (i+j) t k=aa (p x (i+j) t) (k (f x (i+j) t)) no/\(p x (i+j) t=true->I (i+j+1) (f x (i+j) t)))->d_ step fin l i t=aa (uN p f l i t) (fin (cE f l i t)) no
 | [],i,t,_,_=>rfl
 | x::r,i,t,hI,h=>by
  simp only [d_,cE,uN]
  obtain ⟨h1,h2⟩:=h 0 x t (fun t'=>d_ step fin r (i+1) t') rfl hI
  rw [Nat.add_zero] at h1 h2
  rw [h1]
  cases hp:p x i t with
  | false=>rfl
  | true =>
   rw [Q4,Zg]
   exact U5 I r (i+1) _ (h2 hp) (fun j y t k hy ht=>by
    have:=h (j+1) y t k (by simpa using hy)
    rw [show i+(j+1)=i+1+j by omega] at this
    exact this ht)
abbrev Bs:=Bool×List Int
def I1 (x:Ld) (w:Int) (p:Pk) (_:Nat) (t:Bs):Bool:=jQ p&&((cD x p==w) && !(t.2.any fun z=>z==p.1))
def D6 (p:Pk) (_:Nat) (t:Bs):Bs:=(t.1,t.2++[p.1])
def I2 (x:Ld) (W:List Int) (row:List Pk) (i:Nat) (t:Bs):Bool := !decide (((row.length:Nat):Int) > mD x (W.getD i 0))&&uN (I1 x (W.getD i 0)) D6 row 0 t
def A3 (row:List Pk) (_:Nat) (t:Bs):Bs:=(t.1,t.2++row.map fun p=>p.1)
theorem Qls:∀ (row:List Pk) (i:Nat) (t:Bs),cE D6 row i t=A3 row 0 t
 | [],i,t=>by simp [cE,A3]
 | p::r,i,t=>by
  simp only [cE]
  rw [Qls r (i+1)]
  simp [A3,D6]
theorem Qv2 {x:Ld} {w:Int}:∀ (row:List Pk) (i:Nat) (t:Bs),uN (I1 x w) D6 row i t=true↔(∀ p∈row,jQ p=true/\cD x p=w)/\(∀ p∈row,p.1∉t.2)/\(row.map fun p=>p.1).Nodup
 | [],i,t=>by simp [uN]
 | p::r,i,t=>by
  simp only [uN,Z8,Qv2 r (i+1),I1,D6,beq_iff_eq,Bool.not_eq_true',List.any_eq_false,List.mem_cons,forall_eq_or_imp,List.map_cons,List.nodup_cons,Zh,List.mem_singleton]
  constructor
  .rintro ⟨⟨a1,a2,a3⟩,b1,b2,b3⟩
   refine ⟨⟨⟨a1,a2⟩,b1⟩,⟨fun hm=>a3 _ hm rfl,fun q hq hm=>b2 q hq (Or.inl hm)⟩,fun hm=>?_,b3⟩
   obtain ⟨q,hq,e⟩:=List.mem_map.1 hm
   exact b2 q hq (Or.inr (Or.inl e))
  .rintro ⟨⟨⟨a1,a2⟩,b1⟩,⟨c1,c2⟩,n1,n2⟩
   refine ⟨⟨a1,a2,fun z hz e=>c1 (e▸hz)⟩,b1,fun q hq hm=>?_,n2⟩
   rcases hm with hm | hm | hm
   .exact c2 q hq hm
   .exact n1 (List.mem_map.2 ⟨q,hq,hm⟩)
   .simp at hm
theorem Qv3 {x:Ld} {W:List Int}:∀ (rows:List (List Pk)) (i:Nat) (t:Bs),uN (I2 x W) A3 rows i t=true↔(∀ j row,rows[j]? = some row->zI x (W.getD (i+j) 0) row=true)/\(∀ p∈rows.flatten,p.1∉t.2)/\(rows.flatten.map fun p=>p.1).Nodup
 | [],i,t=>by simp [uN]
 | row::rows,i,t=>by
  simp only [uN,Z8,Qv3 rows (i+1),I2,Qv2,A3,Ze,Zh,List.map_append,Zn]
  have cy:zI x (W.getD i 0) row=true↔(!decide (((row.length:Nat):Int) > mD x (W.getD i 0)))=true/\∀ p∈row,jQ p=true/\cD x p=W.getD i 0:=by
   unfold zI
   simp only [Z8,List.all_eq_true,beq_iff_eq]
  constructor
  .rintro ⟨⟨a1,a2,a3,a4⟩,b1,b2,b3⟩
   refine ⟨fun j r hj=>?_,fun p hp hm=>?_,a4,b3,fun y hy z hz e=>?_⟩
   .cases j with
    | zero=>simp only [List.getElem?_cons_zero,Option.some.injEq] at hj;subst hj;exact cy.2 ⟨a1,a2⟩
    | succ j=>have:=b1 j r (by simpa using hj);rw [show i+(j+1)=i+1+j by omega];exact this
   .rcases hp with hp | hp
    .exact a3 p hp hm
    .exact b2 p hp (Or.inl hm)
   .obtain ⟨q,hq,rfl⟩:=List.mem_map.1 hz
    exact b2 q hq (Or.inr (e▸hy))
  .rintro ⟨h1,h2,n1,n2,n3⟩
   obtain ⟨a1,a2⟩:=cy.1 (h1 0 row rfl)
   refine ⟨⟨a1,a2,fun p hp=>h2 p (Or.inl hp),n1⟩,fun j r hj=>?_,fun p hp hm=>?_,n2⟩
   .have:=h1 (j+1) r (by simpa using hj);rw [show i+(j+1)=i+1+j by omega] at this;exact this
   .rcases hm with hm | hm
    .exact h2 p (Or.inr hp) hm
    .exact n3 _ hm _ (List.mem_map.2 ⟨p,hp,rfl⟩) rfl
theorem Qwk {x:Ld} {rows:List (List Pk)} {W:List Int} (hl:rows.length=W.length):uN (I2 x W) A3 rows 0 (false,[])=(eJ (fun w i=>zI x w (rows.getD i [])) W 0&&Lv rows.flatten):=by
 rw [Bool.eq_iff_iff,Qv3,Z8,rU,Qza]
 constructor
 .rintro ⟨h1,_,h3⟩
  refine ⟨fun j w hw=>?_,fun p hp=>?_,h3⟩
  .have hj:=(Z0 hw).1
   have:=h1 j _ (Rp (l:=rows) (i:=j) (by omega))
   rw [Zo] at this ⊢
   rw [Zr (l:=W),hw] at this
   exact this
  .obtain ⟨row,hr,hp⟩:=List.mem_flatten.1 hp
   obtain ⟨j,hj⟩:=List.getElem?_of_mem hr
   have:=h1 j _ hj
   unfold zI at this
   simp only [Z8,List.all_eq_true] at this
   exact (this.2 p hp).1
 .rintro ⟨h1,h2,h3⟩
  refine ⟨fun j row hj=>?_,fun p _ hm=>by simp at hm,h3⟩
  have au:=(Z0 hj).1
  have:=h1 j _ (ni (l:=W) (i:=j) (z:=0) (by omega))
  rw [Zo] at this ⊢
  rw [Zr (l:=rows),hj] at this
  exact this
theorem Qsu {d:Nat} {l:List Int} {n:Int} (hl:l.length < 4194304):Oa (d+1) l n=some (l.any fun x=>x==n):=by
 rw [e75]
 refine (Qb (fun (t:Bool) (i:Int)=>(t,i)) l (fun x _ t k=>aa (x==n) (some true) (k t)) (fun _=>some false) ?_ ?_ (by rw [Q6];exact hl) false).trans ?_
 .intro ag t i x hx;have hi:=(Z0 hx).1;simp only [xL,bW hx,nn,Q3,hx,Q9,Q4];rw [aN (by omega)]
 .intro ag t;simp only [xL,bB,Q5];rfl
 .exact Ox l 0 false
theorem U6 {d:Nat} {r:Rg} (R:Lr r.1) {W:List Int} {w:Int} {i:Nat} (hw:W[i]? = some w) (hW:W.length<=1000) {row:List Pk} {k:Bs->Option Bool} (t:Bs) (ht:t.2.length<=10000) (hr:row.length<=60) :
  Q8 (nv (d+4) r W (i:Int) row (fun b _ l=>k (b,l))) Qd (t.1,t.2,0)=aa (uN (I1 r.1 w) D6 row 0 t) (k (A3 row 0 t)) (some false):=by
 refine (Qb (fun (t:Bs) (i:Int)=>(t.1,t.2,i)) row (fun p _ t k=>aa (jQ p) (aa (cD r.1 p==w) (Q1 (Oa (d+4) t.2 p.1) fun h=>aa h (some false) (aa (Nat.ble ((t.2.length+[p.1].length)*8) Q7) (k (t.1,t.2++[p.1])) none)) (some false)) (some false)) (fun t=>k t) ?_ ?_ (by rw [Q6];omega) t).trans ?_
 .intro U4 b' j p hp
  have hj:=(Z0 hp).1
  simp only [nv,bW hp,nn,Q3,hp,Q9,Q4,sU hw,hw]
  rw [show d+4=d+1+3 by omega,Qsr,Q9,show d+1+3=d+4 by omega,YF R,Q9,aN (by omega)]
  cases jQ p with
  | false=>rfl
  | true =>
   rw [Zl,Q5,Q4]
   by_cases e:cD r.1 p=w
   .rw [show (cD r.1 p != w)=false by rw [e];exact bne_self_eq_false _,Q5,show (cD r.1 p==w)=true from beq_iff_eq.2 e,Q4]
   .rw [show (cD r.1 p != w)=true from bne_iff_ne.2 e,Q4,show (cD r.1 p==w)=false from beq_eq_false_iff_ne.2 e,Q5]
 .intro U4 b'
  simp only [nv,bB,Q5]
 .rw [U5 (p:=I1 r.1 w) (f:=D6) (fun j t=>t.2.length<=10000+j) row 0 t (by omega) ?_,Qls]
  intro j p t k hp hI
  have hj:=(Z0 hp).1
  rw [show d+4=d+3+1 by omega,Qsu (by omega),Q9,room (by simp;omega),Q4]
  refine ⟨?_,fun _=>by unfold D6;simp;omega⟩
  unfold I1
  cases jQ p with
  | false=>rfl
  | true =>
   rw [Q4,Zg]
   cases (cD r.1 p==w) with
   | false=>rfl
   | true=>rw [Q4,Zg];cases (t.2.any fun z=>z==p.1)<;>rfl
theorem Qsv {d:Nat} {r:Rg} (h:AN r.1):S3 (d+13) r=some (mH r):=by
 rw [e35,Qso h,Q9]
 unfold mH OP
 cases hg:eS r.1 with
 | false=>rfl
 | true =>
  have L:=vz hg
  have R:=IA hg
  have iw:=L.eG
  have hf:=L.fl
  have hv:=AH (F:=r.1.2.2.2.1)
  cases hb:AZ r.1 r.2.1 with
  | false=>rfl
  | true =>
   rw [Zg,Zg,Zg,Zl,Q5,show d+12=d+10+2 by omega,Iw (by omega) hf,Q9]
   unfold rI
   by_cases a:r.2.2.1.length=(bT r.1.2.2.2.1).length
   case neg=>rw [show ((((r.2.2.1.length:Nat):Int)) != (((bT r.1.2.2.2.1).length:Nat):Int))=true by simp;omega,Q4,Q4,Z4 a];rfl
   rw [show ((((r.2.2.1.length:Nat):Int)) != (((bT r.1.2.2.2.1).length:Nat):Int))=false by simp;omega,Q5,Z5 a,Zg,show d+10+2=d+11+1 by omega,vL,Q9,wr (by omega) (by omega)]
   by_cases a1:-1<=r.2.2.2.1/\r.2.2.2.1 < (((bT r.1.2.2.2.1).length:Nat):Int)
   case neg=>rw [Z4 (show ¬ (-1<=r.2.2.2.1/\r.2.2.2.1<=(((bT r.1.2.2.2.1).length:Nat):Int) - 1) by omega),Bool.not_false,Q4,Q4,Z4 a1];rfl
   rw [Z5 (show -1<=r.2.2.2.1/\r.2.2.2.1<=(((bT r.1.2.2.2.1).length:Nat):Int) - 1 by omega),Zl,Q5,Z5 a1,Zg,vL,Q9]
   cases decide (0<=r.2.2.2.2/\r.2.2.2.2<=1000000) with
   | false=>rfl
   | true =>
    rw [Zl,Q5,Zg,<- Qwk a]
    have hW:∀ w∈bT r.1.2.2.2.1,vI r.1.2.1 w:=fun w hw=>by obtain ⟨q1,q2⟩:=E_ hw;exact ⟨q1,by omega⟩
    refine (Qb (fun (t:Bs) (i:Int)=>(t.1,t.2,i)) r.2.2.1 (fun row i t k=>aa (decide (((row.length:Nat):Int) > mD r.1 ((bT r.1.2.2.2.1).getD i 0))) (some false) (Q8 (nv (d+11+1) r (bT r.1.2.2.2.1) (i:Int) row (fun b _ l=>k (b,l))) Qd (t.1,t.2,0))) (fun _=>some true) ?_ ?_ (by rw [Q6];omega) (false,[])).trans ?_
    .intro ag t i row hx
     have hi:=(Z0 hx).1
     have au:i < (bT r.1.2.2.2.1).length:=by omega
     have hw:=ni (l:=bT r.1.2.2.2.1) (i:=i) (z:=0) au
     have gK:=hW _ (Zc hw)
     simp only [xP,bW hx,nn,Q3,hx,Q9,Q4]
     rw [Qo au,Q4,hw,Q9,Z5 gK.1,Q4,eZ gK,Q9]
     rw [show xN (d+11+1) ag (i:Int)=fun b _ l=>ag (b,l,((i+1:Nat):Int)) from by
      funext b n l
      unfold xN
      rw [aN (by omega)]]
     rfl
    .intro ag t;simp only [xP,bB,Q5];rfl
    .rw [U5 (p:=I2 r.1 (bT r.1.2.2.2.1)) (f:=A3) (fun i t=>t.2.length<=60*i) r.2.2.1 0 (false,[]) (by simp) ?_]
     .cases uN (I2 r.1 (bT r.1.2.2.2.1)) A3 r.2.2.1 0 (false,[])<;>rfl
     .intro j row t k hj hI
      rw [Zo] at hI ⊢
      have hi:=(Z0 hj).1
      have hw:=ni (l:=bT r.1.2.2.2.1) (i:=j) (z:=0) (by omega)
      have gK:=hW _ (Zc hw)
      have Iv:=R.ai _ (Zc (eZ gK))
      unfold I2
      by_cases b1:((row.length:Nat):Int) > mD r.1 ((bT r.1.2.2.2.1).getD j 0)
      .rw [Z5 b1,Q4,Zl,Bool.false_and,Q5]
       exact ⟨rfl,fun h=>absurd h (by simp)⟩
      .rw [Z4 b1,Q5,Bool.not_false,Zg]
       unfold mD at b1
       rw [show d+11+1=d+8+4 by omega,U6 R hw (by omega) t (by omega) (by omega)]
       refine ⟨rfl,fun _=>?_⟩
       unfold A3
       simp only [Zf,List.length_map]
       omega
structure Ro (r:Rg):Prop where
 lk:Lk r.1
 lr:Lr r.1
 t1:r.2.1.1.length=r.1.2.1.length
 t2:r.2.1.2.length=r.1.2.1.length
 rl:r.2.2.1.length=(bT r.1.2.2.2.1).length
 rb:∀ row∈r.2.2.1,row.length<=60
 rp:∀ row∈r.2.2.1,∀ p∈row,jQ p=true
 la:-1<=r.2.2.2.1/\r.2.2.2.1 < (((bT r.1.2.2.2.1).length:Nat):Int)
 nw:0<=r.2.2.2.2/\r.2.2.2.2<=1000000
theorem N4 {r:Rg} (h:mH r=true):Ro r:=by
 unfold mH OP at h
 simp only [Z8,Zj] at h
 obtain ⟨h1,h2,⟨h3,h4,h5⟩,h6,h7⟩:=h
 have L:=vz h1
 have R:=IA h1
 obtain ⟨t1,t2⟩:=Qwf h2
 have hf:=L.fl
 obtain ⟨r1,r2⟩:=Qpm R (fun w hw=>by obtain ⟨q1,q2⟩:=E_ hw;exact ⟨q1,by omega⟩) h3 h6
 exact ⟨L,R,t1,t2,h3,r1,r2,h4,h5⟩
theorem R5 {r:Rg} (h:mH r=true):eS r.1=true:=by
 unfold mH at h
 simp only [Z8] at h
 exact h.1
theorem YE {d:Nat} {x:Ld} {id:Int} (hl:x.2.1.length<=1000):Ob (d+1) x id=some (bE x.2.1 id):=by
 rw [e56]
 refine (Qb (fun (t:Int) (i:Int)=>(t,i)) x.2.1 (fun y i t k=>aa (y.1==id) (some ((i:Nat):Int)) (k t)) (fun _=>some (-1)) ?_ ?_ (by rw [Q6];omega) 0).trans (DP x.2.1 0 _)
 .intro ag t i x hx;have hi:=(Z0 hx).1;simp only [xR,bW hx,nn,Q3,hx,Q9,Q4];rw [aN (by omega)]
 .intro ag t;simp only [xR,bB,Q5];rfl
theorem RQ {r:Rg} (O:Ro r):r.2.2.1.length<=24:=by
 have iw:=O.lk.eG
 have hf:=O.lk.fl
 have hv:=AH (F:=r.1.2.2.2.1)
 have jY:=O.rl
 omega
theorem Qsx {d:Nat} {x:Ld} (hg:eS x=true):KM (d+26) x=some (dm x):=by
 unfold eS at hg
 simp only [Z8,Zj] at hg
 obtain ⟨⟨h1,h2⟩,h3,h4⟩:=hg
 obtain ⟨c,hc,c1,c2,c3,c4⟩:=Qlo (d:=d) (x:=x) (by omega) (by omega)
 obtain ⟨u1,u2⟩:=Qz7 c1 c2 c3 c4
 rw [hc,u2 h3]
theorem YM {x:Ld} (h:eS x=true):(dm x).2.1.length<=24/\(dm x).2.2.1.length<=16:=by
 unfold eS at h
 simp only [Z8,Zj] at h
 refine ⟨?_,h.1.2⟩
 show (Df x.2.1).length<=24
 rw [wK.length_eq];exact h.1.1
theorem Qsy {l m:List aC} (h:l.Perm m) {id:Int}:decide (bE l id>=0)=decide (bE m id>=0):=by
 have key:∀ {l m:List aC},l.Perm m->bE l id>=0->bE m id>=0:=by
  intro l m h h0
  obtain ⟨k,x,h1,h2,h3⟩:=AK h0
  rcases Int.lt_or_le (bE m id) 0 with hn | hn
  .exact absurd h3 (OA.1 hn _ (h.mem_iff.1 (Zc h2)))
  .exact hn
 by_cases c:bE l id>=0
 .rw [Z5 c,Z5 (key h c)]
 .rw [Z4 c,Z4 (fun h'=>c (key h.symm h'))]
theorem U7 {α γ δ β:Type} {e:α->γ} {f:α->δ} {fin:List γ×List δ->Option β} {w v:Nat}:∀ (l:List α) (i:Nat) (t:List γ×List δ),(t.1.length+l.length)*w<=100000000->(t.2.length+l.length)*v<=100000000 ->
  d_ (fun x _ t k=>aa (Nat.ble ((t.1.length+[e x].length)*w) Q7) (aa (Nat.ble ((t.2.length+[f x].length)*v) Q7) (k (t.1++[e x],t.2++[f x])) none) none) fin l i t=fin (t.1++l.map e,t.2++l.map f)
 | [],i,t,_,_=>by simp [d_]
 | x::r,i,t,h,h'=>by
  simp only [d_]
  rw [room (by
   have:(t.1.length+[e x].length)*w<=(t.1.length+(x::r).length)*w:=Zk w (by simp)
   omega),Q4,room (by
   have:(t.2.length+[f x].length)*v<=(t.2.length+(x::r).length)*v:=Zk v (by simp)
   omega),Q4]
  rw [U7 r (i+1) (t.1++[e x],t.2++[f x]) (by
   refine Nat.le_trans (Zk w ?_) h
   simp;omega) (by
   refine Nat.le_trans (Zk v ?_) h'
   simp;omega)]
  simp
def BC (x:Ld):Tk:=(x.2.1.map fun c=>c.2.2.2.2.1,x.2.1.map fun c=>c.2.2.2.2.2.1)
theorem Qhk {d:Nat} {x:Ld} (hl:x.2.1.length<=1000):T8 (d+1) x=some (BC x):=by
 rw [e96]
 refine (Qb (fun (t:Tk) (i:Int)=>(i,t)) x.2.1 (fun c _ t k=>aa (Nat.ble ((t.1.length+[c.2.2.2.2.1].length)*8) Q7) (aa (Nat.ble ((t.2.length+[c.2.2.2.2.2.1].length)*8) Q7) (k (t.1++[c.2.2.2.2.1],t.2++[c.2.2.2.2.2.1])) none) none) (fun t=>some t) ?_ ?_ (by rw [Q6];omega) ([],[])).trans ?_
 .intro ag t i x hx;have hi:=(Z0 hx).1;simp only [zl,bW hx,nn,Q3,hx,Q9,Q4];rw [aN (by omega)]
 .intro ag t;simp only [zl,bB,Q5];rfl
 .rw [U7 (e:=fun c:aC=>c.2.2.2.2.1) (f:=fun c:aC=>c.2.2.2.2.2.1) x.2.1 0 ([],[]) (by simp;omega) (by simp;omega)]
  rfl
theorem Qsz {d:Nat} {x:Ld} (hl:x.2.1.length<=1000):FM (d+1) x=some (BC x):=by
 rw [S4]
 refine (Qb (fun (t:Tk) (i:Int)=>(i,t)) x.2.1 (fun c _ t k=>aa (Nat.ble ((t.1.length+[c.2.2.2.2.1].length)*8) Q7) (aa (Nat.ble ((t.2.length+[c.2.2.2.2.2.1].length)*8) Q7) (k (t.1++[c.2.2.2.2.1],t.2++[c.2.2.2.2.2.1])) none) none) (fun t=>some t) ?_ ?_ (by rw [Q6];omega) ([],[])).trans ?_
 .intro ag t i x hx;have hi:=(Z0 hx).1;simp only [pK,bW hx,nn,Q3,hx,Q9,Q4];rw [aN (by omega)]
 .intro ag t;simp only [pK,bB,Q5];rfl
 .rw [U7 (e:=fun c:aC=>c.2.2.2.2.1) (f:=fun c:aC=>c.2.2.2.2.2.1) x.2.1 0 ([],[]) (by simp;omega) (by simp;omega)]
  rfl
theorem Yo {x:Ld} (h:eS x=true):bU (dm x)=x:=by
 unfold eS Dg at h
 simp only [Z8,Zj,beq_iff_eq] at h
 obtain ⟨_,_,s1,s2,s3,s4,s5,s6,s7⟩:=h
 exact Prod.ext rfl (Prod.ext s1.symm (Prod.ext s2.symm (Prod.ext s3.symm (Prod.ext s4.symm (Prod.ext s5.symm (Prod.ext rfl (Prod.ext s6.symm s7.symm)))))))
theorem NW {x:Ld} (h:eS x=true):gb (dm x)=true:=by
 unfold eS at h
 simp only [Z8] at h
 exact h.2.1
theorem Qt1 {c:Cf} (G:Gd c):(bU c).2.2.2.2.1.length<=24/\(bU c).2.2.2.2.2.1.length<=24/\(bU c).2.2.2.2.2.2.2.1.length<=16:=by
 have h1:=GG G.tr
 have h2:=G.tr.eG
 have h3:=G.f16
 refine ⟨?_,?_,?_⟩
 .show ((aG c.2.1).map (fun i=>pW c.2.1 (uJ c.2.1 i))).length<=24
  rw [List.length_map];omega
 .show ((aG c.2.1).mapIdx (nM c.2.1)).length<=24
  rw [List.length_mapIdx];omega
 .show (c.2.2.1.map (fun f=>pW c.2.1 (bE c.2.1 f.2.2.2.2))).length<=16
  rw [List.length_map];omega
theorem Qwm {x:Ld} (h:eS x=true):x.2.2.2.2.1.length<=24/\x.2.2.2.2.2.1.length<=24/\x.2.2.2.2.2.2.2.1.length<=16:=by
 have:=Qt1 (q_ (NW h))
 rw [Yo h] at this;exact this
theorem Qpq {α γ:Type} {c:α->Nat->Bool} {e:α->Nat->γ}:∀ (l:List α) (i j:Nat) (x:α),l[j]? = some x->c x (i+j)=true->e x (i+j)∈fL c e l i
 | [],i,j,x,h,_=>by simp at h
 | y::r,i,0,x,h,hc=>by
  simp only [List.getElem?_cons_zero,Option.some.injEq] at h
  subst h
  rw [Nat.add_zero] at hc ⊢
  unfold fL;rw [if_pos hc];simp
 | y::r,i,j+1,x,h,hc=>by
  have:=Qpq (c:=c) (e:=e) r (i+1) j x (by simpa using h) (by rw [show i+1+j=i+(j+1) by omega];exact hc)
  rw [show i+1+j=i+(j+1) by omega] at this
  unfold fL
  split
  .exact List.mem_cons_of_mem _ this
  .exact this
theorem Qpr {c:Cf} (G:Gd c) {id:Int} (hv:vI c.2.1 (bE c.2.1 id)) (hl:ic c.2.1 id=true):pW c.2.1 (bE c.2.1 id)∈bT (bU c).2.2.2.1:=by
 have T:=G.tr
 obtain ⟨k,h1,h2⟩:=BA T hv
 obtain ⟨_,x,e1,e2,e3⟩:=AK hv.1
 have hid:(aU c.2.1 (bE c.2.1 id)).1=id:=by rw [e1,kM e2,e3]
 have hk:cg c.2.1 (bE c.2.1 id)=[]:=by
  unfold cg nH
  rw [hid]
  have:=K7 (c:=fun x:aC=>x.2.1==id) (e:=fun _ k=>((k:Nat):Int)) c.2.1 0
  unfold ic at hl
  rw [hl] at this
  exact Z1 (by simpa using this)
 have hF:(bU c).2.2.2.1[k]? = some (-1):=by
  show ((aG c.2.1).map (fun i=>pW c.2.1 (vP c.2.1 i)))[k]? = some (-1)
  rw [List.getElem?_map,h1]
  show some (pW c.2.1 ((cg c.2.1 (bE c.2.1 id)).headD (-1)))=some (-1)
  rw [hk]
  exact congrArg some (uI T (by simp))
 rw [h2]
 have:=Qpq (c:=fun (f:Int) _=>decide (f < 0)) (e:=fun _ k=>((k:Nat):Int)) (bU c).2.2.2.1 0 k (-1) hF (by simp)
 rw [Zo] at this
 exact this
theorem Rv {c:Cf} (G:Gd c) (p:Pk):cD (bU c) p < 0\/cD (bU c) p∈bT (bU c).2.2.2.1:=by
 unfold cD
 split
 .rename_i h
  have au:=U3 h
  right
  have hm:(bU c).2.2.2.2.2.2.2.1.getD (uM (bU c).2.2.2.2.2.2.1 p).toNat 0∈(bU c).2.2.2.2.2.2.2.1:=by
   refine Zc (i:=(uM (bU c).2.2.2.2.2.2.1 p).toNat) (ni ?_)
   show _ < (c.2.2.1.map _).length
   rw [List.length_map]
   have:uM (bU c).2.2.2.2.2.2.1 p < ((c.2.2.1.length:Nat):Int):=au
   omega
  generalize (bU c).2.2.2.2.2.2.2.1.getD (uM (bU c).2.2.2.2.2.2.1 p).toNat 0=w at hm
  obtain ⟨f,hf,rfl⟩:=List.mem_map.1 (show w∈c.2.2.1.map (fun f=>pW c.2.1 (bE c.2.1 f.2.2.2.2)) from hm)
  obtain ⟨t1,t2,_⟩:=G.Lc f hf
  exact Qpr G t1 t2
 .show vu c < 0\/vu c∈_
  unfold vu
  split
  .left;omega
  .rename_i h
   obtain ⟨t1,t2⟩:=G.Ki h
   exact Or.inr (Qpr G t1 t2)
end Go.Proofs.YtcoimfbmgjhcjaaGreatDoor
