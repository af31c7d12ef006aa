/-
  Configurations by value. And what stood behind it in 6 texts.
  Conditions: said at the theorems.
-/
import Derived.Test.YtnnmeljlcdmljaaGreatDoorK15
set_option linter.all false
namespace Go.Proofs.YtnnmeljlcdmljaaGreatDoor
open Go.Ev Go.Pv
instance dec4:DecidableEq (Int×Int×Int×Int):=inferInstance
theorem Qu3 {p:Cl8→Bool}:∀ {l:List Cl8},(∀ y∈l,p y=true)→l.takeWhile p=l
 | [],_=>rfl
 | z::l,h=>by rw [List.takeWhile_cons,if_pos (h z (by simp)),Qu3 (fun y hy=>h y (by simp [hy]))]
def Ql2 (l:List Cl8) (x:Cl8):List Cl8:=(l.takeWhile fun y=>decide (y.1 < x.1))++x::l.dropWhile fun y=>decide (y.1 < x.1)
def Qye (l:List Cl8):List Cl8:=Q0a (fun x _ t=>Ql2 t x) l 0 []
theorem Qgx {l:List Cl8} {x:Cl8}:(Ql2 l x).Perm (x::l):=by
 unfold Ql2
 refine List.perm_middle.trans (List.Perm.cons x ?_)
 rw [List.takeWhile_append_dropWhile]
theorem Qrx {l:List Cl8} {x:Cl8}:(Ql2 l x).length=l.length+1:=by rw [Qgx.length_eq];rfl
theorem Q9n {x:Cl8}:∀ {l:List Cl8},Srt kyC l→∀ y∈l.dropWhile (fun y=>decide (y.1 < x.1)),x.1≤y.1
 | [],_,y,hy=>by simp at hy
 | z::l,h,y,hy=>by
  rw [List.dropWhile_cons] at hy
  have h':=List.pairwise_cons.1 h
  by_cases hz:z.1 < x.1
  ·rw [if_pos (by simpa using hz)] at hy
   exact Q9n h'.2 y hy
  ·rw [if_neg (by simpa using hz)] at hy
   rcases Z2 hy with rfl | hy
   ·omega
   ·have:=h'.1 y hy;unfold kyC at this;omega
theorem Q9o {x:Cl8}:∀ {l:List Cl8},∀ y∈l.takeWhile (fun y=>decide (y.1 < x.1)),y.1 < x.1
 | [],y,hy=>by simp at hy
 | z::l,y,hy=>by
  rw [List.takeWhile_cons] at hy
  by_cases hz:z.1 < x.1
  ·rw [if_pos (by simpa using hz)] at hy
   rcases Z2 hy with rfl | hy
   ·exact hz
   ·exact Q9o y hy
  ·rw [if_neg (by simpa using hz)] at hy;simp at hy
theorem Qry {l:List Cl8} {x:Cl8} (h:Srt kyC l):Srt kyC (Ql2 l x):=by
 have hl:Srt kyC (l.takeWhile (fun y=>decide (y.1 < x.1))++l.dropWhile (fun y=>decide (y.1 < x.1))):=by rw [List.takeWhile_append_dropWhile];exact h
 unfold Ql2 Srt
 unfold Srt at hl
 rw [List.pairwise_append] at hl ⊢
 refine ⟨hl.1,List.pairwise_cons.2 ⟨fun y hy=>Q9n h y hy,hl.2.1⟩,fun a ha b hb=>?_⟩
 rcases Z2 hb with rfl | hb
 ·have:=Q9o a ha;unfold kyC;omega
 ·exact hl.2.2 a ha b hb
theorem Qel:∀ (l:List Cl8) (i:Nat) (t:List Cl8),Srt kyC t→Srt kyC (Q0a (fun x _ t=>Ql2 t x) l i t)∧(Q0a (fun x _ t=>Ql2 t x) l i t).Perm (l++t)
 | [],i,t,h=>⟨h,List.Perm.refl _⟩
 | x::r,i,t,h=>by
  simp only [Q0a]
  obtain ⟨h1,h2⟩:=Qel r (i+1) (Ql2 t x) (Qry h)
  refine ⟨h1,h2.trans ?_⟩
  exact (List.Perm.append_left r Qgx).trans List.perm_middle
theorem Qrz {l:List Cl8}:Srt kyC (Qye l):=(Qel l 0 [] List.Pairwise.nil).1
theorem Q5k {l:List Cl8}:(Qye l).Perm l:=by
 have:=(Qel l 0 [] List.Pairwise.nil).2
 rw [List.append_nil] at this;exact this
theorem Qot {l:List Cl8} (h:Qm5 l=true):(l.map (·.1)).Nodup:=by
 rw [List.nodup_iff_pairwise_ne,List.pairwise_map,List.pairwise_iff_getElem]
 intro i j hi hj hij e
 have:=Qkr h j i _ _ hij (Z6 hi) (Z6 hj)
 omega
theorem Qvm {l:List Cl8} (h:(l.map (·.1)).Nodup) {a b:Cl8} (ha:a∈l) (hb:b∈l) (e:a.1=b.1):a=b:=by
 obtain ⟨i,hi⟩:=List.getElem?_of_mem ha
 obtain ⟨j,hj⟩:=List.getElem?_of_mem hb
 obtain ⟨hi1,hi2⟩:=Z0 hi
 obtain ⟨hj1,hj2⟩:=Z0 hj
 have:=(List.getElem_inj (h₀:=show i < (l.map (·.1)).length by simpa using hi1) (h₁:=show j < (l.map (·.1)).length by simpa using hj1) h).1 (by simp [hi2,hj2,e])
 subst this
 rw [← hi2,← hj2]
theorem Qyf {l S:List Cl8} (h:Stb kyC l S) (hd:(l.map (·.1)).Nodup):S=Qye l:=by
 refine List.Perm.eq_of_pairwise (le:=fun a b=>kyC a≤kyC b) (fun a b ha hb h1 h2=>?_) h.srt Qrz (h.perm.trans Q5k.symm)
 unfold kyC at h1 h2
 exact Qvm hd (h.perm.mem_iff.1 ha) (Q5k.mem_iff.1 hb) (by omega)
theorem Ql3 {c:Cf} {l:List Cl8} (h:gdB c=true) (hp:c.2.1.Perm l):(l.map (·.1)).Nodup:=by
 have hc:=(Qgl h).cl
 unfold Qft at hc
 simp only [Z8] at hc
 exact (hp.map _).nodup_iff.1 (Qot hc.2.1)
def dfL (x:Ld):Int:=if 0≤x.2.2.2.2.2.2.2.2∧x.2.2.2.2.2.2.2.2 < ((x.2.1.length:Nat):Int) then (Q0e x.2.1 x.2.2.2.2.2.2.2.2).1 else 0
def unV (x:Ld):Cf:=(x.1,Qye x.2.1,x.2.2.2.2.2.2.1,dfL x)
theorem Q00j {x:Ld} {c:Cf} (h1:c.1=x.1) (h2:Stb kyC x.2.1 c.2.1) (h3:c.2.2.1=x.2.2.2.2.2.2.1) (h4:c.2.2.2=dfL x):gdB c=gdB (unV x)∧(gdB (unV x)=true→c=unV x):=by
 obtain ⟨c1,c2,c3,c4⟩:=c
 simp only at h1 h2 h3 h4
 subst h1 h3 h4
 by_cases hd:(x.2.1.map (·.1)).Nodup
 ·have e:=Qyf h2 hd
  subst e
  exact ⟨rfl,fun _=>rfl⟩
 ·have e1:gdB (x.1,c2,x.2.2.2.2.2.2.1,dfL x)=false:=Bool.eq_false_iff.2 fun h=>hd (Ql3 h h2.perm)
  have e2:gdB (unV x)=false:=Bool.eq_false_iff.2 fun h=>hd (Ql3 h Q5k)
  exact ⟨by rw [e1,e2],fun h=>by rw [e2] at h;simp at h⟩
theorem Qou {d:Nat} {l:List Cl8} {b:Bool} (hl:l.length≤1000000):Ok (g97 (d+25) l b) fun r=>Stb kyC l r:=by
 rw [e97]
 exact Ok.bind (Qos hl) fun r hr=>Ok.some hr
theorem Qs0 {d:Nat} {x:Ld} (hl:x.2.1.length≤1000) (hf:x.2.2.2.2.2.2.1.length≤1000):Ok (g51 (d+26) x) fun c=>c.1=x.1∧Stb kyC x.2.1 c.2.1∧c.2.2.1=x.2.2.2.2.2.2.1∧c.2.2.2=dfL x:=by
 rw [e51,Qky hl,Q8,Qef hf,Q8]
 unfold j51_0 dfL
 by_cases h0:x.2.2.2.2.2.2.2.2≥0
 ·rw [Z5 h0,Q4]
  by_cases h1:x.2.2.2.2.2.2.2.2 < ((x.2.1.length:Nat):Int)
  ·rw [Z5 h1,Q4,Q4,Q4l h0 h1,Q8,if_pos ⟨h0,h1⟩]
   exact Ok.bind (Qou (by omega)) fun r hr=>Ok.some ⟨rfl,hr,rfl,rfl⟩
  ·rw [Z4 h1,Q5,if_neg (fun h=>h1 h.2)]
   exact Ok.bind (Qou (by omega)) fun r hr=>Ok.some ⟨rfl,hr,rfl,rfl⟩
 ·rw [Z4 h0,Q5,Q5,if_neg (fun h=>h0 h.1)]
  exact Ok.bind (Qou (by omega)) fun r hr=>Ok.some ⟨rfl,hr,rfl,rfl⟩
theorem Qvn {d:Nat} {l:List Cl8} {x:Cl8} (hl:l.length≤10000):g104 (d+1) l x=some (Ql2 l x):=by
 rw [e104]
 have fin:j104_0 d l x (((l.takeWhile fun y=>decide (y.1 < x.1)).length:Nat):Int)=some (Ql2 l x):=by
  have hle:(l.takeWhile fun y=>decide (y.1 < x.1)).length≤l.length:=by
   have:=congrArg List.length (List.takeWhile_append_dropWhile (p:=fun y:Cl8=>decide (y.1 < x.1)) (l:=l))
   rw [Zf] at this;omega
  have ht:l.take (l.takeWhile fun y=>decide (y.1 < x.1)).length=l.takeWhile fun y=>decide (y.1 < x.1):=by
   conv=>lhs;arg 2;rw [← List.takeWhile_append_dropWhile (p:=fun y:Cl8=>decide (y.1 < x.1)) (l:=l)]
   rw [List.take_left]
  have hd:l.drop (l.takeWhile fun y=>decide (y.1 < x.1)).length=l.dropWhile fun y=>decide (y.1 < x.1):=by
   conv=>lhs;arg 2;rw [← List.takeWhile_append_dropWhile (p:=fun y:Cl8=>decide (y.1 < x.1)) (l:=l)]
   rw [List.drop_left]
  unfold j104_0
  simp only [nn,Q3,Q4]
  rw [Qo3 hle,Q4,Q4,room (by simp;omega),Q4,room (by simp;omega),Q4,room (by simp;omega),Q4,ht,hd]
  unfold Ql2
  simp
 have key:∀ (B A:List Cl8) (fuel:Nat),l=A++B→(∀ y∈A,y.1 < x.1)→B.length < fuel→Q9 (l104_0 d l x (j104_0 d l x)) fuel ((A.length:Nat):Int)=some (Ql2 l x):=by
  intro B
  induction B with
  | nil =>
   intro A fuel e hA hf
   obtain ⟨g,rfl⟩:∃ g,fuel=g+1:=⟨fuel - 1,by omega⟩
   rw [List.append_nil] at e
   have ht:(l.takeWhile fun y=>decide (y.1 < x.1))=A:=by rw [e];exact Qu3 (fun y hy=>by simpa using hA y hy)
   simp only [Q9,l104_0]
   rw [show (l.length:Int)=((A.length:Nat):Int) by rw [e],ltn,Q5]
   rw [ht] at fin;exact fin
  | cons z B ih =>
   intro A fuel e hA hf
   obtain ⟨g,rfl⟩:∃ g,fuel=g+1:=⟨fuel - 1,by omega⟩
   have hlt:A.length < l.length:=by rw [e];simp
   have hg:l[A.length]? = some z:=by rw [e];simp
   simp only [Q9,l104_0]
   rw [Z5 (show ((A.length:Nat):Int) < ((l.length:Nat):Int) by omega),Q4,nn,Q4,Q3,hg,Q8]
   by_cases hz:z.1 < x.1
   ·rw [Z5 hz,Q4,wr1 (by omega)]
    have:=ih (A++[z]) g (by rw [e];simp) (fun y hy=>by
     rcases List.mem_append.1 hy with h | h
     ·exact hA y h
     ·simp at h;subst h;exact hz) (by simpa using hf)
    rw [Zf] at this
    exact this
   ·rw [Z4 hz,Q5]
    have ht:(l.takeWhile fun y=>decide (y.1 < x.1))=A:=by
     rw [e,List.takeWhile_append_of_pos (fun y hy=>by simpa using hA y hy),List.takeWhile_cons,if_neg (by simpa using hz),List.append_nil]
    rw [ht] at fin;exact fin
 exact key l [] Qe rfl (by simp) (by rw [Q6];omega)
theorem Ql4 {d:Nat} {x:Ld} (hl:x.2.1.length≤1000) (hf:x.2.2.2.2.2.2.1.length≤1000):g57 (d+2) x=some (unV x):=by
 rw [e57,room (by simp;omega),Q4,List.nil_append]
 refine (Qc (fun (t:List Cl8) (i:Int)=>(i,((x.1,t,x.2.2.2.2.2.2.1,0):Cf))) x.2.1 (fun y _ t k=>Q1 (g104 (d+1) t y) fun r=>k r) (fun t=>j57_0 (d+1) x x.1 0 t x.2.2.2.2.2.2.1) ?_ ?_ (by rw [Q6];omega) []).trans ?_
 ·intro ag t i y hx
  have hi:=(Z0 hx).1
  simp only [l57_0,ltl hx,nn,Q3,hx,Q8,Q4]
  rw [wr1 (by omega)]
 ·intro ag t;simp only [l57_0,ltn,Q5]
 ·rw [Q5i (f:=fun y _ t=>Ql2 t y) (fun k t=>t.length=k) x.2.1 0 [] rfl (fun j y t k hy ht=>by
   have hj:=(Z0 hy).1
   rw [Qvn (by omega),Q8]
   exact ⟨rfl,by rw [Qrx];omega⟩)]
  unfold j57_0
  rw [Q57,Q8]
  show _=some (x.1,Qye x.2.1,x.2.2.2.2.2.2.1,dfL x)
  unfold dfL
  rw [wr (by omega) (by omega)]
  by_cases h:0≤x.2.2.2.2.2.2.2.2∧x.2.2.2.2.2.2.2.2 < ((x.2.1.length:Nat):Int)
  ·rw [if_pos h,Z5 (show 0≤x.2.2.2.2.2.2.2.2∧x.2.2.2.2.2.2.2.2≤((x.2.1.length:Nat):Int) - 1 by omega),Q4,Z5 h.1,Q4,Q4l h.1 h.2,Q8]
   rfl
  ·rw [if_neg h,Z4 (show ¬ (0≤x.2.2.2.2.2.2.2.2∧x.2.2.2.2.2.2.2.2≤((x.2.1.length:Nat):Int) - 1) by omega),Q5]
   rfl
theorem Q67 {α:Type} [DecidableEq α]:∀ {a b:List α} {i:Nat} {c:List α},i=c.length→a.length=b.length→Q4c (fun x j=>decide ((c++b)[j]? = some x)) a i=decide (a=b)
 | [],[],i,c,_,_=>by simp [Q4c]
 | x::a,y::b,i,c,hi,h=>by
  subst hi
  have h1:(c++y::b)[c.length]? = some y:=by simp
  have ih:=Q67 (a:=a) (b:=b) (i:=c.length+1) (c:=c++[y]) (by simp) (by simpa using h)
  rw [show c++[y]++b=c++y::b by simp] at ih
  simp only [Q4c]
  rw [ih,h1]
  by_cases hxy:x=y
  ·subst hxy;simp
  ·rw [Z4 (show ¬ some y=some x by simp;exact fun e=>hxy e.symm),Bool.false_and,Z4 (by simp [hxy])]
 | [],_::_,_,_,_,h=>by simp at h
 | _::_,[],_,_,_,h=>by simp at h
theorem Qov {d:Nat} {a b:List Int} (hl:a.length < 4000000):g124 (d+1) a b=some (decide (a=b)):=by
 rw [e124]
 by_cases h:a.length=b.length
 case neg=>rw [show ((((a.length:Nat):Int)) != ((b.length:Nat):Int))=true by simp;omega,Q4,Z4 (fun e=>h (by rw [e]))]
 rw [show ((((a.length:Nat):Int)) != ((b.length:Nat):Int))=false by simp;omega,Q5]
 refine (Qc (fun (t:Bool) (i:Int)=>(t,i)) a (fun x i t k=>oif (decide (([]++b)[i]? = some x)) (k t) (some false)) (fun _=>some true) ?_ ?_ (by rw [Q6];omega) false).trans ?_
 ·intro ag t i x hx;have hi:=(Z0 hx).1;simp only [l124_0,ltl hx,nn,Q3,hx,Q8,Q4];rw [wr1 (by omega)]
  have hb:i < b.length:=by omega
  rw [List.nil_append,Z6 hb,Q8]
  by_cases hxy:x=b[i]
  ·rw [show (x != b[i])=false by simp [hxy],Q5,Z5 (by rw [hxy]),Q4]
  ·rw [show (x != b[i])=true by simp [hxy],Q4,Z4 (show ¬ some b[i]=some x by simp;exact fun e=>hxy e.symm),Q5]
 ·intro ag t;simp only [l124_0,ltn,Q5];rfl
 ·rw [Q04,Q67 (i:=0) (c:=[]) rfl h];cases decide (a=b)<;>rfl
theorem Q7w {d:Nat} {a b:List Int} (hl:a.length < 4000000):g177 (d+1) a b=some (decide (a=b)):=by
 rw [e177]
 by_cases h:a.length=b.length
 case neg=>rw [show ((((a.length:Nat):Int)) != ((b.length:Nat):Int))=true by simp;omega,Q4,Z4 (fun e=>h (by rw [e]))]
 rw [show ((((a.length:Nat):Int)) != ((b.length:Nat):Int))=false by simp;omega,Q5]
 refine (Qc (fun (t:Bool) (i:Int)=>(t,i)) a (fun x i t k=>oif (decide (([]++b)[i]? = some x)) (k t) (some false)) (fun _=>some true) ?_ ?_ (by rw [Q6];omega) false).trans ?_
 ·intro ag t i x hx;have hi:=(Z0 hx).1;simp only [l177_0,ltl hx,nn,Q3,hx,Q8,Q4];rw [wr1 (by omega)]
  have hb:i < b.length:=by omega
  rw [List.nil_append,Z6 hb,Q8]
  by_cases hxy:x=b[i]
  ·rw [show (x != b[i])=false by simp [hxy],Q5,Z5 (by rw [hxy]),Q4]
  ·rw [show (x != b[i])=true by simp [hxy],Q4,Z4 (show ¬ some b[i]=some x by simp;exact fun e=>hxy e.symm),Q5]
 ·intro ag t;simp only [l177_0,ltn,Q5];rfl
 ·rw [Q04,Q67 (i:=0) (c:=[]) rfl h];cases decide (a=b)<;>rfl
theorem Qu4 {x y:Cl8}:((x.1==y.1)&&((x.2.1==y.2.1)&&((x.2.2.1==y.2.2.1)&&((x.2.2.2.1==y.2.2.2.1)&&((x.2.2.2.2.1==y.2.2.2.2.1)&&((x.2.2.2.2.2.1==y.2.2.2.2.2.1)&&((x.2.2.2.2.2.2.1==y.2.2.2.2.2.2.1)&&((x.2.2.2.2.2.2.2==y.2.2.2.2.2.2.2)&&true))))))))=decide (x=y):=by
 obtain ⟨x1,x2,x3,x4,x5,x6,x7,x8⟩:=x
 obtain ⟨y1,y2,y3,y4,y5,y6,y7,y8⟩:=y
 rw [Bool.eq_iff_iff];simp
theorem Qyg {x y:Fl5}:((x.1==y.1)&&((x.2.1==y.2.1)&&((x.2.2.1==y.2.2.1)&&((x.2.2.2.1==y.2.2.2.1)&&((x.2.2.2.2==y.2.2.2.2)&&true)))))=decide (x=y):=by
 obtain ⟨x1,x2,x3,x4,x5⟩:=x
 obtain ⟨y1,y2,y3,y4,y5⟩:=y
 rw [Bool.eq_iff_iff];simp
theorem Q00k {d:Nat} {a b:List Cl8} (hl:a.length < 4000000):g123 (d+1) a b=some (decide (a=b)):=by
 rw [e123]
 by_cases h:a.length=b.length
 case neg=>rw [show ((((a.length:Nat):Int)) != ((b.length:Nat):Int))=true by simp;omega,Q4,Z4 (fun e=>h (by rw [e]))]
 rw [show ((((a.length:Nat):Int)) != ((b.length:Nat):Int))=false by simp;omega,Q5]
 refine (Qc (fun (t:Bool) (i:Int)=>(t,i)) a (fun x i t k=>oif (decide (([]++b)[i]? = some x)) (k t) (some false)) (fun _=>some true) ?_ ?_ (by rw [Q6];omega) false).trans ?_
 ·intro ag t i x hx;have hi:=(Z0 hx).1;simp only [l123_0,ltl hx,nn,Q3,hx,Q8,Q4];rw [wr1 (by omega)]
  have hb:i < b.length:=by omega
  rw [List.nil_append,Z6 hb,Q8,Qu4]
  by_cases hxy:x=b[i]
  ·rw [Z5 hxy,Zl,Q5,Z5 (by rw [hxy]),Q4]
  ·rw [Z4 hxy,Bool.not_false,Q4,Z4 (show ¬ some b[i]=some x by simp;exact fun e=>hxy e.symm),Q5]
 ·intro ag t;simp only [l123_0,ltn,Q5];rfl
 ·rw [Q04,Q67 (i:=0) (c:=[]) rfl h];cases decide (a=b)<;>rfl
def smB (x y:Ld):Bool:=decide (x.2.1=y.2.1)&&(decide (x.2.2.1=y.2.2.1)&&(decide (x.2.2.2.1=y.2.2.2.1)&&(decide (x.2.2.2.2.1=y.2.2.2.2.1)&&(decide (x.2.2.2.2.2.1=y.2.2.2.2.2.1)&&(decide (x.2.2.2.2.2.2.2.1=y.2.2.2.2.2.2.2.1)&&(x.2.2.2.2.2.2.2.2==y.2.2.2.2.2.2.2.2))))))
def lgB (x:Ld):Bool:=decide (x.2.1.length≤24∧x.2.2.2.2.2.2.1.length≤16)&&(gdB (unV x)&&smB x (ldV (unV x)))
def Qs1 (x:Ld):Prop:=x.1.size < 4000000∧x.2.1.length < 4000000∧x.2.2.1.length < 4000000∧x.2.2.2.1.length < 4000000∧x.2.2.2.2.1.length < 4000000∧x.2.2.2.2.2.1.length < 4000000∧x.2.2.2.2.2.2.1.length < 4000000∧x.2.2.2.2.2.2.2.1.length < 4000000
theorem Qmc {d:Nat} {x:Ld} (h:Qs1 x):g80 (d+27) x=some (lgB x):=by
 obtain ⟨z1,z2,z3,z4,z5,z6,z7,z8⟩:=h
 rw [e80]
 unfold j80_0 lgB
 by_cases h1:x.2.1.length≤24
 case neg=>rw [Z5 (show ((x.2.1.length:Nat):Int) > 24 by omega),Q4,Q4,Z4 (fun h=>h1 h.1)];rfl
 rw [Z4 (show ¬ ((x.2.1.length:Nat):Int) > 24 by omega),Q5]
 by_cases h2:x.2.2.2.2.2.2.1.length≤16
 case neg=>rw [Z5 (show ((x.2.2.2.2.2.2.1.length:Nat):Int) > 16 by omega),Q4,Z4 (fun h=>h2 h.2)];rfl
 rw [Z4 (show ¬ ((x.2.2.2.2.2.2.1.length:Nat):Int) > 16 by omega),Q5,Z5 ⟨h1,h2⟩,Zg]
 obtain ⟨c,hc,c1,c2,c3,c4⟩:=Qs0 (d:=d) (x:=x) (by omega) (by omega)
 obtain ⟨u1,u2⟩:=Q00j c1 c2 c3 c4
 have hcl:=c2.len
 rw [hc,Q8,show d+26=(d+18)+8 by omega,Qma (by omega) (by rw [c3];omega),Q8,u1]
 cases hg:gdB (unV x) with
 | false=>rfl
 | true =>
  have e:=u2 hg
  subst e
  rw [Zl,Q5,show d+18+8=(d+12)+14 by omega,Qgv (Qgl hg),Q8,Zg]
  unfold smB
  rw [show d+12+14=(d+25)+1 by omega,Q00k (by omega),Q8]
  cases decide (x.2.1=(ldV (unV x)).2.1) with
  | false=>rfl
  | true =>
  rw [Q4,Qov (by omega),Q8]
  cases decide (x.2.2.1=(ldV (unV x)).2.2.1) with
  | false=>rfl
  | true =>
  rw [Q4,Qov (by omega),Q8]
  cases decide (x.2.2.2.1=(ldV (unV x)).2.2.2.1) with
  | false=>rfl
  | true =>
  rw [Q4,Qov (by omega),Q8]
  cases decide (x.2.2.2.2.1=(ldV (unV x)).2.2.2.2.1) with
  | false=>rfl
  | true =>
  rw [Q4,Qov (by omega),Q8]
  cases decide (x.2.2.2.2.2.1=(ldV (unV x)).2.2.2.2.2.1) with
  | false=>rfl
  | true =>
  rw [Q4,Qov (by omega),Q8]
  cases decide (x.2.2.2.2.2.2.2.1=(ldV (unV x)).2.2.2.2.2.2.2.1) with
  | false=>rfl
  | true=>rw [Q4];rfl
theorem Qs2 {d:Nat} {u y:Ld} (h:Qs1 u) (hn:u.1=y.1) (hf:u.2.2.2.2.2.2.1=y.2.2.2.2.2.2.1):g158 (d+2) u y=some (smB u y):=by
 obtain ⟨z1,z2,z3,z4,z5,z6,z7,z8⟩:=h
 rw [e158,Qri,Z5 (by rw [hn]),Zl,Q5]
 unfold j158_2 smB
 by_cases hc:u.2.1.length=y.2.1.length
 case neg=>rw [show ((((u.2.1.length:Nat):Int)) != ((y.2.1.length:Nat):Int))=true by simp;omega,Q4,Q4,Z4 (fun e=>hc (by rw [e]))];rfl
 rw [show ((((u.2.1.length:Nat):Int)) != ((y.2.1.length:Nat):Int))=false by simp;omega,Q5,show ((((u.2.2.2.2.2.2.1.length:Nat):Int)) != ((y.2.2.2.2.2.2.1.length:Nat):Int))=false by rw [hf];simp,Q5]
 by_cases hd:u.2.2.2.2.2.2.2.2=y.2.2.2.2.2.2.2.2
 case neg=>rw [show (u.2.2.2.2.2.2.2.2 != y.2.2.2.2.2.2.2.2)=true by simp [hd],Q4,show (u.2.2.2.2.2.2.2.2==y.2.2.2.2.2.2.2.2)=false by simp [hd]];simp
 rw [show (u.2.2.2.2.2.2.2.2 != y.2.2.2.2.2.2.2.2)=false by simp [hd],Q5,show (u.2.2.2.2.2.2.2.2==y.2.2.2.2.2.2.2.2)=true by simp [hd],Bool.and_true]
 refine (Qc (fun (t:Bool) (i:Int)=>(t,i)) u.2.1 (fun z i t k=>oif (decide (([]++y.2.1)[i]? = some z)) (k t) (some false)) (fun t=>j158_1 (d+1) u y t) ?_ ?_ (by rw [Q6];omega) false).trans ?_
 ·intro ag t i x hx;have hi:=(Z0 hx).1;simp only [l158_0,ltl hx,nn,Q3,hx,Q8,Q4];rw [wr1 (by omega)]
  have hb:i < y.2.1.length:=by omega
  rw [List.nil_append,Z6 hb,Q8,Qu4]
  by_cases hxy:x=y.2.1[i]
  ·rw [Z5 hxy,Zl,Q5,Z5 (by rw [hxy]),Q4]
  ·rw [Z4 hxy,Bool.not_false,Q4,Z4 (show ¬ some y.2.1[i]=some x by simp;exact fun e=>hxy e.symm),Q5]
 ·intro ag t;simp only [l158_0,ltn,Q5]
 ·rw [Q04,Q67 (i:=0) (c:=[]) rfl hc]
  cases decide (u.2.1=y.2.1) with
  | false=>rfl
  | true =>
  rw [Q4,Zg]
  unfold j158_1
  have hfl:u.2.2.2.2.2.2.1.length=y.2.2.2.2.2.2.1.length:=by rw [hf]
  refine (Qc (fun (t:Bool) (i:Int)=>(t,i)) u.2.2.2.2.2.2.1 (fun z i t k=>oif (decide (([]++y.2.2.2.2.2.2.1)[i]? = some z)) (k t) (some false)) (fun t=>j158_0 (d+1) u y t) ?_ ?_ (by rw [Q6];omega) false).trans ?_
  ·intro ag t i x hx;have hi:=(Z0 hx).1;simp only [l158_1,ltl hx,nn,Q3,hx,Q8,Q4];rw [wr1 (by omega)]
   have hb:i < y.2.2.2.2.2.2.1.length:=by omega
   rw [List.nil_append,Z6 hb,Q8,Qyg]
   by_cases hxy:x=y.2.2.2.2.2.2.1[i]
   ·rw [Z5 hxy,Zl,Q5,Z5 (by rw [hxy]),Q4]
   ·rw [Z4 hxy,Bool.not_false,Q4,Z4 (show ¬ some y.2.2.2.2.2.2.1[i]=some x by simp;exact fun e=>hxy e.symm),Q5]
  ·intro ag t;simp only [l158_1,ltn,Q5]
  ·rw [Q04,Q67 (i:=0) (c:=[]) rfl hfl,Z5 hf,Q4]
   unfold j158_0
   rw [Q7w (by omega),Q8]
   cases decide (u.2.2.1=y.2.2.1) with
   | false=>rfl
   | true =>
   rw [Q4,Q7w (by omega),Q8]
   cases decide (u.2.2.2.1=y.2.2.2.1) with
   | false=>rfl
   | true =>
   rw [Q4,Q7w (by omega),Q8]
   cases decide (u.2.2.2.2.1=y.2.2.2.2.1) with
   | false=>rfl
   | true =>
   rw [Q4,Q7w (by omega),Q8]
   cases decide (u.2.2.2.2.2.1=y.2.2.2.2.2.1) with
   | false=>rfl
   | true=>rw [Q4,Q7w (by omega),Q8];rfl
theorem Qs3 {d:Nat} {x:Ld} (h:Qs1 x):g118 (d+11) x=some (lgB x):=by
 have h':=h
 obtain ⟨z1,z2,z3,z4,z5,z6,z7,z8⟩:=h
 rw [e118]
 unfold j118_0 lgB
 by_cases h1:x.2.1.length≤24
 case neg=>rw [Z5 (show ((x.2.1.length:Nat):Int) > 24 by omega),Q4,Q4,Z4 (fun h=>h1 h.1)];rfl
 rw [Z4 (show ¬ ((x.2.1.length:Nat):Int) > 24 by omega),Q5]
 by_cases h2:x.2.2.2.2.2.2.1.length≤16
 case neg=>rw [Z5 (show ((x.2.2.2.2.2.2.1.length:Nat):Int) > 16 by omega),Q4,Z4 (fun h=>h2 h.2)];rfl
 rw [Z4 (show ¬ ((x.2.2.2.2.2.2.1.length:Nat):Int) > 16 by omega),Q5,Z5 ⟨h1,h2⟩,Zg]
 rw [show d+10=(d+8)+2 by omega,Ql4 (by omega) (by omega),Q8,show d+8+2=(d+5)+5 by omega,Qrr (c:=unV x) z1 (show x.2.2.2.2.2.2.1.length < 4000000 by omega),Q8]
 cases hg:gdB (unV x) with
 | false=>rfl
 | true=>rw [Q4,show d+5+5=d+10 by omega,Qkw (Qgl hg),Q8,show d+10=(d+8)+2 by omega,Qs2 (y:=ldV (unV x)) h' rfl rfl,Q8,Zg]
theorem Q68 {α:Type} {l:List α} {z x:α} {k:Nat} (hx:l[k]? = some x):(l.take k++List.replicate (l.length - k) z).set k x=l.take (k+1)++List.replicate (l.length - (k+1)) z:=by
 have hk:=(Z0 hx).1
 have e:=(Z0 hx).2
 have hl:(l.take k).length=k:=by rw [List.length_take];omega
 rw [List.set_append_right _ _ (by omega),hl,Nat.sub_self,show l.length - k=(l.length - (k+1))+1 by omega,List.replicate_succ,List.set_cons_zero,List.take_succ_eq_append_getElem hk,e]
 simp
theorem Qmd {d:Nat} {l:List Cl8} (hl:l.length≤1048576):g48 (d+2) l=some l:=by
 rw [e48,nn,Q4,Q4,Q3,show (Nat.ble l.length l.length&&Nat.ble (l.length*64) Q7)=true by rw [Z8,Nat.ble_eq,Nat.ble_eq];unfold Q7;omega,Q4]
 refine Ok.val (Q0x (fun j (s:Int×List Cl8)=>∃ k:Nat,k+j=l.length∧s.1=(k:Int)∧s.2=l.take k++List.replicate (l.length - k) ((0,0,0,0,0,0,0,0):Cl8)) ?_ _ l.length _ (by rw [Q6];omega) ⟨0,by omega,rfl,by simp⟩)
 rintro j ⟨n,r⟩ ag ⟨k,hk,h1,h2⟩ hag
 simp only at h1 h2
 subst h1
 have hrl:r.length=l.length:=by rw [h2];simp;omega
 simp only [l48_0]
 rcases Nat.lt_or_ge k l.length with hlt | hge
 ·have hx:=Z6 hlt
  rw [ltl hx,Q4,nn,Q4,Q3,hx,Q8,e92,Q8,Q4,Qu (by omega),Q4,Z6 (by omega),Q8,wr1 (by omega)]
  exact hag (j - 1) _ (by omega) ⟨k+1,by omega,rfl,by rw [h2];exact Q68 hx⟩
 ·have:k=l.length:=by omega
  subst this
  rw [ltn,Q5]
  unfold j48_0
  exact Ok.some (by rw [h2];simp)
theorem Qje {d:Nat} {l:List Fl5} (hl:l.length≤1048576):g49 (d+2) l=some l:=by
 rw [e49,nn,Q4,Q4,Q3,show (Nat.ble l.length l.length&&Nat.ble (l.length*40) Q7)=true by rw [Z8,Nat.ble_eq,Nat.ble_eq];unfold Q7;omega,Q4]
 refine Ok.val (Q0x (fun j (s:Int×List Fl5)=>∃ k:Nat,k+j=l.length∧s.1=(k:Int)∧s.2=l.take k++List.replicate (l.length - k) ((0,0,0,0,0):Fl5)) ?_ _ l.length _ (by rw [Q6];omega) ⟨0,by omega,rfl,by simp⟩)
 rintro j ⟨n,r⟩ ag ⟨k,hk,h1,h2⟩ hag
 simp only at h1 h2
 subst h1
 have hrl:r.length=l.length:=by rw [h2];simp;omega
 simp only [l49_0]
 rcases Nat.lt_or_ge k l.length with hlt | hge
 ·have hx:=Z6 hlt
  rw [ltl hx,Q4,nn,Q4,Q3,hx,Q8,e93,Q8,Q4,Qu (by omega),Q4,Z6 (by omega),Q8,wr1 (by omega)]
  exact hag (j - 1) _ (by omega) ⟨k+1,by omega,rfl,by rw [h2];exact Q68 hx⟩
 ·have:k=l.length:=by omega
  subst this
  rw [ltn,Q5]
  unfold j49_0
  exact Ok.some (by rw [h2];simp)
theorem Q4p {d:Nat} {l:List Int} (hl:l.length≤1048576):g78 (d+1) l=some l:=by
 rw [e78,nn,Q4,Q4,Q3,show (Nat.ble l.length l.length&&Nat.ble (l.length*8) Q7)=true by rw [Z8,Nat.ble_eq,Nat.ble_eq];unfold Q7;omega,Q4]
 refine Ok.val (Q0x (fun j (s:Int×List Int)=>∃ k:Nat,k+j=l.length∧s.1=(k:Int)∧s.2=l.take k++List.replicate (l.length - k) (0:Int)) ?_ _ l.length _ (by rw [Q6];omega) ⟨0,by omega,rfl,by simp⟩)
 rintro j ⟨n,r⟩ ag ⟨k,hk,h1,h2⟩ hag
 simp only at h1 h2
 subst h1
 have hrl:r.length=l.length:=by rw [h2];simp;omega
 simp only [l78_0]
 rcases Nat.lt_or_ge k l.length with hlt | hge
 ·have hx:=Z6 hlt
  rw [ltl hx,Q4,nn,Q4,Q3,hx,Q8,Q4,Qu (by omega),Q4,Z6 (by omega),Q8,wr1 (by omega)]
  exact hag (j - 1) _ (by omega) ⟨k+1,by omega,rfl,by rw [h2];exact Q68 hx⟩
 ·have:k=l.length:=by omega
  subst this
  rw [ltn,Q5]
  unfold j78_0
  exact Ok.some (by rw [h2];simp)
def szQ (n:Int) (k:Nat) (r:Int):Prop:=r < 0∨(0≤r∧r≤n∧(k:Int)≤n)
theorem Qme {d:Nat} {l:List Cl8} {n:Int} (h0:0≤n) (h1:n≤1048576) (hl:l.length≤9223372036854775807):Ok (g44 (d+1) l n) fun r=>szQ n l.length r:=by
 rw [e44,wr (by omega) (by omega)]
 by_cases h:n - ((l.length:Nat):Int) < 0
 ·rw [Z5 h,Q4];exact Ok.some (Or.inl (by omega))
 ·rw [Z4 h,Q5];exact Ok.some (Or.inr ⟨by omega,by omega,by omega⟩)
theorem Qjf {d:Nat} {l:List Fl5} {n:Int} (h0:0≤n) (h1:n≤1048576) (hl:l.length≤9223372036854775807):Ok (g45 (d+1) l n) fun r=>szQ n l.length r:=by
 rw [e45,wr (by omega) (by omega)]
 by_cases h:n - ((l.length:Nat):Int) < 0
 ·rw [Z5 h,Q4];exact Ok.some (Or.inl (by omega))
 ·rw [Z4 h,Q5];exact Ok.some (Or.inr ⟨by omega,by omega,by omega⟩)
theorem Q4q {d:Nat} {l:List Int} {n:Int} (h0:0≤n) (h1:n≤1048576) (hl:l.length≤9223372036854775807):Ok (g71 (d+1) l n) fun r=>szQ n l.length r:=by
 rw [e71,wr (by omega) (by omega)]
 by_cases h:n - ((l.length:Nat):Int) < 0
 ·rw [Z5 h,Q4];exact Ok.some (Or.inl (by omega))
 ·rw [Z4 h,Q5];exact Ok.some (Or.inr ⟨by omega,by omega,by omega⟩)
theorem Qmf {d:Nat} {l:List Cl8} (hl:l.length≤2000000):g53 (d+2) l l=some true:=by
 rw [e53,bne_self_eq_false,Q5]
 refine (Qc (fun (t:Bool) (i:Int)=>(t,i)) l (fun x i t k=>k t) (j53_0 (d+1)) ?_ ?_ (by rw [Q6];omega) false).trans ?_
 ·intro ag t i x hx;have hi:=(Z0 hx).1;simp only [l53_0,ltl hx,nn,Q3,hx,Q8,Q4]
  rw [e102]
  simp only [bne_self_eq_false,Q5,Zl,Q8]
  rw [wr1 (by omega)]
 ·intro ag t;simp only [l53_0,ltn,Q5]
 ·rw [Q0r (f:=fun _ _ t=>t)];rfl
theorem Qjg {d:Nat} {l:List Fl5} (hl:l.length≤2000000):g54 (d+2) l l=some true:=by
 rw [e54,bne_self_eq_false,Q5]
 refine (Qc (fun (t:Bool) (i:Int)=>(t,i)) l (fun x i t k=>k t) (j54_0 (d+1)) ?_ ?_ (by rw [Q6];omega) false).trans ?_
 ·intro ag t i x hx;have hi:=(Z0 hx).1;simp only [l54_0,ltl hx,nn,Q3,hx,Q8,Q4]
  rw [e103]
  simp only [bne_self_eq_false,Q5,Zl,Q8]
  rw [wr1 (by omega)]
 ·intro ag t;simp only [l54_0,ltn,Q5]
 ·rw [Q0r (f:=fun _ _ t=>t)];rfl
theorem Q4r {d:Nat} {l:List Int} (hl:l.length≤2000000):g11 (d+1) l l=some true:=by
 rw [e11,bne_self_eq_false,Q5]
 refine (Qc (fun (t:Bool) (i:Int)=>(t,i)) l (fun x i t k=>k t) (j11_0 d) ?_ ?_ (by rw [Q6];omega) false).trans ?_
 ·intro ag t i x hx;have hi:=(Z0 hx).1;simp only [l11_0,ltl hx,nn,Q3,hx,Q8,Q4]
  simp only [bne_self_eq_false,Q5]
  rw [wr1 (by omega)]
 ·intro ag t;simp only [l11_0,ltn,Q5]
 ·rw [Q0r (f:=fun _ _ t=>t)];rfl
def ldL (x:Ld):Prop:=x.1.size≤1048576∧x.2.1.length≤1048576∧x.2.2.1.length≤1048576∧x.2.2.2.1.length≤1048576∧x.2.2.2.2.1.length≤1048576∧x.2.2.2.2.2.1.length≤1048576∧x.2.2.2.2.2.2.1.length≤1048576∧x.2.2.2.2.2.2.2.1.length≤1048576
theorem Qmg {d:Nat} {x:Ld} (h:ldL x):g38 (d+3) x x=some true:=by
 obtain ⟨z1,z2,z3,z4,z5,z6,z7,z8⟩:=h
 rw [e38,beq_self_eq_true,Zl,Q5,Qmf (by omega),Q8,Zl,Q5,Q4r (by omega),Q8,Zl,Q5,Q4r (by omega),Q8,Zl,Q5,Q4r (by omega),Q8,Zl,Q5,Q4r (by omega),Q8,Zl,Q5,Qjg (by omega),Q8,Zl,Q5,Q4r (by omega),Q8,Zl,Q5,bne_self_eq_false,Q5]
theorem Qmh {d:Nat} {x:Ld} (h:ldL x):g34 (d+3) x=some x:=by
 obtain ⟨z1,z2,z3,z4,z5,z6,z7,z8⟩:=h
 rw [e34,Qmd z2,Q8,Q4p z3,Q8,Q4p z4,Q8,Q4p z5,Q8,Q4p z6,Q8,Qje z7,Q8,Q4p z8,Q8]
def ldW (x:Ld):Prop:=x.1.size≤9223372036854775807∧x.2.1.length≤9223372036854775807∧x.2.2.1.length≤9223372036854775807∧x.2.2.2.1.length≤9223372036854775807∧x.2.2.2.2.1.length≤9223372036854775807∧x.2.2.2.2.2.1.length≤9223372036854775807∧x.2.2.2.2.2.2.1.length≤9223372036854775807∧x.2.2.2.2.2.2.2.1.length≤9223372036854775807
theorem Qmi {d:Nat} {x:Ld} {n:Int} (h0:0≤n) (h1:n≤1048576) (h:ldW x):Ok (g30 (d+2) x n) fun r=>r < 0∨(0≤r∧r≤n∧ldL x):=by
 obtain ⟨z1,z2,z3,z4,z5,z6,z7,z8⟩:=h
 have no:Ok (some (-1:Int)) fun r=>r < 0∨(0≤r∧r≤n∧ldL x):=Ok.some (Or.inl (by omega))
 rw [e30,wr (by omega) (by omega)]
 refine Ok.oif (fun _=>no) (fun hs=>?_)
 simp only [decide_eq_false_iff_not] at hs
 refine Ok.bind (Qme (by omega) (by omega) z2) fun r3 g3=>?_
 refine Ok.oif (fun _=>no) (fun hs3=>?_)
 simp only [decide_eq_false_iff_not] at hs3
 have g3:=g3.resolve_left hs3
 refine Ok.bind (Q4q (by omega) (by omega) z3) fun r4 g4=>?_
 refine Ok.oif (fun _=>no) (fun hs4=>?_)
 simp only [decide_eq_false_iff_not] at hs4
 have g4:=g4.resolve_left hs4
 refine Ok.bind (Q4q (by omega) (by omega) z4) fun r5 g5=>?_
 refine Ok.oif (fun _=>no) (fun hs5=>?_)
 simp only [decide_eq_false_iff_not] at hs5
 have g5:=g5.resolve_left hs5
 refine Ok.bind (Q4q (by omega) (by omega) z5) fun r6 g6=>?_
 refine Ok.oif (fun _=>no) (fun hs6=>?_)
 simp only [decide_eq_false_iff_not] at hs6
 have g6:=g6.resolve_left hs6
 refine Ok.bind (Q4q (by omega) (by omega) z6) fun r7 g7=>?_
 refine Ok.oif (fun _=>no) (fun hs7=>?_)
 simp only [decide_eq_false_iff_not] at hs7
 have g7:=g7.resolve_left hs7
 refine Ok.bind (Qjf (by omega) (by omega) z7) fun r8 g8=>?_
 refine Ok.oif (fun _=>no) (fun hs8=>?_)
 simp only [decide_eq_false_iff_not] at hs8
 have g8:=g8.resolve_left hs8
 refine Ok.bind (Q4q (by omega) (by omega) z8) fun r9 g9=>?_
 refine Ok.oif (fun _=>no) (fun hs9=>?_)
 simp only [decide_eq_false_iff_not] at hs9
 have g9:=g9.resolve_left hs9
 exact Ok.some (Or.inr ⟨by omega,by omega,by omega,by omega,by omega,by omega,by omega,by omega,by omega,by omega⟩)
theorem ldL.sz {x:Ld} (h:ldL x):Qs1 x:=by
 obtain ⟨z1,z2,z3,z4,z5,z6,z7,z8⟩:=h
 exact ⟨by omega,by omega,by omega,by omega,by omega,by omega,by omega,by omega⟩
def mC (k:Nat):Cl8:=((k:Int),((k+1:Nat):Int),((k+1+1:Nat):Int),((k+1+1+1:Nat):Int),((k+1+1+1+1:Nat):Int),((k+1+1+1+1+1:Nat):Int),((k+1+1+1+1+1+1:Nat):Int),((k+1+1+1+1+1+1+1:Nat):Int))
def mF (k:Nat):Fl5:=((k:Int),((k+1:Nat):Int),((k+1+1:Nat):Int),((k+1+1+1:Nat):Int),((k+1+1+1+1:Nat):Int))
def mCs:Nat→Nat→List Cl8
 | _,0=>[]
 | k,n+1=>mC k::mCs (k+1+1+1+1+1+1+1+1) n
def mFs:Nat→Nat→List Fl5
 | _,0=>[]
 | k,n+1=>mF k::mFs (k+1+1+1+1+1) n
theorem Qay {α:Type} {p r:List α} {x y:α}:(p++x::r).set p.length y=p++y::r:=by
 rw [List.set_append_right _ _ (Zd _),Nat.sub_self,List.set_cons_zero]
theorem Qu5 {d:Nat}:∀ (r:List Cl8) {p:List Cl8} {k fuel:Nat},r.length < fuel→p.length+r.length≤2000000→k+8*r.length≤1000000000 →
  Q9 (l55_0 d (j55_0 d)) fuel ((k:Int),((p.length:Nat):Int),p++r)=some (((k+8*r.length:Nat):Int),p++mCs k r.length)
 | _,p,k,0,h,_,_=>by omega
 | [],p,k,fuel+1,h,h2,h3=>by
  simp only [Q9,l55_0]
  rw [List.append_nil,ltn,Q5]
  unfold j55_0
  simp [mCs]
 | x::r,p,k,fuel+1,h,h2,h3=>by
  simp only [Z9] at h h2 h3
  have hlt:p.length < (p++x::r).length:=by simp
  have hg:(p++x::r)[p.length]? = some x:=by simp
  simp only [Q9,l55_0,Q3,nn,Q4]
  rw [Z5 (show ((p.length:Nat):Int) < (((p++x::r).length:Nat):Int) by omega),Q4,Qu hlt,Q4,hg,Q8]
  simp only [List.length_set,List.set_set,List.getElem?_set_self hlt,Q8,Qu hlt,Q4]
  rw [Qay,wr1 (by omega),wr1 (by omega),wr1 (by omega),wr1 (by omega),wr1 (by omega),wr1 (by omega),wr1 (by omega),wr1 (by omega),wr1 (by omega)]
  have:=Qu5 (d:=d) r (p:=p++[mC k]) (k:=k+1+1+1+1+1+1+1+1) (fuel:=fuel) (by omega) (by simp;omega) (by omega)
  rw [Zf,show (p++[mC k])++r=p++mC k::r by simp] at this
  simp only [Z9,Zb,mCs]
  rw [show k+8*(r.length+1)=k+1+1+1+1+1+1+1+1+8*r.length by omega,show p++mC k::mCs (k+1+1+1+1+1+1+1+1) r.length=(p++[mC k])++mCs (k+1+1+1+1+1+1+1+1) r.length by simp]
  exact this
theorem Qu6 {d:Nat} {l:List Cl8}:∀ (n:Nat) {p:List Cl8} {k fuel:Nat},l=p++mCs k n→n < fuel→p.length+n≤2000000→k+8*n≤1000000000 →
  Q9 (l58_0 d l (j58_0 d)) fuel ((k:Int),0,((p.length:Nat):Int))=some ((k+8*n:Nat):Int)
 | n,p,k,0,_,h,_,_=>by omega
 | 0,p,k,fuel+1,e,h,h2,h3=>by
  simp only [mCs,List.append_nil] at e
  subst e
  simp only [Q9,l58_0]
  rw [ltn,Q5]
  unfold j58_0
  simp
 | n+1,p,k,fuel+1,e,h,h2,h3=>by
  have hg:l[p.length]? = some (mC k):=by rw [e];simp [mCs]
  have hlt:=(Z0 hg).1
  simp only [Q9,l58_0,Q3,nn,Q4]
  rw [Z5 (show ((p.length:Nat):Int) < ((l.length:Nat):Int) by omega),Q4,hg]
  simp only [Q8]
  rw [wr1 (by omega),wr1 (by omega),wr1 (by omega),wr1 (by omega),wr1 (by omega),wr1 (by omega),wr1 (by omega),wr1 (by omega),wr1 (by omega)]
  unfold mC
  simp only [bne_self_eq_false,Q5]
  have:=Qu6 (d:=d) (l:=l) n (p:=p++[mC k]) (k:=k+1+1+1+1+1+1+1+1) (fuel:=fuel) (by rw [e];simp [mCs]) (by omega) (by simp;omega) (by omega)
  rw [Zf] at this
  simp only [Z9,Zb] at this
  rw [show k+8*(n+1)=k+1+1+1+1+1+1+1+1+8*n by omega]
  exact this
theorem Qu7 {d:Nat}:∀ (r:List Fl5) {p:List Fl5} {k fuel:Nat},r.length < fuel→p.length+r.length≤2000000→k+5*r.length≤1000000000 →
  Q9 (l56_0 d (j56_0 d)) fuel ((k:Int),((p.length:Nat):Int),p++r)=some (((k+5*r.length:Nat):Int),p++mFs k r.length)
 | _,p,k,0,h,_,_=>by omega
 | [],p,k,fuel+1,h,h2,h3=>by
  simp only [Q9,l56_0]
  rw [List.append_nil,ltn,Q5]
  unfold j56_0
  simp [mFs]
 | x::r,p,k,fuel+1,h,h2,h3=>by
  simp only [Z9] at h h2 h3
  have hlt:p.length < (p++x::r).length:=by simp
  have hg:(p++x::r)[p.length]? = some x:=by simp
  simp only [Q9,l56_0,Q3,nn,Q4]
  rw [Z5 (show ((p.length:Nat):Int) < (((p++x::r).length:Nat):Int) by omega),Q4,Qu hlt,Q4,hg,Q8]
  simp only [List.length_set,List.set_set,List.getElem?_set_self hlt,Q8,Qu hlt,Q4]
  rw [Qay,wr1 (by omega),wr1 (by omega),wr1 (by omega),wr1 (by omega),wr1 (by omega),wr1 (by omega)]
  have:=Qu7 (d:=d) r (p:=p++[mF k]) (k:=k+1+1+1+1+1) (fuel:=fuel) (by omega) (by simp;omega) (by omega)
  rw [Zf,show (p++[mF k])++r=p++mF k::r by simp] at this
  simp only [Z9,Zb,mFs]
  rw [show k+5*(r.length+1)=k+1+1+1+1+1+5*r.length by omega,show p++mF k::mFs (k+1+1+1+1+1) r.length=(p++[mF k])++mFs (k+1+1+1+1+1) r.length by simp]
  exact this
theorem Qu8 {d:Nat} {l:List Fl5}:∀ (n:Nat) {p:List Fl5} {k fuel:Nat},l=p++mFs k n→n < fuel→p.length+n≤2000000→k+5*n≤1000000000 →
  Q9 (l59_0 d l (j59_0 d)) fuel ((k:Int),0,((p.length:Nat):Int))=some ((k+5*n:Nat):Int)
 | n,p,k,0,_,h,_,_=>by omega
 | 0,p,k,fuel+1,e,h,h2,h3=>by
  simp only [mFs,List.append_nil] at e
  subst e
  simp only [Q9,l59_0]
  rw [ltn,Q5]
  unfold j59_0
  simp
 | n+1,p,k,fuel+1,e,h,h2,h3=>by
  have hg:l[p.length]? = some (mF k):=by rw [e];simp [mFs]
  have hlt:=(Z0 hg).1
  simp only [Q9,l59_0,Q3,nn,Q4]
  rw [Z5 (show ((p.length:Nat):Int) < ((l.length:Nat):Int) by omega),Q4,hg]
  simp only [Q8]
  rw [wr1 (by omega),wr1 (by omega),wr1 (by omega),wr1 (by omega),wr1 (by omega),wr1 (by omega)]
  unfold mF
  simp only [bne_self_eq_false,Q5]
  have:=Qu8 (d:=d) (l:=l) n (p:=p++[mF k]) (k:=k+1+1+1+1+1) (fuel:=fuel) (by rw [e];simp [mFs]) (by omega) (by simp;omega) (by omega)
  rw [Zf] at this
  simp only [Z9,Zb] at this
  rw [show k+5*(n+1)=k+1+1+1+1+1+5*n by omega]
  exact this
def mIs:Nat→Nat→List Int
 | _,0=>[]
 | k,n+1=>(k:Int)::mIs (k+1) n
theorem Qu9 {d:Nat}:∀ (r:List Int) {p:List Int} {k fuel:Nat},r.length < fuel→p.length+r.length≤2000000→k+r.length≤1000000000 →
  Q9 (l14_0 d (j14_0 d)) fuel ((k:Int),((p.length:Nat):Int),p++r)=some (((k+r.length:Nat):Int),p++mIs k r.length)
 | _,p,k,0,h,_,_=>by omega
 | [],p,k,fuel+1,h,h2,h3=>by
  simp only [Q9,l14_0]
  rw [List.append_nil,ltn,Q5]
  unfold j14_0
  simp [mIs]
 | x::r,p,k,fuel+1,h,h2,h3=>by
  simp only [Z9] at h h2 h3
  have hlt:p.length < (p++x::r).length:=by simp
  have hg:(p++x::r)[p.length]? = some x:=by simp
  simp only [Q9,l14_0,Q3,nn,Q4]
  rw [Z5 (show ((p.length:Nat):Int) < (((p++x::r).length:Nat):Int) by omega),Q4,Qu hlt,Q4,hg,Q8]
  rw [Qay,wr1 (by omega),wr1 (by omega)]
  have:=Qu9 (d:=d) r (p:=p++[(k:Int)]) (k:=k+1) (fuel:=fuel) (by omega) (by simp;omega) (by omega)
  rw [Zf,show (p++[(k:Int)])++r=p++(k:Int)::r by simp] at this
  simp only [Z9,Zb,mIs]
  rw [show k+(r.length+1)=k+1+r.length by omega,show p++(k:Int)::mIs (k+1) r.length=(p++[(k:Int)])++mIs (k+1) r.length by simp]
  exact this
theorem Qua {d:Nat} {l:List Int}:∀ (n:Nat) {p:List Int} {k fuel:Nat},l=p++mIs k n→n < fuel→p.length+n≤2000000→k+n≤1000000000 →
  Q9 (l15_0 d l (j15_0 d)) fuel ((k:Int),0,((p.length:Nat):Int))=some ((k+n:Nat):Int)
 | n,p,k,0,_,h,_,_=>by omega
 | 0,p,k,fuel+1,e,h,h2,h3=>by
  simp only [mIs,List.append_nil] at e
  subst e
  simp only [Q9,l15_0]
  rw [ltn,Q5]
  unfold j15_0
  simp
 | n+1,p,k,fuel+1,e,h,h2,h3=>by
  have hg:l[p.length]? = some (k:Int):=by rw [e];simp [mIs]
  have hlt:=(Z0 hg).1
  simp only [Q9,l15_0,Q3,nn,Q4]
  rw [Z5 (show ((p.length:Nat):Int) < ((l.length:Nat):Int) by omega),Q4,hg]
  simp only [Q8]
  rw [wr1 (by omega),wr1 (by omega)]
  simp only [bne_self_eq_false,Q5]
  have:=Qua (d:=d) (l:=l) n (p:=p++[(k:Int)]) (k:=k+1) (fuel:=fuel) (by rw [e];simp [mIs]) (by omega) (by simp;omega) (by omega)
  rw [Zf] at this
  simp only [Z9,Zb] at this
  rw [show k+(n+1)=k+1+n by omega]
  exact this
theorem Q0f {d k:Nat} {l:List Int} (hl:l.length≤1048576) (hk:k≤100000000):g14 (d+1) l (k:Int)=some (((k+l.length:Nat):Int),mIs k l.length):=by
 rw [e14]
 exact Qu9 l (p:=[]) (by rw [Q6];omega) (by simp;omega) (by omega)
theorem Q9p {d k:Nat} {l:List Cl8} (hl:l.length≤1048576) (hk:k≤100000000):g55 (d+1) l (k:Int)=some (((k+8*l.length:Nat):Int),mCs k l.length):=by
 rw [e55]
 exact Qu5 l (p:=[]) (by rw [Q6];omega) (by simp;omega) (by omega)
theorem Q7x {d k:Nat} {l:List Fl5} (hl:l.length≤1048576) (hk:k≤100000000):g56 (d+1) l (k:Int)=some (((k+5*l.length:Nat):Int),mFs k l.length):=by
 rw [e56]
 exact Qu7 l (p:=[]) (by rw [Q6];omega) (by simp;omega) (by omega)
theorem Q2j {d k n:Nat} (hl:n≤1048576) (hk:k≤100000000):g15 (d+1) (mIs k n) (k:Int)=some (((k+n:Nat):Int)):=by
 rw [e15]
 exact Qua n (p:=[]) rfl (by rw [Q6];omega) (by simp;omega) (by omega)
theorem Qgy {d k n:Nat} (hl:n≤1048576) (hk:k≤100000000):g58 (d+1) (mCs k n) (k:Int)=some (((k+8*n:Nat):Int)):=by
 rw [e58]
 exact Qu6 n (p:=[]) rfl (by rw [Q6];omega) (by simp;omega) (by omega)
theorem Qem {d k n:Nat} (hl:n≤1048576) (hk:k≤100000000):g59 (d+1) (mFs k n) (k:Int)=some (((k+5*n:Nat):Int)):=by
 rw [e59]
 exact Qu8 n (p:=[]) rfl (by rw [Q6];omega) (by simp;omega) (by omega)
def mkL (k:Nat) (x:Ld):Ld:=(x.1,mCs k x.2.1.length,mIs (k+8*x.2.1.length) x.2.2.1.length,mIs (k+8*x.2.1.length+x.2.2.1.length) x.2.2.2.1.length,mIs (k+8*x.2.1.length+x.2.2.1.length+x.2.2.2.1.length) x.2.2.2.2.1.length,mIs (k+8*x.2.1.length+x.2.2.1.length+x.2.2.2.1.length+x.2.2.2.2.1.length) x.2.2.2.2.2.1.length,mFs (k+8*x.2.1.length+x.2.2.1.length+x.2.2.2.1.length+x.2.2.2.2.1.length+x.2.2.2.2.2.1.length) x.2.2.2.2.2.2.1.length,mIs (k+8*x.2.1.length+x.2.2.1.length+x.2.2.2.1.length+x.2.2.2.2.1.length+x.2.2.2.2.2.1.length+5*x.2.2.2.2.2.2.1.length) x.2.2.2.2.2.2.2.1.length,x.2.2.2.2.2.2.2.2)
def enL (k:Nat) (x:Ld):Nat:=k+8*x.2.1.length+x.2.2.1.length+x.2.2.2.1.length+x.2.2.2.2.1.length+x.2.2.2.2.2.1.length+5*x.2.2.2.2.2.2.1.length+x.2.2.2.2.2.2.2.1.length
theorem Qow {k:Nat} {x:Ld} (h:ldL x):enL k x≤k+20000000:=by
 obtain ⟨z1,z2,z3,z4,z5,z6,z7,z8⟩:=h
 unfold enL;omega
theorem Qgz {d k:Nat} {x:Ld} (h:ldL x) (hk:k≤10000000):g68 (d+2) (mkL k x) (k:Int)=some ((enL k x:Nat):Int):=by
 obtain ⟨z1,z2,z3,z4,z5,z6,z7,z8⟩:=h
 rw [e68]
 unfold mkL
 simp only []
 rw [Qgy (by omega) (by omega),Q8,Z4 (by omega),Q5,Q2j (by omega) (by omega),Q8,Z4 (by omega),Q5,Q2j (by omega) (by omega),Q8,Z4 (by omega),Q5,Q2j (by omega) (by omega),Q8,Z4 (by omega),Q5,Q2j (by omega) (by omega),Q8,Z4 (by omega),Q5,Qem (by omega) (by omega),Q8,Z4 (by omega),Q5,Q2j (by omega) (by omega),Q8,Z4 (by omega),Q5]
 rfl
def mkT (k:Nat) (t:Tk):Tk:=(mIs k t.1.length,mIs (k+t.1.length) t.2.length)
def Qyh (k:Nat) (t:Tk):Nat:=k+t.1.length+t.2.length
theorem Qh0 {d k:Nat} {t:Tk} (h1:t.1.length≤1048576) (h2:t.2.length≤1048576) (hk:k≤90000000):g69 (d+2) (mkT k t) (k:Int)=some ((Qyh k t:Nat):Int):=by
 rw [e69]
 unfold mkT
 simp only []
 rw [Q2j (by omega) (by omega),Q8,Z4 (by omega),Q5,Q2j (by omega) (by omega),Q8,Z4 (by omega),Q5]
 rfl
theorem Qmj {d:Nat} {t:Tk} (h1:t.1.length≤2000000) (h2:t.2.length≤2000000):g39 (d+2) t t=some true:=by
 rw [e39,Q4r h1,Q8,Zl,Q5,Q4r h2,Q8,Zl,Q5]
theorem Qmk {d:Nat} {t:Tk} (h1:t.1.length≤1048576) (h2:t.2.length≤1048576):g35 (d+2) t=some t:=by
 rw [e35,Q4p h1,Q8,Q4p h2,Q8]
theorem Qml {d:Nat} {t:Tk} {n:Int} (h0:0≤n) (h1:n≤1048576) (z1:t.1.length≤9223372036854775807) (z2:t.2.length≤9223372036854775807):Ok (g31 (d+2) t n) fun r=>r < 0∨(0≤r∧r≤n∧t.1.length≤1048576∧t.2.length≤1048576):=by
 have no:Ok (some (-1:Int)) fun r=>r < 0∨(0≤r∧r≤n∧t.1.length≤1048576∧t.2.length≤1048576):=Ok.some (Or.inl (by omega))
 rw [e31]
 refine Ok.bind (Q4q (by omega) (by omega) z1) fun r3 g3=>?_
 refine Ok.oif (fun _=>no) (fun hs3=>?_)
 simp only [decide_eq_false_iff_not] at hs3
 have g3:=g3.resolve_left hs3
 refine Ok.bind (Q4q (by omega) (by omega) z2) fun r4 g4=>?_
 refine Ok.oif (fun _=>no) (fun hs4=>?_)
 simp only [decide_eq_false_iff_not] at hs4
 have g4:=g4.resolve_left hs4
 exact Ok.some (Or.inr ⟨by omega,by omega,by omega,by omega⟩)
theorem Q1q {l:List Int} {i:Nat} {z:Int} (h:i < l.length):l[i]? = some (l.getD i z):=by
 rw [Zr,Z6 h];rfl
def tkO (t:Tk) (c:Cl8) (i:Nat):Bool:=decide (0≤t.1.getD i 0∧t.1.getD i 0≤c.2.2.2.2.1)&&decide (0≤t.2.getD i 0∧t.2.getD i 0≤c.2.2.2.2.2.1)
def tkB (x:Ld) (t:Tk):Bool:=decide (t.1.length=x.2.1.length∧t.2.length=x.2.1.length)&&Q4c (tkO t) x.2.1 0
theorem Qvo {x:Ld} {t:Tk} (h:tkB x t=true):t.1.length=x.2.1.length∧t.2.length=x.2.1.length:=by
 unfold tkB at h
 simp only [Z8,Zj] at h
 exact h.1
theorem Qen {d:Nat} {x:Ld} {t:Tk} (hl:x.2.1.length≤1000):g81 (d+1) x t=some (tkB x t):=by
 rw [e81]
 unfold j81_2 tkB
 by_cases h1:t.1.length=x.2.1.length
 case neg=>rw [show ((((t.1.length:Nat):Int)) != ((x.2.1.length:Nat):Int))=true by simp;omega,Q4,Q4,Z4 (fun h=>h1 h.1)];rfl
 by_cases h2:t.2.length=x.2.1.length
 case neg=>rw [show ((((t.1.length:Nat):Int)) != ((x.2.1.length:Nat):Int))=false by simp;omega,Q5,show ((((t.2.length:Nat):Int)) != ((x.2.1.length:Nat):Int))=true by simp;omega,Q4,Z4 (fun h=>h2 h.2)];rfl
 rw [show ((((t.1.length:Nat):Int)) != ((x.2.1.length:Nat):Int))=false by simp;omega,Q5,show ((((t.2.length:Nat):Int)) != ((x.2.1.length:Nat):Int))=false by simp;omega,Q5,Z5 ⟨h1,h2⟩,Zg]
 refine (Qc (fun (t:Bool) (i:Int)=>(t,i)) x.2.1 (fun c i b k=>oif (tkO t c i) (k b) (some false)) (fun _=>some true) ?_ ?_ (by rw [Q6];omega) false).trans ?_
 ·intro ag b i c hx
  have hi:=(Z0 hx).1
  simp only [l81_0,ltl hx,nn,Q3,hx,Q8,Q4]
  rw [Q1q (l:=t.1) (z:=0) (by omega),Q1q (l:=t.2) (z:=0) (by omega)]
  simp only [Q8]
  unfold j81_1
  by_cases a1:t.1.getD i 0 < 0
  ·rw [Z5 a1,Q4,Q4,show tkO t c i=false by unfold tkO;rw [Z4 (by omega),Bool.false_and],Q5]
  by_cases a2:t.1.getD i 0 > c.2.2.2.2.1
  ·rw [Z4 a1,Q5,Z5 a2,Q4,Q4,show tkO t c i=false by unfold tkO;rw [Z4 (by omega),Bool.false_and],Q5]
  by_cases a3:t.2.getD i 0 < 0
  ·rw [Z4 a1,Q5,Z4 a2,Q5,Z5 a3,Q4,Q4,show tkO t c i=false by unfold tkO;rw [Bool.and_comm,Z4 (by omega),Bool.false_and],Q5]
  by_cases a4:t.2.getD i 0 > c.2.2.2.2.2.1
  ·rw [Z4 a1,Q5,Z4 a2,Q5,Z4 a3,Q5,Z5 a4,Q4,show tkO t c i=false by unfold tkO;rw [Bool.and_comm,Z4 (by omega),Bool.false_and],Q5]
  ·rw [Z4 a1,Q5,Z4 a2,Q5,Z4 a3,Q5,Z4 a4,Q5,show tkO t c i=true by unfold tkO;rw [Z5 (by omega),Z5 (by omega)];rfl,Q4,wr1 (by omega)]
 ·intro ag t;simp only [l81_0,ltn,Q5];rfl
 ·rw [Q04];cases Q4c (tkO t) x.2.1 0<;>rfl
theorem Qmm {d:Nat} {x:Ld} {t:Tk} (hl:x.2.1.length≤1000):g119 (d+2) x t=some (tkB x t):=by
 rw [e119]
 unfold j119_1 tkB
 by_cases h1:t.1.length=x.2.1.length
 case neg=>rw [show ((((t.1.length:Nat):Int)) != ((x.2.1.length:Nat):Int))=true by simp;omega,Q4,Q4,Z4 (fun h=>h1 h.1)];rfl
 by_cases h2:t.2.length=x.2.1.length
 case neg=>rw [show ((((t.1.length:Nat):Int)) != ((x.2.1.length:Nat):Int))=false by simp;omega,Q5,show ((((t.2.length:Nat):Int)) != ((x.2.1.length:Nat):Int))=true by simp;omega,Q4,Z4 (fun h=>h2 h.2)];rfl
 rw [show ((((t.1.length:Nat):Int)) != ((x.2.1.length:Nat):Int))=false by simp;omega,Q5,show ((((t.2.length:Nat):Int)) != ((x.2.1.length:Nat):Int))=false by simp;omega,Q5,Z5 ⟨h1,h2⟩,Zg]
 refine (Qc (fun (t:Bool) (i:Int)=>(t,i)) x.2.1 (fun c i b k=>oif (tkO t c i) (k b) (some false)) (fun _=>some true) ?_ ?_ (by rw [Q6];omega) false).trans ?_
 ·intro ag b i c hx
  have hi:=(Z0 hx).1
  simp only [l119_0,ltl hx,nn,Q3,hx,Q8,Q4]
  rw [Q1q (l:=t.1) (z:=0) (by omega),Q1q (l:=t.2) (z:=0) (by omega),Q8,Q8,Q57,Q8,Q57,Q8,wr1 (by omega)]
  unfold tkO
  cases decide (0≤t.1.getD i 0∧t.1.getD i 0≤c.2.2.2.2.1) with
  | false=>rfl
  | true=>cases decide (0≤t.2.getD i 0∧t.2.getD i 0≤c.2.2.2.2.2.1)<;>rfl
 ·intro ag t;simp only [l119_0,ltn,Q5];rfl
 ·rw [Q04];cases Q4c (tkO t) x.2.1 0<;>rfl
theorem Qub {x:Ld} (h:lgB x=true):x.2.1.length≤24:=by
 unfold lgB at h
 simp only [Z8,Zj] at h
 exact h.1.1
theorem Qs4 {d:Nat} {x:Ld} {t:Tk} (h:Qs1 x):g73 (d+12) x t=some (lgB x&&tkB x t):=by
 rw [e73,Qs3 h,Q8]
 cases hg:lgB x with
 | false=>rfl
 | true =>
  have:=Qub hg
  rw [Q4,show d+11=d+9+2 by omega,Qmm (by omega),Q8,Zg]
theorem Qvp {d:Nat} {t:Tk} (h1:t.1.length≤1000) (h2:t.2.length≤1000):g108 (d+2) t=some t:=by
 rw [e108,e153,e153,room (by simp;omega),Q4,Q8,room (by simp;omega),Q4,Q8]
 rfl
def lvV (F:List Int):List Int:=Q6u (fun f _=>decide (f < 0)) (fun _ k=>((k:Nat):Int)) F 0
theorem Q75 {F:List Int}:(lvV F).length≤F.length:=Qf4 _ _
theorem Qd0 {d:Nat} {x:Ld} (hl:x.2.1.length≤1000) (hE:x.2.2.2.1.length=x.2.1.length):g82 (d+1) x=some (lvV x.2.2.2.1):=by
 rw [e82]
 refine (Qc (fun (t:List Int) (i:Int)=>(t,i)) x.2.2.2.1 (fun f i t k=>oif (decide (f < 0)) (oif (Nat.ble ((t.length+[((i:Nat):Int)].length)*8) Q7) (k (t++[((i:Nat):Int)])) none) (k t)) (fun t=>some t) ?_ ?_ (by rw [Q6];omega) []).trans ?_
 ·intro ag t i f hx
  have hi:=(Z0 hx).1
  simp only [l82_0,← hE,ltl hx,nn,Q3,hx,Q8,Q4]
  rw [wr1 (by omega)]
 ·intro ag t;simp only [l82_0,← hE,ltn,Q5];rfl
 ·rw [Q22 (c:=fun f _=>decide (f < 0)) (e:=fun (_:Int) (k:Nat)=>((k:Nat):Int)) (w:=8) x.2.2.2.1 0 [] (by simp;omega)]
  rfl
theorem Qs5 {d k:Nat} {x:Ld} {f:Int} (h:x.2.2.2.1[k]? = some f):g120 (d+1) x ((k:Nat):Int)=some (decide (f < 0)):=by
 rw [e120,nn,Q4,Q3,h,Q8]
theorem Q90 {d:Nat} {x:Ld} (hl:x.2.1.length≤1000) (hE:x.2.2.2.1.length=x.2.1.length):g74 (d+2) x=some (lvV x.2.2.2.1):=by
 rw [e74]
 refine (Qc (fun (t:List Int) (i:Int)=>(t,i)) x.2.2.2.1 (fun f i t k=>oif (decide (f < 0)) (oif (Nat.ble ((t.length+[((i:Nat):Int)].length)*8) Q7) (k (t++[((i:Nat):Int)])) none) (k t)) (fun t=>some t) ?_ ?_ (by rw [Q6];omega) []).trans ?_
 ·intro ag t i f hx
  have hi:=(Z0 hx).1
  simp only [l74_0,← hE,ltl hx,Q4]
  rw [Qs5 hx,Q8,wr1 (by omega)]
 ·intro ag t;simp only [l74_0,← hE,ltn,Q5];rfl
 ·rw [Q22 (c:=fun f _=>decide (f < 0)) (e:=fun (_:Int) (k:Nat)=>((k:Nat):Int)) (w:=8) x.2.2.2.1 0 [] (by simp;omega)]
  rfl
theorem Qmn {l:List Cl8} (T:Tr l) {i:Int} (hi:vI l i) (hp:0≤Q10 l i):pW l (Q10 l i) < pW l i:=by
 have hv:=Qj8 (l:=l) (i:=i) hp
 obtain ⟨A,B,e⟩:=Qee T _ (Q10 l i) (Zd _) hv
 rw [Qcw T hv] at e
 have hm:i∈(kdI l (Q10 l i)).flatMap (Qab l):=List.mem_flatMap.2 ⟨i,(Q6q T hv).2 ⟨hi,rfl⟩,by rw [Qcw T hi];simp⟩
 obtain ⟨m,hm⟩:=List.getElem?_of_mem hm
 have hlt:=(Z0 hm).1
 have h1:(wlk l)[A.length]? = some (Q10 l i):=by rw [e];simp
 have h2:(wlk l)[A.length+1+m]? = some i:=by
  rw [e,List.append_assoc,Zq (by omega),show A.length+1+m - A.length=m+1 by omega,List.cons_append,List.getElem?_cons_succ,List.getElem?_append_left hlt,hm]
 unfold pW
 rw [Q3u (Q0u T) h1,Q3u (Q0u T) h2]
 omega
structure Lk (x:Ld):Prop where
 n24:x.2.1.length≤24
 pl:x.2.2.1.length=x.2.1.length
 fl:x.2.2.2.1.length=x.2.1.length
 pd:∀ (k:Nat) (p:Int),x.2.2.1[k]? = some p→p < (k:Int)
 bur:∀ c∈x.2.1,c.2.2.2.2.1≤1000000∧c.2.2.2.2.2.1≤1000000
theorem Qvq {x:Ld} (h:lgB x=true):Lk x:=by
 have h24:=Qub h
 unfold lgB smB at h
 simp only [Z8,Zj] at h
 obtain ⟨_,hg,s1,s2,s3,_⟩:=h
 have G:=Qgl hg
 have T:=G.tr
 have e1:x.2.1.length=(wlk (unV x).2.1).length:=by rw [s1];show ((wlk (unV x).2.1).map _).length=_;rw [List.length_map]
 refine ⟨h24,?_,?_,?_,?_⟩
 ·rw [e1,s2];show ((wlk (unV x).2.1).map _).length=_;rw [List.length_map]
 ·rw [e1,s3];show ((wlk (unV x).2.1).map _).length=_;rw [List.length_map]
 ·intro k p hp
  rw [s2] at hp
  have hp':((wlk (unV x).2.1).map fun i=>pW (unV x).2.1 (Q10 (unV x).2.1 i))[k]? = some p:=hp
  rw [List.getElem?_map] at hp'
  obtain ⟨i,hi,rfl⟩:=Option.map_eq_some_iff.1 hp'
  have hv:=(Q1b T).1 (Zc hi)
  have hk:pW (unV x).2.1 i=(k:Int):=Q3u (Q0u T) hi
  rcases Int.lt_or_le (Q10 (unV x).2.1 i) 0 with h0 | h0
  ·rw [Q8w T h0];omega
  ·have:=Qmn T hv h0;omega
 ·intro c hc
  have hm:c∈(unV x).2.1:=Q5k.mem_iff.2 hc
  have:=G.cl
  unfold Qft at this
  simp only [Z8] at this
  have:=Z3 this.2.2.2.2.2.2.2.1 c hm
  unfold Qfu at this
  simp only [Zj] at this
  omega
abbrev Pk:=Int×Int×Int×Int×Int×Int
def Qd1 (n:Int):Bool:=decide (0≤n∧n≤65535)
def Qae (p:Pk):Bool:=decide (1≤p.1∧p.1≤100000∧0≤p.2.1∧p.2.1≤65535∧0≤p.2.2.1∧p.2.2.1≤65535∧0≤p.2.2.2.1∧p.2.2.2.1≤65535∧0≤p.2.2.2.2.1∧p.2.2.2.2.1≤65535∧1≤p.2.2.2.2.2∧p.2.2.2.2.2≤1500)
theorem Q91 {d:Nat} {x:Pk}:g64 (d+2) x=some (Qae x):=by
 rw [e64,e109,Q8]
 refine (Qc (fun (t:Bool) (i:Int)=>(t,i)) [x.2.1,x.2.2.1,x.2.2.2.1,x.2.2.2.2.1] (fun y _ t k=>oif (Qd1 y) (k t) (some false)) (j64_0 (d+1) x) ?_ ?_ (by rw [Q6];simp) false).trans ?_
 ·intro ag t i y hy
  have hi:i < 4:=by have:=(Z0 hy).1;simpa using this
  have h4:decide ((i:Int) < 4)=true:=by simp;omega
  simp only [l64_0,h4,nn,Q3,Q4]
  rw [hy,Q8,wr1 (by omega)]
  unfold Qd1
  by_cases h1:y < 0
  ·rw [Z5 h1,Q4,Z4 (by omega),Q5]
  ·rw [Z4 h1,Q5]
   by_cases h2:y > 65535
   ·rw [Z5 h2,Q4,Z4 (by omega),Q5]
   ·rw [Z4 h2,Q5,Z5 (by omega),Q4]
 ·intro ag t;rfl
 ·rw [Q1j (p:=Qd1)]
  unfold j64_0
  simp only [Q5a]
  congr 1
  rw [Bool.eq_iff_iff]
  simp only [List.all_cons,List.all_nil,Bool.and_true,Qd1,Qae]
  simp
  omega
theorem Qs6 {d:Nat} {n:Int}:g105 (d+2) n=some (Qd1 n):=by
 rw [e105,Q57,Q8];rfl
theorem Ql5 {d:Nat} {x:Pk}:g60 (d+3) x=some (Qae x):=by
 rw [e60]
 simp only [Q57,Qs6,Q8,Q5a]
 congr 1
 rw [Bool.eq_iff_iff]
 simp [Qd1,Qae]
 omega
theorem bleT {a b:Nat} (h:a≤b):Nat.ble a b=true:=by rw [Nat.ble_eq];exact h
def Qyi (l:List Pk):Prop:=∀ p∈l,Qae p=true
def Qnq (l:List Pk) (id:Int):Bool:=l.any fun p=>p.1==id
theorem Qh1 {β:Type} {id:Int} {yes:Nat→Option β} {fin:Int→Option β} (hy:∀ i j,yes i=yes j):∀ (l:List Pk) (i:Nat) (t:Int),
  Q03 (fun (x:Pk) i (t:Int) k=>oif (x.1==id) (yes i) (k t)) fin l i t=if Qnq l id then yes 0 else fin t
 | [],i,t=>by simp [Q03,Qnq]
 | x::r,i,t=>by
  simp only [Q03]
  cases h:x.1==id with
  | true=>simp only [Q4,Qnq,List.any_cons,h,Bool.true_or,if_true];exact hy i 0
  | false=>simp only [Q5,Qnq,List.any_cons,h,Bool.false_or];exact Qh1 hy r (i+1) t
theorem Qox {d:Nat} {l:List Pk} {id:Int} (hl:l.length < 4194304):g112 (d+4) l id=some (Qnq l id):=by
 rw [e112]
 refine (Qc (fun (t:Int) (i:Int)=>(t,i)) l (fun (x:Pk) i (t:Int) k=>oif (x.1==id) (some true) (k t)) (fun _=>some false) ?_ ?_ (by rw [Q6];exact hl) 0).trans ?_
 ·intro ag t i x hx
  have hi:=(Z0 hx).1
  simp only [l112i155i176_0,ltl hx,nn,Q3,hx,Q8,Q4]
  rw [wr1 (by omega)]
  first | done | rfl | simp
 ·intro ag t;simp only [l112i155i176_0,ltn,Q5];rfl
 ·rw [Qh1 (fun _ _=>rfl)];cases Qnq l id<;>rfl
def okI (l:List Pk) (x:Pk) (i:Nat):Bool:=Qae x && !Qnq (l.take i) x.1
def apV (l:List Pk):Bool:=Q4c (okI l) l 0
theorem Quc (l:List Pk):∀ (r pre:List Pk),l=pre++r→(Q4c (okI l) r pre.length=true↔(∀ x∈r,Qae x=true)∧(∀ x∈r,∀ y∈pre,y.1≠x.1)∧(r.map fun p=>p.1).Nodup)
 | [],pre,_=>by simp [Q4c]
 | x::r,pre,h=>by
  have ih:=Quc l r (pre++[x]) (by rw [h];simp)
  simp only [Zf,Z9,Zb,Zo] at ih
  have ht:l.take pre.length=pre:=by rw [h];simp
  simp only [Q4c,Z8,ih,okI,ht,Bool.not_eq_true',List.map_cons,List.nodup_cons,List.mem_cons,forall_eq_or_imp,Zh,List.mem_singleton]
  have hh:Qnq pre x.1=false↔∀ y∈pre,y.1≠x.1:=by
   unfold Qnq;rw [List.any_eq_false];simp
  rw [hh]
  constructor
  ·rintro ⟨⟨a,b⟩,c,e,f⟩
   refine ⟨⟨a,c⟩,⟨b,fun z hz y hy=>e z hz y (.inl hy)⟩,fun hm=>?_,f⟩
   obtain ⟨z,hz,hzx⟩:=List.mem_map.1 hm
   exact e z hz x (.inr (.inl rfl)) hzx.symm
  ·rintro ⟨⟨a,c⟩,⟨b,e⟩,g,f⟩
   refine ⟨⟨a,b⟩,c,fun z hz y hy=>?_,f⟩
   rcases hy with hy | hy | hy
   ·exact e z hz y hy
   ·subst hy;exact fun he=>g (List.mem_map.2 ⟨z,hz,he.symm⟩)
   ·simp at hy
theorem Qyj (l:List Pk):apV l=true↔Qyi l∧(l.map fun p=>p.1).Nodup:=by
 have:=Quc l l [] rfl
 simp only [Zb,List.not_mem_nil,false_imp_iff,implies_true,true_and] at this
 exact this
theorem Qmo {d:Nat} {l:List Pk} (hl:l.length < 4194304):g84 (d+5) l=some (apV l):=by
 rw [e84]
 refine (Qc (fun (t:Bool) (i:Int)=>(t,i)) l (fun x i t k=>oif (okI l x i) (k t) (some false)) (fun _=>some true) ?_ ?_ (by rw [Q6];exact hl) false).trans ?_
 ·intro ag t i x hx
  have hi:=(Z0 hx).1
  simp only [l84_0,ltl hx,nn,Q3,hx,Q8,Q4,Q91]
  rw [wr1 (by omega),bleT (show i≤l.length by omega),Q4,Qox (by simp;omega),Q8]
  unfold okI
  cases Qae x<;>cases Qnq (l.take i) x.1<;>rfl
 ·intro ag t;simp only [l84_0,ltn,Q5];rfl
 ·rw [Q04];unfold apV;cases Q4c (okI l) l 0<;>rfl
abbrev Rg:=Ld×Tk×List (List Pk)×Int×Int
def rwL (l:List (List Pk)):Prop:=l.length≤1048576∧∀ r∈l,r.length≤1048576
theorem Q92 {rows:List (List Pk)} {k:Nat} {row:List Pk} (hx:rows[k]? = some row):(rows.take (k+1)).flatten=(rows.take k).flatten++row:=by
 have hk:=(Z0 hx).1
 have e:=(Z0 hx).2
 rw [List.take_succ_eq_append_getElem hk,List.flatten_append,e]
 simp
theorem Qjh {rows:List (List Pk)} (k:Nat):(rows.take k).flatten.length≤rows.flatten.length:=by
 have:rows.flatten=(rows.take k).flatten++(rows.drop k).flatten:=by rw [← List.flatten_append,List.take_append_drop]
 rw [this,Zf];omega
theorem Qh2 {d:Nat} {l:List (List Pk)} {n:Int} (h0:0≤n) (h1:n≤1048576) (hl:l.length≤9223372036854775807) (hr:∀ r∈l,r.length≤9223372036854775807):Ok (g32 (d+2) l n) fun r=>r < 0∨(0≤r∧rwL l∧l.flatten.length≤1048576∧0≤r∧r≤1048576):=by
 rw [e32,wr (by omega) (by omega)]
 by_cases h:n - ((l.length:Nat):Int) < 0
 ·rw [Z5 h,Q4];exact Ok.some (Or.inl (by omega))
 rw [Z4 h,Q5]
 refine Qac (fun (t:Int×Int) (i:Int)=>(t.1,t.2,i)) l (fun k t=>(0≤t.1∧t.1+(((l.take k).flatten.length:Nat):Int)≤1048576)∧∀ (j:Nat) r,j < k→l[j]? = some r→r.length≤1048576) ?_ ?_ Qe 0 (n - ((l.length:Nat):Int),0) (by rw [Q6];omega) (by omega) ⟨⟨by simp only;omega,by simp only [List.take_zero,List.flatten_nil,Zb];omega⟩,fun j r hj=>absurd hj (by omega)⟩
 ·rintro ag ⟨a,b⟩ k row hx ⟨⟨a0,a1⟩,hp⟩ hag
  simp only at a0 a1
  have hk:=(Z0 hx).1
  have hrow:=hr row (Zc hx)
  simp only [l32_0,ltl hx,nn,Q3,hx,Q8,Q4]
  rw [e72,wr (by omega) (by omega)]
  by_cases h5:a - ((row.length:Nat):Int) < 0
  ·rw [Z5 h5,Q4,Q8,Z5 (show (-1:Int) < 0 by omega),Q4];exact Ok.some (Or.inl (by omega))
  ·rw [Z4 h5,Q5,Q8,Z4 h5,Q5,wr1 (by omega)]
   have h6:(l.take (k+1)).flatten.length=(l.take k).flatten.length+row.length:=by rw [Q92 hx,Zf]
   refine hag (a - ((row.length:Nat):Int),b) ⟨⟨by simp only;omega,by simp only;omega⟩,fun j r hj hg=>?_⟩
   by_cases e:j=k
   ·subst e;rw [hx] at hg;injection hg with hg;subst hg;omega
   ·exact hp j r (by omega) hg
 ·rintro ag ⟨a,b⟩ ⟨⟨a0,a1⟩,hp⟩
  simp only at a0 a1
  simp only [l32_0,ltn,Q5]
  rw [List.take_length] at a1
  refine Ok.some (Or.inr ⟨a0,⟨by omega,fun r hr=>?_⟩,by omega,a0,by omega⟩)
  obtain ⟨j,hj⟩:=List.getElem?_of_mem hr
  exact hp j r (Z0 hj).1 hj
def rgL (r:Rg):Prop:=ldL r.1∧r.2.1.1.length≤1048576∧r.2.1.2.length≤1048576∧rwL r.2.2.1
def rgW (r:Rg):Prop:=ldW r.1∧(r.2.1.1.length≤9223372036854775807∧r.2.1.2.length≤9223372036854775807)∧r.2.2.1.length≤9223372036854775807∧∀ q∈r.2.2.1,q.length≤9223372036854775807
theorem Qvr {d:Nat} {r:Rg} (h:rgW r):Ok (g7 (d+3) r 1048576) fun z=>z < 0∨(0≤z∧z≤1048576∧rgL r∧r.2.2.1.flatten.length≤1048576):=by
 obtain ⟨z1,z2,z3,z4⟩:=h
 have no:Ok (some (-1:Int)) fun z=>z < 0∨(0≤z∧z≤1048576∧rgL r∧r.2.2.1.flatten.length≤1048576):=Ok.some (Or.inl (by omega))
 rw [e7]
 refine Ok.bind (Qmi (by omega) (by omega) z1) fun r3 g3=>?_
 refine Ok.oif (fun _=>no) (fun hs3=>?_)
 simp only [decide_eq_false_iff_not] at hs3
 have g3:=g3.resolve_left hs3
 refine Ok.bind (Qml (by omega) (by omega) z2.1 z2.2) fun r4 g4=>?_
 refine Ok.oif (fun _=>no) (fun hs4=>?_)
 simp only [decide_eq_false_iff_not] at hs4
 have g4:=g4.resolve_left hs4
 refine Ok.bind (Qh2 (by omega) (by omega) z3 z4) fun r5 g5=>?_
 refine Ok.oif (fun _=>no) (fun hs5=>?_)
 simp only [decide_eq_false_iff_not] at hs5
 have g5:=g5.resolve_left hs5
 exact Ok.some (Or.inr ⟨g5.1,g5.2.2.2.2,⟨g3.2.2,g4.2.2.1,g4.2.2.2,g5.2.1⟩,g5.2.2.1⟩)
theorem Qji {d:Nat} {l:List Pk} (hl:l.length≤1048576):g79 (d+2) l=some l:=by
 rw [e79,nn,Q4,Q4,Q3,show (Nat.ble l.length l.length&&Nat.ble (l.length*48) Q7)=true by rw [Z8,Nat.ble_eq,Nat.ble_eq];unfold Q7;omega,Q4]
 refine Ok.val (Q0x (fun j (s:Int×List Pk)=>∃ k:Nat,k+j=l.length∧s.1=(k:Int)∧s.2=l.take k++List.replicate (l.length - k) ((0,0,0,0,0,0):Pk)) ?_ _ l.length _ (by rw [Q6];omega) ⟨0,by omega,rfl,by simp⟩)
 rintro j ⟨n,r⟩ ag ⟨k,hk,h1,h2⟩ hag
 simp only at h1 h2
 subst h1
 have hrl:r.length=l.length:=by rw [h2];simp;omega
 simp only [l79_0]
 rcases Nat.lt_or_ge k l.length with hlt | hge
 ·have hx:=Z6 hlt
  rw [ltl hx,Q4,nn,Q4,Q3,hx,Q8,e26,Q8,Q4,Qu (by omega),Q4,Z6 (by omega),Q8,wr1 (by omega)]
  exact hag (j - 1) _ (by omega) ⟨k+1,by omega,rfl,by rw [h2];exact Q68 hx⟩
 ·have:k=l.length:=by omega
  subst this
  rw [ltn,Q5]
  unfold j79_0
  exact Ok.some (by rw [h2];simp)
theorem Qh3 {d:Nat} {l:List (List Pk)} (h:rwL l):g36 (d+3) l=some l:=by
 obtain ⟨hl,hr⟩:=h
 rw [e36,nn,Q4,Q4,Q3,show (Nat.ble l.length l.length&&Nat.ble (l.length*24) Q7)=true by rw [Z8,Nat.ble_eq,Nat.ble_eq];unfold Q7;omega,Q4]
 refine Ok.val (Q0x (fun j (s:Int×List (List Pk))=>∃ k:Nat,k+j=l.length∧s.1=(k:Int)∧s.2=l.take k++List.replicate (l.length - k) ([]:List Pk)) ?_ _ l.length _ (by rw [Q6];omega) ⟨0,by omega,rfl,by simp⟩)
 rintro j ⟨n,r⟩ ag ⟨k,hk,h1,h2⟩ hag
 simp only at h1 h2
 subst h1
 have hrl:r.length=l.length:=by rw [h2];simp;omega
 simp only [l36_0]
 rcases Nat.lt_or_ge k l.length with hlt | hge
 ·have hx:=Z6 hlt
  rw [ltl hx,Q4,nn,Q4,Q3,hx,Q8,Qji (hr _ (List.getElem_mem hlt)),Q8,Q4,Qu (by omega),Q4,Z6 (show k < r.length by omega),Q8,wr1 (by omega)]
  exact hag (j - 1) _ (by omega) ⟨k+1,by omega,rfl,by rw [h2];exact Q68 hx⟩
 ·have:k=l.length:=by omega
  subst this
  rw [ltn,Q5]
  unfold j36_0
  exact Ok.some (by rw [h2];simp)
theorem Qvs {d:Nat} {r:Rg} (h:rgL r):g9 (d+4) r=some r:=by
 obtain ⟨h1,h2,h3,h4⟩:=h
 rw [e9,Qmh h1,Q8,show d+3=d+1+2 by omega,Qmk h2 h3,Q8,show d+1+2=d+3 by omega,Qh3 h4,Q8]
theorem Qjj {d:Nat} {l:List Pk} (hl:l.length≤2000000):g86 (d+2) l l=some true:=by
 rw [e86,bne_self_eq_false,Q5]
 refine (Qc (fun (t:Bool) (i:Int)=>(t,i)) l (fun x i t k=>k t) (j86_0 (d+1)) ?_ ?_ (by rw [Q6];omega) false).trans ?_
 ·intro ag t i x hx;have hi:=(Z0 hx).1;simp only [l86_0,ltl hx,nn,Q3,hx,Q8,Q4]
  rw [e127]
  simp only [bne_self_eq_false,Q5,Zl,Q8]
  rw [wr1 (by omega)]
 ·intro ag t;simp only [l86_0,ltn,Q5]
 ·rw [Q0r (f:=fun _ _ t=>t)];rfl
theorem Qh4 {d:Nat} {l:List (List Pk)} (h:rwL l):g40 (d+3) l l=some true:=by
 obtain ⟨hl,hr⟩:=h
 rw [e40,bne_self_eq_false,Q5]
 refine (Qc (fun (t:Bool) (i:Int)=>(t,i)) l (fun x i t k=>k t) (j40_0 (d+2)) ?_ ?_ (by rw [Q6];omega) false).trans ?_
 ·intro ag t i x hx;have hi:=(Z0 hx).1;simp only [l40_0,ltl hx,nn,Q3,hx,Q8,Q4]
  have:=hr _ (Zc hx)
  rw [Qjj (by omega),Q8,Zl,Q5,wr1 (by omega)]
 ·intro ag t;simp only [l40_0,ltn,Q5]
 ·rw [Q0r (f:=fun _ _ t=>t)];rfl
theorem Qoy {d:Nat} {r:Rg} (h:rgL r):g12 (d+4) r r=some true:=by
 obtain ⟨h1,h2,h3,h4⟩:=h
 rw [e12,Qmg h1,Q8,Zl,Q5,show d+3=d+1+2 by omega,Qmj (by omega) (by omega),Q8,Zl,Q5,show d+1+2=d+3 by omega,Qh4 h4,Q8,Zl,Q5,bne_self_eq_false,Q5,bne_self_eq_false,Q5]
theorem Qs7 {d:Nat} {rows:List (List Pk)} (hl:rows.length≤1000) (hs:rows.flatten.length≤100000):g85 (d+2) rows=some rows.flatten:=by
 rw [e85]
 have lp1:∀ (m k fuel:Nat),k+m=rows.length→m < fuel→Q9 (l85_1 d rows (j85_0 d)) fuel ((rows.take k).flatten,((k:Nat):Int))=some rows.flatten:=by
  intro m
  induction m with
  | zero =>
   intro k fuel e h
   obtain ⟨g,rfl⟩:∃ g,fuel=g+1:=⟨fuel - 1,by omega⟩
   obtain rfl:k=rows.length:=by omega
   simp only [Q9,l85_1,ltn,Q5]
   rw [List.take_length];rfl
  | succ m ih =>
   intro k fuel e h
   obtain ⟨g,rfl⟩:∃ g,fuel=g+1:=⟨fuel - 1,by omega⟩
   have hk:k < rows.length:=by omega
   have hx:=Z6 hk
   have h2:=Qjh (rows:=rows) (k+1)
   rw [Q92 hx,Zf] at h2
   simp only [Q9,l85_1,ltl hx,nn,Q3,hx,Q8,Q4]
   rw [room (by omega),Q4,wr1 (by omega),← Q92 hx]
   exact ih (k+1) g (by omega) (by omega)
 have lp2:∀ (m k fuel:Nat),k+m=rows.length→m < fuel→Q9 (l85_1x d rows (j85_1 d)) fuel ((rows.take k).flatten,((k:Nat):Int))=some rows.flatten:=by
  intro m
  induction m with
  | zero =>
   intro k fuel e h
   obtain ⟨g,rfl⟩:∃ g,fuel=g+1:=⟨fuel - 1,by omega⟩
   obtain rfl:k=rows.length:=by omega
   simp only [Q9,l85_1x,ltn,Q5]
   rw [List.take_length];rfl
  | succ m ih =>
   intro k fuel e h
   obtain ⟨g,rfl⟩:∃ g,fuel=g+1:=⟨fuel - 1,by omega⟩
   have hk:k < rows.length:=by omega
   have hx:=Z6 hk
   have h2:=Qjh (rows:=rows) (k+1)
   rw [Q92 hx,Zf] at h2
   simp only [Q9,l85_1x,ltl hx,nn,Q3,hx,Q8,Q4]
   rw [room (by omega),Q4,wr1 (by omega),← Q92 hx]
   exact ih (k+1) g (by omega) (by omega)
 have lp0:∀ (m k fuel:Nat),k+m=rows.length→m < fuel→Q9 (l85_0 d rows (j85_2 d rows)) fuel ((((rows.take k).flatten.length:Nat):Int),((k:Nat):Int))=j85_2 d rows ((rows.flatten.length:Nat):Int):=by
  intro m
  induction m with
  | zero =>
   intro k fuel e h
   obtain ⟨g,rfl⟩:∃ g,fuel=g+1:=⟨fuel - 1,by omega⟩
   obtain rfl:k=rows.length:=by omega
   simp only [Q9,l85_0,ltn,Q5]
   rw [List.take_length]
  | succ m ih =>
   intro k fuel e h
   obtain ⟨g,rfl⟩:∃ g,fuel=g+1:=⟨fuel - 1,by omega⟩
   have hk:k < rows.length:=by omega
   have hx:=Z6 hk
   have h2:=Qjh (rows:=rows) (k+1)
   have h3:=Q92 hx
   have h4:(rows.take (k+1)).flatten.length=(rows.take k).flatten.length+(rows[k]).length:=by rw [h3,Zf]
   simp only [Q9,l85_0,ltl hx,nn,Q3,hx,Q8,Q4]
   rw [wr (n:=(((rows.take k).flatten.length:Nat):Int)+(((rows[k]).length:Nat):Int)) (by omega) (by omega),Z4 (by omega),Q5,wr1 (by omega),show (((rows.take k).flatten.length:Nat):Int)+(((rows[k]).length:Nat):Int)=(((rows.take (k+1)).flatten.length:Nat):Int) by omega]
   exact ih (k+1) g (by omega) (by omega)
 refine (lp0 rows.length 0 Qe (by omega) (by rw [Q6];omega)).trans ?_
 unfold j85_2
 have e0:IntKind.i64.wrap ((0:Int) - ((0:Nat):Int))=0:=by rw [wr (by omega) (by omega)];rfl
 rw [Z4 (by omega),Q5,e0,Int.sub_zero,wr (by omega) (by omega)]
 by_cases h:rows.flatten.length=0
 ·rw [Z4 (by omega),Q5]
  exact lp2 rows.length 0 Qe (by omega) (by rw [Q6];omega)
 ·rw [Z5 (by omega),Q4,show Nat.ble 0 0=true from rfl,Q4,nn,Zg,Z5 (by unfold Q7;omega),Q4,Q3,List.length_replicate,show Nat.ble (rows.flatten.length*48) Q7=true by rw [Nat.ble_eq];unfold Q7;omega,Q4]
  rw [show decide (0≤((0:Nat):Int))=true from rfl,Q4,show (((0:Nat):Int)).toNat=0 from rfl,show Nat.ble 0 rows.flatten.length=true by rw [Nat.ble_eq];omega,Q4,List.take_zero]
  exact lp1 rows.length 0 Qe (by omega) (by rw [Q6];omega)
def tkF (f:Fl5) (p:Pk):Bool:=(IntKind.i64.wrap ((BitVec.ofInt IntKind.i64.bits (([p.2.1,p.2.2.1,p.2.2.2.1,p.2.2.2.2.1]:List Int).getD f.2.1.toNat 0) &&& BitVec.ofInt IntKind.i64.bits f.2.2.1).toNat:Int))==f.2.2.2.1
theorem Qvt {d:Nat} {f:Fl5} {p:Pk} (h:0≤f.2.1∧f.2.1≤3):g162 (d+2) f p=some (tkF f p):=by
 rw [e162,e109,Q8,Z5 h.1,Q4,Q1q (l:=[p.2.1,p.2.2.1,p.2.2.2.1,p.2.2.2.2.1]) (z:=0) (by simp only [Z9,Zb];omega),Q8]
 rfl
theorem Qoz {d:Nat} {f:Fl5} {p:Pk} (h:0≤f.2.1∧f.2.1≤3):g159 (d+2) f p=some (tkF f p):=by
 have h4:f.2.1.toNat < ([p.2.1,p.2.2.1,p.2.2.2.1,p.2.2.2.2.1]:List Int).length:=by simp only [Z9,Zb];omega
 rw [e159,e178,Z5 h.1,Q4,Qu h4,Q4,Q1q (l:=[p.2.1,p.2.2.1,p.2.2.2.1,p.2.2.2.2.1]) (z:=0) h4,Q8,Q8]
 rfl
structure Lr (x:Ld):Prop where
 fo:∀ f∈x.2.2.2.2.2.2.1,0≤f.2.1∧f.2.1≤3
 tl:x.2.2.2.2.2.2.2.1.length=x.2.2.2.2.2.2.1.length
 f16:x.2.2.2.2.2.2.1.length≤16
 lim:∀ c∈x.2.1,c.2.2.2.2.2.2.2≤60
 rat:∀ c∈x.2.1,1≤c.2.2.1∧c.2.2.1≤100000∧1≤c.2.2.2.1∧c.2.2.2.1≤100000
 bul:∀ c∈x.2.1,1500≤c.2.2.2.2.1∧1500≤c.2.2.2.2.2.1∧0≤c.2.2.2.2.2.2.1∧c.2.2.2.2.2.2.1≤7
theorem Qvu {x:Ld} (h:lgB x=true):Lr x:=by
 unfold lgB smB at h
 simp only [Z8,Zj] at h
 obtain ⟨hz,hg,s1,s2,s3,s4,s5,s6,s7⟩:=h
 have G:=Qgl hg
 have hc:=G.cl
 unfold Qft at hc
 simp only [Z8] at hc
 obtain ⟨_,_,_,_,_,h6,h7,h8,h9⟩:=hc
 have hm:∀ c∈x.2.1,c∈(unV x).2.1:=fun c hc=>Q5k.mem_iff.2 hc
 refine ⟨fun f hf=>?_,?_,hz.2,fun c hc=>?_,fun c hc=>?_,fun c hc=>?_⟩
 ·have:=(G.tgt f hf).2.2
  unfold Qob at this
  simp only [Z8,Zj] at this
  omega
 ·rw [s6]
  show (x.2.2.2.2.2.2.1.map _).length=_
  rw [List.length_map]
 ·have:=Z3 h9 c (hm c hc)
  unfold Qis at this
  split at this
  ·simp only [Zj] at this;omega
  ·simp only [beq_iff_eq] at this;omega
 ·have:=Z3 h6 c (hm c hc)
  unfold Q4m at this
  simp only [Zj] at this
  omega
 ·have:=Z3 h8 c (hm c hc)
  unfold Qfu at this
  simp only [Zj] at this
  omega
def ffV (fs:List Fl5) (p:Pk):Int:=fiP (fun f=>tkF f p) fs 0
theorem Qeo {d:Nat} {fs:List Fl5} {p:Pk} (hl:fs.length≤1000) (h:∀ f∈fs,0≤f.2.1∧f.2.1≤3):g125 (d+3) fs p=some (ffV fs p):=by
 rw [e125]
 refine (Qc (fun (t:Int) (i:Int)=>(t,i)) fs (fun f i t k=>oif (tkF f p) (some ((i:Nat):Int)) (k t)) (fun _=>some (-1)) ?_ ?_ (by rw [Q6];omega) 0).trans (Q20 fs 0 _)
 ·intro ag t i f hx
  have hi:=(Z0 hx).1
  simp only [l125_0,ltl hx,nn,Q3,hx,Q8,Q4]
  rw [Qvt (h f (Zc hx)),Q8,wr1 (by omega)]
 ·intro ag t;simp only [l125_0,ltn,Q5];rfl
theorem Qp0 {d:Nat} {fs:List Fl5} {p:Pk} (hl:fs.length≤1000) (h:∀ f∈fs,0≤f.2.1∧f.2.1≤3):g121 (d+3) fs p=some (ffV fs p):=by
 rw [e121]
 refine (Qc (fun (t:Int) (i:Int)=>(t,i)) fs (fun f i t k=>oif (tkF f p) (some ((i:Nat):Int)) (k t)) (fun _=>some (-1)) ?_ ?_ (by rw [Q6];omega) 0).trans (Q20 fs 0 _)
 ·intro ag t i f hx
  have hi:=(Z0 hx).1
  simp only [l121_0,ltl hx,nn,Q3,hx,Q8,Q4]
  rw [Qoz (h f (Zc hx)),Q8,wr1 (by omega)]
 ·intro ag t;simp only [l121_0,ltn,Q5];rfl
def lfA (x:Ld) (p:Pk):Int:=if ffV x.2.2.2.2.2.2.1 p≥0 then x.2.2.2.2.2.2.2.1.getD (ffV x.2.2.2.2.2.2.1 p).toNat 0 else x.2.2.2.2.2.2.2.2
theorem Qp1 {fs:List Fl5} {p:Pk} (h:0≤ffV fs p):ffV fs p < ((fs.length:Nat):Int):=by
 obtain ⟨j,y,h1,h2,h3,_⟩:=Q66 h
 have:=(Z0 h2).1
 unfold ffV at *
 omega
theorem Ql6 {d:Nat} {x:Ld} {p:Pk} (R:Lr x):g83 (d+4) x p=some (lfA x p):=by
 have h16:=R.f16
 rw [e83,Qeo (by omega) R.fo,Q8]
 unfold lfA
 by_cases h:ffV x.2.2.2.2.2.2.1 p≥0
 ·have:=Qp1 h
  have:=R.tl
  rw [Z5 h,Q4,Q4,Q1q (l:=x.2.2.2.2.2.2.2.1) (z:=0) (by omega),Q8,if_pos h]
 ·rw [Z4 h,Q5,if_neg h]
theorem Qp2 {d:Nat} {x:Ld} {p:Pk} (R:Lr x):g76 (d+4) x p=some (lfA x p):=by
 have h16:=R.f16
 rw [e76,Qp0 (by omega) R.fo,Q8]
 unfold lfA
 by_cases h:ffV x.2.2.2.2.2.2.1 p≥0
 ·have:=Qp1 h
  have:=R.tl
  rw [Z5 h,Q4,Q4,Q1q (l:=x.2.2.2.2.2.2.2.1) (z:=0) (by omega),Q8,if_pos h]
 ·rw [Z4 h,Q5,if_neg h]
def Qh5 (x:Ld) (w:Int):Int:=(Q0e x.2.1 w).2.2.2.2.2.2.2
def rkB (x:Ld) (w:Int) (row:List Pk):Bool := !decide (((row.length:Nat):Int) > Qh5 x w)&&row.all (fun p=>Qae p&&(lfA x p==w))
def rsB (r:Rg):Bool:=decide (r.2.2.1.length=(lvV r.1.2.2.2.1).length)&&(decide (-1≤r.2.2.2.1∧r.2.2.2.1 < (((lvV r.1.2.2.2.1).length:Nat):Int))&&decide (0≤r.2.2.2.2∧r.2.2.2.2≤1000000))
def rnB (r:Rg):Bool:=lgB r.1&&(tkB r.1 r.2.1&&(rsB r&&(Q4c (fun w i=>rkB r.1 w (r.2.2.1.getD i [])) (lvV r.1.2.2.2.1) 0&&apV r.2.2.1.flatten)))
theorem Qep {F:List Int} {w:Int} (h:w∈lvV F):0≤w∧w < ((F.length:Nat):Int):=by
 obtain ⟨j,x,h1,h2,h3⟩:=Qf5 _ _ h
 have:=(Z0 h1).1
 omega
theorem Qaz {l:List (List Pk)} {i:Nat} (h:i < l.length):l[i]? = some (l.getD i []):=by
 rw [Zr,Z6 h];rfl
theorem Qp3 {x:Ld} {rows:List (List Pk)} {W:List Int} (R:Lr x) (hW:∀ w∈W,vI x.2.1 w) (hl:rows.length=W.length) (h:Q4c (fun w i=>rkB x w (rows.getD i [])) W 0=true):(∀ row∈rows,row.length≤60)∧∀ row∈rows,∀ p∈row,Qae p=true:=by
 rw [Q15] at h
 have key:∀ row∈rows,row.length≤60∧∀ p∈row,Qae p=true:=by
  intro row hr
  obtain ⟨i,hi⟩:=List.getElem?_of_mem hr
  have hlt:=(Z0 hi).1
  have hw:=Z6 (l:=W) (i:=i) (by omega)
  have:=h i _ hw
  rw [Zo,Zr,hi] at this
  unfold rkB Qh5 at this
  simp only [Option.getD_some,Z8,Bool.not_eq_true',decide_eq_false_iff_not,List.all_eq_true] at this
  have hv:=hW _ (Zc hw)
  have h60:=R.lim _ (Zc (Q1d hv))
  exact ⟨by omega,fun p hp=>(this.2 p hp).1⟩
 exact ⟨fun row hr=>(key row hr).1,fun row hr=>(key row hr).2⟩
theorem Q69 {B:Nat}:∀ {rows:List (List Pk)},(∀ row∈rows,row.length≤B)→rows.flatten.length≤rows.length*B
 | [],_=>by simp
 | r::rows,h=>by
  have:=Q69 (B:=B) (rows:=rows) fun row hr=>h row (by simp [hr])
  have:=h r (by simp)
  rw [Ze,Zf,Z9,Nat.add_mul,Nat.one_mul]
  omega
theorem Qvv {d:Nat} {r:Rg} (h:Qs1 r.1):g37 (d+28) r=some (rnB r):=by
 rw [e37,Qmc h,Q8]
 unfold rnB rsB j37_3
 cases hg:lgB r.1 with
 | false=>rfl
 | true =>
  have L:=Qvq hg
  have R:=Qvu hg
  have h24:=L.n24
  have hf:=L.fl
  have hv:=Q75 (F:=r.1.2.2.2.1)
  rw [Zl,Q5,show d+27=d+26+1 by omega,Qen (by omega),Q8,Zg]
  cases hb:tkB r.1 r.2.1 with
  | false=>rfl
  | true =>
   rw [Zl,Q5,Qd0 (by omega) hf,Q8,Zg]
   unfold j37_2
   by_cases a:r.2.2.1.length=(lvV r.1.2.2.2.1).length
   case neg=>rw [show ((((r.2.2.1.length:Nat):Int)) != (((lvV r.1.2.2.2.1).length:Nat):Int))=true by simp;omega,Q4,Q4,Z4 a];rfl
   rw [show ((((r.2.2.1.length:Nat):Int)) != (((lvV r.1.2.2.2.1).length:Nat):Int))=false by simp;omega,Q5,Z5 a,Zg]
   by_cases a1:r.2.2.2.1 < -1
   ·rw [Z5 a1,Q4,Q4,Z4 (show ¬ (-1≤r.2.2.2.1∧r.2.2.2.1 < (((lvV r.1.2.2.2.1).length:Nat):Int)) by omega)];rfl
   rw [Z4 a1,Q5]
   by_cases a2:r.2.2.2.1≥(((lvV r.1.2.2.2.1).length:Nat):Int)
   ·rw [Z5 a2,Q4,Q4,Z4 (show ¬ (-1≤r.2.2.2.1∧r.2.2.2.1 < (((lvV r.1.2.2.2.1).length:Nat):Int)) by omega)];rfl
   rw [Z4 a2,Q5,Z5 (show -1≤r.2.2.2.1∧r.2.2.2.1 < (((lvV r.1.2.2.2.1).length:Nat):Int) by omega),Zg]
   by_cases a3:r.2.2.2.2 < 0
   ·rw [Z5 a3,Q4,Q4,Z4 (show ¬ (0≤r.2.2.2.2∧r.2.2.2.2≤1000000) by omega)];rfl
   rw [Z4 a3,Q5]
   by_cases a4:r.2.2.2.2 > 1000000
   ·rw [Z5 a4,Q4,Z4 (show ¬ (0≤r.2.2.2.2∧r.2.2.2.2≤1000000) by omega)];rfl
   rw [Z4 a4,Q5,Z5 (show 0≤r.2.2.2.2∧r.2.2.2.2≤1000000 by omega),Zg]
   have hW:∀ w∈lvV r.1.2.2.2.1,vI r.1.2.1 w:=fun w hw=>by obtain ⟨q1,q2⟩:=Qep hw;exact ⟨q1,by omega⟩
   refine (Qc (fun (b:Bool) (i:Int)=>(b,i)) (lvV r.1.2.2.2.1) (fun w i b k=>oif (rkB r.1 w (r.2.2.1.getD i [])) (k b) (some false)) (fun b=>j37_0 (d+26+1) r b) ?_ ?_ (by rw [Q6];omega) false).trans ?_
   ·intro ag b i w hx
    have hi:=(Z0 hx).1
    have hv':=hW w (Zc hx)
    have h60:=R.lim _ (Zc (Q1d hv'))
    simp only [l37_0,ltl hx,nn,Q3,hx,Q8,Q4,Qsl hx]
    rw [Qaz (l:=r.2.2.1) (by omega)]
    simp only [Q8]
    rw [Z5 hv'.1,Q4,Q1d hv',Q8]
    unfold rkB Qh5
    by_cases b1:((((r.2.2.1.getD i []).length:Nat):Int)) > (Q0e r.1.2.1 w).2.2.2.2.2.2.2
    ·rw [Z5 b1,Q4,Zl,Bool.false_and,Q5]
    ·rw [Z4 b1,Q5,Bool.not_false,Zg]
     refine (Qc (fun (b:Bool) (j:Int)=>(b,j)) (r.2.2.1.getD i []) (fun p _ b k=>oif (Qae p&&(lfA r.1 p==w)) (k b) (some false)) (fun b=>ag (b,((i+1:Nat):Int))) ?_ ?_ (by rw [Q6];omega) b).trans ?_
     ·intro ag' b' j p hp
      have hj:=(Z0 hp).1
      simp only [l37_1,ltl hp,nn,Q3,hp,Q8,Q4]
      rw [show d+26+1=d+25+2 by omega,Q91,Q8,show d+25+2=d+23+4 by omega,Ql6 R,Q8,wr1 (by omega)]
      cases Qae p with
      | false=>rfl
      | true =>
       rw [Zl,Q5,Zg]
       by_cases e:lfA r.1 p=w
       ·rw [show (lfA r.1 p != w)=false by rw [e];exact bne_self_eq_false _,Q5,show (lfA r.1 p==w)=true from beq_iff_eq.2 e,Q4]
       ·rw [show (lfA r.1 p != w)=true from bne_iff_ne.2 e,Q4,show (lfA r.1 p==w)=false from beq_eq_false_iff_ne.2 e,Q5]
     ·intro ag' b'
      simp only [l37_1,ltn,Q5]
      unfold j37_1
      rw [wr1 (by omega)]
     ·rw [Q1j (p:=fun p=>Qae p&&(lfA r.1 p==w))]
   ·intro ag t;simp only [l37_0,ltn,Q5]
   ·rw [Q04]
    cases hk:Q4c (fun w i=>rkB r.1 w (r.2.2.1.getD i [])) (lvV r.1.2.2.2.1) 0 with
    | false=>rfl
    | true =>
     obtain ⟨r1,r2⟩:=Qp3 R hW a hk
     have:=Q69 r1
     rw [Q4,Zg]
     unfold j37_0
     rw [show d+26+1=d+25+2 by omega,Qs7 (by omega) (by omega),Q8,show d+25+2=d+22+5 by omega,Qmo (by omega),Q8]
def Qmp {α τ:Type} (p:α→Nat→τ→Bool) (f:α→Nat→τ→τ):List α→Nat→τ→Bool
 | [],_,_=>true
 | x::r,i,t=>p x i t&&Qmp p f r (i+1) (f x i t)
theorem Qb0 {α τ β:Type} {p:α→Nat→τ→Bool} {f:α→Nat→τ→τ} {step:α→Nat→τ→(τ→Option β)→Option β} {no:Option β} {fin:τ→Option β} (I:Nat→τ→Prop):∀ (l:List α) (i:Nat) (t:τ),I i t→(∀ j x t k,l[j]? = some x→I (i+j) t→step x (i+j) t k=oif (p x (i+j) t) (k (f x (i+j) t)) no∧(p x (i+j) t=true→I (i+j+1) (f x (i+j) t)))→Q03 step fin l i t=oif (Qmp p f l i t) (fin (Q0a f l i t)) no
 | [],i,t,_,_=>rfl
 | x::r,i,t,hI,h=>by
  simp only [Q03,Q0a,Qmp]
  obtain ⟨h1,h2⟩:=h 0 x t (fun t'=>Q03 step fin r (i+1) t') rfl hI
  rw [Nat.add_zero] at h1 h2
  rw [h1]
  cases hp:p x i t with
  | false=>rfl
  | true =>
   rw [Q4,Zg]
   exact Qb0 I r (i+1) _ (h2 hp) (fun j y t k hy ht=>by
    have:=h (j+1) y t k (by simpa using hy)
    rw [show i+(j+1)=i+1+j by omega] at this
    exact this ht)
abbrev Bs:=Bool×List Int
def ppS (x:Ld) (w:Int) (p:Pk) (_:Nat) (t:Bs):Bool:=Qae p&&((lfA x p==w) && !(t.2.any fun z=>z==p.1))
def ffS (p:Pk) (_:Nat) (t:Bs):Bs:=(t.1,t.2++[p.1])
def prS (x:Ld) (W:List Int) (row:List Pk) (i:Nat) (t:Bs):Bool := !decide (((row.length:Nat):Int) > Qh5 x (W.getD i 0))&&Qmp (ppS x (W.getD i 0)) ffS row 0 t
def frS (row:List Pk) (_:Nat) (t:Bs):Bs:=(t.1,t.2++row.map fun p=>p.1)
theorem Ql7:∀ (row:List Pk) (i:Nat) (t:Bs),Q0a ffS row i t=frS row 0 t
 | [],i,t=>by simp [Q0a,frS]
 | p::r,i,t=>by
  simp only [Q0a]
  rw [Ql7 r (i+1)]
  simp [frS,ffS]
theorem Qud {x:Ld} {w:Int}:∀ (row:List Pk) (i:Nat) (t:Bs),Qmp (ppS x w) ffS row i t=true↔(∀ p∈row,Qae p=true∧lfA x p=w)∧(∀ p∈row,p.1∉t.2)∧(row.map fun p=>p.1).Nodup
 | [],i,t=>by simp [Qmp]
 | p::r,i,t=>by
  simp only [Qmp,Z8,Qud r (i+1),ppS,ffS,beq_iff_eq,Bool.not_eq_true',List.any_eq_false,List.mem_cons,forall_eq_or_imp,List.map_cons,List.nodup_cons,Zh,List.mem_singleton]
  constructor
  ·rintro ⟨⟨a1,a2,a3⟩,b1,b2,b3⟩
   refine ⟨⟨⟨a1,a2⟩,b1⟩,⟨fun hm=>a3 _ hm rfl,fun q hq hm=>b2 q hq (Or.inl hm)⟩,fun hm=>?_,b3⟩
   obtain ⟨q,hq,e⟩:=List.mem_map.1 hm
   exact b2 q hq (Or.inr (Or.inl e))
  ·rintro ⟨⟨⟨a1,a2⟩,b1⟩,⟨c1,c2⟩,n1,n2⟩
   refine ⟨⟨a1,a2,fun z hz e=>c1 (e▸hz)⟩,b1,fun q hq hm=>?_,n2⟩
   rcases hm with hm | hm | hm
   ·exact c2 q hq hm
   ·exact n1 (List.mem_map.2 ⟨q,hq,hm⟩)
   ·simp at hm
theorem Que {x:Ld} {W:List Int}:∀ (rows:List (List Pk)) (i:Nat) (t:Bs),Qmp (prS x W) frS rows i t=true↔(∀ j row,rows[j]? = some row→rkB x (W.getD (i+j) 0) row=true)∧(∀ p∈rows.flatten,p.1∉t.2)∧(rows.flatten.map fun p=>p.1).Nodup
 | [],i,t=>by simp [Qmp]
 | row::rows,i,t=>by
  simp only [Qmp,Z8,Que rows (i+1),prS,Qud,frS,Ze,Zh,List.map_append,Zn]
  have hrow:rkB x (W.getD i 0) row=true↔(!decide (((row.length:Nat):Int) > Qh5 x (W.getD i 0)))=true∧∀ p∈row,Qae p=true∧lfA x p=W.getD i 0:=by
   unfold rkB
   simp only [Z8,List.all_eq_true,beq_iff_eq]
  constructor
  ·rintro ⟨⟨a1,a2,a3,a4⟩,b1,b2,b3⟩
   refine ⟨fun j r hj=>?_,fun p hp hm=>?_,a4,b3,fun y hy z hz e=>?_⟩
   ·cases j with
    | zero=>simp only [List.getElem?_cons_zero,Option.some.injEq] at hj;subst hj;exact hrow.2 ⟨a1,a2⟩
    | succ j=>have:=b1 j r (by simpa using hj);rw [show i+(j+1)=i+1+j by omega];exact this
   ·rcases hp with hp | hp
    ·exact a3 p hp hm
    ·exact b2 p hp (Or.inl hm)
   ·obtain ⟨q,hq,rfl⟩:=List.mem_map.1 hz
    exact b2 q hq (Or.inr (e▸hy))
  ·rintro ⟨h1,h2,n1,n2,n3⟩
   obtain ⟨a1,a2⟩:=hrow.1 (h1 0 row rfl)
   refine ⟨⟨a1,a2,fun p hp=>h2 p (Or.inl hp),n1⟩,fun j r hj=>?_,fun p hp hm=>?_,n2⟩
   ·have:=h1 (j+1) r (by simpa using hj);rw [show i+(j+1)=i+1+j by omega] at this;exact this
   ·rcases hm with hm | hm
    ·exact h2 p (Or.inr hp) hm
    ·exact n3 _ hm _ (List.mem_map.2 ⟨p,hp,rfl⟩) rfl
theorem Qvw {x:Ld} {rows:List (List Pk)} {W:List Int} (hl:rows.length=W.length):Qmp (prS x W) frS rows 0 (false,[])=(Q4c (fun w i=>rkB x w (rows.getD i [])) W 0&&apV rows.flatten):=by
 rw [Bool.eq_iff_iff,Que,Z8,Q15,Qyj]
 constructor
 ·rintro ⟨h1,_,h3⟩
  refine ⟨fun j w hw=>?_,fun p hp=>?_,h3⟩
  ·have hj:=(Z0 hw).1
   have:=h1 j _ (Qaz (l:=rows) (i:=j) (by omega))
   rw [Zo] at this ⊢
   rw [Zr (l:=W),hw] at this
   exact this
  ·obtain ⟨row,hr,hp⟩:=List.mem_flatten.1 hp
   obtain ⟨j,hj⟩:=List.getElem?_of_mem hr
   have:=h1 j _ hj
   unfold rkB at this
   simp only [Z8,List.all_eq_true] at this
   exact (this.2 p hp).1
 ·rintro ⟨h1,h2,h3⟩
  refine ⟨fun j row hj=>?_,fun p _ hm=>by simp at hm,h3⟩
  have hlt:=(Z0 hj).1
  have:=h1 j _ (Q1q (l:=W) (i:=j) (z:=0) (by omega))
  rw [Zo] at this ⊢
  rw [Zr (l:=rows),hj] at this
  exact this
theorem Qs8 {d:Nat} {l:List Int} {n:Int} (hl:l.length < 4194304):g77 (d+1) l n=some (l.any fun x=>x==n):=by
 rw [e77]
 refine (Qc (fun (t:Bool) (i:Int)=>(t,i)) l (fun x _ t k=>oif (x==n) (some true) (k t)) (fun _=>some false) ?_ ?_ (by rw [Q6];exact hl) false).trans ?_
 ·intro ag t i x hx;have hi:=(Z0 hx).1;simp only [l77_0,ltl hx,nn,Q3,hx,Q8,Q4];rw [wr1 (by omega)]
 ·intro ag t;simp only [l77_0,ltn,Q5];rfl
 ·exact Q7p l 0 false
theorem Q00l {d:Nat} {r:Rg} (R:Lr r.1) {W:List Int} {w:Int} {i:Nat} (hw:W[i]? = some w) (hW:W.length≤1000) {row:List Pk} {k:Bs→Option Bool} (t:Bs) (ht:t.2.length≤10000) (hr:row.length≤60) :
  Q9 (l33_1 (d+4) r W (i:Int) row (fun b _ l=>k (b,l))) Qe (t.1,t.2,0)=oif (Qmp (ppS r.1 w) ffS row 0 t) (k (frS row 0 t)) (some false):=by
 refine (Qc (fun (t:Bs) (i:Int)=>(t.1,t.2,i)) row (fun p _ t k=>oif (Qae p) (oif (lfA r.1 p==w) (Q1 (g77 (d+4) t.2 p.1) fun h=>oif h (some false) (oif (Nat.ble ((t.2.length+[p.1].length)*8) Q7) (k (t.1,t.2++[p.1])) none)) (some false)) (some false)) (fun t=>k t) ?_ ?_ (by rw [Q6];omega) t).trans ?_
 ·intro ag' b' j p hp
  have hj:=(Z0 hp).1
  simp only [l33_1,ltl hp,nn,Q3,hp,Q8,Q4,Qsl hw,hw]
  rw [show d+4=d+1+3 by omega,Ql5,Q8,show d+1+3=d+4 by omega,Qp2 R,Q8,wr1 (by omega)]
  cases Qae p with
  | false=>rfl
  | true =>
   rw [Zl,Q5,Q4]
   by_cases e:lfA r.1 p=w
   ·rw [show (lfA r.1 p != w)=false by rw [e];exact bne_self_eq_false _,Q5,show (lfA r.1 p==w)=true from beq_iff_eq.2 e,Q4]
   ·rw [show (lfA r.1 p != w)=true from bne_iff_ne.2 e,Q4,show (lfA r.1 p==w)=false from beq_eq_false_iff_ne.2 e,Q5]
 ·intro ag' b'
  simp only [l33_1,ltn,Q5]
 ·rw [Qb0 (p:=ppS r.1 w) (f:=ffS) (fun j t=>t.2.length≤10000+j) row 0 t (by omega) ?_,Ql7]
  intro j p t k hp hI
  have hj:=(Z0 hp).1
  rw [show d+4=d+3+1 by omega,Qs8 (by omega),Q8,room (by simp;omega),Q4]
  refine ⟨?_,fun _=>by unfold ffS;simp;omega⟩
  unfold ppS
  cases Qae p with
  | false=>rfl
  | true =>
   rw [Q4,Zg]
   cases (lfA r.1 p==w) with
   | false=>rfl
   | true=>rw [Q4,Zg];cases (t.2.any fun z=>z==p.1)<;>rfl
theorem Qs9 {d:Nat} {r:Rg} (h:Qs1 r.1):g33 (d+13) r=some (rnB r):=by
 rw [e33,Qs4 h,Q8]
 unfold rnB rsB
 cases hg:lgB r.1 with
 | false=>rfl
 | true =>
  have L:=Qvq hg
  have R:=Qvu hg
  have h24:=L.n24
  have hf:=L.fl
  have hv:=Q75 (F:=r.1.2.2.2.1)
  cases hb:tkB r.1 r.2.1 with
  | false=>rfl
  | true =>
   rw [Zg,Zg,Zg,Zl,Q5,show d+12=d+10+2 by omega,Q90 (by omega) hf,Q8]
   unfold j33_2
   by_cases a:r.2.2.1.length=(lvV r.1.2.2.2.1).length
   case neg=>rw [show ((((r.2.2.1.length:Nat):Int)) != (((lvV r.1.2.2.2.1).length:Nat):Int))=true by simp;omega,Q4,Q4,Z4 a];rfl
   rw [show ((((r.2.2.1.length:Nat):Int)) != (((lvV r.1.2.2.2.1).length:Nat):Int))=false by simp;omega,Q5,Z5 a,Zg,show d+10+2=d+11+1 by omega,Q57,Q8,wr (by omega) (by omega)]
   by_cases a1:-1≤r.2.2.2.1∧r.2.2.2.1 < (((lvV r.1.2.2.2.1).length:Nat):Int)
   case neg=>rw [Z4 (show ¬ (-1≤r.2.2.2.1∧r.2.2.2.1≤(((lvV r.1.2.2.2.1).length:Nat):Int) - 1) by omega),Bool.not_false,Q4,Q4,Z4 a1];rfl
   rw [Z5 (show -1≤r.2.2.2.1∧r.2.2.2.1≤(((lvV r.1.2.2.2.1).length:Nat):Int) - 1 by omega),Zl,Q5,Z5 a1,Zg,Q57,Q8]
   cases decide (0≤r.2.2.2.2∧r.2.2.2.2≤1000000) with
   | false=>rfl
   | true =>
    rw [Zl,Q5,Zg,← Qvw a]
    have hW:∀ w∈lvV r.1.2.2.2.1,vI r.1.2.1 w:=fun w hw=>by obtain ⟨q1,q2⟩:=Qep hw;exact ⟨q1,by omega⟩
    refine (Qc (fun (t:Bs) (i:Int)=>(t.1,t.2,i)) r.2.2.1 (fun row i t k=>oif (decide (((row.length:Nat):Int) > Qh5 r.1 ((lvV r.1.2.2.2.1).getD i 0))) (some false) (Q9 (l33_1 (d+11+1) r (lvV r.1.2.2.2.1) (i:Int) row (fun b _ l=>k (b,l))) Qe (t.1,t.2,0))) (fun _=>some true) ?_ ?_ (by rw [Q6];omega) (false,[])).trans ?_
    ·intro ag t i row hx
     have hi:=(Z0 hx).1
     have hlt:i < (lvV r.1.2.2.2.1).length:=by omega
     have hw:=Q1q (l:=lvV r.1.2.2.2.1) (i:=i) (z:=0) hlt
     have hv':=hW _ (Zc hw)
     simp only [l33_0,ltl hx,nn,Q3,hx,Q8,Q4]
     rw [Qu hlt,Q4,hw,Q8,Z5 hv'.1,Q4,Q1d hv',Q8]
     rw [show j33_1 (d+11+1) ag (i:Int)=fun b _ l=>ag (b,l,((i+1:Nat):Int)) from by
      funext b n l
      unfold j33_1
      rw [wr1 (by omega)]]
     rfl
    ·intro ag t;simp only [l33_0,ltn,Q5];rfl
    ·rw [Qb0 (p:=prS r.1 (lvV r.1.2.2.2.1)) (f:=frS) (fun i t=>t.2.length≤60*i) r.2.2.1 0 (false,[]) (by simp) ?_]
     ·cases Qmp (prS r.1 (lvV r.1.2.2.2.1)) frS r.2.2.1 0 (false,[])<;>rfl
     ·intro j row t k hj hI
      rw [Zo] at hI ⊢
      have hi:=(Z0 hj).1
      have hw:=Q1q (l:=lvV r.1.2.2.2.1) (i:=j) (z:=0) (by omega)
      have hv':=hW _ (Zc hw)
      have h60:=R.lim _ (Zc (Q1d hv'))
      unfold prS
      by_cases b1:((row.length:Nat):Int) > Qh5 r.1 ((lvV r.1.2.2.2.1).getD j 0)
      ·rw [Z5 b1,Q4,Zl,Bool.false_and,Q5]
       exact ⟨rfl,fun h=>absurd h (by simp)⟩
      ·rw [Z4 b1,Q5,Bool.not_false,Zg]
       unfold Qh5 at b1
       rw [show d+11+1=d+8+4 by omega,Q00l R hw (by omega) t (by omega) (by omega)]
       refine ⟨rfl,fun _=>?_⟩
       unfold frS
       simp only [Zf,List.length_map]
       omega
structure Ro (r:Rg):Prop where
 lk:Lk r.1
 lr:Lr r.1
 t1:r.2.1.1.length=r.1.2.1.length
 t2:r.2.1.2.length=r.1.2.1.length
 rl:r.2.2.1.length=(lvV r.1.2.2.2.1).length
 rb:∀ row∈r.2.2.1,row.length≤60
 rp:∀ row∈r.2.2.1,∀ p∈row,Qae p=true
 la:-1≤r.2.2.2.1∧r.2.2.2.1 < (((lvV r.1.2.2.2.1).length:Nat):Int)
 nw:0≤r.2.2.2.2∧r.2.2.2.2≤1000000
theorem Qmq {r:Rg} (h:rnB r=true):Ro r:=by
 unfold rnB rsB at h
 simp only [Z8,Zj] at h
 obtain ⟨h1,h2,⟨h3,h4,h5⟩,h6,h7⟩:=h
 have L:=Qvq h1
 have R:=Qvu h1
 obtain ⟨t1,t2⟩:=Qvo h2
 have hf:=L.fl
 obtain ⟨r1,r2⟩:=Qp3 R (fun w hw=>by obtain ⟨q1,q2⟩:=Qep hw;exact ⟨q1,by omega⟩) h3 h6
 exact ⟨L,R,t1,t2,h3,r1,r2,h4,h5⟩
theorem Qsa {r:Rg} (h:rnB r=true):lgB r.1=true:=by
 unfold rnB at h
 simp only [Z8] at h
 exact h.1
theorem Qb1 {α τ β:Type} {p:α→Bool} {y n:Option β}:∀ (l:List α) (i:Nat) (t:τ),Q03 (fun x _ t k=>oif (p x) y (k t)) (fun _=>n) l i t=oif (l.any p) y n
 | [],i,t=>rfl
 | x::r,i,t=>by
  simp only [Q03,List.any_cons]
  cases p x with
  | true=>rfl
  | false=>rw [Q5,Bool.false_or];exact Qb1 r (i+1) t
theorem Quf {α:Type} {p:α→Bool}:∀ (l:List α) (i:Nat),0≤fiP p l i↔l.any p=true
 | [],i=>by simp [fiP]
 | x::r,i=>by
  unfold fiP
  split
  ·rename_i h;simp [h]
  ·rename_i h;rw [Quf r (i+1),List.any_cons];simp [show p x=false by simpa using h]
theorem Qvx {α:Type} {p:α→Bool} (l:List α) (i:Nat):decide (fiP p l i≥0)=l.any p:=by
 rw [Bool.eq_iff_iff,decide_eq_true_iff];exact Quf l i
def Qvy (rows:List (List Pk)) (id:Int):Bool:=rows.any fun q=>Qnq q id
theorem Q00m {d:Nat} {r:Rg} {id:Int} (hl:r.2.2.1.length≤1000) (hr:∀ q∈r.2.2.1,q.length≤1000):g65 (d+8) r id=some (Qvy r.2.2.1 id,r):=by
 rw [show d+8=d+4+4 by omega,e65]
 refine (Qc (fun (t:Int) (i:Int)=>(t,i)) r.2.2.1 (fun q _ t k=>oif (Qnq q id) (some (true,r)) (k t)) (fun _=>some (false,r)) ?_ ?_ (by rw [Q6];omega) 0).trans ?_
 ·intro ag t i x hx
  have hi:=(Z0 hx).1
  have:=hr x (Zc hx)
  simp only [l65i110i154_0,ltl hx,nn,Q3,hx,Q8,Q4]
  rw [Qox (by omega),Q8,wr1 (by omega)]
 ·intro ag t;simp only [l65i110i154_0,ltn,Q5];rfl
 ·rw [Qb1];unfold Qvy;cases List.any _ _<;>rfl
theorem Qyk {d:Nat} {l:List Pk} {id:Int} (hl:l.length≤1000):g106 (d+1) l id=some (fiP (fun p=>p.1==id) l 0):=by
 rw [e106]
 refine (Qc (fun (t:Int) (i:Int)=>(t,i)) l (fun x i t k=>oif (x.1==id) (some ((i:Nat):Int)) (k t)) (fun _=>some (-1)) ?_ ?_ (by rw [Q6];omega) 0).trans (Q20 l 0 _)
 ·intro ag t i x hx;have hi:=(Z0 hx).1;simp only [l106_0,ltl hx,nn,Q3,hx,Q8,Q4];rw [wr1 (by omega)]
 ·intro ag t;simp only [l106_0,ltn,Q5];rfl
theorem Qvz {d:Nat} {r:Rg} {id:Int} (hl:r.2.2.1.length≤1000) (hr:∀ q∈r.2.2.1,q.length≤1000):g61 (d+2) r id=some (Qvy r.2.2.1 id):=by
 rw [e61]
 refine (Qc (fun (t:Bool) (i:Int)=>(t,i)) r.2.2.1 (fun q _ t k=>oif (Qnq q id) (some true) (k t)) (fun _=>some false) ?_ ?_ (by rw [Q6];omega) false).trans ?_
 ·intro ag t i x hx
  have hi:=(Z0 hx).1
  simp only [l61_0,ltl hx,nn,Q3,hx,Q8,Q4]
  rw [Qyk (hr x (Zc hx)),Q8,wr1 (by omega),Qvx];rfl
 ·intro ag t;simp only [l61_0,ltn,Q5];rfl
 ·rw [Qb1];unfold Qvy;cases List.any _ _<;>rfl
theorem Qsb {d:Nat} {l:List Pk} (hl:l.length≤1000):g157 (d+1) l=some l:=by
 rw [e157,Q7u (fun h=>?_),room (by simp;omega),Q4,List.nil_append]
 rw [Z1 h];rfl
theorem Qjk {d:Nat} {l:List (List Pk)} (hl:l.length≤1000) (hq:∀ q∈l,q.length≤1000):g115 (d+2) l=some l:=by
 rw [e115,nn,Q4,Q4,Q3,show (Nat.ble l.length l.length&&Nat.ble (l.length*24) Q7)=true by rw [Z8,Nat.ble_eq,Nat.ble_eq];unfold Q7;omega,Q4]
 refine Ok.val (Q0x (fun j (s:Int×List (List Pk))=>∃ k:Nat,k+j=l.length∧s.1=(k:Int)∧s.2=l.take k++List.replicate (l.length - k) ([]:List Pk)) ?_ _ l.length _ (by rw [Q6];omega) ⟨0,by omega,rfl,by simp⟩)
 rintro j ⟨n,r⟩ ag ⟨k,hk,h1,h2⟩ hag
 simp only at h1 h2
 subst h1
 have hrl:r.length=l.length:=by rw [h2];simp;omega
 simp only [l115_0]
 rcases Nat.lt_or_ge k l.length with hlt | hge
 ·have hx:=Z6 hlt
  rw [ltl hx,Q4,nn,Q4,Q3,hx,Q8,Qsb (hq _ (List.getElem_mem hlt)),Q8,Q4,Qu (by omega),Q4,Z6 (show k < r.length by omega),Q8,wr1 (by omega)]
  exact hag (j - 1) _ (by omega) ⟨k+1,by omega,rfl,by rw [h2];exact Q68 hx⟩
 ·have:k=l.length:=by omega
  subst this
  rw [ltn,Q5]
  unfold j115_0
  exact Ok.some (by rw [h2];simp)
theorem Qp4 {x:Ld} (h:lgB x=true):ldV (unV x)=x:=by
 unfold lgB smB at h
 simp only [Z8,Zj,beq_iff_eq] at h
 obtain ⟨_,_,s1,s2,s3,s4,s5,s6,s7⟩:=h
 exact Prod.ext rfl (Prod.ext s1.symm (Prod.ext s2.symm (Prod.ext s3.symm (Prod.ext s4.symm (Prod.ext s5.symm (Prod.ext rfl (Prod.ext s6.symm s7.symm)))))))
theorem Qw0 {x:Ld} (h:lgB x=true):gdB (unV x)=true:=by
 unfold lgB at h
 simp only [Z8] at h
 exact h.2.1
theorem Qsc {c:Cf} (G:Gd c):(ldV c).2.2.2.2.1.length≤24∧(ldV c).2.2.2.2.2.1.length≤24∧(ldV c).2.2.2.2.2.2.2.1.length≤16:=by
 have h1:=Q74 G.tr
 have h2:=G.tr.n24
 have h3:=G.f16
 refine ⟨?_,?_,?_⟩
 ·show ((wlk c.2.1).map (fun i=>pW c.2.1 (nxI c.2.1 i))).length≤24
  rw [List.length_map];omega
 ·show ((wlk c.2.1).mapIdx (enI c.2.1)).length≤24
  rw [List.length_mapIdx];omega
 ·show (c.2.2.1.map (fun f=>pW c.2.1 (fid c.2.1 f.2.2.2.2))).length≤16
  rw [List.length_map];omega
theorem Qw1 {x:Ld} (h:lgB x=true):x.2.2.2.2.1.length≤24∧x.2.2.2.2.2.1.length≤24∧x.2.2.2.2.2.2.2.1.length≤16:=by
 have:=Qsc (Qgl (Qw0 h))
 rw [Qp4 h] at this;exact this
theorem Qp5 {d:Nat} {r:Rg} (h:rnB r=true):g66 (d+3) r=some r:=by
 have O:=Qmq h
 have L:=O.lk
 have h24:=L.n24
 have hp:=L.pl
 have hf:=L.fl
 have h16:=O.lr.f16
 obtain ⟨n1,n2,n3⟩:=Qw1 (Qsa h)
 have t1:=O.t1
 have t2:=O.t2
 have hrl:=O.rl
 have hv:=Q75 (F:=r.1.2.2.2.1)
 rw [e66,e113,Qky (by omega),Q8,Q4n (by omega),Q8,Q4n (by omega),Q8,Q4n (by omega),Q8,Q4n (by omega),Q8,Qef (by omega),Q8,Q4n (by omega),Q8,Q8,show d+2=d+1+1 by omega,Q4n (by omega),Q8,Q4n (by omega),Q8,show d+1+1=d+2 by omega,Qjk (by omega) (fun q hq=>by have:=O.rb q hq;omega),Q8]
theorem Qh6 {fin:Rg→Option Rg}:∀ (l:List (List Pk)) (i:Nat) (t:Rg),t.2.2.1.length+l.length≤1000→(∀ q∈l,q.length≤1000)→Q03 (fun (q:List Pk) _ (t:Rg) k=>oif (Nat.ble ((([]:List Pk).length+q.length)*48) Q7) (oif (Nat.ble ((t.2.2.1.length+[([]:List Pk)++q].length)*24) Q7) (k (t.1,t.2.1,t.2.2.1++[([]:List Pk)++q],t.2.2.2)) none) none) fin l i t=fin (t.1,t.2.1,t.2.2.1++l,t.2.2.2)
 | [],i,t,_,_=>by simp only [Q03,List.append_nil]
 | q::l,i,t,h,hq=>by
  simp only [Z9] at h
  have:=hq q (by simp)
  simp only [Q03]
  rw [room (by simp;omega),Q4,room (by simp;omega),Q4,Qh6 l (i+1) _ (by simp;omega) (fun x hx=>hq x (by simp [hx]))]
  simp
theorem Qw2 {d:Nat} {r:Rg} (h:rnB r=true):g62 (d+11) r=some r:=by
 have O:=Qmq h
 have L:=O.lk
 have h24:=L.n24
 have h16:=O.lr.f16
 have t1:=O.t1
 have t2:=O.t2
 have hrl:=O.rl
 have hf:=L.fl
 have hv:=Q75 (F:=r.1.2.2.2.1)
 rw [e62,show d+10=d+8+2 by omega,Ql4 (by omega) (by omega),Q8,show d+8+2=d+10 by omega,Qkw (Qgl (Qw0 (Qsa h))),Q8,Qp4 (Qsa h),show d+10=d+8+2 by omega,Qvp (by omega) (by omega),Q8]
 refine (Qc (fun (t:Rg) (i:Int)=>(i,t)) r.2.2.1 (fun (q:List Pk) _ (t:Rg) k=>oif (Nat.ble ((([]:List Pk).length+q.length)*48) Q7) (oif (Nat.ble ((t.2.2.1.length+[([]:List Pk)++q].length)*24) Q7) (k (t.1,t.2.1,t.2.2.1++[([]:List Pk)++q],t.2.2.2)) none) none) (fun t=>some t) ?_ ?_ (by rw [Q6];omega) (r.1,r.2.1,[],r.2.2.2)).trans ?_
 ·intro ag t i x hx;have hi:=(Z0 hx).1;simp only [l62_0,ltl hx,nn,Q3,hx,Q8,Q4];rw [wr1 (by omega)]
 ·intro ag t;simp only [l62_0,ltn,Q5];rfl
 ·rw [Qh6 _ _ _ (by simp;omega) (fun q hq=>by have:=O.rb q hq;omega),List.nil_append]
theorem Qp6 {α γ:Type} {c:α→Nat→Bool} {e:α→Nat→γ}:∀ (l:List α) (i j:Nat) (x:α),l[j]? = some x→c x (i+j)=true→e x (i+j)∈Q6u c e l i
 | [],i,j,x,h,_=>by simp at h
 | y::r,i,0,x,h,hc=>by
  simp only [List.getElem?_cons_zero,Option.some.injEq] at h
  subst h
  rw [Nat.add_zero] at hc ⊢
  unfold Q6u;rw [if_pos hc];simp
 | y::r,i,j+1,x,h,hc=>by
  have:=Qp6 (c:=c) (e:=e) r (i+1) j x (by simpa using h) (by rw [show i+1+j=i+(j+1) by omega];exact hc)
  rw [show i+1+j=i+(j+1) by omega] at this
  unfold Q6u
  split
  ·exact List.mem_cons_of_mem _ this
  ·exact this
theorem Qp7 {c:Cf} (G:Gd c) {id:Int} (hv:vI c.2.1 (fid c.2.1 id)) (hl:Q2y c.2.1 id=true):pW c.2.1 (fid c.2.1 id)∈lvV (ldV c).2.2.2.1:=by
 have T:=G.tr
 obtain ⟨k,h1,h2⟩:=Qgj T hv
 obtain ⟨_,x,e1,e2,e3⟩:=Q3t hv.1
 have hid:(Q0e c.2.1 (fid c.2.1 id)).1=id:=by rw [e1,Q1t e2,e3]
 have hk:kdI c.2.1 (fid c.2.1 id)=[]:=by
  unfold kdI Q5f
  rw [hid]
  have:=Q7q (c:=fun x:Cl8=>x.2.1==id) (e:=fun _ k=>((k:Nat):Int)) c.2.1 0
  unfold Q2y at hl
  rw [hl] at this
  exact Z1 (by simpa using this)
 have hF:(ldV c).2.2.2.1[k]? = some (-1):=by
  show ((wlk c.2.1).map (fun i=>pW c.2.1 (fsI c.2.1 i)))[k]? = some (-1)
  rw [List.getElem?_map,h1]
  show some (pW c.2.1 ((kdI c.2.1 (fid c.2.1 id)).headD (-1)))=some (-1)
  rw [hk]
  exact congrArg some (Q8w T (by simp))
 rw [h2]
 have:=Qp6 (c:=fun (f:Int) _=>decide (f < 0)) (e:=fun _ k=>((k:Nat):Int)) (ldV c).2.2.2.1 0 k (-1) hF (by simp)
 rw [Zo] at this
 exact this
theorem Q00n {c:Cf} (G:Gd c) (p:Pk):lfA (ldV c) p < 0∨lfA (ldV c) p∈lvV (ldV c).2.2.2.1:=by
 unfold lfA
 split
 ·rename_i h
  have hlt:=Qp1 h
  right
  have hm:(ldV c).2.2.2.2.2.2.2.1.getD (ffV (ldV c).2.2.2.2.2.2.1 p).toNat 0∈(ldV c).2.2.2.2.2.2.2.1:=by
   refine Zc (i:=(ffV (ldV c).2.2.2.2.2.2.1 p).toNat) (Q1q ?_)
   show _ < (c.2.2.1.map _).length
   rw [List.length_map]
   have:ffV (ldV c).2.2.2.2.2.2.1 p < ((c.2.2.1.length:Nat):Int):=hlt
   omega
  generalize (ldV c).2.2.2.2.2.2.2.1.getD (ffV (ldV c).2.2.2.2.2.2.1 p).toNat 0=w at hm
  obtain ⟨f,hf,rfl⟩:=List.mem_map.1 (show w∈c.2.2.1.map (fun f=>pW c.2.1 (fid c.2.1 f.2.2.2.2)) from hm)
  obtain ⟨t1,t2,_⟩:=G.tgt f hf
  exact Qp7 G t1 t2
 ·show dfV c < 0∨dfV c∈_
  unfold dfV
  split
  ·left;omega
  ·rename_i h
   obtain ⟨t1,t2⟩:=G.dft h
   exact Or.inr (Qp7 G t1 t2)
abbrev Rp:=Int×Int×Int
structure Pu (r:Rg):Prop where
 lk:Lk r.1
 lr:Lr r.1
 lf:∀ p,lfA r.1 p < 0∨lfA r.1 p∈lvV r.1.2.2.2.1
 rl:r.2.2.1.length=(lvV r.1.2.2.2.1).length
 lm:∀ (k:Nat) w,(lvV r.1.2.2.2.1)[k]? = some w→(((r.2.2.1.getD k []).length:Nat):Int)≤Qh5 r.1 w
def plA (x:Ld) (p:Pk):Nat:=(Qnp (lvV x.2.2.2.1) (lfA x p)).toNat
def Ql8 (r:Rg) (p:Pk):List Pk:=r.2.2.1.getD (plA r.1 p) []
def idA (x:Ld) (p:Pk):Int:=(Q0e x.2.1 (lfA x p)).1
def adR (r:Rg) (p:Pk):Rg:=(r.1,r.2.1,r.2.2.1.set (plA r.1 p) (Ql8 r p++[p]),r.2.2.2)
def ptV (r:Rg) (p:Pk):Rg×Rp:=if lfA r.1 p < 0 then (r,(3,0,p.1)) else if (((Ql8 r p).length:Nat):Int)=Qh5 r.1 (lfA r.1 p) then (r,(2,idA r.1 p,p.1)) else (adR r p,(1,idA r.1 p,p.1))
theorem Ql9 {e:Nat→Int} (he:∀ k,e k=(k:Int)) {c:Int→Nat→Bool}:∀ (l:List Int) (i:Nat),(Q6u c (fun _ k=>e k) l i).Pairwise (· < ·)∧∀ x∈Q6u c (fun _ k=>e k) l i,((i:Nat):Int)≤x
 | [],i=>⟨List.Pairwise.nil,fun x h=>by simp [Q6u] at h⟩
 | y::r,i=>by
  obtain ⟨h1,h2⟩:=Ql9 he (c:=c) r (i+1)
  unfold Q6u
  split
  ·refine ⟨List.Pairwise.cons (fun x hx=>?_) h1,fun x hx=>?_⟩
   ·have:=h2 x hx;rw [he];omega
   ·rcases Z2 hx with rfl | hx
    ·rw [he];omega
    ·have:=h2 x hx;omega
  ·exact ⟨h1,fun x hx=>by have:=h2 x hx;omega⟩
theorem Qla {F:List Int}:(lvV F).Nodup:=by
 have:=(Ql9 (e:=fun k=>((k:Nat):Int)) (fun _=>rfl) (c:=fun f _=>decide (f < 0)) F 0).1
 exact this.imp fun h=>by omega
structure At (r:Rg) (p:Pk):Prop where
 get:(lvV r.1.2.2.2.1)[plA r.1 p]? = some (lfA r.1 p)
 pos:Qnp (lvV r.1.2.2.2.1) (lfA r.1 p)=((plA r.1 p:Nat):Int)
 lt:plA r.1 p < r.2.2.1.length
 v:vI r.1.2.1 (lfA r.1 p)
 row:r.2.2.1[plA r.1 p]? = some (Ql8 r p)
 lim:(((Ql8 r p).length:Nat):Int)≤Qh5 r.1 (lfA r.1 p)
 l60:(Ql8 r p).length≤60
theorem Qw3 {r:Rg} {p:Pk} (P:Pu r) (h:¬ lfA r.1 p < 0):At r p:=by
 have hm:=(P.lf p).resolve_left h
 obtain ⟨k,h1,h2⟩:=Qog Qla hm
 have hk:plA r.1 p=k:=by unfold plA;rw [h2];rfl
 have hlt:=(Z0 h1).1
 have hrl:=P.rl
 have hf:=P.lk.fl
 obtain ⟨v1,v2⟩:=Qep hm
 have hv:vI r.1.2.1 (lfA r.1 p):=⟨v1,by omega⟩
 have hlim:=P.lm k _ h1
 have h60:=P.lr.lim _ (Zc (Q1d hv))
 have hrow:Ql8 r p=r.2.2.1.getD k []:=by unfold Ql8;rw [hk]
 refine ⟨by rw [hk];exact h1,by rw [hk];exact h2,by omega,hv,by rw [hk,hrow];exact Qaz (by omega),by rw [hrow];exact hlim,?_⟩
 rw [hrow]
 unfold Qh5 at hlim
 omega
def ptK {β:Type} (r:Rg) (p:Pk) (A:Option β) (B C:Cl8→Option β):Option β:=if lfA r.1 p < 0 then A else if (((Ql8 r p).length:Nat):Int)=Qh5 r.1 (lfA r.1 p) then B (Q0e r.1.2.1 (lfA r.1 p)) else C (Q0e r.1.2.1 (lfA r.1 p))
theorem Q00o {β:Type} {d:Nat} {r:Rg} {p:Pk} (P:Pu r) {A:Option β} {B:Cl8→Option β} {C:Cl8→List (List Pk)→Option β} :
  oif (decide (lfA r.1 p < 0)) A (oif (decide (0≤lfA r.1 p)) (oif (Nat.blt (lfA r.1 p).toNat r.1.2.1.length) (Q1 (r.1.2.1[(lfA r.1 p).toNat]?) fun x=>Q1 (g82 (d+1) r.1) fun ls=>Q1 (g116 (d+1) ls (lfA r.1 p)) fun k=>oif (decide (0≤k)) (oif (Nat.blt k.toNat r.2.2.1.length) (Q1 (r.2.2.1[k.toNat]?) fun row=>oif (((row.length:Nat):Int)==x.2.2.2.2.2.2.2) (B x) (oif (decide (0≤k)) (oif (Nat.blt k.toNat r.2.2.1.length) (Q1 (r.2.2.1[k.toNat]?) fun row2=>oif (Nat.ble ((row2.length+[p].length)*48) Q7) (oif (decide (0≤k)) (oif (Nat.blt k.toNat r.2.2.1.length) (oif (Nat.beq k.toNat k.toNat) (Q1 (r.2.2.1[k.toNat]?) fun _=>C x (r.2.2.1.set k.toNat (row2++[p]))) none) none) none) none) none) none)) none) none) none) none)
  = ptK r p A B (fun x=>C x (adR r p).2.2.1):=by
 unfold ptK
 by_cases h:lfA r.1 p < 0
 ·rw [Z5 h,Q4,if_pos h]
 ·have a:=Qw3 P h
  have h24:=P.lk.n24
  have hv:=Q75 (F:=r.1.2.2.2.1)
  have hf:=P.lk.fl
  have h60:=a.l60
  rw [Z4 h,Q5,if_neg h,Z5 a.v.1,Q4,Qu (by have:=a.v;unfold vI at this;omega),Q4,Q1d a.v,Q8,Qd0 (by omega) hf,Q8,Qo7 (by omega),Q8]
  have hp:fiP (fun x=>x==lfA r.1 p) (lvV r.1.2.2.2.1) 0=((plA r.1 p:Nat):Int):=a.pos
  rw [hp]
  simp only [nn,Q3,Q4,Qu a.lt,a.row,Q8]
  rw [room (by simp;omega),Q4,show Nat.beq (plA r.1 p) (plA r.1 p)=true by rw [Nat.beq_eq],Q4]
  by_cases e:(((Ql8 r p).length:Nat):Int)=Qh5 r.1 (lfA r.1 p)
  ·rw [if_pos e,show ((((Ql8 r p).length:Nat):Int)==(Q0e r.1.2.1 (lfA r.1 p)).2.2.2.2.2.2.2)=true from beq_iff_eq.2 e,Q4]
  ·rw [if_neg e,show ((((Ql8 r p).length:Nat):Int)==(Q0e r.1.2.1 (lfA r.1 p)).2.2.2.2.2.2.2)=false from beq_eq_false_iff_ne.2 e,Q5]
   rfl
theorem Qyl {β:Type} {d:Nat} {r:Rg} {p:Pk} {F:(Int→Option β)→Int→Option β} {K:Int→Option β} (a:At r p) (h1:r.1.2.1.length≤1000) (hf:r.1.2.2.2.1.length=r.1.2.1.length)
  (hF:∀ ag k,F ag k=Q1 (g74 (d+2) r.1) fun ls=>oif (decide (0≤k)) (oif (Nat.blt k.toNat ls.length) (Q1 (ls[k.toNat]?) fun w=>oif (w != lfA r.1 p) (ag (IntKind.i64.wrap (k+1))) (K k)) none) none):Q9 F Qe 0=K ((plA r.1 p:Nat):Int):=by
 have hv:=Q75 (F:=r.1.2.2.2.1)
 have hlt:=(Z0 a.get).1
 have key:∀ (m k fuel:Nat),k+m=plA r.1 p→m < fuel→Q9 F fuel ((k:Nat):Int)=K ((plA r.1 p:Nat):Int):=by
  intro m
  induction m with
  | zero =>
   intro k fuel e h
   obtain ⟨g,rfl⟩:∃ g,fuel=g+1:=⟨fuel - 1,by omega⟩
   obtain rfl:k=plA r.1 p:=by omega
   simp only [Q9]
   rw [hF,Q90 h1 hf,Q8,nn,Q4,Q3,Qu hlt,Q4,a.get,Q8,bne_self_eq_false,Q5]
  | succ m ih =>
   intro k fuel e h
   obtain ⟨g,rfl⟩:∃ g,fuel=g+1:=⟨fuel - 1,by omega⟩
   have hk:k < (lvV r.1.2.2.2.1).length:=by omega
   have hx:=Z6 hk
   have hne:(lvV r.1.2.2.2.1)[k]≠lfA r.1 p:=fun e'=>by
    have:=Q3u Qla hx
    rw [e',a.pos] at this
    omega
   simp only [Q9]
   rw [hF,Q90 h1 hf,Q8,nn,Q4,Q3,Qu hk,Q4,hx,Q8,bne_iff_ne.2 hne,Q4,wr1 (by omega)]
   exact ih (k+1) g (by omega) (by omega)
 exact key (plA r.1 p) 0 Qe (by omega) (by rw [Q6];omega)
theorem Q00p {β:Type} {r:Rg} {p:Pk} (P:Pu r) {A:Option β} {B:Cl8→Option β} {C:Cl8→List (List Pk)→Option β} {I:Cl8→Option β}
  (hI:At r p→∀ x,I x=oif (decide (0≤((plA r.1 p:Nat):Int))) (oif (Nat.blt (((plA r.1 p:Nat):Int)).toNat r.2.2.1.length) (Q1 (r.2.2.1[(((plA r.1 p:Nat):Int)).toNat]?) fun row=>oif (decide (((row.length:Nat):Int)≥x.2.2.2.2.2.2.2)) (B x) (oif (decide (0≤((plA r.1 p:Nat):Int))) (oif (Nat.blt (((plA r.1 p:Nat):Int)).toNat r.2.2.1.length) (Q1 (r.2.2.1[(((plA r.1 p:Nat):Int)).toNat]?) fun row2=>oif (Nat.ble ((row2.length+[p].length)*48) Q7) (oif (decide (0≤((plA r.1 p:Nat):Int))) (oif (Nat.blt (((plA r.1 p:Nat):Int)).toNat r.2.2.1.length) (oif (Nat.beq (((plA r.1 p:Nat):Int)).toNat (((plA r.1 p:Nat):Int)).toNat) (Q1 (r.2.2.1[(((plA r.1 p:Nat):Int)).toNat]?) fun _=>C x (r.2.2.1.set (((plA r.1 p:Nat):Int)).toNat (row2++[p]))) none) none) none) none) none) none)) none) none) :
  oif (decide (lfA r.1 p < 0)) A (oif (decide (0≤lfA r.1 p)) (oif (Nat.blt (lfA r.1 p).toNat r.1.2.1.length) (Q1 (r.1.2.1[(lfA r.1 p).toNat]?) I) none) none)=ptK r p A B (fun x=>C x (adR r p).2.2.1):=by
 unfold ptK
 by_cases h:lfA r.1 p < 0
 ·rw [Z5 h,Q4,if_pos h]
 ·have a:=Qw3 P h
  have h60:=a.l60
  have hlim:=a.lim
  rw [Z4 h,Q5,if_neg h,Z5 a.v.1,Q4,Qu (by have:=a.v;unfold vI at this;omega),Q4,Q1d a.v,Q8,hI a]
  simp only [nn,Q3,Q4,Qu a.lt,a.row,Q8]
  rw [room (by simp;omega),Q4,show Nat.beq (plA r.1 p) (plA r.1 p)=true by rw [Nat.beq_eq],Q4]
  by_cases e:(((Ql8 r p).length:Nat):Int)=Qh5 r.1 (lfA r.1 p)
  ·rw [if_pos e,Z5 (show (((Ql8 r p).length:Nat):Int)≥(Q0e r.1.2.1 (lfA r.1 p)).2.2.2.2.2.2.2 by unfold Qh5 at e;omega),Q4]
  ·rw [if_neg e,Z4 (show ¬ (((Ql8 r p).length:Nat):Int)≥(Q0e r.1.2.1 (lfA r.1 p)).2.2.2.2.2.2.2 by unfold Qh5 at e hlim;omega),Q5]
   rfl
theorem Q00q {x:Ld} (h:lgB x=true) (p:Pk):lfA x p < 0∨lfA x p∈lvV x.2.2.2.1:=by
 have:=Q00n (Qgl (Qw0 h)) p
 rw [Qp4 h] at this;exact this
theorem Qw4 {r:Rg} (h:rnB r=true):Pu r:=by
 have O:=Qmq h
 refine ⟨O.lk,O.lr,fun p=>Q00q (Qsa h) p,O.rl,fun k w hw=>?_⟩
 unfold rnB rsB at h
 simp only [Z8] at h
 have h6:=h.2.2.2.1
 rw [Q15] at h6
 have:=h6 k w hw
 rw [Zo] at this
 unfold rkB at this
 simp only [Z8,Bool.not_eq_true',decide_eq_false_iff_not] at this
 omega
theorem Qug {r:Rg} {p:Pk}:ptK r p (some (r,(3,0,p.1),true)) (fun x=>some (r,(2,x.1,p.1),true)) (fun x=>some (((r.1,r.2.1,(adR r p).2.2.1,r.2.2.2):Rg),(1,x.1,p.1),true))=some ((ptV r p).1,(ptV r p).2,true):=by
 unfold ptK ptV
 split
 ·rfl
 ·split<;>rfl
def zR:Rg:=((⟨#[]⟩,[],[],[],[],[],[],[],0),([],[]),[],0,0)
def ppV (r:Rg) (p:Pk):Rg×Rp×Bool:=if (rnB r&&(Qae p && !Qvy r.2.2.1 p.1))=true then ((ptV r p).1,(ptV r p).2,true) else (zR,(0,0,0),false)
theorem Qp8 {r:Rg} (O:Ro r):r.2.2.1.length≤24:=by
 have h24:=O.lk.n24
 have hf:=O.lk.fl
 have hv:=Q75 (F:=r.1.2.2.2.1)
 have hrl:=O.rl
 omega
theorem Qjl {d:Nat} {r:Rg} {p:Pk} (h:Qs1 r.1):g27 (d+29) r p=some (ppV r p):=by
 rw [show d+29=d+27+2 by omega,e27,show d+27+1=d+28 by omega,Qvv h,Q8]
 unfold ppV j27_0
 cases hg:rnB r with
 | false=>rfl
 | true =>
  have O:=Qmq hg
  have hrb:=Qp8 O
  rw [Zl,Q5,show d+28=d+26+2 by omega,Q91,Q8,Zg]
  cases hp:Qae p with
  | false=>rfl
  | true =>
   rw [Zl,Q5,show d+26+2=d+20+8 by omega,Q00m (by omega) (fun q hq=>by have:=O.rb q hq;omega),Q8,Zg]
   show oif (Qvy r.2.2.1 p.1) _ (Q1 (g66 (d+27+1) r) _)=_
   cases hh:Qvy r.2.2.1 p.1 with
   | true=>rfl
   | false =>
    rw [Q5,Bool.not_false,if_pos rfl,show d+27+1=d+25+3 by omega,Qp5 hg,Q8,show d+27=d+23+4 by omega,Ql6 O.lr,Q8,← Qug]
    exact Q00o (d:=d+26) (r:=r) (p:=p) (A:=some (r,(3,0,p.1),true)) (B:=fun x=>some (r,(2,x.1,p.1),true)) (C:=fun x rows=>some (((r.1,r.2.1,rows,r.2.2.2):Rg),(1,x.1,p.1),true)) (Qw4 hg)
theorem Qh7 {d:Nat} {r:Rg} {p:Pk} (h:Qs1 r.1):g25 (d+15) r p=some (ppV r p):=by
 rw [show d+15=d+13+2 by omega,e25,show d+13+1=d+1+13 by omega,Qs9 h,Q8]
 unfold ppV j25_0
 cases hg:rnB r with
 | false=>rfl
 | true =>
  have O:=Qmq hg
  have hrb:=Qp8 O
  have h24:=O.lk.n24
  rw [Zl,Q5,show d+1+13=d+11+3 by omega,Ql5,Q8,Zg]
  cases hp:Qae p with
  | false=>rfl
  | true =>
   rw [Zl,Q5,show d+11+3=d+12+2 by omega,Qvz (by omega) (fun q hq=>by have:=O.rb q hq;omega),Q8,Zg]
   cases hh:Qvy r.2.2.1 p.1 with
   | true=>rfl
   | false =>
    rw [Q5,Bool.not_false,if_pos rfl,show d+13+1=d+3+11 by omega,Qw2 hg,Q8,show d+13=d+9+4 by omega,Qp2 O.lr,Q8,← Qug]
    refine Q00p (r:=r) (p:=p) (A:=some (r,(3,0,p.1),true)) (B:=fun x=>some (r,(2,x.1,p.1),true)) (C:=fun x rows=>some (((r.1,r.2.1,rows,r.2.2.2):Rg),(1,x.1,p.1),true)) (Qw4 hg) (fun a x=>?_)
    refine (Qyl (d:=d+11) (K:=fun k=>j25i63_0 (d+13) p r x k) a (by omega) O.lk.fl (fun ag k=>?_)).trans ?_
    ·simp only [l25i63_0]
    ·unfold j25i63_0;rfl
end Go.Proofs.YtnnmeljlcdmljaaGreatDoor
