/-
  Configurations by value. And what stood behind it in 1 texts.
  Conditions: said at the theorems.
-/
import Derived.Test.YtnnmeljlcdmljaaGreatDoorK22
import Derived.Test.YtnnmeljlcdmljaaGreatDoorRepW
set_option linter.all false
namespace Go.Proofs.YtnnmeljlcdmljaaGreatDoor
open Go.Ev Go.Pv
def mP (k:Nat):Pk:=((k:Int),((k+1:Nat):Int),((k+1+1:Nat):Int),((k+1+1+1:Nat):Int),((k+1+1+1+1:Nat):Int),((k+1+1+1+1+1:Nat):Int))
def mPs:Nat→Nat→List Pk
 | _,0=>[]
 | k,n+1=>mP k::mPs (k+1+1+1+1+1+1) n
def mRs:Nat→List (List Pk)→List (List Pk)
 | _,[]=>[]
 | k,q::r=>mPs k q.length::mRs (k+6*q.length) r
theorem Qtm {d:Nat}:∀ (r:List Pk) {p:List Pk} {k fuel:Nat},r.length < fuel→p.length+r.length≤2000000→k+6*r.length≤1000000000 →
  Q9 (l87_0 d (j87_0 d)) fuel ((k:Int),((p.length:Nat):Int),p++r)=some (((k+6*r.length:Nat):Int),p++mPs k r.length)
 | _,p,k,0,h,_,_=>by omega
 | [],p,k,fuel+1,h,h2,h3=>by
  simp only [Q9,l87_0]
  rw [List.append_nil,ltn,Q5]
  unfold j87_0
  simp [mPs]
 | x::r,p,k,fuel+1,h,h2,h3=>by
  simp only [Z9] at h h2 h3
  have hlt:p.length < (p++x::r).length:=by simp
  have hg:(p++x::r)[p.length]? = some x:=by simp
  simp only [Q9,l87_0,Q3,nn,Q4]
  rw [Z5 (show ((p.length:Nat):Int) < (((p++x::r).length:Nat):Int) by omega),Q4,Qu hlt,Q4,hg,Q8]
  simp only [List.length_set,List.set_set,List.getElem?_set_self hlt,Q8,Qu hlt,Q4]
  rw [Qay,wr1 (by omega),wr1 (by omega),wr1 (by omega),wr1 (by omega),wr1 (by omega),wr1 (by omega),wr1 (by omega)]
  have:=Qtm (d:=d) r (p:=p++[mP k]) (k:=k+1+1+1+1+1+1) (fuel:=fuel) (by omega) (by simp;omega) (by omega)
  rw [Zf,show (p++[mP k])++r=p++mP k::r by simp] at this
  simp only [Z9,Zb,mPs]
  rw [show k+6*(r.length+1)=k+1+1+1+1+1+1+6*r.length by omega,show p++mP k::mPs (k+1+1+1+1+1+1) r.length=(p++[mP k])++mPs (k+1+1+1+1+1+1) r.length by simp]
  exact this
theorem Qtn {d:Nat} {l:List Pk}:∀ (n:Nat) {p:List Pk} {k fuel:Nat},l=p++mPs k n→n < fuel→p.length+n≤2000000→k+6*n≤1000000000 →
  Q9 (l117_0 d l (j117_0 d)) fuel ((k:Int),0,((p.length:Nat):Int))=some ((k+6*n:Nat):Int)
 | n,p,k,0,_,h,_,_=>by omega
 | 0,p,k,fuel+1,e,h,h2,h3=>by
  simp only [mPs,List.append_nil] at e
  subst e
  simp only [Q9,l117_0]
  rw [ltn,Q5]
  unfold j117_0
  simp
 | n+1,p,k,fuel+1,e,h,h2,h3=>by
  have hg:l[p.length]? = some (mP k):=by rw [e];simp [mPs]
  have hlt:=(Z0 hg).1
  simp only [Q9,l117_0,Q3,nn,Q4]
  rw [Z5 (show ((p.length:Nat):Int) < ((l.length:Nat):Int) by omega),Q4,hg]
  simp only [Q8]
  rw [wr1 (by omega),wr1 (by omega),wr1 (by omega),wr1 (by omega),wr1 (by omega),wr1 (by omega),wr1 (by omega)]
  unfold mP
  simp only [bne_self_eq_false,Q5]
  have:=Qtn (d:=d) (l:=l) n (p:=p++[mP k]) (k:=k+1+1+1+1+1+1) (fuel:=fuel) (by rw [e];simp [mPs]) (by omega) (by simp;omega) (by omega)
  rw [Zf] at this
  simp only [Z9,Zb] at this
  rw [show k+6*(n+1)=k+1+1+1+1+1+1+6*n by omega]
  exact this
theorem Qg6 {d:Nat} {β:Type} {F:((Int×Int×List (List Pk))→Option β)→(Int×Int×List (List Pk))→Option β} {kx:Int→List (List Pk)→Option β}
  (hF:∀ ag n i rs,F ag (n,i,rs)=oif (decide (i < ((rs.length:Nat):Int))) (oif (decide (0≤i)) (oif (Nat.blt i.toNat rs.length) (Q1 (rs[i.toNat]?) fun a=>Q1 (rs[i.toNat]?) fun b=>oif (Nat.beq b.length a.length) (Q1 (g87 (d+1) a n) fun z=>ag (z.1,IntKind.i64.wrap (i+1),rs.set i.toNat z.2)) none) none) none) (kx n rs)) :
  ∀ (r:List (List Pk)) {p:List (List Pk)} {k fuel:Nat},r.length < fuel→p.length+r.length≤2000000→(∀ q∈r,q.length≤1048576)→k+6*r.flatten.length≤100000000 →
  Q9 F fuel ((k:Int),((p.length:Nat):Int),p++r)=kx ((k+6*r.flatten.length:Nat):Int) (p++mRs k r)
 | _,p,k,0,h,_,_,_=>by omega
 | [],p,k,fuel+1,h,h2,_,h3=>by
  simp only [Q9]
  rw [hF,List.append_nil,ltn,Q5]
  simp [mRs]
 | q::r,p,k,fuel+1,h,h2,hq,h3=>by
  simp only [Z9,Ze,Zf] at h h2 h3
  have hlt:p.length < (p++q::r).length:=by simp
  have hg:(p++q::r)[p.length]? = some q:=by simp
  simp only [Q9]
  rw [hF,Z5 (show ((p.length:Nat):Int) < (((p++q::r).length:Nat):Int) by omega),Q4,nn,Q4,Q3,Qu hlt,Q4,hg,Q8,Q8,show Nat.beq q.length q.length=true by rw [Nat.beq_eq],Q4,e87]
  have h1:=Qtm (d:=d) q (p:=[]) (k:=k) (fuel:=Qe) (by have:=hq q (by simp);rw [Q6];omega) (by have:=hq q (by simp);simp;omega) (by omega)
  rw [List.nil_append,List.nil_append] at h1
  rw [show ((([]:List Pk).length:Nat):Int)=0 from rfl] at h1
  rw [h1,Q8]
  simp only []
  rw [Qay,wr1 (by omega)]
  have:=Qg6 hF r (p:=p++[mPs k q.length]) (k:=k+6*q.length) (fuel:=fuel) (by omega) (by simp;omega) (fun x hx=>hq x (by simp [hx])) (by omega)
  rw [Zf,show (p++[mPs k q.length])++r=p++mPs k q.length::r by simp] at this
  simp only [Z9,Zb,mRs,Ze,Zf]
  rw [show k+6*(q.length+r.flatten.length)=k+6*q.length+6*r.flatten.length by omega,show p++mPs k q.length::mRs (k+6*q.length) r=(p++[mPs k q.length])++mRs (k+6*q.length) r by simp]
  exact this
theorem Qcs {d k:Nat} {β:Type} {F:((Int×Int×List (List Pk))→Option β)→(Int×Int×List (List Pk))→Option β} {kx:Int→List (List Pk)→Option β} {rows:List (List Pk)}
  (hF:∀ ag n i rs,F ag (n,i,rs)=oif (decide (i < ((rs.length:Nat):Int))) (oif (decide (0≤i)) (oif (Nat.blt i.toNat rs.length) (Q1 (rs[i.toNat]?) fun a=>Q1 (rs[i.toNat]?) fun b=>oif (Nat.beq b.length a.length) (Q1 (g87 (d+1) a n) fun z=>ag (z.1,IntKind.i64.wrap (i+1),rs.set i.toNat z.2)) none) none) none) (kx n rs))
  (h:rwL rows) (hf:rows.flatten.length≤1048576) (hk:k≤50000000):Q9 F Qe ((k:Int),0,rows)=kx ((k+6*rows.flatten.length:Nat):Int) (mRs k rows) :=
 Qg6 hF rows (p:=[]) (by have:=h.1;rw [Q6];omega) (by have:=h.1;simp;omega) h.2 (by omega)
theorem Qg7 {d:Nat} {l:List (List Pk)}:∀ (r:List (List Pk)) {p:List (List Pk)} {k fuel:Nat},l=p++mRs k r→r.length < fuel→p.length+r.length≤2000000→(∀ q∈r,q.length≤1048576)→k+6*r.flatten.length≤100000000 →
  Q9 (l70_0 (d+1) l (j70_0 (d+1))) fuel ((k:Int),0,((p.length:Nat):Int))=some ((k+6*r.flatten.length:Nat):Int)
 | _,p,k,0,_,h,_,_,_=>by omega
 | [],p,k,fuel+1,e,h,h2,_,h3=>by
  simp only [mRs,List.append_nil] at e
  subst e
  simp only [Q9,l70_0]
  rw [ltn,Q5]
  unfold j70_0
  simp
 | q::r,p,k,fuel+1,e,h,h2,hq,h3=>by
  simp only [Z9,Ze,Zf] at h h2 h3
  have hg:l[p.length]? = some (mPs k q.length):=by rw [e];simp [mRs]
  have hlt:=(Z0 hg).1
  simp only [Q9,l70_0,Q3,nn,Q4]
  rw [Z5 (show ((p.length:Nat):Int) < ((l.length:Nat):Int) by omega),Q4,hg,Q8,e117]
  have h1:=Qtn (d:=d) q.length (p:=[]) (k:=k) (fuel:=Qe) rfl (by have:=hq q (by simp);rw [Q6];omega) (by have:=hq q (by simp);simp;omega) (by omega)
  rw [show ((([]:List Pk).length:Nat):Int)=0 from rfl,List.nil_append] at h1
  rw [h1,Q8,Z4 (by omega),Q5,wr1 (by omega)]
  have:=Qg7 (d:=d) (l:=l) r (p:=p++[mPs k q.length]) (k:=k+6*q.length) (fuel:=fuel) (by rw [e];simp [mRs]) (by omega) (by simp;omega) (fun x hx=>hq x (by simp [hx])) (by omega)
  rw [Zf] at this
  simp only [Z9,Zb,Ze,Zf] at this ⊢
  rw [show k+6*(q.length+r.flatten.length)=k+6*q.length+6*r.flatten.length by omega]
  exact this
def rgB (r:Rg):Prop:=ldL r.1∧(r.2.1.1.length≤1048576∧r.2.1.2.length≤1048576)∧r.2.2.1.length≤1000∧∀ q∈r.2.2.1,q.length≤1000
theorem rgB.l {r:Rg} (h:rgB r):rgL r∧r.2.2.1.flatten.length≤1000000:=by
 obtain ⟨h1,⟨h2,h3⟩,h4,h5⟩:=h
 have:=Q69 h5
 exact ⟨⟨h1,h2,h3,by omega,fun q hq=>by have:=h5 q hq;omega⟩,by omega⟩
def mkR (r:Rg):Rg:=(mkL 1 r.1,mkT (enL 1 r.1) r.2.1,mRs (Qyh (enL 1 r.1) r.2.1) r.2.2.1,r.2.2.2)
def enR (r:Rg):Nat:=Qyh (enL 1 r.1) r.2.1+6*r.2.2.1.flatten.length
theorem Qo1 {d:Nat} {r:Rg} (h:rgB r):g29 (d+3) (mkR r) ((1:Nat):Int)=some ((enR r:Nat):Int):=by
 obtain ⟨h1,⟨h2,h3⟩,h4,h5⟩:=h
 have hf:=Q69 h5
 have hL:=Qow (k:=1) h1
 rw [e29]
 unfold mkR
 simp only []
 rw [Qgz h1 (by omega),Q8,Z4 (by omega),Q5,Qh0 h2 h3 (by omega),Q8,Z4 (by omega),Q5,e70]
 have:=Qg7 (d:=d) r.2.2.1 (p:=[]) (k:=Qyh (enL 1 r.1) r.2.1) (fuel:=Qe) rfl (by rw [Q6];omega) (by simp;omega) (fun q hq=>by have:=h5 q hq;omega) (by unfold Qyh;omega)
 rw [show ((([]:List (List Pk)).length:Nat):Int)=0 from rfl,List.nil_append] at this
 rw [this,Q8,Z4 (by omega),Q5]
 rfl
abbrev tyC:Ty:=.pair (.int .i64) (.pair (.int .i64) (.pair (.int .i64) (.pair (.int .i64) (.pair (.int .i64) (.pair (.int .i64) (.pair (.int .i64) (.int .i64)))))))
abbrev tyF:Ty:=.pair (.int .i64) (.pair (.int .i64) (.pair (.int .i64) (.pair (.int .i64) (.int .i64))))
abbrev tyLd:Ty:=.pair .str (.pair (.sl tyC) (.pair (.sl (.int .i64)) (.pair (.sl (.int .i64)) (.pair (.sl (.int .i64)) (.pair (.sl (.int .i64)) (.pair (.sl tyF) (.pair (.sl (.int .i64)) (.int .i64))))))))
abbrev tyT:Ty:=.pair (.sl (.int .i64)) (.sl (.int .i64))
theorem Qxq {x:Ld} (h:Wf tyLd x):ldW x:=by
 obtain ⟨h1,⟨h2,_⟩,⟨h3,_⟩,⟨h4,_⟩,⟨h5,_⟩,⟨h6,_⟩,⟨h7,_⟩,⟨h8,_⟩,_⟩:=h
 exact ⟨h1,h2,h3,h4,h5,h6,h7,h8⟩
def tkW (t:Tk):Prop:=t.1.length≤9223372036854775807∧t.2.length≤9223372036854775807
theorem Qxr {t:Tk} (h:Wf tyT t):tkW t:=by
 obtain ⟨⟨h2,_⟩,⟨h3,_⟩⟩:=h
 exact ⟨h2,h3⟩
abbrev tyPk:Ty:=.pair (.int .i64) (.pair (.int .i64) (.pair (.int .i64) (.pair (.int .i64) (.pair (.int .i64) (.int .i64)))))
abbrev tyRn:Ty:=.pair tyLd (.pair tyT (.pair (.sl (.sl tyPk)) (.pair (.int .i64) (.int .i64))))
theorem Qxs {r:Rg} (h:Wf tyRn r):rgW r:=by
 obtain ⟨h1,h2,⟨h3,h4⟩,_⟩:=h
 exact ⟨Qxq h1,Qxr h2,h3,fun q hq=>(h4 q hq).1⟩
theorem Q00e {r:Rg} {p:Pk} (h:rgL r):rgB (ppV r p).1:=by
 unfold ppV
 split
 ·rename_i hg
  simp only [Z8] at hg
  have O:=Qmq hg.1
  have P:=Qw4 hg.1
  have hb:=Qp8 O
  have hr:rgB r:=⟨h.1,⟨h.2.1,h.2.2.1⟩,by omega,fun q hq=>by have:=O.rb q hq;omega⟩
  show rgB (ptV r p).1
  unfold ptV
  split
  ·exact hr
  ·rename_i h0
   have a:=Qw3 P h0
   split
   ·exact hr
   ·refine ⟨hr.1,hr.2.1,by show (r.2.2.1.set _ _).length≤1000;rw [List.length_set];omega,fun q hq=>?_⟩
    rcases List.mem_or_eq_of_mem_set hq with hq | rfl
    ·exact hr.2.2.2 q hq
    ·have:=a.l60;simp;omega
 ·exact ⟨⟨by show (0:Nat)≤_;omega,Nat.zero_le _,Nat.zero_le _,Nat.zero_le _,Nat.zero_le _,Nat.zero_le _,Nat.zero_le _,Nat.zero_le _⟩,⟨Nat.zero_le _,Nat.zero_le _⟩,Nat.zero_le _,fun q hq=>by simp [zR] at hq⟩
theorem Qre {d:Nat} {r:Rg} {p:Pk} (hw:rgW r):g6 (d+32) r p=some true:=by
 rw [show d+32=(d+29)+3 by omega,e6]
 obtain ⟨z,hz,hB⟩:=Qvr (d:=d+28) hw
 rw [show d+29+2=d+28+3 by omega,hz,Q8]
 by_cases h:z < 0
 ·rw [Z5 h,Q4]
 obtain ⟨y0,y1,hl,hfl⟩:=hB.resolve_left h
 rw [Z4 h,Q5]
 obtain ⟨l1,l2,l3,l4⟩:=id hl
 obtain ⟨z1,z2,z3,z4,z5,z6,z7,z8⟩:=id l1
 have hV:=Q00e (p:=p) hl
 obtain ⟨hV1,hV2⟩:=hV.l
 obtain ⟨v1,v2,v3,v4⟩:=id hV1
 obtain ⟨u1,u2,u3,u4,u5,u6,u7,u8⟩:=id v1
 have hT:g9 (d+28+3) r=some r:=by rw [show d+28+3=d+27+4 by omega];exact Qvs hl
 have hE:g12 (d+28+3) r r=some true:=by rw [show d+28+3=d+27+4 by omega];exact Qoy hl
 have hP:g26 (d+28+3) p=some p:=by rw [show d+28+3=d+30+1 by omega,e26]
 have hA:g27 (d+28+3) r p=some (ppV r p):=by rw [show d+28+3=d+2+29 by omega];exact Qjl l1.sz
 have hS:g25 (d+28+3) r p=some (ppV r p):=by rw [show d+28+3=d+16+15 by omega];exact Qh7 l1.sz
 have hQ:g12 (d+28+3) (ppV r p).1 (ppV r p).1=some true:=by rw [show d+28+3=d+27+4 by omega];exact Qoy hV1
 have hY:g28 (d+28+3) (ppV r p).2.1 (ppV r p).2.1=some true:=by rw [show d+28+3=d+30+1 by omega,e28,bne_self_eq_false,Q5,bne_self_eq_false,Q5,bne_self_eq_false,Q5]
 have hH:g29 (d+28+3) (mkR (ppV r p).1) ((1:Nat):Int)=some ((enR (ppV r p).1:Nat):Int):=Qo1 hV
 rw [hT,Q8,hP,Q8,hS,Q8,Q8,Q8,hA,Q8,hQ,Q8,Zl,Q5,hY,Q8,Zl,Q5,beq_self_eq_true,Zl]
 unfold j6_2
 rw [Q5,show d+29+2=d+28+3 by omega,hT,Q8,hE,Q8,Zl,Q5]
 rw [show d+29=d+28+1 by omega,show (1:Int)=((1:Nat):Int) from rfl,Q9p z2 (by omega),Q8];simp only [];rw [Q0f z3 (by omega),Q8];simp only [];rw [Q0f z4 (by omega),Q8];simp only [];rw [Q0f z5 (by omega),Q8];simp only [];rw [Q0f z6 (by omega),Q8];simp only [];rw [Q7x z7 (by omega),Q8];simp only [];rw [Q0f z8 (by omega),Q8];simp only [];rw [Q0f l2 (by omega),Q8];simp only [];rw [Q0f l3 (by omega),Q8];simp only []
 have hL:=Qow (k:=1) l1
 unfold enL at hL
 refine (Qcs (fun ag n i rs=>rfl) l4 hfl (by omega)).trans ?_
 unfold j6i13i43_1
 rw [Z4 (by omega),Q5,show d+28+1+2=d+28+3 by omega,hQ,Q8,Zl,Q5,hY,Q8,Zl,Q5,beq_self_eq_true,Zl]
 unfold j6_1
 rw [Q5]
 rw [show d+29=d+28+1 by omega,show (1:Int)=((1:Nat):Int) from rfl,Q9p u2 (by omega),Q8];simp only [];rw [Q0f u3 (by omega),Q8];simp only [];rw [Q0f u4 (by omega),Q8];simp only [];rw [Q0f u5 (by omega),Q8];simp only [];rw [Q0f u6 (by omega),Q8];simp only [];rw [Q7x u7 (by omega),Q8];simp only [];rw [Q0f u8 (by omega),Q8];simp only [];rw [Q0f v2 (by omega),Q8];simp only [];rw [Q0f v3 (by omega),Q8];simp only []
 have hL2:=Qow (k:=1) v1
 unfold enL at hL2
 refine (Qcs (fun ag n i rs=>rfl) v4 (by omega) (by omega)).trans ?_
 unfold j6i13i43_0
 rw [show d+28+1+2=d+28+3 by omega,show (1:Int)=((1:Nat):Int) from rfl]
 show Q1 (g29 (d+28+3) (mkR (ppV r p).1) ((1:Nat):Int)) _=_
 rw [hH,Q8,Z4 (by omega),Q5]
 show oif (((enR (ppV r p).1:Nat):Int) != ((enR (ppV r p).1:Nat):Int)) _ _=_
 rw [bne_self_eq_false,Q5,hT,Q8,hP,Q8,hA,Q8,hQ,Q8,Zl,Q5,hY,Q8,Zl,Q5,beq_self_eq_true,Zl]
 unfold j6_0
 rw [Q5]
 show Q1 (g29 (d+28+3) (mkR (ppV r p).1) ((1:Nat):Int)) _=_
 rw [hH,Q8,Z4 (by omega),Q5]
 show oif (((enR (ppV r p).1:Nat):Int) != ((enR (ppV r p).1:Nat):Int)) _ _=_
 rw [bne_self_eq_false,Q5]
def tysLaw:List Ty:=[tyRn,tyPk]
theorem lawAny:Quo Tryz.prog Qb (32) 6 tysLaw :=
 ⟨rfl,rfl,rfl,fun a h=>by
  obtain ⟨r,p⟩:=a
  exact ⟨true,Qre (d:=0) (Qxs (h ⟨_,r⟩ (List.Mem.head _))),rfl⟩⟩
end Go.Proofs.YtnnmeljlcdmljaaGreatDoor
