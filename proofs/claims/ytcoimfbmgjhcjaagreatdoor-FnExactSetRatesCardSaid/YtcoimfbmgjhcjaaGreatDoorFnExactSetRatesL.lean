/-
  Configurations by value. And what stood behind it in 4 texts.
  Conditions: said at the theorems.
-/
import Derived.Test.YtcoimfbmgjhcjaaGreatDoorK21
import Derived.Test.YtcoimfbmgjhcjaaGreatDoorRepW
set_option linter.all false
namespace Go.Proofs.YtcoimfbmgjhcjaaGreatDoor
open Go.Ev Go.Pv
structure Pu (x:Ld) (rows:List (List Pk)):Prop where
 lk:Lk x
 lr:Lr x
 lf:∀ p,cD x p < 0\/cD x p∈bT x.2.2.2.1
 rl:rows.length=(bT x.2.2.2.1).length
 lm:∀ (k:Nat) w,(bT x.2.2.2.1)[k]? = some w->(((rows.getD k []).length:Nat):Int)<=mD x w
def kI (x:Ld) (p:Pk):Nat:=(vr (bT x.2.2.2.1) (cD x p)).toNat
def qY (x:Ld) (rows:List (List Pk)) (p:Pk):List Pk:=rows.getD (kI x p) []
def Iu (x:Ld) (rows:List (List Pk)) (p:Pk):List (List Pk):=rows.set (kI x p) (qY x rows p++[p])
def Da {τ:Type} (x:Ld) (rows:List (List Pk)) (p:Pk) (A:τ) (B C:aC->τ):τ:=if cD x p < 0 then A else if (((qY x rows p).length:Nat):Int)=mD x (cD x p) then B (aU x.2.1 (cD x p)) else C (aU x.2.1 (cD x p))
theorem Yk {e:Nat->Int} (he:∀ k,e k=(k:Int)) {c:Int->Nat->Bool}:∀ (l:List Int) (i:Nat),(fL c (fun _ k=>e k) l i).Pairwise (· < ·)/\∀ x∈fL c (fun _ k=>e k) l i,((i:Nat):Int)<=x
 | [],i=>⟨List.Pairwise.nil,fun x h=>by simp [fL] at h⟩
 | y::r,i=>by
  obtain ⟨h1,h2⟩:=Yk he (c:=c) r (i+1)
  unfold fL
  split
  .refine ⟨List.Pairwise.cons (fun x hx=>?_) h1,fun x hx=>?_⟩
   .have:=h2 x hx;rw [he];omega
   .rcases Z2 hx with rfl | hx
    .rw [he];omega
    .have:=h2 x hx;omega
  .exact ⟨h1,fun x hx=>by have:=h2 x hx;omega⟩
theorem Rm {F:List Int}:(bT F).Nodup:=by
 have:=(Yk (e:=fun k=>((k:Nat):Int)) (fun _=>rfl) (c:=fun f _=>decide (f < 0)) F 0).1
 exact this.imp fun h=>by omega
structure At (x:Ld) (rows:List (List Pk)) (p:Pk):Prop where
 get:(bT x.2.2.2.1)[kI x p]? = some (cD x p)
 pos:vr (bT x.2.2.2.1) (cD x p)=((kI x p:Nat):Int)
 lt:kI x p < rows.length
 v:vI x.2.1 (cD x p)
 row:rows[kI x p]? = some (qY x rows p)
 ai:(((qY x rows p).length:Nat):Int)<=mD x (cD x p)
 Yl:(qY x rows p).length<=60
theorem Rn {x:Ld} {rows:List (List Pk)} {p:Pk} (P:Pu x rows) (h:¬ cD x p < 0):At x rows p:=by
 have hm:=(P.lf p).resolve_left h
 obtain ⟨k,h1,h2⟩:=Ym Rm hm
 have hk:kI x p=k:=by unfold kI;rw [h2];rfl
 have au:=(Z0 h1).1
 have jY:=P.rl
 have hf:=P.lk.fl
 obtain ⟨v1,v2⟩:=E_ hm
 have hv:vI x.2.1 (cD x p):=⟨v1,by omega⟩
 have aH:=P.lm k _ h1
 have Iv:=P.lr.ai _ (Zc (eZ hv))
 have cy:qY x rows p=rows.getD k []:=by unfold qY;rw [hk]
 refine ⟨by rw [hk];exact h1,by rw [hk];exact h2,by omega,hv,by rw [hk,cy];exact Rp (by omega),by rw [cy];exact aH,?_⟩
 rw [cy]
 unfold mD at aH
 omega
theorem Rq {β:Type} {d:Nat} {x:Ld} {rows:List (List Pk)} {p:Pk} (P:Pu x rows) {A:Option β} {B:aC->Option β} {C:aC->List (List Pk)->Option β} :
  aa (decide (cD x p < 0)) A (aa (decide (0<=cD x p)) (aa (Nat.blt (cD x p).toNat x.2.1.length) (Q1 (x.2.1[(cD x p).toNat]?) fun y=>Q1 (Db (d+1) x) fun ls=>Q1 (wG (d+1) ls (cD x p)) fun k=>aa (decide (0<=k)) (aa (Nat.blt k.toNat rows.length) (Q1 (rows[k.toNat]?) fun row=>aa (((row.length:Nat):Int)==y.2.2.2.2.2.2.2) (B y) (aa (decide (0<=k)) (aa (Nat.blt k.toNat rows.length) (Q1 (rows[k.toNat]?) fun wH=>aa (Nat.ble ((wH.length+[p].length)*48) Q7) (aa (decide (0<=k)) (aa (Nat.blt k.toNat rows.length) (aa (Nat.beq k.toNat k.toNat) (Q1 (rows[k.toNat]?) fun _=>C y (rows.set k.toNat (wH++[p]))) none) none) none) none) none) none)) none) none) none) none)
  = Da x rows p A B (fun y=>C y (Iu x rows p)):=by
 unfold Da
 by_cases h:cD x p < 0
 .rw [Z5 h,Q4,if_pos h]
 .have a:=Rn P h
  have iw:=P.lk.eG
  have hv:=AH (F:=x.2.2.2.1)
  have hf:=P.lk.fl
  have Iv:=a.Yl
  rw [Z4 h,Q5,if_neg h,Z5 a.v.1,Q4,Qo (by have:=a.v;unfold vI at this;omega),Q4,eZ a.v,Q9,Kc (by omega) hf,Q9,Yn (by omega),Q9]
  have hp:fm (fun y=>y==cD x p) (bT x.2.2.2.1) 0=((kI x p:Nat):Int):=a.pos
  rw [hp]
  simp only [nn,Q3,Q4,Qo a.lt,a.row,Q9]
  rw [room (by simp;omega),Q4,show Nat.beq (kI x p) (kI x p)=true by rw [Nat.beq_eq],Q4]
  by_cases e:(((qY x rows p).length:Nat):Int)=mD x (cD x p)
  .rw [if_pos e,show ((((qY x rows p).length:Nat):Int)==(aU x.2.1 (cD x p)).2.2.2.2.2.2.2)=true from beq_iff_eq.2 e,Q4]
  .rw [if_neg e,show ((((qY x rows p).length:Nat):Int)==(aU x.2.1 (cD x p)).2.2.2.2.2.2.2)=false from beq_eq_false_iff_ne.2 e,Q5]
   rfl
theorem Qyb {β:Type} {d:Nat} {x:Ld} {rows:List (List Pk)} {p:Pk} {F:(Int->Option β)->Int->Option β} {K:Int->Option β} (a:At x rows p) (h1:x.2.1.length<=1000) (hf:x.2.2.2.1.length=x.2.1.length)
  (hF:∀ ag k,F ag k=Q1 (Dc (d+2) x) fun ls=>aa (decide (0<=k)) (aa (Nat.blt k.toNat ls.length) (Q1 (ls[k.toNat]?) fun w=>aa (w != cD x p) (ag (IntKind.i64.wrap (k+1))) (K k)) none) none):Q8 F Qd 0=K ((kI x p:Nat):Int):=by
 have hv:=AH (F:=x.2.2.2.1)
 have au:=(Z0 a.get).1
 have key:∀ (m k fuel:Nat),k+m=kI x p->m < fuel->Q8 F fuel ((k:Nat):Int)=K ((kI x p:Nat):Int):=by
  intro m
  induction m with
  | zero =>
   intro k fuel e h
   obtain ⟨g,rfl⟩:∃ g,fuel=g+1:=⟨fuel - 1,by omega⟩
   obtain rfl:k=kI x p:=by omega
   simp only [Q8]
   rw [hF,Iw h1 hf,Q9,nn,Q4,Q3,Qo au,Q4,a.get,Q9,bne_self_eq_false,Q5]
  | succ m ih =>
   intro k fuel e h
   obtain ⟨g,rfl⟩:∃ g,fuel=g+1:=⟨fuel - 1,by omega⟩
   have hk:k < (bT x.2.2.2.1).length:=by omega
   have hx:=Z6 hk
   have aV:(bT x.2.2.2.1)[k]≠cD x p:=fun e'=>by
    have:=qZ Rm hx
    rw [e',a.pos] at this
    omega
   simp only [Q8]
   rw [hF,Iw h1 hf,Q9,nn,Q4,Q3,Qo hk,Q4,hx,Q9,bne_iff_ne.2 aV,Q4,aN (by omega)]
   exact ih (k+1) g (by omega) (by omega)
 exact key (kI x p) 0 Qd (by omega) (by rw [Q6];omega)
def Rs {β:Type} (rows:List (List Pk)) (p:Pk) (B:aC->Option β) (C:aC->List (List Pk)->Option β) (y:aC) (k:Int):Option β:=aa (decide (0<=k)) (aa (Nat.blt k.toNat rows.length) (Q1 (rows[k.toNat]?) fun row=>aa (decide (((row.length:Nat):Int)>=y.2.2.2.2.2.2.2)) (B y) (aa (decide (0<=k)) (aa (Nat.blt k.toNat rows.length) (Q1 (rows[k.toNat]?) fun wH=>aa (Nat.ble ((wH.length+[p].length)*48) Q7) (aa (decide (0<=k)) (aa (Nat.blt k.toNat rows.length) (aa (Nat.beq k.toNat k.toNat) (Q1 (rows[k.toNat]?) fun _=>C y (rows.set k.toNat (wH++[p]))) none) none) none) none) none) none)) none) none
theorem Rt {β:Type} {x:Ld} {rows:List (List Pk)} {p:Pk} (P:Pu x rows) {A:Option β} {B:aC->Option β} {C:aC->List (List Pk)->Option β} {I:aC->Option β}
  (hI:At x rows p->∀ y,I y=Rs rows p B C y ((kI x p:Nat):Int)) :
  aa (decide (cD x p < 0)) A (aa (decide (0<=cD x p)) (aa (Nat.blt (cD x p).toNat x.2.1.length) (Q1 (x.2.1[(cD x p).toNat]?) I) none) none)=Da x rows p A B (fun y=>C y (Iu x rows p)):=by
 unfold Da
 by_cases h:cD x p < 0
 .rw [Z5 h,Q4,if_pos h]
 .have a:=Rn P h
  have Iv:=a.Yl
  have aH:=a.ai
  rw [Z4 h,Q5,if_neg h,Z5 a.v.1,Q4,Qo (by have:=a.v;unfold vI at this;omega),Q4,eZ a.v,Q9,hI a]
  unfold Rs
  simp only [nn,Q3,Q4,Qo a.lt,a.row,Q9]
  rw [room (by simp;omega),Q4,show Nat.beq (kI x p) (kI x p)=true by rw [Nat.beq_eq],Q4]
  by_cases e:(((qY x rows p).length:Nat):Int)=mD x (cD x p)
  .rw [if_pos e,Z5 (show (((qY x rows p).length:Nat):Int)>=(aU x.2.1 (cD x p)).2.2.2.2.2.2.2 by unfold mD at e;omega),Q4]
  .rw [if_neg e,Z4 (show ¬ (((qY x rows p).length:Nat):Int)>=(aU x.2.1 (cD x p)).2.2.2.2.2.2.2 by unfold mD at e aH;omega),Q5]
   rfl
theorem Ru {x:Ld} (h:eS x=true) (p:Pk):cD x p < 0\/cD x p∈bT x.2.2.2.1:=by
 have:=Rv (q_ (NW h)) p
 rw [Yo h] at this;exact this
def mP (k:Nat):Pk:=((k:Int),((k+1:Nat):Int),((k+1+1:Nat):Int),((k+1+1+1:Nat):Int),((k+1+1+1+1:Nat):Int),((k+1+1+1+1+1:Nat):Int))
def mE:Nat->Nat->List Pk
 | _,0=>[]
 | k,n+1=>mP k::mE (k+1+1+1+1+1+1) n
def vt:Nat->List (List Pk)->List (List Pk)
 | _,[]=>[]
 | k,q::r=>mE k q.length::vt (k+6*q.length) r
theorem Yp {d:Nat}:∀ (r:List Pk) {p:List Pk} {k fuel:Nat},r.length < fuel->p.length+r.length<=2000000->k+6*r.length<=1000000000 ->
  Q8 (kJ d (oQ d)) fuel ((k:Int),((p.length:Nat):Int),p++r)=some (((k+6*r.length:Nat):Int),p++mE k r.length)
 | _,p,k,0,h,_,_=>by omega
 | [],p,k,fuel+1,h,h2,h3=>by
  simp only [Q8,kJ]
  rw [List.append_nil,bB,Q5]
  unfold oQ
  simp [mE]
 | x::r,p,k,fuel+1,h,h2,h3=>by
  simp only [Z9] at h h2 h3
  have au:p.length < (p++x::r).length:=by simp
  have hg:(p++x::r)[p.length]? = some x:=by simp
  simp only [Q8,kJ,Q3,nn,Q4]
  rw [Z5 (show ((p.length:Nat):Int) < (((p++x::r).length:Nat):Int) by omega),Q4,Qo au,Q4,hg,Q9]
  simp only [List.length_set,List.set_set,List.getElem?_set_self au,Q9,Qo au,Q4]
  rw [Fa,aN (by omega),aN (by omega),aN (by omega),aN (by omega),aN (by omega),aN (by omega),aN (by omega)]
  have:=Yp (d:=d) r (p:=p++[mP k]) (k:=k+1+1+1+1+1+1) (fuel:=fuel) (by omega) (by simp;omega) (by omega)
  rw [Zf,show (p++[mP k])++r=p++mP k::r by simp] at this
  simp only [Z9,Zb,mE]
  rw [show k+6*(r.length+1)=k+1+1+1+1+1+1+6*r.length by omega,show p++mP k::mE (k+1+1+1+1+1+1) r.length=(p++[mP k])++mE (k+1+1+1+1+1+1) r.length by simp]
  exact this
theorem Yq {d:Nat} {l:List Pk}:∀ (n:Nat) {p:List Pk} {k fuel:Nat},l=p++mE k n->n < fuel->p.length+n<=2000000->k+6*n<=1000000000 ->
  Q8 (kK d l (oR d)) fuel ((k:Int),0,((p.length:Nat):Int))=some ((k+6*n:Nat):Int)
 | n,p,k,0,_,h,_,_=>by omega
 | 0,p,k,fuel+1,e,h,h2,h3=>by
  simp only [mE,List.append_nil] at e
  subst e
  simp only [Q8,kK]
  rw [bB,Q5]
  unfold oR
  simp
 | n+1,p,k,fuel+1,e,h,h2,h3=>by
  have hg:l[p.length]? = some (mP k):=by rw [e];simp [mE]
  have au:=(Z0 hg).1
  simp only [Q8,kK,Q3,nn,Q4]
  rw [Z5 (show ((p.length:Nat):Int) < ((l.length:Nat):Int) by omega),Q4,hg]
  simp only [Q9]
  rw [aN (by omega),aN (by omega),aN (by omega),aN (by omega),aN (by omega),aN (by omega),aN (by omega)]
  unfold mP
  simp only [bne_self_eq_false,Q5]
  have:=Yq (d:=d) (l:=l) n (p:=p++[mP k]) (k:=k+1+1+1+1+1+1) (fuel:=fuel) (by rw [e];simp [mE]) (by omega) (by simp;omega) (by omega)
  rw [Zf] at this
  simp only [Z9,Zb] at this
  rw [show k+6*(n+1)=k+1+1+1+1+1+1+6*n by omega]
  exact this
theorem Yr {d:Nat} {β:Type} {F:((Int×Int×List (List Pk))->Option β)->(Int×Int×List (List Pk))->Option β} {kx:Int->List (List Pk)->Option β}
  (hF:∀ ag n i rs,F ag (n,i,rs)=aa (decide (i < ((rs.length:Nat):Int))) (aa (decide (0<=i)) (aa (Nat.blt i.toNat rs.length) (Q1 (rs[i.toNat]?) fun a=>Q1 (rs[i.toNat]?) fun b=>aa (Nat.beq b.length a.length) (Q1 (wI (d+1) a n) fun z=>ag (z.1,IntKind.i64.wrap (i+1),rs.set i.toNat z.2)) none) none) none) (kx n rs)) :
  ∀ (r:List (List Pk)) {p:List (List Pk)} {k fuel:Nat},r.length < fuel->p.length+r.length<=2000000->(∀ q∈r,q.length<=1048576)->k+6*r.flatten.length<=100000000 ->
  Q8 F fuel ((k:Int),((p.length:Nat):Int),p++r)=kx ((k+6*r.flatten.length:Nat):Int) (p++vt k r)
 | _,p,k,0,h,_,_,_=>by omega
 | [],p,k,fuel+1,h,h2,_,h3=>by
  simp only [Q8]
  rw [hF,List.append_nil,bB,Q5]
  simp [vt]
 | q::r,p,k,fuel+1,h,h2,hq,h3=>by
  simp only [Z9,Ze,Zf] at h h2 h3
  have au:p.length < (p++q::r).length:=by simp
  have hg:(p++q::r)[p.length]? = some q:=by simp
  simp only [Q8]
  rw [hF,Z5 (show ((p.length:Nat):Int) < (((p++q::r).length:Nat):Int) by omega),Q4,nn,Q4,Q3,Qo au,Q4,hg,Q9,Q9,show Nat.beq q.length q.length=true by rw [Nat.beq_eq],Q4,Rw]
  have h1:=Yp (d:=d) q (p:=[]) (k:=k) (fuel:=Qd) (by have:=hq q (by simp);rw [Q6];omega) (by have:=hq q (by simp);simp;omega) (by omega)
  rw [List.nil_append,List.nil_append] at h1
  rw [show ((([]:List Pk).length:Nat):Int)=0 from rfl] at h1
  rw [h1,Q9]
  simp only []
  rw [Fa,aN (by omega)]
  have:=Yr hF r (p:=p++[mE k q.length]) (k:=k+6*q.length) (fuel:=fuel) (by omega) (by simp;omega) (fun x hx=>hq x (by simp [hx])) (by omega)
  rw [Zf,show (p++[mE k q.length])++r=p++mE k q.length::r by simp] at this
  simp only [Z9,Zb,vt,Ze,Zf]
  rw [show k+6*(q.length+r.flatten.length)=k+6*q.length+6*r.flatten.length by omega,show p++mE k q.length::vt (k+6*q.length) r=(p++[mE k q.length])++vt (k+6*q.length) r by simp]
  exact this
theorem Ys {d k:Nat} {β:Type} {F:((Int×Int×List (List Pk))->Option β)->(Int×Int×List (List Pk))->Option β} {kx:Int->List (List Pk)->Option β} {rows:List (List Pk)}
  (hF:∀ ag n i rs,F ag (n,i,rs)=aa (decide (i < ((rs.length:Nat):Int))) (aa (decide (0<=i)) (aa (Nat.blt i.toNat rs.length) (Q1 (rs[i.toNat]?) fun a=>Q1 (rs[i.toNat]?) fun b=>aa (Nat.beq b.length a.length) (Q1 (wI (d+1) a n) fun z=>ag (z.1,IntKind.i64.wrap (i+1),rs.set i.toNat z.2)) none) none) none) (kx n rs))
  (h:Ke rows) (hf:rows.flatten.length<=1048576) (hk:k<=50000000):Q8 F Qd ((k:Int),0,rows)=kx ((k+6*rows.flatten.length:Nat):Int) (vt k rows) :=
 Yr hF rows (p:=[]) (by have:=h.1;rw [Q6];omega) (by have:=h.1;simp;omega) h.2 (by omega)
theorem Yt {d:Nat} {l:List (List Pk)}:∀ (r:List (List Pk)) {p:List (List Pk)} {k fuel:Nat},l=p++vt k r->r.length < fuel->p.length+r.length<=2000000->(∀ q∈r,q.length<=1048576)->k+6*r.flatten.length<=100000000 ->
  Q8 (ri (d+1) l (wJ (d+1))) fuel ((k:Int),0,((p.length:Nat):Int))=some ((k+6*r.flatten.length:Nat):Int)
 | _,p,k,0,_,h,_,_,_=>by omega
 | [],p,k,fuel+1,e,h,h2,_,h3=>by
  simp only [vt,List.append_nil] at e
  subst e
  simp only [Q8,ri]
  rw [bB,Q5]
  unfold wJ
  simp
 | q::r,p,k,fuel+1,e,h,h2,hq,h3=>by
  simp only [Z9,Ze,Zf] at h h2 h3
  have hg:l[p.length]? = some (mE k q.length):=by rw [e];simp [vt]
  have au:=(Z0 hg).1
  simp only [Q8,ri,Q3,nn,Q4]
  rw [Z5 (show ((p.length:Nat):Int) < ((l.length:Nat):Int) by omega),Q4,hg,Q9,Rx]
  have h1:=Yq (d:=d) q.length (p:=[]) (k:=k) (fuel:=Qd) rfl (by have:=hq q (by simp);rw [Q6];omega) (by have:=hq q (by simp);simp;omega) (by omega)
  rw [show ((([]:List Pk).length:Nat):Int)=0 from rfl,List.nil_append] at h1
  rw [h1,Q9,Z4 (by omega),Q5,aN (by omega)]
  have:=Yt (d:=d) (l:=l) r (p:=p++[mE k q.length]) (k:=k+6*q.length) (fuel:=fuel) (by rw [e];simp [vt]) (by omega) (by simp;omega) (fun x hx=>hq x (by simp [hx])) (by omega)
  rw [Zf] at this
  simp only [Z9,Zb,Ze,Zf] at this ⊢
  rw [show k+6*(q.length+r.flatten.length)=k+6*q.length+6*r.flatten.length by omega]
  exact this
def AI (r:Rg):Prop:=AJ r.1/\(r.2.1.1.length<=1048576/\r.2.1.2.length<=1048576)/\r.2.2.1.length<=1000/\∀ q∈r.2.2.1,q.length<=1000
theorem AI.l {r:Rg} (h:AI r):Ix r/\r.2.2.1.flatten.length<=1000000:=by
 obtain ⟨h1,⟨h2,h3⟩,h4,h5⟩:=h
 have:=NX h5
 exact ⟨⟨h1,h2,h3,by omega,fun q hq=>by have:=h5 q hq;omega⟩,by omega⟩
def Kg (r:Rg):Rg:=(Ry 1 r.1,mG (By 1 r.1) r.2.1,vt (Iy (By 1 r.1) r.2.1) r.2.2.1,r.2.2.2)
def Dd (r:Rg):Nat:=Iy (By 1 r.1) r.2.1+6*r.2.2.1.flatten.length
theorem Qoi {d:Nat} {r:Rg} (h:AI r):g19 (d+3) (Kg r) ((1:Nat):Int)=some ((Dd r:Nat):Int):=by
 obtain ⟨h1,⟨h2,h3⟩,h4,h5⟩:=h
 have hf:=NX h5
 have hL:=NY (k:=1) h1
 rw [e19]
 unfold Kg
 simp only []
 rw [Qhe h1 (by omega),Q9,Z4 (by omega),Q5,Qhf h2 h3 (by omega),Q9,Z4 (by omega),Q5,e55]
 have:=Yt (d:=d) r.2.2.1 (p:=[]) (k:=Iy (By 1 r.1) r.2.1) (fuel:=Qd) rfl (by rw [Q6];omega) (by simp;omega) (fun q hq=>by have:=h5 q hq;omega) (by unfold Iy;omega)
 rw [show ((([]:List (List Pk)).length:Nat):Int)=0 from rfl,List.nil_append] at this
 rw [this,Q9,Z4 (by omega),Q5]
 rfl
theorem Qry {c:Cf} (G:Gd c):((bU c).2.1.map (·.1)).Nodup:=by
 have T:=G.tr
 show (((aG c.2.1).map (aU c.2.1)).map (·.1)).Nodup
 rw [List.map_map,List.nodup_iff_pairwise_ne,List.pairwise_map]
 exact (List.nodup_iff_pairwise_ne.1 (rj T)).imp_of_mem fun ha hb aV e=>aV (T.inj _ _ ((jz T).1 ha) ((jz T).1 hb) e)
theorem Yu {l:List aC} (h:(l.map (·.1)).Nodup):l.Nodup:=by
 rw [List.nodup_iff_pairwise_ne,List.pairwise_map] at h
 exact List.nodup_iff_pairwise_ne.2 (h.imp fun h e=>h (by rw [e]))
theorem Rz {c:Cf} (h:gb c=true):rm c.2.1=true:=by
 have hc:=(q_ h).cl
 unfold kC at hc
 simp only [Z8] at hc
 exact hc.2.1
theorem RA {c:Cf} (h:gb c=true):(bU c).2.1.Perm c.2.1:=by
 have G:=q_ h
 refine (List.perm_ext_iff_of_nodup (Yu (Qry G)) (Yu (RB (Rz h)))).2 fun a=>?_
 show a∈(aG c.2.1).map (aU c.2.1)↔_
 rw [List.mem_map]
 constructor
 .rintro ⟨i,hi,rfl⟩
  exact Zc (eZ ((jz G.tr).1 hi))
 .intro ha
  obtain ⟨k,hk⟩:=List.getElem?_of_mem ha
  exact ⟨(k:Int),(jz G.tr).2 (De hk),kM hk⟩
theorem RC {c:Cf} (h:gb c=true):dm (bU c)=c:=by
 have G:=q_ h
 have h1:Df (bU c).2.1=c.2.1:=by
  refine (List.Perm.eq_of_pairwise (le:=fun a b=>cu a<=cu b) (fun a b ha hb h1 h2=>?_) ?_ Yv ((RA h).symm.trans wK.symm)).symm
  .unfold cu at h1 h2
   exact Yw (RB (Rz h)) ha ((RA h).mem_iff.1 (wK.mem_iff.1 hb)) (by omega)
  .rw [List.pairwise_iff_getElem]
   intro i j hi hj nh
   have:=Kh (Rz h) j i _ _ nh (Z6 hi) (Z6 hj)
   unfold cu;omega
 have h2:Bz (bU c)=c.2.2.2:=by
  show (if 0<=vu c/\vu c < (((bU c).2.1.length:Nat):Int) then (aU (bU c).2.1 (vu c)).1 else 0)=_
  unfold vu
  by_cases h0:c.2.2.2=0
  .rw [if_pos h0,if_neg (by omega),h0]
  .rw [if_neg h0]
   obtain ⟨t1,_⟩:=G.Ki h0
   obtain ⟨k,k1,k2⟩:=BA G.tr t1
   have k3:(bU c).2.1[k]? = some (aU c.2.1 (bE c.2.1 c.2.2.2)):=by
    show ((aG c.2.1).map (aU c.2.1))[k]? = _
    rw [List.getElem?_map,k1];rfl
   have k4:=(Z0 k3).1
   rw [k2,if_pos ⟨by omega,by omega⟩,kM k3]
   obtain ⟨_,x,e1,e2,e3⟩:=AK t1.1
   rw [e1,kM e2,e3]
 show (c.1,Df (bU c).2.1,c.2.2.1,Bz (bU c))=c
 rw [h1,h2]
theorem NZ {c:Cf} (h:gb c=true):eS (bU c)=true:=by
 have G:=q_ h
 unfold eS Dg
 rw [RC h,h]
 have h1:=(RA h).length_eq
 have h2:=G.tr.eG
 have h3:=G.f16
 have h4:(bU c).2.2.2.2.2.2.1.length<=16:=h3
 simp only [decide_true,beq_self_eq_true,Bool.and_true,Zg,Zj]
 exact ⟨by omega,h4⟩
theorem RD {x:Ld} (h:eS x=true) {i j:Int} (hi:vI x.2.1 i) (hj:vI x.2.1 j) (e:(aU x.2.1 i).1=(aU x.2.1 j).1):i=j:=by
 have hd:=RE (NW h) wK
 obtain ⟨i1,i2⟩:=Z0 (eZ hi)
 obtain ⟨j1,j2⟩:=Z0 (eZ hj)
 have:=(List.getElem_inj (h₀:=show i.toNat < (x.2.1.map (·.1)).length by simpa using i1) (h₁:=show j.toNat < (x.2.1.map (·.1)).length by simpa using j1) hd).1 (by simp [i2,j2,e])
 have h0:=hi.1
 have h1:=hj.1
 omega
theorem RF {x:Ld} (h:eS x=true) {i:Int} (hi:vI x.2.1 i):1<=(aU x.2.1 i).1:=by
 have hm:aU x.2.1 i∈(dm x).2.1:=wK.mem_iff.2 (Zc (eZ hi))
 obtain ⟨k,hk⟩:=List.getElem?_of_mem hm
 have:=(q_ (NW h)).tr.pos _ (De hk)
 rw [kM hk] at this;exact this
theorem N0 {α:Type} {p:α->Bool}:∀ (l:List α) (i:Nat),(∀ x∈l,p x=false)->fm p l i=-1
 | [],i,_=>rfl
 | x::r,i,h=>by
  unfold fm
  rw [if_neg (by rw [h x (by simp)];simp)]
  exact N0 r (i+1) fun y hy=>h y (by simp [hy])
def Iz (n t:Int):Int:=if 0<=n then n else t
theorem Yx {p:Int->Bool}:∀ (l:List Int) (i:Nat) (t:Int),l.Pairwise (fun a b=>¬ (p a=true/\p b=true))->cE (fun w k (t:Int)=>if p w=true then ((k:Nat):Int) else t) l i t=Iz (fm p l i) t
 | [],i,t,_=>by simp [cE,fm,Iz]
 | x::r,i,t,h=>by
  obtain ⟨h1,h2⟩:=List.pairwise_cons.1 h
  simp only [cE]
  rw [Yx r (i+1) _ h2]
  by_cases hx:p x=true
  .have hn:fm p r (i+1)=-1:=N0 r _ fun y hy=>by
    have:=h1 y hy
    simpa [hx] using this
   have he:fm p (x::r) i=(i:Int):=if_pos hx
   rw [hn,if_pos hx,he]
   unfold Iz
   rw [if_neg (by omega),if_pos (by omega)]
  .have he:fm p (x::r) i=fm p r (i+1):=if_neg hx
   rw [if_neg hx,he]
theorem RG {α τ β:Type} {p:α->Bool} {J:Int->Option β}:∀ (l:List α) (i:Nat) (t:τ),d_ (fun x i t k=>aa (p x) (J ((i:Nat):Int)) (k t)) (fun _=>J (-1)) l i t=J (fm p l i)
 | [],i,t=>rfl
 | x::r,i,t=>by
  simp only [d_,fm]
  by_cases h:p x=true
  .rw [if_pos h,h,Q4]
  .rw [if_neg h,show p x=false by simpa using h,Q5];exact RG r (i+1) t
theorem N1 {α τ σ β:Type} (mk:τ->Int->σ) {F:(σ->Option β)->σ->Option β} {fin:τ->Option β} {f:τ->α->τ} (I:τ->Nat->Prop) (l:List α) (hl:l.length < 4000000)
  (hs:∀ ag t (i:Nat) x n,l[i]? = some x->I t (n+1)->F ag (mk t ((i:Nat):Int))=ag (mk (f t x) ((i+1:Nat):Int)))
  (hi:∀ x∈l,∀ t n,I t (n+1)->I (f t x) n) (he:∀ ag t,F ag (mk t ((l.length:Nat):Int))=fin t) (m:Nat) (t:τ) (h:I t (l.length+m)):Q8 F Qd (mk t 0)=fin (l.foldl f t):=by
 have key:∀ (r p:List α) (fuel:Nat) (t:τ),l=p++r->r.length < fuel->I t (r.length+m)->Q8 F fuel (mk t ((p.length:Nat):Int))=fin (r.foldl f t):=by
  intro r
  induction r with
  | nil =>
   intro p fuel t e h _
   obtain ⟨n,rfl⟩:∃ n,fuel=n+1:=⟨fuel - 1,by omega⟩
   rw [List.append_nil] at e
   subst e
   exact he _ _
  | cons x r ih =>
   intro p fuel t e h hI
   obtain ⟨n,rfl⟩:∃ n,fuel=n+1:=⟨fuel - 1,by omega⟩
   simp only [Z9] at h
   rw [show (x::r).length+m=r.length+m+1 by simp;omega] at hI
   have:=ih (p++[x]) n (f t x) (by rw [e];simp) (by omega) (hi x (by rw [e];simp) t _ hI)
   rw [Zf] at this
   simp only [Q8,List.foldl_cons]
   rw [hs _ t p.length x _ (by rw [e];simp) hI]
   exact this
 exact key l [] Qd t rfl (by rw [Q6];omega) h
theorem Yy {α τ:Type} {f:τ->α->τ} (I:τ->Nat->Prop):∀ (l:List α) (t:τ) (m:Nat),I t (l.length+m)->(∀ x∈l,∀ t n,I t (n+1)->I (f t x) n)->I (l.foldl f t) m
 | [],t,m,h,_=>by simpa using h
 | x::r,t,m,h,hi=>by
  rw [show (x::r).length+m=r.length+m+1 by simp;omega] at h
  exact Yy I r (f t x) m (hi x (by simp) t _ h) (fun y hy=>hi y (by simp [hy]))
theorem Kj {α:Type} {l:List α} {i:Nat} {v:α} (h:l[i]? = some v):l.set i v=l:=by
 obtain ⟨h1,h2⟩:=Z0 h
 rw [<- h2,List.set_getElem_self]
theorem Yz {β:Type} {F:((Int×List Int×List Int)->Option β)->(Int×List Int×List Int)->Option β} {KX:List Int->List Int->Option β} {C:List aC} {bu cb f g:aC->Int} (hC:C.length<=1000)
  (hF:∀ ag (i:Nat) c l m,C[i]? = some c->l[i]? = some (bu c)->m[i]? = some (cb c)->F ag ((i:Int),l,m)=ag (((i+1:Nat):Int),l.set i (f c),m.set i (g c)))
  (hE:∀ ag l m,F ag (((C.length:Nat):Int),l,m)=KX l m):Q8 F Qd (0,C.map bu,C.map cb)=KX (C.map f) (C.map g):=by
 have key:∀ (r p:List aC) (fuel:Nat),C=p++r->r.length < fuel->Q8 F fuel (((p.length:Nat):Int),p.map f++r.map bu,p.map g++r.map cb)=KX (C.map f) (C.map g):=by
  intro r
  induction r with
  | nil =>
   intro p fuel e h
   obtain ⟨n,rfl⟩:∃ n,fuel=n+1:=⟨fuel - 1,by omega⟩
   rw [List.append_nil] at e
   subst e
   simp only [Q8,List.map_nil,List.append_nil]
   exact hE _ _ _
  | cons c r ih =>
   intro p fuel e h
   obtain ⟨n,rfl⟩:∃ n,fuel=n+1:=⟨fuel - 1,by omega⟩
   simp only [Z9] at h
   simp only [Q8,List.map_cons]
   rw [hF _ p.length c _ _ (by rw [e];simp) (by simp) (by simp)]
   have:=ih (p++[c]) n (by rw [e];simp) (by omega)
   rw [Zf,List.map_append,List.map_append,List.append_assoc,List.append_assoc] at this
   simp only [Z9,Zb,List.map_cons,List.map_nil,List.singleton_append] at this
   have e1:=Fa (p:=p.map f) (r:=r.map bu) (x:=bu c) (y:=f c)
   have e2:=Fa (p:=p.map g) (r:=r.map cb) (x:=cb c) (y:=g c)
   rw [List.length_map] at e1 e2
   rw [e1,e2]
   exact this
 exact key C [] Qd rfl (by rw [Q6];omega)
def RH (b n:Int):Int:=if b < n then b else n
theorem RI {b n:Int}:min n b=RH b n:=by unfold RH;rw [Int.min_def];split<;>split<;>omega
def Dh (old:List aC) (ts:List Int) (k:aC) (b:Int):Int:=if 0<=bE old k.1 then RH b (ts.getD (bE old k.1).toNat 0) else b
def AL (r:Rg) (x:Ld):Tk:=(x.2.1.map fun k=>Dh r.1.2.1 r.2.1.1 k k.2.2.2.2.1,x.2.1.map fun k=>Dh r.1.2.1 r.2.1.2 k k.2.2.2.2.2.1)
abbrev Ls:=List Int×List (List Pk)
def ou (x:Ld) (t:Ls) (p:Pk):Ls:=Da x t.2 p (t.1++[p.1],t.2) (fun _=>(t.1++[p.1],t.2)) (fun _=>(t.1,Iu x t.2 p))
def AM (r:Rg) (x:Ld):Ls:=r.2.2.1.foldl (fun t q=>q.foldl (ou x) t) ([],List.replicate (bT x.2.2.2.1).length [])
def vw (r:Rg):Int:=if r.2.2.2.1 < 0 then 0 else (aU r.1.2.1 ((bT r.1.2.2.2.1).getD r.2.2.2.1.toNat 0)).1
def BB (r:Rg) (x:Ld):Int:=fm (fun w=>(aU x.2.1 w).1==vw r) (bT x.2.2.2.1) 0
def Fb (r:Rg) (x:Ld):Rg×List Int:=((x,AL r x,(AM r x).2,BB r x,r.2.2.2.2),(AM r x).1)
def Kk (x:Ld) (t:Ls) (n:Nat):Prop:=Pu x t.2/\t.1.length+n<=100000
def gO (x:Ld) (t:Ls) (n:Nat):Prop:=Pu x t.2/\t.1.length+60*n<=100000
theorem RJ {x:Ld} {rows:List (List Pk)} {p:Pk} (P:Pu x rows) (h:¬ cD x p < 0) (hn:¬ (((qY x rows p).length:Nat):Int)=mD x (cD x p)):Pu x (Iu x rows p):=by
 have a:=Rn P h
 have hl:=a.ai
 refine ⟨P.lk,P.lr,P.lf,by unfold Iu;rw [List.length_set];exact P.rl,fun k w hw=>?_⟩
 have:=P.lm k w hw
 unfold Iu
 rw [Zr,List.getElem?_set]
 split
 .rename_i e
  rw [<- e,a.get] at hw
  injection hw with hw
  rw [if_pos a.lt]
  simp only [Option.getD_some,Zf,Z9,Zb]
  rw [<- hw];omega
 .rw [<- Zr];exact this
theorem RK {x:Ld} {t:Ls} {p:Pk} {n:Nat} (h:Kk x t (n+1)):Kk x (ou x t p) n:=by
 obtain ⟨P,hn⟩:=h
 unfold ou Da
 split
 .exact ⟨P,by simp;omega⟩
 .split
  .exact ⟨P,by simp;omega⟩
  .rename_i h1 h2
   exact ⟨RJ P h1 h2,by simp only;omega⟩
theorem RM {x:Ld} {t:Ls} {q:List Pk} {n:Nat} (hq:q.length<=60) (h:gO x t (n+1)):gO x (q.foldl (ou x) t) n:=by
 have:=Yy (f:=ou x) (Kk x) q t (60*n) ⟨h.1,by have:=h.2;omega⟩ (fun p _ t n h=>RK h)
 exact ⟨this.1,this.2⟩
theorem Qyc {x:Ld} (h:eS x=true):Pu x (List.replicate (bT x.2.2.2.1).length []):=by
 have L:=vz h
 have R:=IA h
 refine ⟨L,R,fun p=>Ru h p,by rw [List.length_replicate],fun k w hw=>?_⟩
 have hk:=(Z0 hw).1
 rw [Zr,List.getElem?_replicate,if_pos hk]
 have hm:=Zc hw
 obtain ⟨v1,v2⟩:=E_ hm
 have hf:=L.fl
 exact R.l0 _ (Zc (eZ ⟨v1,by omega⟩))
theorem RN {x:Ld} (h:eS x=true) {n:Nat} (hn:n<=1000):gO x ([],List.replicate (bT x.2.2.2.1).length []) n:=⟨Qyc h,by simp;omega⟩
theorem RO {d:Nat} {r:Rg} {x:Ld} {KX:List Int->List Int->Option (Rg×List Int)} (O:Ro r) (hx:x.2.1.length<=1000):Q8 (ru d r x KX) Qd (0,(BC x).1,(BC x).2)=KX (AL r x).1 (AL r x).2:=by
 have iw:=O.lk.eG
 refine Yz (C:=x.2.1) (bu:=fun k=>k.2.2.2.2.1) (cb:=fun k=>k.2.2.2.2.2.1) (f:=fun k=>Dh r.1.2.1 r.2.1.1 k k.2.2.2.2.1) (g:=fun k=>Dh r.1.2.1 r.2.1.2 k k.2.2.2.2.2.1) hx ?_ ?_
 .intro ag i c l m hc hl hm
  have hi:=(Z0 hc).1
  have hU:=(Z0 hl).1
  have N3:=(Z0 hm).1
  simp only [ru,bW hc,nn,Q3,hc,Q9,Q4,sU hc]
  refine (Qb (fun (t:Int) (j:Int)=>(t,j)) r.1.2.1 (fun y j t k=>aa (y.1==c.1) (dI d r ag ((i:Nat):Int) l m c ((j:Nat):Int)) (k t)) (fun _=>dI d r ag ((i:Nat):Int) l m c (-1)) ?_ ?_ (by rw [Q6];omega) 0).trans ((RG (J:=fun n=>dI d r ag ((i:Nat):Int) l m c n) r.1.2.1 0 0).trans ?_)
  .intro ag t i x hx;have hi:=(Z0 hx).1;simp only [iW,bW hx,nn,Q3,hx,Q9,Q4];rw [aN (by omega)]
  .intro ag t;simp only [iW,bB,Q5];rfl
  .show dI d r ag ((i:Nat):Int) l m c (bE r.1.2.1 c.1)=_
   unfold dI Dh
   by_cases h:0<=bE r.1.2.1 c.1
   .have au:=wL (l:=r.1.2.1) (id:=c.1)
    have t1:=O.t1
    have t2:=O.t2
    have e1:r.2.1.1[(bE r.1.2.1 c.1).toNat]? = some (r.2.1.1.getD (bE r.1.2.1 c.1).toNat 0):=ni (by omega)
    have e2:r.2.1.2[(bE r.1.2.1 c.1).toNat]? = some (r.2.1.2.getD (bE r.1.2.1 c.1).toNat 0):=ni (by omega)
    rw [Z5 (show bE r.1.2.1 c.1>=0 from h),Q4,e1,e2]
    simp only [nn,Q3,Q4,Q9,Qo hU,Qo N3,hl,hm]
    rw [aN (by omega),if_pos h,if_pos h]
    rfl
   .rw [Z4 (show ¬ bE r.1.2.1 c.1>=0 from h),Q5,aN (by omega),if_neg h,if_neg h,Kj hl,Kj hm]
 .intro ag l m;simp only [ru,bB,Q5]
theorem RP {d:Nat} {x:Ld} {q:List Pk} {kx:Int->List Int->List (List Pk)->Option (Rg×List Int)} {t:Ls} {n:Nat} (hq:q.length<=60) (h:gO x t (n+1)):Q8 (rz (d+3) x q kx) Qd (t.1,0,t.2)=kx ((q.length:Nat):Int) (q.foldl (ou x) t).1 (q.foldl (ou x) t).2:=by
 refine N1 (fun (t:Ls) (i:Int)=>(t.1,i,t.2)) (fin:=fun t=>kx ((q.length:Nat):Int) t.1 t.2) (f:=ou x) (Kk x) q (by omega) (fun ag t i p n hp hI=>?_) (fun p _ t n h=>RK h) (fun ag t=>?_) (60*n) t ⟨h.1,by have:=h.2;omega⟩
 .obtain ⟨P,hn⟩:=hI
  have hi:=(Z0 hp).1
  simp only [rz,bW hp,nn,Q3,hp,Q9,Q4]
  rw [show d+3+1=d+4 by omega,YA P.lr,Q9]
  refine (Rq (d:=d+3) (x:=x) (rows:=t.2) (p:=p) (A:=dJ (d+3) ag t.1 ((i:Nat):Int) p 3 0 t.2) (B:=fun y=>dJ (d+3) ag t.1 ((i:Nat):Int) p 2 y.1 t.2) (C:=fun y rows=>dJ (d+3) ag t.1 ((i:Nat):Int) p 1 y.1 rows) P).trans ?_
  unfold ou Da dJ
  split
  .rw [show ((3:Int) != 1)=true from rfl,Q4,room (by simp;omega),Q4,aN (by omega)]
  .split
   .rw [show ((2:Int) != 1)=true from rfl,Q4,room (by simp;omega),Q4,aN (by omega)]
   .rw [show ((1:Int) != 1)=false from rfl,Q5,aN (by omega)]
 .simp only [rz,bB,Q5]
theorem Qyd {d:Nat} {r:Rg} {x:Ld} {kx:List Int->List (List Pk)->Option (Rg×List Int)} (O:Ro r) (h:eS x=true):Q8 (rA (d+3) r x kx) Qd ([],0,List.replicate (bT x.2.2.2.1).length [])=kx (AM r x).1 (AM r x).2:=by
 have hb:=RQ O
 refine N1 (fun (t:Ls) (i:Int)=>(t.1,i,t.2)) (fin:=fun t=>kx t.1 t.2) (f:=fun t q=>q.foldl (ou x) t) (gO x) r.2.2.1 (by omega) (fun ag t i q n hq hI=>?_) (fun q hq t n h=>RM (O.rb q hq) h) (fun ag t=>?_) 0 ([],_) (RN h (by omega))
 .have hi:=(Z0 hq).1
  simp only [rA,bW hq,nn,Q3,hq,Q9,Q4]
  refine (RP (O.rb q (Zc hq)) hI).trans ?_
  unfold Di
  rw [aN (by omega)]
 .simp only [rA,bB,Q5]
theorem YB {r:Rg} (O:Ro r) (h:¬ r.2.2.2.1 < 0):(bT r.1.2.2.2.1)[r.2.2.2.1.toNat]? = some ((bT r.1.2.2.2.1).getD r.2.2.2.1.toNat 0)/\vI r.1.2.1 ((bT r.1.2.2.2.1).getD r.2.2.2.1.toNat 0):=by
 have la:=O.la
 have hf:=O.lk.fl
 have hg:=ni (l:=bT r.1.2.2.2.1) (i:=r.2.2.2.1.toNat) (z:=0) (by omega)
 obtain ⟨v1,v2⟩:=E_ (Zc hg)
 exact ⟨hg,v1,by omega⟩
theorem IB {x:Ld} (L:Lk x) {w:Int} (h:w∈bT x.2.2.2.1):vI x.2.1 w:=by
 have hf:=L.fl
 obtain ⟨v1,v2⟩:=E_ h
 exact ⟨v1,by omega⟩
theorem RR {r:Rg} {x:Ld} (h:eS x=true) (h0:r.2.2.2.1 < 0):BB r x=-1:=by
 unfold BB vw
 rw [if_pos h0]
 refine N0 _ _ fun w hw=>?_
 have:=RF h (IB (vz h) hw)
 rw [beq_eq_false_iff_ne];omega
theorem Qye {d:Nat} {r:Rg} {x:Ld} {a b lost:List Int} {rows:List (List Pk)} (O:Ro r) (h:eS x=true):wM (d+3) r x a b lost rows=some ((x,(a,b),rows,BB r x,r.2.2.2.2),lost):=by
 have L:=vz h
 have iw:=L.eG
 have hf:=L.fl
 have hv:=AH (F:=x.2.2.2.1)
 have RS:=O.lk.eG
 unfold wM
 by_cases h0:r.2.2.2.1 < 0
 .rw [Z4 (show ¬ r.2.2.2.1>=0 by omega),Q5,RR h h0]
 .obtain ⟨g1,g2⟩:=YB O h0
  have au:=(Z0 g1).1
  rw [Z5 (show r.2.2.2.1>=0 by omega),Q4,show d+3+2=d+4+1 by omega,Kc (by omega) O.lk.fl,Q9,Q4,Qo au,Q4,g1,Q9,Z5 g2.1,Q4,eZ g2,Q9,Kc (by omega) hf,Q9]
  have hl:(aU r.1.2.1 ((bT r.1.2.2.2.1).getD r.2.2.2.1.toNat 0)).1=vw r:=by unfold vw;rw [if_neg h0]
  refine (Qb (fun (t:Int) (j:Int)=>(t,j)) (bT x.2.2.2.1) (fun w j t k=>aa ((aU x.2.1 w).1==vw r) (some (((x,(a,b),rows,((j:Nat):Int),r.2.2.2.2):Rg),lost)) (k t)) (fun _=>some (((x,(a,b),rows,(-1),r.2.2.2.2):Rg),lost)) ?_ ?_ (by rw [Q6];omega) 0).trans (RG (J:=fun n=>some (((x,(a,b),rows,n,r.2.2.2.2):Rg),lost)) (bT x.2.2.2.1) 0 0)
  .intro ag t i w hx
   have hi:=(Z0 hx).1
   have hw:=IB L (Zc hx)
   simp only [gP,bW hx,nn,Q3,hx,Q9,Q4,sU hx]
   rw [Z5 hw.1,Q4,Qo (by have:=hw;unfold vI at this;omega),Q4,eZ hw,Q9,aN (by omega),hl]
  .intro ag t;simp only [gP,bB,Q5];rfl
theorem Qaz {d:Nat} {r:Rg} {c:Cf} (hr:mH r=true) (hc:gb c=true):RT (d+17) r c=some (Fb r (bU c)):=by
 have O:=N4 hr
 have h:=NZ hc
 have L:=vz h
 have iw:=L.eG
 have hf:=L.fl
 have hv:=AH (F:=(bU c).2.2.2.1)
 rw [show d+17=d+14+3 by omega,e44,show d+14+2=d+2+14 by omega,YC (q_ hc),Q9,show d+2+14=d+15+1 by omega,Qhk (by omega),Q9,Kc (by omega) hf,Q9]
 rw [nn,Q4,Q4,Q3,show (Nat.ble (bT (bU c).2.2.2.1).length (bT (bU c).2.2.2.1).length&&Nat.ble ((bT (bU c).2.2.2.1).length*24) Q7)=true by rw [Z8,Nat.ble_eq,Nat.ble_eq];unfold Q7;omega,Q4]
 refine (RO O (by omega)).trans ?_
 unfold Dj
 rw [Q3]
 refine (Qyd (d:=d+11) O h).trans ?_
 exact Qye (d:=d+11) O h
theorem Qvr {d:Nat} {c:Cf} (hc:gb c=true):RU (d+11) c=some (bU c,BC (bU c),List.replicate (bT (bU c).2.2.2.1).length [],-1,0):=by
 have L:=vz (NZ hc)
 have iw:=L.eG
 have hf:=L.fl
 have hv:=AH (F:=(bU c).2.2.2.1)
 rw [e80,YD (q_ hc),Q9,show d+10=d+9+1 by omega,Qsz (by omega),Q9,show d+9+1=d+8+2 by omega,Iw (by omega) hf,Q9]
 rw [nn,Q4,Q4,Q3,show (Nat.ble (bT (bU c).2.2.2.1).length (bT (bU c).2.2.2.1).length&&Nat.ble ((bT (bU c).2.2.2.1).length*24) Q7)=true by rw [Z8,Nat.ble_eq,Nat.ble_eq];unfold Q7;omega,Q4]
theorem RV {d:Nat} {r z:Rg} {KX:List Int->List Int->Option (Rg×List Int)} (O:Ro r) (hx:z.1.2.1.length<=1000):Q8 (rB d r z KX) Qd (0,(BC z.1).1,(BC z.1).2)=KX (AL r z.1).1 (AL r z.1).2:=by
 have iw:=O.lk.eG
 refine Yz (C:=z.1.2.1) (bu:=fun k=>k.2.2.2.2.1) (cb:=fun k=>k.2.2.2.2.2.1) (f:=fun k=>Dh r.1.2.1 r.2.1.1 k k.2.2.2.2.1) (g:=fun k=>Dh r.1.2.1 r.2.1.2 k k.2.2.2.2.2.1) hx ?_ ?_
 .intro ag i c l m hc hl hm
  have hi:=(Z0 hc).1
  have hU:=(Z0 hl).1
  have N3:=(Z0 hm).1
  simp only [rB,bW hc,nn,Q3,hc,Q9,Q4,sU hc]
  rw [YE (by omega),Q9]
  unfold Dh
  by_cases h:0<=bE r.1.2.1 c.1
  .have au:=wL (l:=r.1.2.1) (id:=c.1)
   have t1:=O.t1
   have t2:=O.t2
   have e1:r.2.1.1[(bE r.1.2.1 c.1).toNat]? = some (r.2.1.1.getD (bE r.1.2.1 c.1).toNat 0):=ni (by omega)
   have e2:r.2.1.2[(bE r.1.2.1 c.1).toNat]? = some (r.2.1.2.getD (bE r.1.2.1 c.1).toNat 0):=ni (by omega)
   rw [Z5 (show bE r.1.2.1 c.1>=0 from h),Q4,e1,e2]
   simp only [nn,Q3,Q4,Q9,Qo hU,Qo N3,hl,hm,Qon,RI]
   rw [aN (by omega),if_pos h,if_pos h]
  .rw [Z4 (show ¬ bE r.1.2.1 c.1>=0 from h),Q5,aN (by omega),if_neg h,if_neg h,Kj hl,Kj hm]
 .intro ag l m;simp only [rB,bB,Q5]
theorem RW {d:Nat} {x1:ByteArray} {x2:List aC} {x3 x4 x5 x6:List Int} {x7:List dU} {x8:List Int} {x9:Int} {q:List Pk} {kx:Int->List Int->List (List Pk)->Option (Rg×List Int)} {t:Ls} {n:Nat} (hq:q.length<=60) (h:gO (x1,x2,x3,x4,x5,x6,x7,x8,x9) t (n+1)):Q8 (rC (d+4) x1 x9 x2 x3 x4 x5 x6 x7 x8 q kx) Qd (t.1,0,t.2)=kx ((q.length:Nat):Int) (q.foldl (ou (x1,x2,x3,x4,x5,x6,x7,x8,x9)) t).1 (q.foldl (ou (x1,x2,x3,x4,x5,x6,x7,x8,x9)) t).2:=by
 refine N1 (fun (t:Ls) (i:Int)=>(t.1,i,t.2)) (fin:=fun t=>kx ((q.length:Nat):Int) t.1 t.2) (f:=ou (x1,x2,x3,x4,x5,x6,x7,x8,x9)) (Kk (x1,x2,x3,x4,x5,x6,x7,x8,x9)) q (by omega) (fun ag t i p n hp hI=>?_) (fun p _ t n h=>RK h) (fun ag t=>?_) (60*n) t ⟨h.1,by have:=h.2;omega⟩
 .obtain ⟨P,hn⟩:=hI
  have hi:=(Z0 hp).1
  simp only [rC,bW hp,nn,Q3,hp,Q9,Q4]
  rw [YF P.lr,Q9]
  refine (Rt (x:=(x1,x2,x3,x4,x5,x6,x7,x8,x9)) (rows:=t.2) (p:=p) (A:=dK (d+4) ag t.1 ((i:Nat):Int) p 3 0 t.2) (B:=fun y=>dK (d+4) ag t.1 ((i:Nat):Int) p 2 y.1 t.2) (C:=fun y rows=>dK (d+4) ag t.1 ((i:Nat):Int) p 1 y.1 rows) P (fun a y=>?_)).trans ?_
  .have iw:=P.lk.eG
   refine (Qyb (d:=d+2) (K:=fun k=>iX (d+4) ag t.1 ((i:Nat):Int) t.2 p y k) a (by omega) P.lk.fl (fun ag k=>?_)).trans ?_
   .simp only [nj]
   .unfold iX Rs;rfl
  .unfold ou Da dK
   split
   .rw [show ((3:Int) != 1)=true from rfl,Q4,room (by simp;omega),Q4,aN (by omega)]
   .split
    .rw [show ((2:Int) != 1)=true from rfl,Q4,room (by simp;omega),Q4,aN (by omega)]
    .rw [show ((1:Int) != 1)=false from rfl,Q5,aN (by omega)]
 .simp only [rC,bB,Q5]
theorem Qyf {d:Nat} {r:Rg} {x:Ld} {kx:List Int->List (List Pk)->Option (Rg×List Int)} (O:Ro r) (h:eS x=true):Q8 (rD (d+4) r x.1 x.2.2.2.2.2.2.2.2 x.2.1 x.2.2.1 x.2.2.2.1 x.2.2.2.2.1 x.2.2.2.2.2.1 x.2.2.2.2.2.2.1 x.2.2.2.2.2.2.2.1 kx) Qd ([],0,List.replicate (bT x.2.2.2.1).length [])=kx (AM r x).1 (AM r x).2:=by
 have hb:=RQ O
 refine N1 (fun (t:Ls) (i:Int)=>(t.1,i,t.2)) (fin:=fun t=>kx t.1 t.2) (f:=fun t q=>q.foldl (ou x) t) (gO x) r.2.2.1 (by omega) (fun ag t i q n hq hI=>?_) (fun q hq t n h=>RM (O.rb q hq) h) (fun ag t=>?_) 0 ([],_) (RN h (by omega))
 .have hi:=(Z0 hq).1
  simp only [rD,bW hq,nn,Q3,hq,Q9,Q4]
  refine (RW (O.rb q (Zc hq)) hI).trans ?_
  unfold Dk
  rw [aN (by omega)]
 .simp only [rD,bB,Q5]
theorem Qs0 {d:Nat} {r:Rg} (O:Ro r):RX (d+3) r=some (vw r):=by
 have RS:=O.lk.eG
 rw [e82]
 unfold vw
 by_cases h0:r.2.2.2.1 < 0
 .rw [Z5 h0,Q4,if_pos h0]
 .obtain ⟨g1,g2⟩:=YB O h0
  have au:=(Z0 g1).1
  rw [Z4 h0,Q5,Iw (by omega) O.lk.fl,Q9,Z5 (show 0<=r.2.2.2.1 by omega),Q4,Qo au,Q4,g1,Q9,Z5 g2.1,Q4,eZ g2,Q9,if_neg h0]
theorem Qvs {x:Ld} (h:eS x=true) {n:Int}:(bT x.2.2.2.1).Pairwise (fun a b=>¬ (((aU x.2.1 a).1==n)=true/\((aU x.2.1 b).1==n)=true)):=by
 refine (List.nodup_iff_pairwise_ne.1 Rm).imp_of_mem fun {a b} ha hb aV ⟨e1,e2⟩=>aV ?_
 exact RD h (IB (vz h) ha) (IB (vz h) hb) ((beq_iff_eq.1 e1).trans (beq_iff_eq.1 e2).symm)
theorem Qjg {d:Nat} {r:Rg} {c:Cf} (hr:mH r=true) (hc:gb c=true):RY (d+12) r c=some (Fb r (bU c)):=by
 have O:=N4 hr
 have h:=NZ hc
 have L:=vz h
 have iw:=L.eG
 have hf:=L.fl
 have hv:=AH (F:=(bU c).2.2.2.1)
 rw [show d+12=d+10+2 by omega,e37,show d+10+1=d+11 by omega,Qvr hc,Q9]
 generalize bU c=x at *
 refine (RV (z:=(x,BC x,List.replicate (bT x.2.2.2.1).length [],-1,0)) O (by show x.2.1.length<=1000;omega)).trans ?_
 show wN (d+10) r (x,BC x,List.replicate (bT x.2.2.2.1).length [],-1,0) (AL r x).1 (AL r x).2=_
 unfold wN
 simp only []
 rw [show d+10+1=d+9+2 by omega,Iw (by omega) hf,Q9]
 refine (Qb (fun (t:Int) (i:Int)=>(i,((x,AL r x,List.replicate (bT x.2.2.2.1).length [],t,r.2.2.2.2):Rg))) (bT x.2.2.2.1) (fun w i t k=>k (if ((aU x.2.1 w).1==vw r)=true then ((i:Nat):Int) else t)) (fun t=>wO (d+10) r x.1 x.2.2.2.2.2.2.2.2 t r.2.2.2.2 x.2.1 x.2.2.1 x.2.2.2.1 x.2.2.2.2.1 x.2.2.2.2.2.1 x.2.2.2.2.2.2.1 x.2.2.2.2.2.2.2.1 (AL r x).1 (AL r x).2 (List.replicate (bT x.2.2.2.1).length [])) ?_ ?_ (by rw [Q6];omega) (-1)).trans ?_
 .intro ag t i w hx
  have hi:=(Z0 hx).1
  have hw:=IB L (Zc hx)
  simp only [wP,bW hx,nn,Q3,hx,Q9,Q4,sU hx]
  rw [Z5 hw.1,Q4,Qo (by have:=hw;unfold vI at this;omega),Q4,eZ hw,Q9,show d+10+1=d+8+3 by omega,Qs0 O,Q9,aN (by omega)]
  cases ((aU x.2.1 w).1==vw r)<;>rfl
 .intro ag t;simp only [wP,bB,Q5]
 .rw [wQ (f:=fun w i (t:Int)=>if ((aU x.2.1 w).1==vw r)=true then ((i:Nat):Int) else t),Yx (p:=fun w=>(aU x.2.1 w).1==vw r) _ _ _ (Qvs h)]
  have Dl:Iz (fm (fun w=>(aU x.2.1 w).1==vw r) (bT x.2.2.2.1) 0) (-1)=BB r x:=by
   show Iz (BB r x) (-1)=BB r x
   unfold Iz
   split
   .rfl
   .rename_i hn
    have:BB r x < 0:=by omega
    unfold BB at this ⊢
    exact (N0 _ _ (Kl.1 this)).symm
  rw [Dl]
  unfold wO
  refine (Qyf (d:=d+6) O h).trans ?_
  rfl
def zR:Rg:=((⟨#[]⟩,[],[],[],[],[],[],[],0),([],[]),[],0,0)
abbrev Rr:=Rg×List Int×Bool
def YG:Rr:=(zR,[],false)
def BD (r:Rg) (c:Cf):Rr:=if gb c=true then ((Fb r (bU c)).1,(Fb r (bU c)).2,true) else YG
def RZ (r:Rg) (c:Cf):Rr:=if mH r=true then BD r c else YG
theorem Qb0 {d:Nat} {r:Rg} {c:Cf} (h:AN r.1) (hl:c.2.1.length < 4000000) (hf:c.2.2.1.length < 4000000):g12 (d+29) r c=some (RZ r c):=by
 rw [e12,YH h,Q9]
 unfold RZ BD
 cases hg:mH r with
 | false=>rfl
 | true =>
  rw [Zl,Q5,show d+28=(d+20)+8 by omega,YI hl hf,Q9,if_pos rfl]
  cases hc:gb c with
  | false=>rfl
  | true=>rw [Zl,Q5,show d+20+8=d+11+17 by omega,Qaz hg hc,Q9,if_pos rfl]
theorem Qmn {d:Nat} {r:Rg} {c:Cf} (hr:mH r=true) (hs:c.1.size < 4000000) (hf:c.2.2.1.length < 4000000):N5 (d+13) r c true=some (BD r c):=by
 rw [e59,Zl,Q5,show d+12=d+7+5 by omega,YJ hs hf,Q9]
 unfold BD
 cases hc:gb c with
 | false=>rfl
 | true=>rw [Zl,Q5,show d+7+5=d+12 by omega,Qjg hr hc,Q9,if_pos rfl]
theorem YK {x:Ld}:∀ (l:List (List Pk)) (t:Ls) (n:Nat),(∀ q∈l,q.length<=60)->gO x t (l.length+n)->gO x (l.foldl (fun t q=>q.foldl (ou x) t) t) n
 | [],t,n,_,h=>by simpa using h
 | q::l,t,n,hq,h=>by
  rw [show (q::l).length+n=l.length+n+1 by simp;omega] at h
  exact YK l _ n (fun z hz=>hq z (by simp [hz])) (RM (hq q (by simp)) h)
theorem R0 {r:Rg} {x:Ld} (O:Ro r) (h:eS x=true):gO x (AM r x) 0:=YK r.2.2.1 _ 0 O.rb (RN h (by have:=RQ O;omega))
theorem Fc:AI zR:=⟨⟨by show (0:Nat)<=_;omega,Nat.zero_le _,Nat.zero_le _,Nat.zero_le _,Nat.zero_le _,Nat.zero_le _,Nat.zero_le _,Nat.zero_le _⟩,⟨Nat.zero_le _,Nat.zero_le _⟩,Nat.zero_le _,fun q hq=>by simp [zR] at hq⟩
theorem R3 {r:Rg} {c:Cf} (hr:mH r=true) (hs:c.1.size<=1048576) (hc:gb c=true):AI (Fb r (bU c)).1/\(Fb r (bU c)).2.length<=100000:=by
 have O:=N4 hr
 have h:=NZ hc
 have L:=vz h
 have iw:=L.eG
 have hp:=L.pl
 have hf:=L.fl
 have Fe:=(IA h).f16
 obtain ⟨n1,n2,n3⟩:=Qwm h
 have hv:=AH (F:=(bU c).2.2.2.1)
 obtain ⟨P,hn⟩:=R0 O h
 have jY:=P.rl
 refine ⟨⟨⟨hs,by show (bU c).2.1.length<=_;omega,by show (bU c).2.2.1.length<=_;omega,by show (bU c).2.2.2.1.length<=_;omega,by show (bU c).2.2.2.2.1.length<=_;omega,by show (bU c).2.2.2.2.2.1.length<=_;omega,by show (bU c).2.2.2.2.2.2.1.length<=_;omega,by show (bU c).2.2.2.2.2.2.2.1.length<=_;omega⟩,⟨?_,?_⟩,?_,fun q hq=>?_⟩,by show (AM r (bU c)).1.length<=_;omega⟩
 .show ((bU c).2.1.map _).length<=_;rw [List.length_map];omega
 .show ((bU c).2.1.map _).length<=_;rw [List.length_map];omega
 .show (AM r (bU c)).2.length<=_;omega
 .obtain ⟨k,hk⟩:=List.getElem?_of_mem (show q∈(AM r (bU c)).2 from hq)
  have au:=(Z0 hk).1
  have hw:=Z6 (l:=bT (bU c).2.2.2.1) (i:=k) (by omega)
  have:=P.lm k _ hw
  rw [Zr,hk] at this
  have Iv:=(IA h).ai _ (Zc (eZ (IB L (Zc hw))))
  unfold mD at this
  simp only [Option.getD_some] at this
  omega
theorem R4 {r:Rg} {c:Cf} (hr:mH r=true) (hs:c.1.size<=1048576):AI (BD r c).1/\(BD r c).2.1.length<=1048576:=by
 unfold BD
 split
 .rename_i hc;obtain ⟨h1,h2⟩:=R3 hr hs hc;exact ⟨h1,by show (Fb r (bU c)).2.length<=_;omega⟩
 .exact ⟨Fc,Nat.zero_le _⟩
theorem AI.en {r:Rg} (h:AI r):Dd r<=40000000:=by
 have hf:=h.l.2
 obtain ⟨h1,⟨h2,h3⟩,_,_⟩:=h
 have:=NY (k:=1) h1
 unfold Dd Iy;omega
theorem YL {l:List aC} {i:Nat} {x:aC} (h:l[i]? = some x) {y:aC}:(l.set i y)[i]? = some y:=by
 have:=(Z0 h).1
 rw [List.getElem?_set_self this]
def Km (c:Cf) (i cw ceil:Int):Cf:=(c.1,(c.2.1.set i.toNat ((aU c.2.1 i).1,(aU c.2.1 i).2.1,cw,(aU c.2.1 i).2.2.2)).set i.toNat ((aU c.2.1 i).1,(aU c.2.1 i).2.1,cw,ceil,(aU c.2.1 i).2.2.2.2),c.2.2)
def iI (r:Rg) (id:Int):Int:=bE (dm r.1).2.1 id
def kN (r:Rg) (id cw ceil:Int):Rg×Bool:=if mH r=true then (if iI r id < 0 then (zR,false) else ((BD r (Km (dm r.1) (iI r id) cw ceil)).1,(BD r (Km (dm r.1) (iI r id) cw ceil)).2.2)) else (zR,false)
theorem Qvt {l m:List aC} (h:l.Perm m) {id:Int}:decide (bE l id < 0)=decide (bE m id < 0):=by
 have:=Qsy h (id:=id)
 by_cases c:bE l id < 0
 .rw [Z5 c]
  rw [Z4 (show ¬ bE l id>=0 by omega)] at this
  have:=of_decide_eq_false this.symm
  rw [Z5 (by omega)]
 .rw [Z4 c]
  rw [Z5 (show bE l id>=0 by omega)] at this
  have:=of_decide_eq_true this.symm
  rw [Z4 (by omega)]
theorem Qmo {d:Nat} {r:Rg} {id cw ceil:Int} (h:AN r.1):g22 (d+30) r id cw ceil=some (kN r id cw ceil):=by
 rw [e22,show d+29=d+1+28 by omega,YH h,Q9]
 unfold kN
 cases hg:mH r with
 | false=>rfl
 | true =>
  obtain ⟨n1,n2⟩:=YM (R5 hg)
  rw [Zl,Q5,show d+1+28=d+3+26 by omega,Qsx (R5 hg),Q9,show d+3+26=d+26+3 by omega,N6 (by omega),Q9,if_pos rfl]
  show aa (decide (iI r id < 0)) _ _=_
  by_cases h0:iI r id < 0
  .rw [Z5 h0,Q4,if_pos h0];rfl
  .have hv:vI (dm r.1).2.1 (iI r id):=⟨by omega,wL⟩
   have Ff:=eZ hv
   have au:=(Z0 Ff).1
   rw [Z4 h0,Q5,if_neg h0]
   show aa (decide (0<=iI r id)) (aa (Nat.blt (iI r id).toNat (dm r.1).2.1.length) (Q1 ((dm r.1).2.1[(iI r id).toNat]?) _) none) none=_
   rw [Z5 hv.1,Q4,Qo au,Q4,Ff,Q9]
   show aa (decide (0<=iI r id)) (aa (Nat.blt (iI r id).toNat ((dm r.1).2.1.set (iI r id).toNat _).length) (Q1 (((dm r.1).2.1.set (iI r id).toNat _)[(iI r id).toNat]?) _) none) none=_
   rw [Z5 hv.1,Q4,List.length_set,Qo au,Q4,YL Ff,Q9]
   show Q1 (g12 (d+26+3) r (Km (dm r.1) (iI r id) cw ceil)) _=_
   rw [show d+26+3=d+29 by omega,Qb0 h (by unfold Km;simp only [List.length_set];omega) (by show (dm r.1).2.2.1.length < _;omega),Q9]
   unfold RZ
   rw [if_pos hg]
theorem Qjh {d:Nat} {r:Rg} {id cw ceil:Int} (h:AN r.1):g21 (d+14) r id cw ceil=some (kN r id cw ceil):=by
 rw [e21,Qsv h,Q9]
 unfold kN wR
 cases hg:mH r with
 | false=>rfl
 | true =>
  have O:=N4 hg
  have iw:=O.lk.eG
  have Fe:=O.lr.f16
  obtain ⟨n1,n2⟩:=YM (R5 hg)
  rw [Zl,Q5,show d+13=d+12+1 by omega,YE (by omega),Q9,Qvt (wK (l:=r.1.2.1)).symm,if_pos rfl]
  show aa (decide (iI r id < 0)) _ _=_
  by_cases h0:iI r id < 0
  .rw [Z5 h0,Q4,if_pos h0];rfl
  .have hv:vI (dm r.1).2.1 (iI r id):=⟨by omega,wL⟩
   have Ff:=eZ hv
   have au:=(Z0 Ff).1
   rw [Z4 h0,Q5,if_neg h0,show d+12+1=d+11+2 by omega,YN (by omega) (by omega),Q9,show d+11+2=d+12+1 by omega,IC (by omega),Q9]
   show aa (decide (0<=iI r id)) (aa (Nat.blt (iI r id).toNat (dm r.1).2.1.length) (Q1 ((dm r.1).2.1[(iI r id).toNat]?) _) none) none=_
   rw [Z5 hv.1,Q4,Qo au,Q4,Ff,Q9]
   show Q1 (((dm r.1).2.1.set (iI r id).toNat _)[(iI r id).toNat]?) _=_
   rw [YL Ff,Q9]
   show Q1 (N5 (d+12+1) r (Km (dm r.1) (iI r id) cw ceil) true) _=_
   rw [show d+12+1=d+13 by omega,Qmn hg h.1 (by show (dm r.1).2.2.1.length < _;omega),Q9]
theorem R6 {r:Rg} {id cw ceil:Int} (hl:Ix r):AI (kN r id cw ceil).1:=by
 unfold kN
 split
 .rename_i hr
  split
  .exact Fc
  .exact (R4 hr hl.1.1).1
 .exact Fc
abbrev tyC:Ty:=.pair (.int .i64) (.pair (.int .i64) (.pair (.int .i64) (.pair (.int .i64) (.pair (.int .i64) (.pair (.int .i64) (.pair (.int .i64) (.int .i64)))))))
abbrev tyF:Ty:=.pair (.int .i64) (.pair (.int .i64) (.pair (.int .i64) (.pair (.int .i64) (.int .i64))))
abbrev Ko:Ty:=.pair .str (.pair (.sl tyC) (.pair (.sl (.int .i64)) (.pair (.sl (.int .i64)) (.pair (.sl (.int .i64)) (.pair (.sl (.int .i64)) (.pair (.sl tyF) (.pair (.sl (.int .i64)) (.int .i64))))))))
abbrev YO:Ty:=.pair (.sl (.int .i64)) (.sl (.int .i64))
theorem Qyi {x:Ld} (h:Wf Ko x):R7 x:=by
 obtain ⟨h1,⟨h2,_⟩,⟨h3,_⟩,⟨h4,_⟩,⟨h5,_⟩,⟨h6,_⟩,⟨h7,_⟩,⟨h8,_⟩,_⟩:=h
 exact ⟨h1,h2,h3,h4,h5,h6,h7,h8⟩
def tkW (t:Tk):Prop:=t.1.length<=9223372036854775807/\t.2.length<=9223372036854775807
theorem Qyj {t:Tk} (h:Wf YO t):tkW t:=by
 obtain ⟨⟨h2,_⟩,⟨h3,_⟩⟩:=h
 exact ⟨h2,h3⟩
abbrev R8:Ty:=.pair (.int .i64) (.pair (.int .i64) (.pair (.int .i64) (.pair (.int .i64) (.pair (.int .i64) (.int .i64)))))
abbrev Kp:Ty:=.pair Ko (.pair YO (.pair (.sl (.sl R8)) (.pair (.int .i64) (.int .i64))))
theorem Qyk {r:Rg} (h:Wf Kp r):R9 r:=by
 obtain ⟨h1,h2,⟨h3,h4⟩,_⟩:=h
 exact ⟨Qyi h1,Qyj h2,h3,fun q hq=>(h4 q hq).1⟩
theorem Qs1 {d:Nat} {r:Rg} {ii cw ceil:Int} (hw:R9 r):g4 (d+32) r ii cw ceil=some true:=by
 rw [show d+32=(d+29)+3 by omega,e4]
 obtain ⟨z,hz,hB⟩:=Qwh (d:=d+28) hw
 rw [show d+29+2=d+28+3 by omega,hz,Q9]
 by_cases h:z < 0
 .rw [Z5 h,Q4]
 obtain ⟨y0,y1,hl,cG⟩:=hB.resolve_left h
 rw [Z4 h,Q5]
 obtain ⟨l1,l2,l3,l4⟩:=id hl
 obtain ⟨z1,z2,z3,z4,z5,z6,z7,z8⟩:=id l1
 have hV:AI (kN r ii cw ceil).1:=R6 hl
 obtain ⟨YP,hV2⟩:=hV.l
 have hen:=hV.en
 obtain ⟨v1,v2,v3,v4⟩:=id YP
 obtain ⟨u1,u2,u3,u4,u5,u6,u7,u8⟩:=id v1
 have hT:g10 (d+28+3) r=some r:=by rw [show d+28+3=d+27+4 by omega];exact Qwi hl
 have hE:g13 (d+28+3) r r=some true:=by rw [show d+28+3=d+27+4 by omega];exact YQ hl
 have hA:g22 (d+28+3) r ii cw ceil=some (kN r ii cw ceil):=by rw [show d+28+3=d+1+30 by omega];exact Qmo l1.sz
 have hS:g21 (d+28+3) r ii cw ceil=some (kN r ii cw ceil):=by rw [show d+28+3=d+17+14 by omega];exact Qjh l1.sz
 have hQ:g13 (d+28+3) (kN r ii cw ceil).1 (kN r ii cw ceil).1=some true:=by rw [show d+28+3=d+27+4 by omega];exact YQ YP
 have hH:g19 (d+28+3) (Kg (kN r ii cw ceil).1) ((1:Nat):Int)=some ((Dd (kN r ii cw ceil).1:Nat):Int):=Qoi hV
 rw [hT,Q9,hS,Q9,Q9,hA,Q9,hQ,Q9,Zl,Q5,beq_self_eq_true,Zl]
 unfold Fg
 rw [Q5,show d+29+2=d+28+3 by omega,hT,Q9,hE,Q9,Zl,Q5]
 rw [show d+29=d+28+1 by omega,show (1:Int)=((1:Nat):Int) from rfl,YR z2 (by omega),Q9];simp only [];rw [rE z3 (by omega),Q9];simp only [];rw [rE z4 (by omega),Q9];simp only [];rw [rE z5 (by omega),Q9];simp only [];rw [rE z6 (by omega),Q9];simp only [];rw [YS z7 (by omega),Q9];simp only [];rw [rE z8 (by omega),Q9];simp only [];rw [rE l2 (by omega),Q9];simp only [];rw [rE l3 (by omega),Q9];simp only []
 have hL:=NY (k:=1) l1
 unfold By at hL
 refine (Ys (fun ag n i rs=>rfl) l4 cG (by omega)).trans ?_
 unfold iY
 rw [Z4 (by omega),Q5,show d+28+1+2=d+28+3 by omega,hQ,Q9,Zl,Q5,beq_self_eq_true,Zl]
 unfold BE
 rw [Q5]
 rw [show d+29=d+28+1 by omega,show (1:Int)=((1:Nat):Int) from rfl,YR u2 (by omega),Q9];simp only [];rw [rE u3 (by omega),Q9];simp only [];rw [rE u4 (by omega),Q9];simp only [];rw [rE u5 (by omega),Q9];simp only [];rw [rE u6 (by omega),Q9];simp only [];rw [YS u7 (by omega),Q9];simp only [];rw [rE u8 (by omega),Q9];simp only [];rw [rE v2 (by omega),Q9];simp only [];rw [rE v3 (by omega),Q9];simp only []
 have hL2:=NY (k:=1) v1
 unfold By at hL2
 refine (Ys (fun ag n i rs=>rfl) v4 (by omega) (by omega)).trans ?_
 unfold iZ
 rw [show d+28+1+2=d+28+3 by omega,show (1:Int)=((1:Nat):Int) from rfl]
 show Q1 (g19 (d+28+3) (Kg (kN r ii cw ceil).1) ((1:Nat):Int)) _=_
 rw [hH,Q9,Z4 (by omega),Q5]
 show aa (((Dd (kN r ii cw ceil).1:Nat):Int) != ((Dd (kN r ii cw ceil).1:Nat):Int)) _ _=_
 rw [bne_self_eq_false,Q5,hT,Q9,hA,Q9,hQ,Q9,Zl,Q5,beq_self_eq_true,Zl]
 unfold Fh
 rw [Q5]
 show Q1 (g19 (d+28+3) (Kg (kN r ii cw ceil).1) ((1:Nat):Int)) _=_
 rw [hH,Q9,Z4 (by omega),Q5]
 show aa (((Dd (kN r ii cw ceil).1:Nat):Int) != ((Dd (kN r ii cw ceil).1:Nat):Int)) _ _=_
 rw [bne_self_eq_false,Q5]
def tysLaw:List Ty:=[Kp,.int .i64,.int .i64,.int .i64]
theorem lawAny:YT Tryz.prog Qc (32) 4 tysLaw :=
 ⟨rfl,rfl,rfl,fun a h=>by
  obtain ⟨r,ii,cw,ceil⟩:=a
  exact ⟨true,Qs1 (d:=0) (Qyk (h ⟨_,r⟩ (List.Mem.head _))),rfl⟩⟩
end Go.Proofs.YtcoimfbmgjhcjaaGreatDoor
