/-
  Configurations by value. And what stood behind it in 4 texts.
  Conditions: said at the theorems.
-/
import Derived.Test.YtcoimfbmgjhcjaaGreatDoorK21
import Derived.Test.YtcoimfbmgjhcjaaGreatDoorRepW
set_option linter.all false
namespace Go.Proofs.YtcoimfbmgjhcjaaGreatDoor
open Go.Ev Go.Pv
structure Pu (x:Ld) (rows:List (List Pk)):Prop where
 lk:Lk x
 lr:Lr x
 lf:∀ p,cC x p < 0\/cC x p∈bS x.2.2.2.1
 rl:rows.length=(bS x.2.2.2.1).length
 lm:∀ (k:Nat) w,(bS x.2.2.2.1)[k]? = some w->(((rows.getD k []).length:Nat):Int)<=mD x w
def kK (x:Ld) (p:Pk):Nat:=(vp (bS x.2.2.2.1) (cC x p)).toNat
def qY (x:Ld) (rows:List (List Pk)) (p:Pk):List Pk:=rows.getD (kK x p) []
def Iq (x:Ld) (rows:List (List Pk)) (p:Pk):List (List Pk):=rows.set (kK x p) (qY x rows p++[p])
def Dh {τ:Type} (x:Ld) (rows:List (List Pk)) (p:Pk) (A:τ) (B C:aC->τ):τ:=if cC x p < 0 then A else if (((qY x rows p).length:Nat):Int)=mD x (cC x p) then B (aX x.2.1 (cC x p)) else C (aX x.2.1 (cC x p))
theorem Yv {e:Nat->Int} (he:∀ k,e k=(k:Int)) {c:Int->Nat->Bool}:∀ (l:List Int) (i:Nat),(fI c (fun _ k=>e k) l i).Pairwise (· < ·)/\∀ x∈fI c (fun _ k=>e k) l i,((i:Nat):Int)<=x
 | [],i=>⟨List.Pairwise.nil,fun x h=>by simp [fI] at h⟩
 | y::r,i=>by
  obtain ⟨h1,h2⟩:=Yv he (c:=c) r (i+1)
  unfold fI
  split
  .refine ⟨List.Pairwise.cons (fun x hx=>?_) h1,fun x hx=>?_⟩
   .have:=h2 x hx;rw [he];omega
   .rcases Z2 hx with rfl | hx
    .rw [he];omega
    .have:=h2 x hx;omega
  .exact ⟨h1,fun x hx=>by have:=h2 x hx;omega⟩
theorem Rp {F:List Int}:(bS F).Nodup:=by
 have:=(Yv (e:=fun k=>((k:Nat):Int)) (fun _=>rfl) (c:=fun f _=>decide (f < 0)) F 0).1
 exact this.imp fun h=>by omega
structure At (x:Ld) (rows:List (List Pk)) (p:Pk):Prop where
 get:(bS x.2.2.2.1)[kK x p]? = some (cC x p)
 pos:vp (bS x.2.2.2.1) (cC x p)=((kK x p:Nat):Int)
 lt:kK x p < rows.length
 v:vI x.2.1 (cC x p)
 row:rows[kK x p]? = some (qY x rows p)
 ai:(((qY x rows p).length:Nat):Int)<=mD x (cC x p)
 Yw:(qY x rows p).length<=60
theorem Rq {x:Ld} {rows:List (List Pk)} {p:Pk} (P:Pu x rows) (h:¬ cC x p < 0):At x rows p:=by
 have hm:=(P.lf p).resolve_left h
 obtain ⟨k,h1,h2⟩:=Yx Rp hm
 have hk:kK x p=k:=by unfold kK;rw [h2];rfl
 have au:=(Z0 h1).1
 have jZ:=P.rl
 have hf:=P.lk.fl
 obtain ⟨v1,v2⟩:=Fc hm
 have hv:vI x.2.1 (cC x p):=⟨v1,by omega⟩
 have aH:=P.lm k _ h1
 have Ir:=P.lr.ai _ (Zc (fq hv))
 have cx:qY x rows p=rows.getD k []:=by unfold qY;rw [hk]
 refine ⟨by rw [hk];exact h1,by rw [hk];exact h2,by omega,hv,by rw [hk,cx];exact Rs (by omega),by rw [cx];exact aH,?_⟩
 rw [cx]
 unfold mD at aH
 omega
theorem Rt {β:Type} {d:Nat} {x:Ld} {rows:List (List Pk)} {p:Pk} (P:Pu x rows) {A:Option β} {B:aC->Option β} {C:aC->List (List Pk)->Option β} :
  aa (decide (cC x p < 0)) A (aa (decide (0<=cC x p)) (aa (Nat.blt (cC x p).toNat x.2.1.length) (Q1 (x.2.1[(cC x p).toNat]?) fun y=>Q1 (Di (d+1) x) fun ls=>Q1 (wu (d+1) ls (cC x p)) fun k=>aa (decide (0<=k)) (aa (Nat.blt k.toNat rows.length) (Q1 (rows[k.toNat]?) fun row=>aa (((row.length:Nat):Int)==y.2.2.2.2.2.2.2) (B y) (aa (decide (0<=k)) (aa (Nat.blt k.toNat rows.length) (Q1 (rows[k.toNat]?) fun wz=>aa (Nat.ble ((wz.length+[p].length)*48) Q7) (aa (decide (0<=k)) (aa (Nat.blt k.toNat rows.length) (aa (Nat.beq k.toNat k.toNat) (Q1 (rows[k.toNat]?) fun _=>C y (rows.set k.toNat (wz++[p]))) none) none) none) none) none) none)) none) none) none) none)
  = Dh x rows p A B (fun y=>C y (Iq x rows p)):=by
 unfold Dh
 by_cases h:cC x p < 0
 .rw [Z5 h,Q4,if_pos h]
 .have a:=Rq P h
  have iI:=P.lk.fJ
  have hv:=AH (F:=x.2.2.2.1)
  have hf:=P.lk.fl
  have Ir:=a.Yw
  rw [Z4 h,Q5,if_neg h,Z5 a.v.1,Q4,Qp (by have:=a.v;unfold vI at this;omega),Q4,fq a.v,Q9,J_ (by omega) hf,Q9,Yy (by omega),Q9]
  have hp:fe (fun y=>y==cC x p) (bS x.2.2.2.1) 0=((kK x p:Nat):Int):=a.pos
  rw [hp]
  simp only [nn,Q3,Q4,Qp a.lt,a.row,Q9]
  rw [room (by simp;omega),Q4,show Nat.beq (kK x p) (kK x p)=true by rw [Nat.beq_eq],Q4]
  by_cases e:(((qY x rows p).length:Nat):Int)=mD x (cC x p)
  .rw [if_pos e,show ((((qY x rows p).length:Nat):Int)==(aX x.2.1 (cC x p)).2.2.2.2.2.2.2)=true from beq_iff_eq.2 e,Q4]
  .rw [if_neg e,show ((((qY x rows p).length:Nat):Int)==(aX x.2.1 (cC x p)).2.2.2.2.2.2.2)=false from beq_eq_false_iff_ne.2 e,Q5]
   rfl
theorem Qy7 {β:Type} {d:Nat} {x:Ld} {rows:List (List Pk)} {p:Pk} {F:(Int->Option β)->Int->Option β} {K:Int->Option β} (a:At x rows p) (h1:x.2.1.length<=1000) (hf:x.2.2.2.1.length=x.2.1.length)
  (hF:∀ ag k,F ag k=Q1 (Dj (d+2) x) fun ls=>aa (decide (0<=k)) (aa (Nat.blt k.toNat ls.length) (Q1 (ls[k.toNat]?) fun w=>aa (w != cC x p) (ag (IntKind.i64.wrap (k+1))) (K k)) none) none):Q8 F Qd 0=K ((kK x p:Nat):Int):=by
 have hv:=AH (F:=x.2.2.2.1)
 have au:=(Z0 a.get).1
 have key:∀ (m k fuel:Nat),k+m=kK x p->m < fuel->Q8 F fuel ((k:Nat):Int)=K ((kK x p:Nat):Int):=by
  intro m
  induction m with
  | zero =>
   intro k fuel e h
   obtain ⟨g,rfl⟩:∃ g,fuel=g+1:=⟨fuel - 1,by omega⟩
   obtain rfl:k=kK x p:=by omega
   simp only [Q8]
   rw [hF,Is h1 hf,Q9,nn,Q4,Q3,Qp au,Q4,a.get,Q9,bne_self_eq_false,Q5]
  | succ m ih =>
   intro k fuel e h
   obtain ⟨g,rfl⟩:∃ g,fuel=g+1:=⟨fuel - 1,by omega⟩
   have hk:k < (bS x.2.2.2.1).length:=by omega
   have hx:=Z6 hk
   have aU:(bS x.2.2.2.1)[k]≠cC x p:=fun e'=>by
    have:=qZ Rp hx
    rw [e',a.pos] at this
    omega
   simp only [Q8]
   rw [hF,Is h1 hf,Q9,nn,Q4,Q3,Qp hk,Q4,hx,Q9,bne_iff_ne.2 aU,Q4,aN (by omega)]
   exact ih (k+1) g (by omega) (by omega)
 exact key (kK x p) 0 Qd (by omega) (by rw [Q6];omega)
def Ru {β:Type} (rows:List (List Pk)) (p:Pk) (B:aC->Option β) (C:aC->List (List Pk)->Option β) (y:aC) (k:Int):Option β:=aa (decide (0<=k)) (aa (Nat.blt k.toNat rows.length) (Q1 (rows[k.toNat]?) fun row=>aa (decide (((row.length:Nat):Int)>=y.2.2.2.2.2.2.2)) (B y) (aa (decide (0<=k)) (aa (Nat.blt k.toNat rows.length) (Q1 (rows[k.toNat]?) fun wz=>aa (Nat.ble ((wz.length+[p].length)*48) Q7) (aa (decide (0<=k)) (aa (Nat.blt k.toNat rows.length) (aa (Nat.beq k.toNat k.toNat) (Q1 (rows[k.toNat]?) fun _=>C y (rows.set k.toNat (wz++[p]))) none) none) none) none) none) none)) none) none
theorem Rv {β:Type} {x:Ld} {rows:List (List Pk)} {p:Pk} (P:Pu x rows) {A:Option β} {B:aC->Option β} {C:aC->List (List Pk)->Option β} {I:aC->Option β}
  (hI:At x rows p->∀ y,I y=Ru rows p B C y ((kK x p:Nat):Int)) :
  aa (decide (cC x p < 0)) A (aa (decide (0<=cC x p)) (aa (Nat.blt (cC x p).toNat x.2.1.length) (Q1 (x.2.1[(cC x p).toNat]?) I) none) none)=Dh x rows p A B (fun y=>C y (Iq x rows p)):=by
 unfold Dh
 by_cases h:cC x p < 0
 .rw [Z5 h,Q4,if_pos h]
 .have a:=Rq P h
  have Ir:=a.Yw
  have aH:=a.ai
  rw [Z4 h,Q5,if_neg h,Z5 a.v.1,Q4,Qp (by have:=a.v;unfold vI at this;omega),Q4,fq a.v,Q9,hI a]
  unfold Ru
  simp only [nn,Q3,Q4,Qp a.lt,a.row,Q9]
  rw [room (by simp;omega),Q4,show Nat.beq (kK x p) (kK x p)=true by rw [Nat.beq_eq],Q4]
  by_cases e:(((qY x rows p).length:Nat):Int)=mD x (cC x p)
  .rw [if_pos e,Z5 (show (((qY x rows p).length:Nat):Int)>=(aX x.2.1 (cC x p)).2.2.2.2.2.2.2 by unfold mD at e;omega),Q4]
  .rw [if_neg e,Z4 (show ¬ (((qY x rows p).length:Nat):Int)>=(aX x.2.1 (cC x p)).2.2.2.2.2.2.2 by unfold mD at e aH;omega),Q5]
   rfl
theorem Rw {x:Ld} (h:fD x=true) (p:Pk):cC x p < 0\/cC x p∈bS x.2.2.2.1:=by
 have:=Rx (q_ (N1 h)) p
 rw [Yz h] at this;exact this
def mP (k:Nat):Pk:=((k:Int),((k+1:Nat):Int),((k+1+1:Nat):Int),((k+1+1+1:Nat):Int),((k+1+1+1+1:Nat):Int),((k+1+1+1+1+1:Nat):Int))
def mE:Nat->Nat->List Pk
 | _,0=>[]
 | k,n+1=>mP k::mE (k+1+1+1+1+1+1) n
def vq:Nat->List (List Pk)->List (List Pk)
 | _,[]=>[]
 | k,q::r=>mE k q.length::vq (k+6*q.length) r
theorem YA {d:Nat}:∀ (r:List Pk) {p:List Pk} {k fuel:Nat},r.length < fuel->p.length+r.length<=2000000->k+6*r.length<=1000000000 ->
  Q8 (kM d (oP d)) fuel ((k:Int),((p.length:Nat):Int),p++r)=some (((k+6*r.length:Nat):Int),p++mE k r.length)
 | _,p,k,0,h,_,_=>by omega
 | [],p,k,fuel+1,h,h2,h3=>by
  simp only [Q8,kM]
  rw [List.append_nil,bB,Q5]
  unfold oP
  simp [mE]
 | x::r,p,k,fuel+1,h,h2,h3=>by
  simp only [Z9] at h h2 h3
  have au:p.length < (p++x::r).length:=by simp
  have hg:(p++x::r)[p.length]? = some x:=by simp
  simp only [Q8,kM,Q3,nn,Q4]
  rw [Z5 (show ((p.length:Nat):Int) < (((p++x::r).length:Nat):Int) by omega),Q4,Qp au,Q4,hg,Q9]
  simp only [List.length_set,List.set_set,List.getElem?_set_self au,Q9,Qp au,Q4]
  rw [Fe,aN (by omega),aN (by omega),aN (by omega),aN (by omega),aN (by omega),aN (by omega),aN (by omega)]
  have:=YA (d:=d) r (p:=p++[mP k]) (k:=k+1+1+1+1+1+1) (fuel:=fuel) (by omega) (by simp;omega) (by omega)
  rw [Zf,show (p++[mP k])++r=p++mP k::r by simp] at this
  simp only [Z9,Zb,mE]
  rw [show k+6*(r.length+1)=k+1+1+1+1+1+1+6*r.length by omega,show p++mP k::mE (k+1+1+1+1+1+1) r.length=(p++[mP k])++mE (k+1+1+1+1+1+1) r.length by simp]
  exact this
theorem YB {d:Nat} {l:List Pk}:∀ (n:Nat) {p:List Pk} {k fuel:Nat},l=p++mE k n->n < fuel->p.length+n<=2000000->k+6*n<=1000000000 ->
  Q8 (kN d l (oQ d)) fuel ((k:Int),0,((p.length:Nat):Int))=some ((k+6*n:Nat):Int)
 | n,p,k,0,_,h,_,_=>by omega
 | 0,p,k,fuel+1,e,h,h2,h3=>by
  simp only [mE,List.append_nil] at e
  subst e
  simp only [Q8,kN]
  rw [bB,Q5]
  unfold oQ
  simp
 | n+1,p,k,fuel+1,e,h,h2,h3=>by
  have hg:l[p.length]? = some (mP k):=by rw [e];simp [mE]
  have au:=(Z0 hg).1
  simp only [Q8,kN,Q3,nn,Q4]
  rw [Z5 (show ((p.length:Nat):Int) < ((l.length:Nat):Int) by omega),Q4,hg]
  simp only [Q9]
  rw [aN (by omega),aN (by omega),aN (by omega),aN (by omega),aN (by omega),aN (by omega),aN (by omega)]
  unfold mP
  simp only [bne_self_eq_false,Q5]
  have:=YB (d:=d) (l:=l) n (p:=p++[mP k]) (k:=k+1+1+1+1+1+1) (fuel:=fuel) (by rw [e];simp [mE]) (by omega) (by simp;omega) (by omega)
  rw [Zf] at this
  simp only [Z9,Zb] at this
  rw [show k+6*(n+1)=k+1+1+1+1+1+1+6*n by omega]
  exact this
theorem YC {d:Nat} {β:Type} {F:((Int×Int×List (List Pk))->Option β)->(Int×Int×List (List Pk))->Option β} {kx:Int->List (List Pk)->Option β}
  (hF:∀ ag n i rs,F ag (n,i,rs)=aa (decide (i < ((rs.length:Nat):Int))) (aa (decide (0<=i)) (aa (Nat.blt i.toNat rs.length) (Q1 (rs[i.toNat]?) fun a=>Q1 (rs[i.toNat]?) fun b=>aa (Nat.beq b.length a.length) (Q1 (wF (d+1) a n) fun z=>ag (z.1,IntKind.i64.wrap (i+1),rs.set i.toNat z.2)) none) none) none) (kx n rs)) :
  ∀ (r:List (List Pk)) {p:List (List Pk)} {k fuel:Nat},r.length < fuel->p.length+r.length<=2000000->(∀ q∈r,q.length<=1048576)->k+6*r.flatten.length<=100000000 ->
  Q8 F fuel ((k:Int),((p.length:Nat):Int),p++r)=kx ((k+6*r.flatten.length:Nat):Int) (p++vq k r)
 | _,p,k,0,h,_,_,_=>by omega
 | [],p,k,fuel+1,h,h2,_,h3=>by
  simp only [Q8]
  rw [hF,List.append_nil,bB,Q5]
  simp [vq]
 | q::r,p,k,fuel+1,h,h2,hq,h3=>by
  simp only [Z9,Ze,Zf] at h h2 h3
  have au:p.length < (p++q::r).length:=by simp
  have hg:(p++q::r)[p.length]? = some q:=by simp
  simp only [Q8]
  rw [hF,Z5 (show ((p.length:Nat):Int) < (((p++q::r).length:Nat):Int) by omega),Q4,nn,Q4,Q3,Qp au,Q4,hg,Q9,Q9,show Nat.beq q.length q.length=true by rw [Nat.beq_eq],Q4,Ry]
  have h1:=YA (d:=d) q (p:=[]) (k:=k) (fuel:=Qd) (by have:=hq q (by simp);rw [Q6];omega) (by have:=hq q (by simp);simp;omega) (by omega)
  rw [List.nil_append,List.nil_append] at h1
  rw [show ((([]:List Pk).length:Nat):Int)=0 from rfl] at h1
  rw [h1,Q9]
  simp only []
  rw [Fe,aN (by omega)]
  have:=YC hF r (p:=p++[mE k q.length]) (k:=k+6*q.length) (fuel:=fuel) (by omega) (by simp;omega) (fun x hx=>hq x (by simp [hx])) (by omega)
  rw [Zf,show (p++[mE k q.length])++r=p++mE k q.length::r by simp] at this
  simp only [Z9,Zb,vq,Ze,Zf]
  rw [show k+6*(q.length+r.flatten.length)=k+6*q.length+6*r.flatten.length by omega,show p++mE k q.length::vq (k+6*q.length) r=(p++[mE k q.length])++vq (k+6*q.length) r by simp]
  exact this
theorem YD {d k:Nat} {β:Type} {F:((Int×Int×List (List Pk))->Option β)->(Int×Int×List (List Pk))->Option β} {kx:Int->List (List Pk)->Option β} {rows:List (List Pk)}
  (hF:∀ ag n i rs,F ag (n,i,rs)=aa (decide (i < ((rs.length:Nat):Int))) (aa (decide (0<=i)) (aa (Nat.blt i.toNat rs.length) (Q1 (rs[i.toNat]?) fun a=>Q1 (rs[i.toNat]?) fun b=>aa (Nat.beq b.length a.length) (Q1 (wF (d+1) a n) fun z=>ag (z.1,IntKind.i64.wrap (i+1),rs.set i.toNat z.2)) none) none) none) (kx n rs))
  (h:J' rows) (hf:rows.flatten.length<=1048576) (hk:k<=50000000):Q8 F Qd ((k:Int),0,rows)=kx ((k+6*rows.flatten.length:Nat):Int) (vq k rows) :=
 YC hF rows (p:=[]) (by have:=h.1;rw [Q6];omega) (by have:=h.1;simp;omega) h.2 (by omega)
theorem YE {d:Nat} {l:List (List Pk)}:∀ (r:List (List Pk)) {p:List (List Pk)} {k fuel:Nat},l=p++vq k r->r.length < fuel->p.length+r.length<=2000000->(∀ q∈r,q.length<=1048576)->k+6*r.flatten.length<=100000000 ->
  Q8 (ri (d+1) l (wG (d+1))) fuel ((k:Int),0,((p.length:Nat):Int))=some ((k+6*r.flatten.length:Nat):Int)
 | _,p,k,0,_,h,_,_,_=>by omega
 | [],p,k,fuel+1,e,h,h2,_,h3=>by
  simp only [vq,List.append_nil] at e
  subst e
  simp only [Q8,ri]
  rw [bB,Q5]
  unfold wG
  simp
 | q::r,p,k,fuel+1,e,h,h2,hq,h3=>by
  simp only [Z9,Ze,Zf] at h h2 h3
  have hg:l[p.length]? = some (mE k q.length):=by rw [e];simp [vq]
  have au:=(Z0 hg).1
  simp only [Q8,ri,Q3,nn,Q4]
  rw [Z5 (show ((p.length:Nat):Int) < ((l.length:Nat):Int) by omega),Q4,hg,Q9,Rz]
  have h1:=YB (d:=d) q.length (p:=[]) (k:=k) (fuel:=Qd) rfl (by have:=hq q (by simp);rw [Q6];omega) (by have:=hq q (by simp);simp;omega) (by omega)
  rw [show ((([]:List Pk).length:Nat):Int)=0 from rfl,List.nil_append] at h1
  rw [h1,Q9,Z4 (by omega),Q5,aN (by omega)]
  have:=YE (d:=d) (l:=l) r (p:=p++[mE k q.length]) (k:=k+6*q.length) (fuel:=fuel) (by rw [e];simp [vq]) (by omega) (by simp;omega) (fun x hx=>hq x (by simp [hx])) (by omega)
  rw [Zf] at this
  simp only [Z9,Zb,Ze,Zf] at this ⊢
  rw [show k+6*(q.length+r.flatten.length)=k+6*q.length+6*r.flatten.length by omega]
  exact this
def AI (r:Rg):Prop:=AJ r.1/\(r.2.1.1.length<=1048576/\r.2.1.2.length<=1048576)/\r.2.2.1.length<=1000/\∀ q∈r.2.2.1,q.length<=1000
theorem AI.l {r:Rg} (h:AI r):Ka r/\r.2.2.1.flatten.length<=1000000:=by
 obtain ⟨h1,⟨h2,h3⟩,h4,h5⟩:=h
 have:=N3 h5
 exact ⟨⟨h1,h2,h3,by omega,fun q hq=>by have:=h5 q hq;omega⟩,by omega⟩
def Kb (r:Rg):Rg:=(RA 1 r.1,mG (Bw 1 r.1) r.2.1,vq (It (Bw 1 r.1) r.2.1) r.2.2.1,r.2.2.2)
def wH (r:Rg):Nat:=It (Bw 1 r.1) r.2.1+6*r.2.2.1.flatten.length
theorem Qoh {d:Nat} {r:Rg} (h:AI r):g19 (d+3) (Kb r) ((1:Nat):Int)=some ((wH r:Nat):Int):=by
 obtain ⟨h1,⟨h2,h3⟩,h4,h5⟩:=h
 have hf:=N3 h5
 have hL:=N4 (k:=1) h1
 rw [e19]
 unfold Kb
 simp only []
 rw [Qhk h1 (by omega),Q9,Z4 (by omega),Q5,Qhl h2 h3 (by omega),Q9,Z4 (by omega),Q5,e55]
 have:=YE (d:=d) r.2.2.1 (p:=[]) (k:=It (Bw 1 r.1) r.2.1) (fuel:=Qd) rfl (by rw [Q6];omega) (by simp;omega) (fun q hq=>by have:=h5 q hq;omega) (by unfold It;omega)
 rw [show ((([]:List (List Pk)).length:Nat):Int)=0 from rfl,List.nil_append] at this
 rw [this,Q9,Z4 (by omega),Q5]
 rfl
theorem Qru {c:Cf} (G:Gd c):((bT c).2.1.map (·.1)).Nodup:=by
 have T:=G.tr
 show (((aG c.2.1).map (aX c.2.1)).map (·.1)).Nodup
 rw [List.map_map,List.nodup_iff_pairwise_ne,List.pairwise_map]
 exact (List.nodup_iff_pairwise_ne.1 (rj T)).imp_of_mem fun ha hb aU e=>aU (T.inj _ _ ((jz T).1 ha) ((jz T).1 hb) e)
theorem YF {l:List aC} (h:(l.map (·.1)).Nodup):l.Nodup:=by
 rw [List.nodup_iff_pairwise_ne,List.pairwise_map] at h
 exact List.nodup_iff_pairwise_ne.2 (h.imp fun h e=>h (by rw [e]))
theorem RB {c:Cf} (h:gb c=true):rm c.2.1=true:=by
 have hc:=(q_ h).cl
 unfold kE at hc
 simp only [Z8] at hc
 exact hc.2.1
theorem RC {c:Cf} (h:gb c=true):(bT c).2.1.Perm c.2.1:=by
 have G:=q_ h
 refine (List.perm_ext_iff_of_nodup (YF (Qru G)) (YF (RD (RB h)))).2 fun a=>?_
 show a∈(aG c.2.1).map (aX c.2.1)↔_
 rw [List.mem_map]
 constructor
 .rintro ⟨i,hi,rfl⟩
  exact Zc (fq ((jz G.tr).1 hi))
 .intro ha
  obtain ⟨k,hk⟩:=List.getElem?_of_mem ha
  exact ⟨(k:Int),(jz G.tr).2 (Dk hk),kO hk⟩
theorem RE {c:Cf} (h:gb c=true):fK (bT c)=c:=by
 have G:=q_ h
 have h1:Ff (bT c).2.1=c.2.1:=by
  refine (List.Perm.eq_of_pairwise (le:=fun a b=>cu a<=cu b) (fun a b ha hb h1 h2=>?_) ?_ YG ((RC h).symm.trans Bx.symm)).symm
  .unfold cu at h1 h2
   exact YH (RD (RB h)) ha ((RC h).mem_iff.1 (Bx.mem_iff.1 hb)) (by omega)
  .rw [List.pairwise_iff_getElem]
   intro i j hi hj ng
   have:=Kc (RB h) j i _ _ ng (Z6 hi) (Z6 hj)
   unfold cu;omega
 have h2:By (bT c)=c.2.2.2:=by
  show (if 0<=vr c/\vr c < (((bT c).2.1.length:Nat):Int) then (aX (bT c).2.1 (vr c)).1 else 0)=_
  unfold vr
  by_cases h0:c.2.2.2=0
  .rw [if_pos h0,if_neg (by omega),h0]
  .rw [if_neg h0]
   obtain ⟨t1,_⟩:=G.Ke h0
   obtain ⟨k,k1,k2⟩:=Bz G.tr t1
   have k3:(bT c).2.1[k]? = some (aX c.2.1 (bU c.2.1 c.2.2.2)):=by
    show ((aG c.2.1).map (aX c.2.1))[k]? = _
    rw [List.getElem?_map,k1];rfl
   have k4:=(Z0 k3).1
   rw [k2,if_pos ⟨by omega,by omega⟩,kO k3]
   obtain ⟨_,x,e1,e2,e3⟩:=BA t1.1
   rw [e1,kO e2,e3]
 show (c.1,Ff (bT c).2.1,c.2.2.1,By (bT c))=c
 rw [h1,h2]
theorem N5 {c:Cf} (h:gb c=true):fD (bT c)=true:=by
 have G:=q_ h
 unfold fD Dl
 rw [RE h,h]
 have h1:=(RC h).length_eq
 have h2:=G.tr.fJ
 have h3:=G.f16
 have h4:(bT c).2.2.2.2.2.2.1.length<=16:=h3
 simp only [decide_true,beq_self_eq_true,Bool.and_true,Zg,Zj]
 exact ⟨by omega,h4⟩
theorem RF {x:Ld} (h:fD x=true) {i j:Int} (hi:vI x.2.1 i) (hj:vI x.2.1 j) (e:(aX x.2.1 i).1=(aX x.2.1 j).1):i=j:=by
 have hd:=RG (N1 h) Bx
 obtain ⟨i1,i2⟩:=Z0 (fq hi)
 obtain ⟨j1,j2⟩:=Z0 (fq hj)
 have:=(List.getElem_inj (h₀:=show i.toNat < (x.2.1.map (·.1)).length by simpa using i1) (h₁:=show j.toNat < (x.2.1.map (·.1)).length by simpa using j1) hd).1 (by simp [i2,j2,e])
 have h0:=hi.1
 have h1:=hj.1
 omega
theorem RH {x:Ld} (h:fD x=true) {i:Int} (hi:vI x.2.1 i):1<=(aX x.2.1 i).1:=by
 have hm:aX x.2.1 i∈(fK x).2.1:=Bx.mem_iff.2 (Zc (fq hi))
 obtain ⟨k,hk⟩:=List.getElem?_of_mem hm
 have:=(q_ (N1 h)).tr.pos _ (Dk hk)
 rw [kO hk] at this;exact this
theorem N6 {α:Type} {p:α->Bool}:∀ (l:List α) (i:Nat),(∀ x∈l,p x=false)->fe p l i=-1
 | [],i,_=>rfl
 | x::r,i,h=>by
  unfold fe
  rw [if_neg (by rw [h x (by simp)];simp)]
  exact N6 r (i+1) fun y hy=>h y (by simp [hy])
def Iu (n t:Int):Int:=if 0<=n then n else t
theorem YI {p:Int->Bool}:∀ (l:List Int) (i:Nat) (t:Int),l.Pairwise (fun a b=>¬ (p a=true/\p b=true))->cD (fun w k (t:Int)=>if p w=true then ((k:Nat):Int) else t) l i t=Iu (fe p l i) t
 | [],i,t,_=>by simp [cD,fe,Iu]
 | x::r,i,t,h=>by
  obtain ⟨h1,h2⟩:=List.pairwise_cons.1 h
  simp only [cD]
  rw [YI r (i+1) _ h2]
  by_cases hx:p x=true
  .have hn:fe p r (i+1)=-1:=N6 r _ fun y hy=>by
    have:=h1 y hy
    simpa [hx] using this
   have he:fe p (x::r) i=(i:Int):=if_pos hx
   rw [hn,if_pos hx,he]
   unfold Iu
   rw [if_neg (by omega),if_pos (by omega)]
  .have he:fe p (x::r) i=fe p r (i+1):=if_neg hx
   rw [if_neg hx,he]
theorem RI {α τ β:Type} {p:α->Bool} {J:Int->Option β}:∀ (l:List α) (i:Nat) (t:τ),d_ (fun x i t k=>aa (p x) (J ((i:Nat):Int)) (k t)) (fun _=>J (-1)) l i t=J (fe p l i)
 | [],i,t=>rfl
 | x::r,i,t=>by
  simp only [d_,fe]
  by_cases h:p x=true
  .rw [if_pos h,h,Q4]
  .rw [if_neg h,show p x=false by simpa using h,Q5];exact RI r (i+1) t
theorem N7 {α τ σ β:Type} (mk:τ->Int->σ) {F:(σ->Option β)->σ->Option β} {fin:τ->Option β} {f:τ->α->τ} (I:τ->Nat->Prop) (l:List α) (hl:l.length < 4000000)
  (hs:∀ ag t (i:Nat) x n,l[i]? = some x->I t (n+1)->F ag (mk t ((i:Nat):Int))=ag (mk (f t x) ((i+1:Nat):Int)))
  (hi:∀ x∈l,∀ t n,I t (n+1)->I (f t x) n) (he:∀ ag t,F ag (mk t ((l.length:Nat):Int))=fin t) (m:Nat) (t:τ) (h:I t (l.length+m)):Q8 F Qd (mk t 0)=fin (l.foldl f t):=by
 have key:∀ (r p:List α) (fuel:Nat) (t:τ),l=p++r->r.length < fuel->I t (r.length+m)->Q8 F fuel (mk t ((p.length:Nat):Int))=fin (r.foldl f t):=by
  intro r
  induction r with
  | nil =>
   intro p fuel t e h _
   obtain ⟨n,rfl⟩:∃ n,fuel=n+1:=⟨fuel - 1,by omega⟩
   rw [List.append_nil] at e
   subst e
   exact he _ _
  | cons x r ih =>
   intro p fuel t e h hI
   obtain ⟨n,rfl⟩:∃ n,fuel=n+1:=⟨fuel - 1,by omega⟩
   simp only [Z9] at h
   rw [show (x::r).length+m=r.length+m+1 by simp;omega] at hI
   have:=ih (p++[x]) n (f t x) (by rw [e];simp) (by omega) (hi x (by rw [e];simp) t _ hI)
   rw [Zf] at this
   simp only [Q8,List.foldl_cons]
   rw [hs _ t p.length x _ (by rw [e];simp) hI]
   exact this
 exact key l [] Qd t rfl (by rw [Q6];omega) h
theorem YJ {α τ:Type} {f:τ->α->τ} (I:τ->Nat->Prop):∀ (l:List α) (t:τ) (m:Nat),I t (l.length+m)->(∀ x∈l,∀ t n,I t (n+1)->I (f t x) n)->I (l.foldl f t) m
 | [],t,m,h,_=>by simpa using h
 | x::r,t,m,h,hi=>by
  rw [show (x::r).length+m=r.length+m+1 by simp;omega] at h
  exact YJ I r (f t x) m (hi x (by simp) t _ h) (fun y hy=>hi y (by simp [hy]))
theorem Kg {α:Type} {l:List α} {i:Nat} {v:α} (h:l[i]? = some v):l.set i v=l:=by
 obtain ⟨h1,h2⟩:=Z0 h
 rw [<- h2,List.set_getElem_self]
theorem YK {β:Type} {F:((Int×List Int×List Int)->Option β)->(Int×List Int×List Int)->Option β} {KX:List Int->List Int->Option β} {C:List aC} {bu cb f g:aC->Int} (hC:C.length<=1000)
  (hF:∀ ag (i:Nat) c l m,C[i]? = some c->l[i]? = some (bu c)->m[i]? = some (cb c)->F ag ((i:Int),l,m)=ag (((i+1:Nat):Int),l.set i (f c),m.set i (g c)))
  (hE:∀ ag l m,F ag (((C.length:Nat):Int),l,m)=KX l m):Q8 F Qd (0,C.map bu,C.map cb)=KX (C.map f) (C.map g):=by
 have key:∀ (r p:List aC) (fuel:Nat),C=p++r->r.length < fuel->Q8 F fuel (((p.length:Nat):Int),p.map f++r.map bu,p.map g++r.map cb)=KX (C.map f) (C.map g):=by
  intro r
  induction r with
  | nil =>
   intro p fuel e h
   obtain ⟨n,rfl⟩:∃ n,fuel=n+1:=⟨fuel - 1,by omega⟩
   rw [List.append_nil] at e
   subst e
   simp only [Q8,List.map_nil,List.append_nil]
   exact hE _ _ _
  | cons c r ih =>
   intro p fuel e h
   obtain ⟨n,rfl⟩:∃ n,fuel=n+1:=⟨fuel - 1,by omega⟩
   simp only [Z9] at h
   simp only [Q8,List.map_cons]
   rw [hF _ p.length c _ _ (by rw [e];simp) (by simp) (by simp)]
   have:=ih (p++[c]) n (by rw [e];simp) (by omega)
   rw [Zf,List.map_append,List.map_append,List.append_assoc,List.append_assoc] at this
   simp only [Z9,Zb,List.map_cons,List.map_nil,List.singleton_append] at this
   have e1:=Fe (p:=p.map f) (r:=r.map bu) (x:=bu c) (y:=f c)
   have e2:=Fe (p:=p.map g) (r:=r.map cb) (x:=cb c) (y:=g c)
   rw [List.length_map] at e1 e2
   rw [e1,e2]
   exact this
 exact key C [] Qd rfl (by rw [Q6];omega)
def RJ (b n:Int):Int:=if b < n then b else n
theorem RK {b n:Int}:min n b=RJ b n:=by unfold RJ;rw [Int.min_def];split<;>split<;>omega
def Dm (old:List aC) (ts:List Int) (k:aC) (b:Int):Int:=if 0<=bU old k.1 then RJ b (ts.getD (bU old k.1).toNat 0) else b
def AK (r:Rg) (x:Ld):Tk:=(x.2.1.map fun k=>Dm r.1.2.1 r.2.1.1 k k.2.2.2.2.1,x.2.1.map fun k=>Dm r.1.2.1 r.2.1.2 k k.2.2.2.2.2.1)
abbrev Ls:=List Int×List (List Pk)
def ot (x:Ld) (t:Ls) (p:Pk):Ls:=Dh x t.2 p (t.1++[p.1],t.2) (fun _=>(t.1++[p.1],t.2)) (fun _=>(t.1,Iq x t.2 p))
def AL (r:Rg) (x:Ld):Ls:=r.2.2.1.foldl (fun t q=>q.foldl (ot x) t) ([],List.replicate (bS x.2.2.2.1).length [])
def vt (r:Rg):Int:=if r.2.2.2.1 < 0 then 0 else (aX r.1.2.1 ((bS r.1.2.2.2.1).getD r.2.2.2.1.toNat 0)).1
def BB (r:Rg) (x:Ld):Int:=fe (fun w=>(aX x.2.1 w).1==vt r) (bS x.2.2.2.1) 0
def Fg (r:Rg) (x:Ld):Rg×List Int:=((x,AK r x,(AL r x).2,BB r x,r.2.2.2.2),(AL r x).1)
def Kh (x:Ld) (t:Ls) (n:Nat):Prop:=Pu x t.2/\t.1.length+n<=100000
def gQ (x:Ld) (t:Ls) (n:Nat):Prop:=Pu x t.2/\t.1.length+60*n<=100000
theorem RM {x:Ld} {rows:List (List Pk)} {p:Pk} (P:Pu x rows) (h:¬ cC x p < 0) (hn:¬ (((qY x rows p).length:Nat):Int)=mD x (cC x p)):Pu x (Iq x rows p):=by
 have a:=Rq P h
 have hl:=a.ai
 refine ⟨P.lk,P.lr,P.lf,by unfold Iq;rw [List.length_set];exact P.rl,fun k w hw=>?_⟩
 have:=P.lm k w hw
 unfold Iq
 rw [Zr,List.getElem?_set]
 split
 .rename_i e
  rw [<- e,a.get] at hw
  injection hw with hw
  rw [if_pos a.lt]
  simp only [Option.getD_some,Zf,Z9,Zb]
  rw [<- hw];omega
 .rw [<- Zr];exact this
theorem RN {x:Ld} {t:Ls} {p:Pk} {n:Nat} (h:Kh x t (n+1)):Kh x (ot x t p) n:=by
 obtain ⟨P,hn⟩:=h
 unfold ot Dh
 split
 .exact ⟨P,by simp;omega⟩
 .split
  .exact ⟨P,by simp;omega⟩
  .rename_i h1 h2
   exact ⟨RM P h1 h2,by simp only;omega⟩
theorem RO {x:Ld} {t:Ls} {q:List Pk} {n:Nat} (hq:q.length<=60) (h:gQ x t (n+1)):gQ x (q.foldl (ot x) t) n:=by
 have:=YJ (f:=ot x) (Kh x) q t (60*n) ⟨h.1,by have:=h.2;omega⟩ (fun p _ t n h=>RN h)
 exact ⟨this.1,this.2⟩
theorem Qy8 {x:Ld} (h:fD x=true):Pu x (List.replicate (bS x.2.2.2.1).length []):=by
 have L:=vu h
 have R:=Iv h
 refine ⟨L,R,fun p=>Rw h p,by rw [List.length_replicate],fun k w hw=>?_⟩
 have hk:=(Z0 hw).1
 rw [Zr,List.getElem?_replicate,if_pos hk]
 have hm:=Zc hw
 obtain ⟨v1,v2⟩:=Fc hm
 have hf:=L.fl
 exact R.l0 _ (Zc (fq ⟨v1,by omega⟩))
theorem RP {x:Ld} (h:fD x=true) {n:Nat} (hn:n<=1000):gQ x ([],List.replicate (bS x.2.2.2.1).length []) n:=⟨Qy8 h,by simp;omega⟩
theorem RQ {d:Nat} {r:Rg} {x:Ld} {KX:List Int->List Int->Option (Rg×List Int)} (O:Ro r) (hx:x.2.1.length<=1000):Q8 (ru d r x KX) Qd (0,(BC x).1,(BC x).2)=KX (AK r x).1 (AK r x).2:=by
 have iI:=O.lk.fJ
 refine YK (C:=x.2.1) (bu:=fun k=>k.2.2.2.2.1) (cb:=fun k=>k.2.2.2.2.2.1) (f:=fun k=>Dm r.1.2.1 r.2.1.1 k k.2.2.2.2.1) (g:=fun k=>Dm r.1.2.1 r.2.1.2 k k.2.2.2.2.2.1) hx ?_ ?_
 .intro ag i c l m hc hl hm
  have hi:=(Z0 hc).1
  have ia:=(Z0 hl).1
  have N8:=(Z0 hm).1
  simp only [ru,bW hc,nn,Q3,hc,Q9,Q4,sS hc]
  refine (Qc (fun (t:Int) (j:Int)=>(t,j)) r.1.2.1 (fun y j t k=>aa (y.1==c.1) (dH d r ag ((i:Nat):Int) l m c ((j:Nat):Int)) (k t)) (fun _=>dH d r ag ((i:Nat):Int) l m c (-1)) ?_ ?_ (by rw [Q6];omega) 0).trans ((RI (J:=fun n=>dH d r ag ((i:Nat):Int) l m c n) r.1.2.1 0 0).trans ?_)
  .intro ag t i x hx;have hi:=(Z0 hx).1;simp only [iW,bW hx,nn,Q3,hx,Q9,Q4];rw [aN (by omega)]
  .intro ag t;simp only [iW,bB,Q5];rfl
  .show dH d r ag ((i:Nat):Int) l m c (bU r.1.2.1 c.1)=_
   unfold dH Dm
   by_cases h:0<=bU r.1.2.1 c.1
   .have au:=BD (l:=r.1.2.1) (id:=c.1)
    have t1:=O.t1
    have t2:=O.t2
    have e1:r.2.1.1[(bU r.1.2.1 c.1).toNat]? = some (r.2.1.1.getD (bU r.1.2.1 c.1).toNat 0):=nh (by omega)
    have e2:r.2.1.2[(bU r.1.2.1 c.1).toNat]? = some (r.2.1.2.getD (bU r.1.2.1 c.1).toNat 0):=nh (by omega)
    rw [Z5 (show bU r.1.2.1 c.1>=0 from h),Q4,e1,e2]
    simp only [nn,Q3,Q4,Q9,Qp ia,Qp N8,hl,hm]
    rw [aN (by omega),if_pos h,if_pos h]
    rfl
   .rw [Z4 (show ¬ bU r.1.2.1 c.1>=0 from h),Q5,aN (by omega),if_neg h,if_neg h,Kg hl,Kg hm]
 .intro ag l m;simp only [ru,bB,Q5]
theorem RR {d:Nat} {x:Ld} {q:List Pk} {kx:Int->List Int->List (List Pk)->Option (Rg×List Int)} {t:Ls} {n:Nat} (hq:q.length<=60) (h:gQ x t (n+1)):Q8 (rz (d+3) x q kx) Qd (t.1,0,t.2)=kx ((q.length:Nat):Int) (q.foldl (ot x) t).1 (q.foldl (ot x) t).2:=by
 refine N7 (fun (t:Ls) (i:Int)=>(t.1,i,t.2)) (fin:=fun t=>kx ((q.length:Nat):Int) t.1 t.2) (f:=ot x) (Kh x) q (by omega) (fun ag t i p n hp hI=>?_) (fun p _ t n h=>RN h) (fun ag t=>?_) (60*n) t ⟨h.1,by have:=h.2;omega⟩
 .obtain ⟨P,hn⟩:=hI
  have hi:=(Z0 hp).1
  simp only [rz,bW hp,nn,Q3,hp,Q9,Q4]
  rw [show d+3+1=d+4 by omega,YL P.lr,Q9]
  refine (Rt (d:=d+3) (x:=x) (rows:=t.2) (p:=p) (A:=dI (d+3) ag t.1 ((i:Nat):Int) p 3 0 t.2) (B:=fun y=>dI (d+3) ag t.1 ((i:Nat):Int) p 2 y.1 t.2) (C:=fun y rows=>dI (d+3) ag t.1 ((i:Nat):Int) p 1 y.1 rows) P).trans ?_
  unfold ot Dh dI
  split
  .rw [show ((3:Int) != 1)=true from rfl,Q4,room (by simp;omega),Q4,aN (by omega)]
  .split
   .rw [show ((2:Int) != 1)=true from rfl,Q4,room (by simp;omega),Q4,aN (by omega)]
   .rw [show ((1:Int) != 1)=false from rfl,Q5,aN (by omega)]
 .simp only [rz,bB,Q5]
theorem Qy9 {d:Nat} {r:Rg} {x:Ld} {kx:List Int->List (List Pk)->Option (Rg×List Int)} (O:Ro r) (h:fD x=true):Q8 (rA (d+3) r x kx) Qd ([],0,List.replicate (bS x.2.2.2.1).length [])=kx (AL r x).1 (AL r x).2:=by
 have hb:=RS O
 refine N7 (fun (t:Ls) (i:Int)=>(t.1,i,t.2)) (fin:=fun t=>kx t.1 t.2) (f:=fun t q=>q.foldl (ot x) t) (gQ x) r.2.2.1 (by omega) (fun ag t i q n hq hI=>?_) (fun q hq t n h=>RO (O.rb q hq) h) (fun ag t=>?_) 0 ([],_) (RP h (by omega))
 .have hi:=(Z0 hq).1
  simp only [rA,bW hq,nn,Q3,hq,Q9,Q4]
  refine (RR (O.rb q (Zc hq)) hI).trans ?_
  unfold Dn
  rw [aN (by omega)]
 .simp only [rA,bB,Q5]
theorem YM {r:Rg} (O:Ro r) (h:¬ r.2.2.2.1 < 0):(bS r.1.2.2.2.1)[r.2.2.2.1.toNat]? = some ((bS r.1.2.2.2.1).getD r.2.2.2.1.toNat 0)/\vI r.1.2.1 ((bS r.1.2.2.2.1).getD r.2.2.2.1.toNat 0):=by
 have la:=O.la
 have hf:=O.lk.fl
 have hg:=nh (l:=bS r.1.2.2.2.1) (i:=r.2.2.2.1.toNat) (z:=0) (by omega)
 obtain ⟨v1,v2⟩:=Fc (Zc hg)
 exact ⟨hg,v1,by omega⟩
theorem Iw {x:Ld} (L:Lk x) {w:Int} (h:w∈bS x.2.2.2.1):vI x.2.1 w:=by
 have hf:=L.fl
 obtain ⟨v1,v2⟩:=Fc h
 exact ⟨v1,by omega⟩
theorem RT {r:Rg} {x:Ld} (h:fD x=true) (h0:r.2.2.2.1 < 0):BB r x=-1:=by
 unfold BB vt
 rw [if_pos h0]
 refine N6 _ _ fun w hw=>?_
 have:=RH h (Iw (vu h) hw)
 rw [beq_eq_false_iff_ne];omega
theorem Qya {d:Nat} {r:Rg} {x:Ld} {a b lost:List Int} {rows:List (List Pk)} (O:Ro r) (h:fD x=true):wI (d+3) r x a b lost rows=some ((x,(a,b),rows,BB r x,r.2.2.2.2),lost):=by
 have L:=vu h
 have iI:=L.fJ
 have hf:=L.fl
 have hv:=AH (F:=x.2.2.2.1)
 have Ki:=O.lk.fJ
 unfold wI
 by_cases h0:r.2.2.2.1 < 0
 .rw [Z4 (show ¬ r.2.2.2.1>=0 by omega),Q5,RT h h0]
 .obtain ⟨g1,g2⟩:=YM O h0
  have au:=(Z0 g1).1
  rw [Z5 (show r.2.2.2.1>=0 by omega),Q4,show d+3+2=d+4+1 by omega,J_ (by omega) O.lk.fl,Q9,Q4,Qp au,Q4,g1,Q9,Z5 g2.1,Q4,fq g2,Q9,J_ (by omega) hf,Q9]
  have hl:(aX r.1.2.1 ((bS r.1.2.2.2.1).getD r.2.2.2.1.toNat 0)).1=vt r:=by unfold vt;rw [if_neg h0]
  refine (Qc (fun (t:Int) (j:Int)=>(t,j)) (bS x.2.2.2.1) (fun w j t k=>aa ((aX x.2.1 w).1==vt r) (some (((x,(a,b),rows,((j:Nat):Int),r.2.2.2.2):Rg),lost)) (k t)) (fun _=>some (((x,(a,b),rows,(-1),r.2.2.2.2):Rg),lost)) ?_ ?_ (by rw [Q6];omega) 0).trans (RI (J:=fun n=>some (((x,(a,b),rows,n,r.2.2.2.2):Rg),lost)) (bS x.2.2.2.1) 0 0)
  .intro ag t i w hx
   have hi:=(Z0 hx).1
   have hw:=Iw L (Zc hx)
   simp only [gR,bW hx,nn,Q3,hx,Q9,Q4,sS hx]
   rw [Z5 hw.1,Q4,Qp (by have:=hw;unfold vI at this;omega),Q4,fq hw,Q9,aN (by omega),hl]
  .intro ag t;simp only [gR,bB,Q5];rfl
theorem Qaz {d:Nat} {r:Rg} {c:Cf} (hr:sU r=true) (hc:gb c=true):RU (d+17) r c=some (Fg r (bT c)):=by
 have O:=RV hr
 have h:=N5 hc
 have L:=vu h
 have iI:=L.fJ
 have hf:=L.fl
 have hv:=AH (F:=(bT c).2.2.2.1)
 rw [show d+17=d+14+3 by omega,e44,show d+14+2=d+2+14 by omega,YN (q_ hc),Q9,show d+2+14=d+15+1 by omega,Qhq (by omega),Q9,J_ (by omega) hf,Q9]
 rw [nn,Q4,Q4,Q3,show (Nat.ble (bS (bT c).2.2.2.1).length (bS (bT c).2.2.2.1).length&&Nat.ble ((bS (bT c).2.2.2.1).length*24) Q7)=true by rw [Z8,Nat.ble_eq,Nat.ble_eq];unfold Q7;omega,Q4]
 refine (RQ O (by omega)).trans ?_
 unfold Dp
 rw [Q3]
 refine (Qy9 (d:=d+11) O h).trans ?_
 exact Qya (d:=d+11) O h
theorem Qvm {d:Nat} {c:Cf} (hc:gb c=true):RW (d+11) c=some (bT c,BC (bT c),List.replicate (bS (bT c).2.2.2.1).length [],-1,0):=by
 have L:=vu (N5 hc)
 have iI:=L.fJ
 have hf:=L.fl
 have hv:=AH (F:=(bT c).2.2.2.1)
 rw [e80,YO (q_ hc),Q9,show d+10=d+9+1 by omega,Qsv (by omega),Q9,show d+9+1=d+8+2 by omega,Is (by omega) hf,Q9]
 rw [nn,Q4,Q4,Q3,show (Nat.ble (bS (bT c).2.2.2.1).length (bS (bT c).2.2.2.1).length&&Nat.ble ((bS (bT c).2.2.2.1).length*24) Q7)=true by rw [Z8,Nat.ble_eq,Nat.ble_eq];unfold Q7;omega,Q4]
theorem RX {d:Nat} {r z:Rg} {KX:List Int->List Int->Option (Rg×List Int)} (O:Ro r) (hx:z.1.2.1.length<=1000):Q8 (rB d r z KX) Qd (0,(BC z.1).1,(BC z.1).2)=KX (AK r z.1).1 (AK r z.1).2:=by
 have iI:=O.lk.fJ
 refine YK (C:=z.1.2.1) (bu:=fun k=>k.2.2.2.2.1) (cb:=fun k=>k.2.2.2.2.2.1) (f:=fun k=>Dm r.1.2.1 r.2.1.1 k k.2.2.2.2.1) (g:=fun k=>Dm r.1.2.1 r.2.1.2 k k.2.2.2.2.2.1) hx ?_ ?_
 .intro ag i c l m hc hl hm
  have hi:=(Z0 hc).1
  have ia:=(Z0 hl).1
  have N8:=(Z0 hm).1
  simp only [rB,bW hc,nn,Q3,hc,Q9,Q4,sS hc]
  rw [Qz6 (by omega),Q9]
  unfold Dm
  by_cases h:0<=bU r.1.2.1 c.1
  .have au:=BD (l:=r.1.2.1) (id:=c.1)
   have t1:=O.t1
   have t2:=O.t2
   have e1:r.2.1.1[(bU r.1.2.1 c.1).toNat]? = some (r.2.1.1.getD (bU r.1.2.1 c.1).toNat 0):=nh (by omega)
   have e2:r.2.1.2[(bU r.1.2.1 c.1).toNat]? = some (r.2.1.2.getD (bU r.1.2.1 c.1).toNat 0):=nh (by omega)
   rw [Z5 (show bU r.1.2.1 c.1>=0 from h),Q4,e1,e2]
   simp only [nn,Q3,Q4,Q9,Qp ia,Qp N8,hl,hm,Qom,RK]
   rw [aN (by omega),if_pos h,if_pos h]
  .rw [Z4 (show ¬ bU r.1.2.1 c.1>=0 from h),Q5,aN (by omega),if_neg h,if_neg h,Kg hl,Kg hm]
 .intro ag l m;simp only [rB,bB,Q5]
theorem RY {d:Nat} {x1:ByteArray} {x2:List aC} {x3 x4 x5 x6:List Int} {x7:List dU} {x8:List Int} {x9:Int} {q:List Pk} {kx:Int->List Int->List (List Pk)->Option (Rg×List Int)} {t:Ls} {n:Nat} (hq:q.length<=60) (h:gQ (x1,x2,x3,x4,x5,x6,x7,x8,x9) t (n+1)):Q8 (rC (d+4) x1 x9 x2 x3 x4 x5 x6 x7 x8 q kx) Qd (t.1,0,t.2)=kx ((q.length:Nat):Int) (q.foldl (ot (x1,x2,x3,x4,x5,x6,x7,x8,x9)) t).1 (q.foldl (ot (x1,x2,x3,x4,x5,x6,x7,x8,x9)) t).2:=by
 refine N7 (fun (t:Ls) (i:Int)=>(t.1,i,t.2)) (fin:=fun t=>kx ((q.length:Nat):Int) t.1 t.2) (f:=ot (x1,x2,x3,x4,x5,x6,x7,x8,x9)) (Kh (x1,x2,x3,x4,x5,x6,x7,x8,x9)) q (by omega) (fun ag t i p n hp hI=>?_) (fun p _ t n h=>RN h) (fun ag t=>?_) (60*n) t ⟨h.1,by have:=h.2;omega⟩
 .obtain ⟨P,hn⟩:=hI
  have hi:=(Z0 hp).1
  simp only [rC,bW hp,nn,Q3,hp,Q9,Q4]
  rw [YP P.lr,Q9]
  refine (Rv (x:=(x1,x2,x3,x4,x5,x6,x7,x8,x9)) (rows:=t.2) (p:=p) (A:=dJ (d+4) ag t.1 ((i:Nat):Int) p 3 0 t.2) (B:=fun y=>dJ (d+4) ag t.1 ((i:Nat):Int) p 2 y.1 t.2) (C:=fun y rows=>dJ (d+4) ag t.1 ((i:Nat):Int) p 1 y.1 rows) P (fun a y=>?_)).trans ?_
  .have iI:=P.lk.fJ
   refine (Qy7 (d:=d+2) (K:=fun k=>iX (d+4) ag t.1 ((i:Nat):Int) t.2 p y k) a (by omega) P.lk.fl (fun ag k=>?_)).trans ?_
   .simp only [ni]
   .unfold iX Ru;rfl
  .unfold ot Dh dJ
   split
   .rw [show ((3:Int) != 1)=true from rfl,Q4,room (by simp;omega),Q4,aN (by omega)]
   .split
    .rw [show ((2:Int) != 1)=true from rfl,Q4,room (by simp;omega),Q4,aN (by omega)]
    .rw [show ((1:Int) != 1)=false from rfl,Q5,aN (by omega)]
 .simp only [rC,bB,Q5]
theorem Qyb {d:Nat} {r:Rg} {x:Ld} {kx:List Int->List (List Pk)->Option (Rg×List Int)} (O:Ro r) (h:fD x=true):Q8 (rD (d+4) r x.1 x.2.2.2.2.2.2.2.2 x.2.1 x.2.2.1 x.2.2.2.1 x.2.2.2.2.1 x.2.2.2.2.2.1 x.2.2.2.2.2.2.1 x.2.2.2.2.2.2.2.1 kx) Qd ([],0,List.replicate (bS x.2.2.2.1).length [])=kx (AL r x).1 (AL r x).2:=by
 have hb:=RS O
 refine N7 (fun (t:Ls) (i:Int)=>(t.1,i,t.2)) (fin:=fun t=>kx t.1 t.2) (f:=fun t q=>q.foldl (ot x) t) (gQ x) r.2.2.1 (by omega) (fun ag t i q n hq hI=>?_) (fun q hq t n h=>RO (O.rb q hq) h) (fun ag t=>?_) 0 ([],_) (RP h (by omega))
 .have hi:=(Z0 hq).1
  simp only [rD,bW hq,nn,Q3,hq,Q9,Q4]
  refine (RY (O.rb q (Zc hq)) hI).trans ?_
  unfold Dq
  rw [aN (by omega)]
 .simp only [rD,bB,Q5]
theorem Qrw {d:Nat} {r:Rg} (O:Ro r):RZ (d+3) r=some (vt r):=by
 have Ki:=O.lk.fJ
 rw [e82]
 unfold vt
 by_cases h0:r.2.2.2.1 < 0
 .rw [Z5 h0,Q4,if_pos h0]
 .obtain ⟨g1,g2⟩:=YM O h0
  have au:=(Z0 g1).1
  rw [Z4 h0,Q5,Is (by omega) O.lk.fl,Q9,Z5 (show 0<=r.2.2.2.1 by omega),Q4,Qp au,Q4,g1,Q9,Z5 g2.1,Q4,fq g2,Q9,if_neg h0]
theorem Qvn {x:Ld} (h:fD x=true) {n:Int}:(bS x.2.2.2.1).Pairwise (fun a b=>¬ (((aX x.2.1 a).1==n)=true/\((aX x.2.1 b).1==n)=true)):=by
 refine (List.nodup_iff_pairwise_ne.1 Rp).imp_of_mem fun {a b} ha hb aU ⟨e1,e2⟩=>aU ?_
 exact RF h (Iw (vu h) ha) (Iw (vu h) hb) ((beq_iff_eq.1 e1).trans (beq_iff_eq.1 e2).symm)
theorem Qjm {d:Nat} {r:Rg} {c:Cf} (hr:sU r=true) (hc:gb c=true):R0 (d+12) r c=some (Fg r (bT c)):=by
 have O:=RV hr
 have h:=N5 hc
 have L:=vu h
 have iI:=L.fJ
 have hf:=L.fl
 have hv:=AH (F:=(bT c).2.2.2.1)
 rw [show d+12=d+10+2 by omega,e37,show d+10+1=d+11 by omega,Qvm hc,Q9]
 generalize bT c=x at *
 refine (RX (z:=(x,BC x,List.replicate (bS x.2.2.2.1).length [],-1,0)) O (by show x.2.1.length<=1000;omega)).trans ?_
 show wJ (d+10) r (x,BC x,List.replicate (bS x.2.2.2.1).length [],-1,0) (AK r x).1 (AK r x).2=_
 unfold wJ
 simp only []
 rw [show d+10+1=d+9+2 by omega,Is (by omega) hf,Q9]
 refine (Qc (fun (t:Int) (i:Int)=>(i,((x,AK r x,List.replicate (bS x.2.2.2.1).length [],t,r.2.2.2.2):Rg))) (bS x.2.2.2.1) (fun w i t k=>k (if ((aX x.2.1 w).1==vt r)=true then ((i:Nat):Int) else t)) (fun t=>wK (d+10) r x.1 x.2.2.2.2.2.2.2.2 t r.2.2.2.2 x.2.1 x.2.2.1 x.2.2.2.1 x.2.2.2.2.1 x.2.2.2.2.2.1 x.2.2.2.2.2.2.1 x.2.2.2.2.2.2.2.1 (AK r x).1 (AK r x).2 (List.replicate (bS x.2.2.2.1).length [])) ?_ ?_ (by rw [Q6];omega) (-1)).trans ?_
 .intro ag t i w hx
  have hi:=(Z0 hx).1
  have hw:=Iw L (Zc hx)
  simp only [wL,bW hx,nn,Q3,hx,Q9,Q4,sS hx]
  rw [Z5 hw.1,Q4,Qp (by have:=hw;unfold vI at this;omega),Q4,fq hw,Q9,show d+10+1=d+8+3 by omega,Qrw O,Q9,aN (by omega)]
  cases ((aX x.2.1 w).1==vt r)<;>rfl
 .intro ag t;simp only [wL,bB,Q5]
 .rw [wM (f:=fun w i (t:Int)=>if ((aX x.2.1 w).1==vt r)=true then ((i:Nat):Int) else t),YI (p:=fun w=>(aX x.2.1 w).1==vt r) _ _ _ (Qvn h)]
  have Dr:Iu (fe (fun w=>(aX x.2.1 w).1==vt r) (bS x.2.2.2.1) 0) (-1)=BB r x:=by
   show Iu (BB r x) (-1)=BB r x
   unfold Iu
   split
   .rfl
   .rename_i hn
    have:BB r x < 0:=by omega
    unfold BB at this ⊢
    exact (N6 _ _ (Kj.1 this)).symm
  rw [Dr]
  unfold wK
  refine (Qyb (d:=d+6) O h).trans ?_
  rfl
def zR:Rg:=((⟨#[]⟩,[],[],[],[],[],[],[],0),([],[]),[],0,0)
abbrev Rr:=Rg×List Int×Bool
def YQ:Rr:=(zR,[],false)
def Ix (r:Rg) (c:Cf):Rr:=if gb c=true then ((Fg r (bT c)).1,(Fg r (bT c)).2,true) else YQ
def fL (r:Rg) (c:Cf):Rr:=if sU r=true then Ix r c else YQ
theorem Qb0 {d:Nat} {r:Rg} {c:Cf} (h:BE r.1) (hl:c.2.1.length < 4000000) (hf:c.2.2.1.length < 4000000):g12 (d+29) r c=some (fL r c):=by
 rw [e12,Qwf h,Q9]
 unfold fL Ix
 cases hg:sU r with
 | false=>rfl
 | true =>
  rw [Zl,Q5,show d+28=(d+20)+8 by omega,YR hl hf,Q9,if_pos rfl]
  cases hc:gb c with
  | false=>rfl
  | true=>rw [Zl,Q5,show d+20+8=d+11+17 by omega,Qaz hg hc,Q9,if_pos rfl]
theorem Qa8 {d:Nat} {r:Rg} {c:Cf} (h:BE r.1) (hs:c.1.size < 4000000) (hf:c.2.2.1.length < 4000000):g9 (d+14) r c=some (fL r c):=by
 rw [e9,Qsu h,Q9]
 unfold fL Ix
 cases hg:sU r with
 | false=>rfl
 | true =>
  rw [Zl,Q5,show d+13=(d+8)+5 by omega,YS hs hf,Q9,if_pos rfl]
  cases hc:gb c with
  | false=>rfl
  | true=>rw [Zl,Q5,show d+8+5=d+1+12 by omega,Qjm hg hc,Q9,if_pos rfl]
theorem YT {x:Ld}:∀ (l:List (List Pk)) (t:Ls) (n:Nat),(∀ q∈l,q.length<=60)->gQ x t (l.length+n)->gQ x (l.foldl (fun t q=>q.foldl (ot x) t) t) n
 | [],t,n,_,h=>by simpa using h
 | q::l,t,n,hq,h=>by
  rw [show (q::l).length+n=l.length+n+1 by simp;omega] at h
  exact YT l _ n (fun z hz=>hq z (by simp [hz])) (RO (hq q (by simp)) h)
theorem R3 {r:Rg} {x:Ld} (O:Ro r) (h:fD x=true):gQ x (AL r x) 0:=YT r.2.2.1 _ 0 O.rb (RP h (by have:=RS O;omega))
theorem Kk:AI zR:=⟨⟨by show (0:Nat)<=_;omega,Nat.zero_le _,Nat.zero_le _,Nat.zero_le _,Nat.zero_le _,Nat.zero_le _,Nat.zero_le _,Nat.zero_le _⟩,⟨Nat.zero_le _,Nat.zero_le _⟩,Nat.zero_le _,fun q hq=>by simp [zR] at hq⟩
theorem R4 {r:Rg} {c:Cf} (hr:sU r=true) (hs:c.1.size<=1048576) (hc:gb c=true):AI (Fg r (bT c)).1/\(Fg r (bT c)).2.length<=100000:=by
 have O:=RV hr
 have h:=N5 hc
 have L:=vu h
 have iI:=L.fJ
 have hp:=L.pl
 have hf:=L.fl
 have Iy:=(Iv h).f16
 obtain ⟨n1,n2,n3⟩:=Qwi h
 have hv:=AH (F:=(bT c).2.2.2.1)
 obtain ⟨P,hn⟩:=R3 O h
 have jZ:=P.rl
 refine ⟨⟨⟨hs,by show (bT c).2.1.length<=_;omega,by show (bT c).2.2.1.length<=_;omega,by show (bT c).2.2.2.1.length<=_;omega,by show (bT c).2.2.2.2.1.length<=_;omega,by show (bT c).2.2.2.2.2.1.length<=_;omega,by show (bT c).2.2.2.2.2.2.1.length<=_;omega,by show (bT c).2.2.2.2.2.2.2.1.length<=_;omega⟩,⟨?_,?_⟩,?_,fun q hq=>?_⟩,by show (AL r (bT c)).1.length<=_;omega⟩
 .show ((bT c).2.1.map _).length<=_;rw [List.length_map];omega
 .show ((bT c).2.1.map _).length<=_;rw [List.length_map];omega
 .show (AL r (bT c)).2.length<=_;omega
 .obtain ⟨k,hk⟩:=List.getElem?_of_mem (show q∈(AL r (bT c)).2 from hq)
  have au:=(Z0 hk).1
  have hw:=Z6 (l:=bS (bT c).2.2.2.1) (i:=k) (by omega)
  have:=P.lm k _ hw
  rw [Zr,hk] at this
  have Ir:=(Iv h).ai _ (Zc (fq (Iw L (Zc hw))))
  unfold mD at this
  simp only [Option.getD_some] at this
  omega
theorem R5 {r:Rg} {c:Cf} (hr:sU r=true) (hs:c.1.size<=1048576):AI (Ix r c).1/\(Ix r c).2.1.length<=1048576:=by
 unfold Ix
 split
 .rename_i hc;obtain ⟨h1,h2⟩:=R4 hr hs hc;exact ⟨h1,by show (Fg r (bT c)).2.length<=_;omega⟩
 .exact ⟨Kk,Nat.zero_le _⟩
theorem YU {r:Rg} {c:Cf} (hs:c.1.size<=1048576):AI (fL r c).1/\(fL r c).2.1.length<=1048576:=by
 unfold fL
 split
 .rename_i hr;exact R5 hr hs
 .exact ⟨Kk,Nat.zero_le _⟩
theorem AI.en {r:Rg} (h:AI r):wH r<=40000000:=by
 have hf:=h.l.2
 obtain ⟨h1,⟨h2,h3⟩,_,_⟩:=h
 have:=N4 (k:=1) h1
 unfold wH It;omega
abbrev YV:Ty:=.pair (.int .i64) (.pair (.int .i64) (.pair (.int .i64) (.pair (.int .i64) (.pair (.int .i64) (.pair (.int .i64) (.pair (.int .i64) (.int .i64)))))))
abbrev YW:Ty:=.pair (.int .i64) (.pair (.int .i64) (.pair (.int .i64) (.pair (.int .i64) (.int .i64))))
abbrev Kl:Ty:=.pair .str (.pair (.sl YV) (.pair (.sl (.int .i64)) (.pair (.sl (.int .i64)) (.pair (.sl (.int .i64)) (.pair (.sl (.int .i64)) (.pair (.sl YW) (.pair (.sl (.int .i64)) (.int .i64))))))))
abbrev YX:Ty:=.pair (.sl (.int .i64)) (.sl (.int .i64))
theorem Qyd {x:Ld} (h:Wf Kl x):R6 x:=by
 obtain ⟨h1,⟨h2,_⟩,⟨h3,_⟩,⟨h4,_⟩,⟨h5,_⟩,⟨h6,_⟩,⟨h7,_⟩,⟨h8,_⟩,_⟩:=h
 exact ⟨h1,h2,h3,h4,h5,h6,h7,h8⟩
def tkW (t:Tk):Prop:=t.1.length<=9223372036854775807/\t.2.length<=9223372036854775807
theorem Qye {t:Tk} (h:Wf YX t):tkW t:=by
 obtain ⟨⟨h2,_⟩,⟨h3,_⟩⟩:=h
 exact ⟨h2,h3⟩
abbrev R7:Ty:=.pair (.int .i64) (.pair (.int .i64) (.pair (.int .i64) (.pair (.int .i64) (.pair (.int .i64) (.int .i64)))))
abbrev Km:Ty:=.pair Kl (.pair YX (.pair (.sl (.sl R7)) (.pair (.int .i64) (.int .i64))))
theorem Qyf {r:Rg} (h:Wf Km r):R8 r:=by
 obtain ⟨h1,h2,⟨h3,h4⟩,_⟩:=h
 exact ⟨Qyd h1,Qye h2,h3,fun q hq=>(h4 q hq).1⟩
abbrev Ko:Ty:=.pair .str (.pair (.sl YV) (.pair (.sl YW) (.int .i64)))
theorem Qyg {x:Cf} (h:Wf Ko x):R9 x:=by
 obtain ⟨h1,⟨h2,_⟩,⟨h3,_⟩,_⟩:=h
 exact ⟨h1,h2,h3⟩
theorem Qrx {d:Nat} {r:Rg} {c:Cf} (hw:R8 r) (hc:R9 c):g3 (d+32) r c=some true:=by
 rw [show d+32=(d+29)+3 by omega,e3]
 obtain ⟨z,hz,hB⟩:=Qwc (d:=d+28) hw
 rw [show d+29+2=d+28+3 by omega,hz,Q9]
 by_cases h:z < 0
 .rw [Z5 h,Q4]
 obtain ⟨y0,y1,hl,cF⟩:=hB.resolve_left h
 rw [Z4 h,Q5]
 obtain ⟨z',aW,gC⟩:=Qn0 (d:=d+29) (n:=z) y0 y1 hc
 rw [show d+28+3=d+29+2 by omega,aW,Q9]
 by_cases h':z' < 0
 .rw [Z5 h',Q4]
 have eT:N9 c:=(gC.resolve_left h').2.2
 obtain ⟨c1,c2,c3⟩:=id eT
 rw [Z4 h',Q5,show d+29+2=d+28+3 by omega]
 have hC:g11 (d+28+3) c=some c:=Qn1 eT
 have hD:g15 (d+28+3) c c=some true:=Qmt (by omega) (by omega)
 obtain ⟨l1,l2,l3,l4⟩:=id hl
 obtain ⟨z1,z2,z3,z4,z5,z6,z7,z8⟩:=id l1
 have hV:AI (fL r c).1:=(YU c1).1
 obtain ⟨YY,hV2⟩:=hV.l
 have hen:=hV.en
 obtain ⟨v1,v2,v3,v4⟩:=id YY
 obtain ⟨u1,u2,u3,u4,u5,u6,u7,u8⟩:=id v1
 have hT:g10 (d+28+3) r=some r:=by rw [show d+28+3=d+27+4 by omega];exact Qwd hl
 have hE:g13 (d+28+3) r r=some true:=by rw [show d+28+3=d+27+4 by omega];exact YZ hl
 have hA:g12 (d+28+3) r c=some (fL r c):=by rw [show d+28+3=d+2+29 by omega];exact Qb0 l1.sz (by omega) (by omega)
 have hS:g9 (d+28+3) r c=some (fL r c):=by rw [show d+28+3=d+17+14 by omega];exact Qa8 l1.sz (by omega) (by omega)
 have hQ:g13 (d+28+3) (fL r c).1 (fL r c).1=some true:=by rw [show d+28+3=d+27+4 by omega];exact YZ YY
 have hH:g19 (d+28+3) (Kb (fL r c).1) ((1:Nat):Int)=some ((wH (fL r c).1:Nat):Int):=Qoh hV
 have hI:(fL r c).2.1.length<=1048576:=(YU c1).2
 have hJ:g14 (d+28+3) (fL r c).2.1 (fL r c).2.1=some true:=by rw [show d+28+3=d+30+1 by omega];exact Ds (by omega)
 have hM:g18 (d+28+3) (fL r c).2.1 ((wH (fL r c).1:Nat):Int)=some (((wH (fL r c).1+(fL r c).2.1.length:Nat):Int),jL (wH (fL r c).1) (fL r c).2.1.length):=by rw [show d+28+3=d+30+1 by omega];exact oR hI (by omega)
 have hG:g20 (d+28+3) (jL (wH (fL r c).1) (fL r c).2.1.length) ((wH (fL r c).1:Nat):Int)=some ((wH (fL r c).1+(fL r c).2.1.length:Nat):Int):=by rw [show d+28+3=d+30+1 by omega];exact Dt hI (by omega)
 rw [hT,Q9,hC,Q9,hS,Q9,Q9,Q9,hA,Q9,hQ,Q9,Zl,Q5,hJ,Q9,Zl,Q5,beq_self_eq_true,Zl]
 unfold BF
 rw [Q5,show d+29+2=d+28+3 by omega,hT,Q9,hE,Q9,Zl,Q5,hC,Q9,hD,Q9,Zl,Q5]
 rw [show d+29=d+28+1 by omega,show (1:Int)=((1:Nat):Int) from rfl,R_ z2 (by omega),Q9];simp only [];rw [oR z3 (by omega),Q9];simp only [];rw [oR z4 (by omega),Q9];simp only [];rw [oR z5 (by omega),Q9];simp only [];rw [oR z6 (by omega),Q9];simp only [];rw [Sa z7 (by omega),Q9];simp only [];rw [oR z8 (by omega),Q9];simp only [];rw [oR l2 (by omega),Q9];simp only [];rw [oR l3 (by omega),Q9];simp only []
 have hL:=N4 (k:=1) l1
 unfold Bw at hL
 refine (YD (fun ag n i rs=>rfl) l4 cF (by omega)).trans ?_
 unfold iY
 rw [show d+28+1+1=d+29+1 by omega,R_ c2 (by omega),Q9]
 simp only []
 rw [Sa c3 (by omega),Q9]
 simp only []
 rw [Z4 (by omega),Q5,show d+28+1+2=d+28+3 by omega,hQ,Q9,Zl,Q5,hJ,Q9,Zl,Q5,beq_self_eq_true,Zl]
 unfold wN
 rw [Q5]
 rw [show d+29=d+28+1 by omega,show (1:Int)=((1:Nat):Int) from rfl,R_ u2 (by omega),Q9];simp only [];rw [oR u3 (by omega),Q9];simp only [];rw [oR u4 (by omega),Q9];simp only [];rw [oR u5 (by omega),Q9];simp only [];rw [oR u6 (by omega),Q9];simp only [];rw [Sa u7 (by omega),Q9];simp only [];rw [oR u8 (by omega),Q9];simp only [];rw [oR v2 (by omega),Q9];simp only [];rw [oR v3 (by omega),Q9];simp only []
 have hL2:=N4 (k:=1) v1
 unfold Bw at hL2
 refine (YD (fun ag n i rs=>rfl) v4 (by omega) (by omega)).trans ?_
 unfold iZ
 rw [show d+28+1+2=d+28+3 by omega,show (1:Int)=((1:Nat):Int) from rfl]
 show Q1 (g18 (d+28+3) (fL r c).2.1 ((wH (fL r c).1:Nat):Int)) _=_
 rw [hM,Q9]
 simp only []
 show Q1 (g19 (d+28+3) (Kb (fL r c).1) ((1:Nat):Int)) _=_
 rw [hH,Q9,Z4 (by omega),Q5,hG,Q9,Z4 (by omega),Q5]
 rw [bne_self_eq_false,Q5,hT,Q9,hC,Q9,hA,Q9,hQ,Q9,Zl,Q5,hJ,Q9,Zl,Q5,beq_self_eq_true,Zl]
 unfold BG
 rw [Q5]
 show Q1 (g19 (d+28+3) (Kb (fL r c).1) ((1:Nat):Int)) _=_
 rw [hH,Q9,Z4 (by omega),Q5,hG,Q9,Z4 (by omega),Q5]
 rw [bne_self_eq_false,Q5]
def tysLaw:List Ty:=[Km,Ko]
theorem lawAny:Y3 Tryz.prog Qb (32) 3 tysLaw :=
 ⟨rfl,rfl,rfl,fun a h=>by
  obtain ⟨r,c⟩:=a
  exact ⟨true,Qrx (d:=0) (Qyf (h ⟨_,r⟩ (List.Mem.head _))) (Qyg (h ⟨_,c⟩ (List.Mem.tail _ (List.Mem.head _)))),rfl⟩⟩
end Go.Proofs.YtcoimfbmgjhcjaaGreatDoor
