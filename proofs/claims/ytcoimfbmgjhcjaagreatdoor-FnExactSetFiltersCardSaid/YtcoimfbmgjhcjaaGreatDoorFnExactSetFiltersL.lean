/-
  Configurations by value. And what stood behind it in 3 texts.
  Conditions: said at the theorems.
-/
import Derived.Test.YtcoimfbmgjhcjaaGreatDoorK22
import Derived.Test.YtcoimfbmgjhcjaaGreatDoorRepW
set_option linter.all false
namespace Go.Proofs.YtcoimfbmgjhcjaaGreatDoor
open Go.Ev Go.Pv
theorem Qrx {c:Cf} (G:Gd c):((bS c).2.1.map (·.1)).Nodup:=by
 have T:=G.tr
 show (((aG c.2.1).map (aX c.2.1)).map (·.1)).Nodup
 rw [List.map_map,List.nodup_iff_pairwise_ne,List.pairwise_map]
 exact (List.nodup_iff_pairwise_ne.1 (qZ T)).imp_of_mem fun ha hb aU e=>aU (T.inj _ _ ((jz T).1 ha) ((jz T).1 hb) e)
theorem Yv {l:List aC} (h:(l.map (·.1)).Nodup):l.Nodup:=by
 rw [List.nodup_iff_pairwise_ne,List.pairwise_map] at h
 exact List.nodup_iff_pairwise_ne.2 (h.imp fun h e=>h (by rw [e]))
theorem Rs {c:Cf} (h:gb c=true):q_ c.2.1=true:=by
 have hc:=(ri h).cl
 unfold kE at hc
 simp only [Z8] at hc
 exact hc.2.1
theorem Rt {c:Cf} (h:gb c=true):(bS c).2.1.Perm c.2.1:=by
 have G:=ri h
 refine (List.perm_ext_iff_of_nodup (Yv (Qrx G)) (Yv (Ru (Rs h)))).2 fun a=>?_
 show a∈(aG c.2.1).map (aX c.2.1)↔_
 rw [List.mem_map]
 constructor
 .rintro ⟨i,hi,rfl⟩
  exact Zc (fy ((jz G.tr).1 hi))
 .intro ha
  obtain ⟨k,hk⟩:=List.getElem?_of_mem ha
  exact ⟨(k:Int),(jz G.tr).2 (Dg hk),kK hk⟩
theorem Rv {c:Cf} (h:gb c=true):eL (bS c)=c:=by
 have G:=ri h
 have h1:Dh (bS c).2.1=c.2.1:=by
  refine (List.Perm.eq_of_pairwise (le:=fun a b=>cu a<=cu b) (fun a b ha hb h1 h2=>?_) ?_ Yw ((Rt h).symm.trans AF.symm)).symm
  .unfold cu at h1 h2
   exact Yx (Ru (Rs h)) ha ((Rt h).mem_iff.1 (AF.mem_iff.1 hb)) (by omega)
  .rw [List.pairwise_iff_getElem]
   intro i j hi hj ng
   have:=Kb (Rs h) j i _ _ ng (Z6 hi) (Z6 hj)
   unfold cu;omega
 have h2:Bx (bS c)=c.2.2.2:=by
  show (if 0<=vp c/\vp c < (((bS c).2.1.length:Nat):Int) then (aX (bS c).2.1 (vp c)).1 else 0)=_
  unfold vp
  by_cases h0:c.2.2.2=0
  .rw [if_pos h0,if_neg (by omega),h0]
  .rw [if_neg h0]
   obtain ⟨t1,_⟩:=G.Kc h0
   obtain ⟨k,k1,k2⟩:=By G.tr t1
   have k3:(bS c).2.1[k]? = some (aX c.2.1 (bU c.2.1 c.2.2.2)):=by
    show ((aG c.2.1).map (aX c.2.1))[k]? = _
    rw [List.getElem?_map,k1];rfl
   have k4:=(Z0 k3).1
   rw [k2,if_pos ⟨by omega,by omega⟩,kK k3]
   obtain ⟨_,x,e1,e2,e3⟩:=Bz t1.1
   rw [e1,kK e2,e3]
 show (c.1,Dh (bS c).2.1,c.2.2.1,Bx (bS c))=c
 rw [h1,h2]
theorem N5 {c:Cf} (h:gb c=true):eR (bS c)=true:=by
 have G:=ri h
 unfold eR Di
 rw [Rv h,h]
 have h1:=(Rt h).length_eq
 have h2:=G.tr.fF
 have h3:=G.f16
 have h4:(bS c).2.2.2.2.2.2.1.length<=16:=h3
 simp only [decide_true,beq_self_eq_true,Bool.and_true,Zg,Zj]
 exact ⟨by omega,h4⟩
theorem Rw {x:Ld} (h:eR x=true) {i j:Int} (hi:vI x.2.1 i) (hj:vI x.2.1 j) (e:(aX x.2.1 i).1=(aX x.2.1 j).1):i=j:=by
 have hd:=Rx (N6 h) AF
 obtain ⟨i1,i2⟩:=Z0 (fy hi)
 obtain ⟨j1,j2⟩:=Z0 (fy hj)
 have:=(List.getElem_inj (h₀:=show i.toNat < (x.2.1.map (·.1)).length by simpa using i1) (h₁:=show j.toNat < (x.2.1.map (·.1)).length by simpa using j1) hd).1 (by simp [i2,j2,e])
 have h0:=hi.1
 have h1:=hj.1
 omega
theorem Ry {x:Ld} (h:eR x=true) {i:Int} (hi:vI x.2.1 i):1<=(aX x.2.1 i).1:=by
 have hm:aX x.2.1 i∈(eL x).2.1:=AF.mem_iff.2 (Zc (fy hi))
 obtain ⟨k,hk⟩:=List.getElem?_of_mem hm
 have:=(ri (N6 h)).tr.pos _ (Dg hk)
 rw [kK hk] at this;exact this
theorem N7 {α:Type} {p:α->Bool}:∀ (l:List α) (i:Nat),(∀ x∈l,p x=false)->fh p l i=-1
 | [],i,_=>rfl
 | x::r,i,h=>by
  unfold fh
  rw [if_neg (by rw [h x (by simp)];simp)]
  exact N7 r (i+1) fun y hy=>h y (by simp [hy])
def Iu (n t:Int):Int:=if 0<=n then n else t
theorem Yy {p:Int->Bool}:∀ (l:List Int) (i:Nat) (t:Int),l.Pairwise (fun a b=>¬ (p a=true/\p b=true))->cD (fun w k (t:Int)=>if p w=true then ((k:Nat):Int) else t) l i t=Iu (fh p l i) t
 | [],i,t,_=>by simp [cD,fh,Iu]
 | x::r,i,t,h=>by
  obtain ⟨h1,h2⟩:=List.pairwise_cons.1 h
  simp only [cD]
  rw [Yy r (i+1) _ h2]
  by_cases hx:p x=true
  .have hn:fh p r (i+1)=-1:=N7 r _ fun y hy=>by
    have:=h1 y hy
    simpa [hx] using this
   have he:fh p (x::r) i=(i:Int):=if_pos hx
   rw [hn,if_pos hx,he]
   unfold Iu
   rw [if_neg (by omega),if_pos (by omega)]
  .have he:fh p (x::r) i=fh p r (i+1):=if_neg hx
   rw [if_neg hx,he]
theorem Rz {α τ β:Type} {p:α->Bool} {J:Int->Option β}:∀ (l:List α) (i:Nat) (t:τ),d_ (fun x i t k=>aa (p x) (J ((i:Nat):Int)) (k t)) (fun _=>J (-1)) l i t=J (fh p l i)
 | [],i,t=>rfl
 | x::r,i,t=>by
  simp only [d_,fh]
  by_cases h:p x=true
  .rw [if_pos h,h,Q4]
  .rw [if_neg h,show p x=false by simpa using h,Q5];exact Rz r (i+1) t
theorem N8 {α τ σ β:Type} (mk:τ->Int->σ) {F:(σ->Option β)->σ->Option β} {fin:τ->Option β} {f:τ->α->τ} (I:τ->Nat->Prop) (l:List α) (hl:l.length < 4000000)
  (hs:∀ ag t (i:Nat) x n,l[i]? = some x->I t (n+1)->F ag (mk t ((i:Nat):Int))=ag (mk (f t x) ((i+1:Nat):Int)))
  (hi:∀ x∈l,∀ t n,I t (n+1)->I (f t x) n) (he:∀ ag t,F ag (mk t ((l.length:Nat):Int))=fin t) (m:Nat) (t:τ) (h:I t (l.length+m)):Q8 F Qd (mk t 0)=fin (l.foldl f t):=by
 have key:∀ (r p:List α) (fuel:Nat) (t:τ),l=p++r->r.length < fuel->I t (r.length+m)->Q8 F fuel (mk t ((p.length:Nat):Int))=fin (r.foldl f t):=by
  intro r
  induction r with
  | nil =>
   intro p fuel t e h _
   obtain ⟨n,rfl⟩:∃ n,fuel=n+1:=⟨fuel - 1,by omega⟩
   rw [List.append_nil] at e
   subst e
   exact he _ _
  | cons x r ih =>
   intro p fuel t e h hI
   obtain ⟨n,rfl⟩:∃ n,fuel=n+1:=⟨fuel - 1,by omega⟩
   simp only [Z9] at h
   rw [show (x::r).length+m=r.length+m+1 by simp;omega] at hI
   have:=ih (p++[x]) n (f t x) (by rw [e];simp) (by omega) (hi x (by rw [e];simp) t _ hI)
   rw [Zf] at this
   simp only [Q8,List.foldl_cons]
   rw [hs _ t p.length x _ (by rw [e];simp) hI]
   exact this
 exact key l [] Qd t rfl (by rw [Q6];omega) h
theorem Yz {α τ:Type} {f:τ->α->τ} (I:τ->Nat->Prop):∀ (l:List α) (t:τ) (m:Nat),I t (l.length+m)->(∀ x∈l,∀ t n,I t (n+1)->I (f t x) n)->I (l.foldl f t) m
 | [],t,m,h,_=>by simpa using h
 | x::r,t,m,h,hi=>by
  rw [show (x::r).length+m=r.length+m+1 by simp;omega] at h
  exact Yz I r (f t x) m (hi x (by simp) t _ h) (fun y hy=>hi y (by simp [hy]))
theorem Ke {α:Type} {l:List α} {i:Nat} {v:α} (h:l[i]? = some v):l.set i v=l:=by
 obtain ⟨h1,h2⟩:=Z0 h
 rw [<- h2,List.set_getElem_self]
theorem YA {β:Type} {F:((Int×List Int×List Int)->Option β)->(Int×List Int×List Int)->Option β} {KX:List Int->List Int->Option β} {C:List aC} {bu cb f g:aC->Int} (hC:C.length<=1000)
  (hF:∀ ag (i:Nat) c l m,C[i]? = some c->l[i]? = some (bu c)->m[i]? = some (cb c)->F ag ((i:Int),l,m)=ag (((i+1:Nat):Int),l.set i (f c),m.set i (g c)))
  (hE:∀ ag l m,F ag (((C.length:Nat):Int),l,m)=KX l m):Q8 F Qd (0,C.map bu,C.map cb)=KX (C.map f) (C.map g):=by
 have key:∀ (r p:List aC) (fuel:Nat),C=p++r->r.length < fuel->Q8 F fuel (((p.length:Nat):Int),p.map f++r.map bu,p.map g++r.map cb)=KX (C.map f) (C.map g):=by
  intro r
  induction r with
  | nil =>
   intro p fuel e h
   obtain ⟨n,rfl⟩:∃ n,fuel=n+1:=⟨fuel - 1,by omega⟩
   rw [List.append_nil] at e
   subst e
   simp only [Q8,List.map_nil,List.append_nil]
   exact hE _ _ _
  | cons c r ih =>
   intro p fuel e h
   obtain ⟨n,rfl⟩:∃ n,fuel=n+1:=⟨fuel - 1,by omega⟩
   simp only [Z9] at h
   simp only [Q8,List.map_cons]
   rw [hF _ p.length c _ _ (by rw [e];simp) (by simp) (by simp)]
   have:=ih (p++[c]) n (by rw [e];simp) (by omega)
   rw [Zf,List.map_append,List.map_append,List.append_assoc,List.append_assoc] at this
   simp only [Z9,Zb,List.map_cons,List.map_nil,List.singleton_append] at this
   have e1:=Fg (p:=p.map f) (r:=r.map bu) (x:=bu c) (y:=f c)
   have e2:=Fg (p:=p.map g) (r:=r.map cb) (x:=cb c) (y:=g c)
   rw [List.length_map] at e1 e2
   rw [e1,e2]
   exact this
 exact key C [] Qd rfl (by rw [Q6];omega)
def RA (b n:Int):Int:=if b < n then b else n
theorem RB {b n:Int}:min n b=RA b n:=by unfold RA;rw [Int.min_def];split<;>split<;>omega
def Dj (old:List aC) (ts:List Int) (k:aC) (b:Int):Int:=if 0<=bU old k.1 then RA b (ts.getD (bU old k.1).toNat 0) else b
def AG (r:Rg) (x:Ld):Tk:=(x.2.1.map fun k=>Dj r.1.2.1 r.2.1.1 k k.2.2.2.2.1,x.2.1.map fun k=>Dj r.1.2.1 r.2.1.2 k k.2.2.2.2.2.1)
abbrev Ls:=List Int×List (List Pk)
def ot (x:Ld) (t:Ls) (p:Pk):Ls:=Dk x t.2 p (t.1++[p.1],t.2) (fun _=>(t.1++[p.1],t.2)) (fun _=>(t.1,Iv x t.2 p))
def AH (r:Rg) (x:Ld):Ls:=r.2.2.1.foldl (fun t q=>q.foldl (ot x) t) ([],List.replicate (bT x.2.2.2.1).length [])
def vq (r:Rg):Int:=if r.2.2.2.1 < 0 then 0 else (aX r.1.2.1 ((bT r.1.2.2.2.1).getD r.2.2.2.1.toNat 0)).1
def BA (r:Rg) (x:Ld):Int:=fh (fun w=>(aX x.2.1 w).1==vq r) (bT x.2.2.2.1) 0
def Fh (r:Rg) (x:Ld):Rg×List Int:=((x,AG r x,(AH r x).2,BA r x,r.2.2.2.2),(AH r x).1)
def Kg (x:Ld) (t:Ls) (n:Nat):Prop:=Pu x t.2/\t.1.length+n<=100000
def gQ (x:Ld) (t:Ls) (n:Nat):Prop:=Pu x t.2/\t.1.length+60*n<=100000
theorem RC {x:Ld} {rows:List (List Pk)} {p:Pk} (P:Pu x rows) (h:¬ cC x p < 0) (hn:¬ (((rj x rows p).length:Nat):Int)=mD x (cC x p)):Pu x (Iv x rows p):=by
 have a:=RD P h
 have hl:=a.ai
 refine ⟨P.lk,P.lr,P.lf,by unfold Iv;rw [List.length_set];exact P.rl,fun k w hw=>?_⟩
 have:=P.lm k w hw
 unfold Iv
 rw [Zr,List.getElem?_set]
 split
 .rename_i e
  rw [<- e,a.get] at hw
  injection hw with hw
  rw [if_pos a.lt]
  simp only [Option.getD_some,Zf,Z9,Zb]
  rw [<- hw];omega
 .rw [<- Zr];exact this
theorem RE {x:Ld} {t:Ls} {p:Pk} {n:Nat} (h:Kg x t (n+1)):Kg x (ot x t p) n:=by
 obtain ⟨P,hn⟩:=h
 unfold ot Dk
 split
 .exact ⟨P,by simp;omega⟩
 .split
  .exact ⟨P,by simp;omega⟩
  .rename_i h1 h2
   exact ⟨RC P h1 h2,by simp only;omega⟩
theorem RF {x:Ld} {t:Ls} {q:List Pk} {n:Nat} (hq:q.length<=60) (h:gQ x t (n+1)):gQ x (q.foldl (ot x) t) n:=by
 have:=Yz (f:=ot x) (Kg x) q t (60*n) ⟨h.1,by have:=h.2;omega⟩ (fun p _ t n h=>RE h)
 exact ⟨this.1,this.2⟩
theorem Qy8 {x:Ld} (h:eR x=true):Pu x (List.replicate (bT x.2.2.2.1).length []):=by
 have L:=vr h
 have R:=Iw h
 refine ⟨L,R,fun p=>RG h p,by rw [List.length_replicate],fun k w hw=>?_⟩
 have hk:=(Z0 hw).1
 rw [Zr,List.getElem?_replicate,if_pos hk]
 have hm:=Zc hw
 obtain ⟨v1,v2⟩:=Fi hm
 have hf:=L.fl
 exact R.l0 _ (Zc (fy ⟨v1,by omega⟩))
theorem RH {x:Ld} (h:eR x=true) {n:Nat} (hn:n<=1000):gQ x ([],List.replicate (bT x.2.2.2.1).length []) n:=⟨Qy8 h,by simp;omega⟩
theorem RI {d:Nat} {r:Rg} {x:Ld} {KX:List Int->List Int->Option (Rg×List Int)} (O:Ro r) (hx:x.2.1.length<=1000):Q8 (rm d r x KX) Qd (0,(BB x).1,(BB x).2)=KX (AG r x).1 (AG r x).2:=by
 have iy:=O.lk.fF
 refine YA (C:=x.2.1) (bu:=fun k=>k.2.2.2.2.1) (cb:=fun k=>k.2.2.2.2.2.1) (f:=fun k=>Dj r.1.2.1 r.2.1.1 k k.2.2.2.2.1) (g:=fun k=>Dj r.1.2.1 r.2.1.2 k k.2.2.2.2.2.1) hx ?_ ?_
 .intro ag i c l m hc hl hm
  have hi:=(Z0 hc).1
  have ia:=(Z0 hl).1
  have N9:=(Z0 hm).1
  simp only [rm,bW hc,nn,Q3,hc,Q9,Q4,sS hc]
  refine (Qb (fun (t:Int) (j:Int)=>(t,j)) r.1.2.1 (fun y j t k=>aa (y.1==c.1) (dI d r ag ((i:Nat):Int) l m c ((j:Nat):Int)) (k t)) (fun _=>dI d r ag ((i:Nat):Int) l m c (-1)) ?_ ?_ (by rw [Q6];omega) 0).trans ((Rz (J:=fun n=>dI d r ag ((i:Nat):Int) l m c n) r.1.2.1 0 0).trans ?_)
  .intro ag t i x hx;have hi:=(Z0 hx).1;simp only [iW,bW hx,nn,Q3,hx,Q9,Q4];rw [aN (by omega)]
  .intro ag t;simp only [iW,bB,Q5];rfl
  .show dI d r ag ((i:Nat):Int) l m c (bU r.1.2.1 c.1)=_
   unfold dI Dj
   by_cases h:0<=bU r.1.2.1 c.1
   .have au:=BC (l:=r.1.2.1) (id:=c.1)
    have t1:=O.t1
    have t2:=O.t2
    have e1:r.2.1.1[(bU r.1.2.1 c.1).toNat]? = some (r.2.1.1.getD (bU r.1.2.1 c.1).toNat 0):=nh (by omega)
    have e2:r.2.1.2[(bU r.1.2.1 c.1).toNat]? = some (r.2.1.2.getD (bU r.1.2.1 c.1).toNat 0):=nh (by omega)
    rw [Z5 (show bU r.1.2.1 c.1>=0 from h),Q4,e1,e2]
    simp only [nn,Q3,Q4,Q9,Qp ia,Qp N9,hl,hm]
    rw [aN (by omega),if_pos h,if_pos h]
    rfl
   .rw [Z4 (show ¬ bU r.1.2.1 c.1>=0 from h),Q5,aN (by omega),if_neg h,if_neg h,Ke hl,Ke hm]
 .intro ag l m;simp only [rm,bB,Q5]
theorem RJ {d:Nat} {x:Ld} {q:List Pk} {kx:Int->List Int->List (List Pk)->Option (Rg×List Int)} {t:Ls} {n:Nat} (hq:q.length<=60) (h:gQ x t (n+1)):Q8 (ru (d+3) x q kx) Qd (t.1,0,t.2)=kx ((q.length:Nat):Int) (q.foldl (ot x) t).1 (q.foldl (ot x) t).2:=by
 refine N8 (fun (t:Ls) (i:Int)=>(t.1,i,t.2)) (fin:=fun t=>kx ((q.length:Nat):Int) t.1 t.2) (f:=ot x) (Kg x) q (by omega) (fun ag t i p n hp hI=>?_) (fun p _ t n h=>RE h) (fun ag t=>?_) (60*n) t ⟨h.1,by have:=h.2;omega⟩
 .obtain ⟨P,hn⟩:=hI
  have hi:=(Z0 hp).1
  simp only [ru,bW hp,nn,Q3,hp,Q9,Q4]
  rw [show d+3+1=d+4 by omega,YB P.lr,Q9]
  refine (RK (d:=d+3) (x:=x) (rows:=t.2) (p:=p) (A:=dJ (d+3) ag t.1 ((i:Nat):Int) p 3 0 t.2) (B:=fun y=>dJ (d+3) ag t.1 ((i:Nat):Int) p 2 y.1 t.2) (C:=fun y rows=>dJ (d+3) ag t.1 ((i:Nat):Int) p 1 y.1 rows) P).trans ?_
  unfold ot Dk dJ
  split
  .rw [show ((3:Int) != 1)=true from rfl,Q4,room (by simp;omega),Q4,aN (by omega)]
  .split
   .rw [show ((2:Int) != 1)=true from rfl,Q4,room (by simp;omega),Q4,aN (by omega)]
   .rw [show ((1:Int) != 1)=false from rfl,Q5,aN (by omega)]
 .simp only [ru,bB,Q5]
theorem Qy9 {d:Nat} {r:Rg} {x:Ld} {kx:List Int->List (List Pk)->Option (Rg×List Int)} (O:Ro r) (h:eR x=true):Q8 (rz (d+3) r x kx) Qd ([],0,List.replicate (bT x.2.2.2.1).length [])=kx (AH r x).1 (AH r x).2:=by
 have hb:=RM O
 refine N8 (fun (t:Ls) (i:Int)=>(t.1,i,t.2)) (fin:=fun t=>kx t.1 t.2) (f:=fun t q=>q.foldl (ot x) t) (gQ x) r.2.2.1 (by omega) (fun ag t i q n hq hI=>?_) (fun q hq t n h=>RF (O.rb q hq) h) (fun ag t=>?_) 0 ([],_) (RH h (by omega))
 .have hi:=(Z0 hq).1
  simp only [rz,bW hq,nn,Q3,hq,Q9,Q4]
  refine (RJ (O.rb q (Zc hq)) hI).trans ?_
  unfold Dl
  rw [aN (by omega)]
 .simp only [rz,bB,Q5]
theorem YC {r:Rg} (O:Ro r) (h:¬ r.2.2.2.1 < 0):(bT r.1.2.2.2.1)[r.2.2.2.1.toNat]? = some ((bT r.1.2.2.2.1).getD r.2.2.2.1.toNat 0)/\vI r.1.2.1 ((bT r.1.2.2.2.1).getD r.2.2.2.1.toNat 0):=by
 have la:=O.la
 have hf:=O.lk.fl
 have hg:=nh (l:=bT r.1.2.2.2.1) (i:=r.2.2.2.1.toNat) (z:=0) (by omega)
 obtain ⟨v1,v2⟩:=Fi (Zc hg)
 exact ⟨hg,v1,by omega⟩
theorem Ix {x:Ld} (L:Lk x) {w:Int} (h:w∈bT x.2.2.2.1):vI x.2.1 w:=by
 have hf:=L.fl
 obtain ⟨v1,v2⟩:=Fi h
 exact ⟨v1,by omega⟩
theorem RN {r:Rg} {x:Ld} (h:eR x=true) (h0:r.2.2.2.1 < 0):BA r x=-1:=by
 unfold BA vq
 rw [if_pos h0]
 refine N7 _ _ fun w hw=>?_
 have:=Ry h (Ix (vr h) hw)
 rw [beq_eq_false_iff_ne];omega
theorem Qya {d:Nat} {r:Rg} {x:Ld} {a b lost:List Int} {rows:List (List Pk)} (O:Ro r) (h:eR x=true):wu (d+3) r x a b lost rows=some ((x,(a,b),rows,BA r x,r.2.2.2.2),lost):=by
 have L:=vr h
 have iy:=L.fF
 have hf:=L.fl
 have hv:=AI (F:=x.2.2.2.1)
 have Kh:=O.lk.fF
 unfold wu
 by_cases h0:r.2.2.2.1 < 0
 .rw [Z4 (show ¬ r.2.2.2.1>=0 by omega),Q5,RN h h0]
 .obtain ⟨g1,g2⟩:=YC O h0
  have au:=(Z0 g1).1
  rw [Z5 (show r.2.2.2.1>=0 by omega),Q4,show d+3+2=d+4+1 by omega,Ki (by omega) O.lk.fl,Q9,Q4,Qp au,Q4,g1,Q9,Z5 g2.1,Q4,fy g2,Q9,Ki (by omega) hf,Q9]
  have hl:(aX r.1.2.1 ((bT r.1.2.2.2.1).getD r.2.2.2.1.toNat 0)).1=vq r:=by unfold vq;rw [if_neg h0]
  refine (Qb (fun (t:Int) (j:Int)=>(t,j)) (bT x.2.2.2.1) (fun w j t k=>aa ((aX x.2.1 w).1==vq r) (some (((x,(a,b),rows,((j:Nat):Int),r.2.2.2.2):Rg),lost)) (k t)) (fun _=>some (((x,(a,b),rows,(-1),r.2.2.2.2):Rg),lost)) ?_ ?_ (by rw [Q6];omega) 0).trans (Rz (J:=fun n=>some (((x,(a,b),rows,n,r.2.2.2.2):Rg),lost)) (bT x.2.2.2.1) 0 0)
  .intro ag t i w hx
   have hi:=(Z0 hx).1
   have hw:=Ix L (Zc hx)
   simp only [gR,bW hx,nn,Q3,hx,Q9,Q4,sS hx]
   rw [Z5 hw.1,Q4,Qp (by have:=hw;unfold vI at this;omega),Q4,fy hw,Q9,aN (by omega),hl]
  .intro ag t;simp only [gR,bB,Q5];rfl
theorem Qay {d:Nat} {r:Rg} {c:Cf} (hr:mE r=true) (hc:gb c=true):RO (d+17) r c=some (Fh r (bS c)):=by
 have O:=N_ hr
 have h:=N5 hc
 have L:=vr h
 have iy:=L.fF
 have hf:=L.fl
 have hv:=AI (F:=(bS c).2.2.2.1)
 rw [show d+17=d+14+3 by omega,e44,show d+14+2=d+2+14 by omega,YD (ri hc),Q9,show d+2+14=d+15+1 by omega,Qhn (by omega),Q9,Ki (by omega) hf,Q9]
 rw [nn,Q4,Q4,Q3,show (Nat.ble (bT (bS c).2.2.2.1).length (bT (bS c).2.2.2.1).length&&Nat.ble ((bT (bS c).2.2.2.1).length*24) Q7)=true by rw [Z8,Nat.ble_eq,Nat.ble_eq];unfold Q7;omega,Q4]
 refine (RI O (by omega)).trans ?_
 unfold Dm
 rw [Q3]
 refine (Qy9 (d:=d+11) O h).trans ?_
 exact Qya (d:=d+11) O h
theorem Qvo {d:Nat} {c:Cf} (hc:gb c=true):RP (d+11) c=some (bS c,BB (bS c),List.replicate (bT (bS c).2.2.2.1).length [],-1,0):=by
 have L:=vr (N5 hc)
 have iy:=L.fF
 have hf:=L.fl
 have hv:=AI (F:=(bS c).2.2.2.1)
 rw [e80,YE (ri hc),Q9,show d+10=d+9+1 by omega,Qsx (by omega),Q9,show d+9+1=d+8+2 by omega,Iy (by omega) hf,Q9]
 rw [nn,Q4,Q4,Q3,show (Nat.ble (bT (bS c).2.2.2.1).length (bT (bS c).2.2.2.1).length&&Nat.ble ((bT (bS c).2.2.2.1).length*24) Q7)=true by rw [Z8,Nat.ble_eq,Nat.ble_eq];unfold Q7;omega,Q4]
theorem RQ {d:Nat} {r z:Rg} {KX:List Int->List Int->Option (Rg×List Int)} (O:Ro r) (hx:z.1.2.1.length<=1000):Q8 (rA d r z KX) Qd (0,(BB z.1).1,(BB z.1).2)=KX (AG r z.1).1 (AG r z.1).2:=by
 have iy:=O.lk.fF
 refine YA (C:=z.1.2.1) (bu:=fun k=>k.2.2.2.2.1) (cb:=fun k=>k.2.2.2.2.2.1) (f:=fun k=>Dj r.1.2.1 r.2.1.1 k k.2.2.2.2.1) (g:=fun k=>Dj r.1.2.1 r.2.1.2 k k.2.2.2.2.2.1) hx ?_ ?_
 .intro ag i c l m hc hl hm
  have hi:=(Z0 hc).1
  have ia:=(Z0 hl).1
  have N9:=(Z0 hm).1
  simp only [rA,bW hc,nn,Q3,hc,Q9,Q4,sS hc]
  rw [Qz7 (by omega),Q9]
  unfold Dj
  by_cases h:0<=bU r.1.2.1 c.1
  .have au:=BC (l:=r.1.2.1) (id:=c.1)
   have t1:=O.t1
   have t2:=O.t2
   have e1:r.2.1.1[(bU r.1.2.1 c.1).toNat]? = some (r.2.1.1.getD (bU r.1.2.1 c.1).toNat 0):=nh (by omega)
   have e2:r.2.1.2[(bU r.1.2.1 c.1).toNat]? = some (r.2.1.2.getD (bU r.1.2.1 c.1).toNat 0):=nh (by omega)
   rw [Z5 (show bU r.1.2.1 c.1>=0 from h),Q4,e1,e2]
   simp only [nn,Q3,Q4,Q9,Qp ia,Qp N9,hl,hm,Qom,RB]
   rw [aN (by omega),if_pos h,if_pos h]
  .rw [Z4 (show ¬ bU r.1.2.1 c.1>=0 from h),Q5,aN (by omega),if_neg h,if_neg h,Ke hl,Ke hm]
 .intro ag l m;simp only [rA,bB,Q5]
theorem RR {d:Nat} {x1:ByteArray} {x2:List aC} {x3 x4 x5 x6:List Int} {x7:List dw} {x8:List Int} {x9:Int} {q:List Pk} {kx:Int->List Int->List (List Pk)->Option (Rg×List Int)} {t:Ls} {n:Nat} (hq:q.length<=60) (h:gQ (x1,x2,x3,x4,x5,x6,x7,x8,x9) t (n+1)):Q8 (rB (d+4) x1 x9 x2 x3 x4 x5 x6 x7 x8 q kx) Qd (t.1,0,t.2)=kx ((q.length:Nat):Int) (q.foldl (ot (x1,x2,x3,x4,x5,x6,x7,x8,x9)) t).1 (q.foldl (ot (x1,x2,x3,x4,x5,x6,x7,x8,x9)) t).2:=by
 refine N8 (fun (t:Ls) (i:Int)=>(t.1,i,t.2)) (fin:=fun t=>kx ((q.length:Nat):Int) t.1 t.2) (f:=ot (x1,x2,x3,x4,x5,x6,x7,x8,x9)) (Kg (x1,x2,x3,x4,x5,x6,x7,x8,x9)) q (by omega) (fun ag t i p n hp hI=>?_) (fun p _ t n h=>RE h) (fun ag t=>?_) (60*n) t ⟨h.1,by have:=h.2;omega⟩
 .obtain ⟨P,hn⟩:=hI
  have hi:=(Z0 hp).1
  simp only [rB,bW hp,nn,Q3,hp,Q9,Q4]
  rw [YF P.lr,Q9]
  refine (RS (x:=(x1,x2,x3,x4,x5,x6,x7,x8,x9)) (rows:=t.2) (p:=p) (A:=dK (d+4) ag t.1 ((i:Nat):Int) p 3 0 t.2) (B:=fun y=>dK (d+4) ag t.1 ((i:Nat):Int) p 2 y.1 t.2) (C:=fun y rows=>dK (d+4) ag t.1 ((i:Nat):Int) p 1 y.1 rows) P (fun a y=>?_)).trans ?_
  .have iy:=P.lk.fF
   refine (Qz8 (d:=d+2) (K:=fun k=>iX (d+4) ag t.1 ((i:Nat):Int) t.2 p y k) a (by omega) P.lk.fl (fun ag k=>?_)).trans ?_
   .simp only [ni]
   .unfold iX RT;rfl
  .unfold ot Dk dK
   split
   .rw [show ((3:Int) != 1)=true from rfl,Q4,room (by simp;omega),Q4,aN (by omega)]
   .split
    .rw [show ((2:Int) != 1)=true from rfl,Q4,room (by simp;omega),Q4,aN (by omega)]
    .rw [show ((1:Int) != 1)=false from rfl,Q5,aN (by omega)]
 .simp only [rB,bB,Q5]
theorem Qyb {d:Nat} {r:Rg} {x:Ld} {kx:List Int->List (List Pk)->Option (Rg×List Int)} (O:Ro r) (h:eR x=true):Q8 (rC (d+4) r x.1 x.2.2.2.2.2.2.2.2 x.2.1 x.2.2.1 x.2.2.2.1 x.2.2.2.2.1 x.2.2.2.2.2.1 x.2.2.2.2.2.2.1 x.2.2.2.2.2.2.2.1 kx) Qd ([],0,List.replicate (bT x.2.2.2.1).length [])=kx (AH r x).1 (AH r x).2:=by
 have hb:=RM O
 refine N8 (fun (t:Ls) (i:Int)=>(t.1,i,t.2)) (fin:=fun t=>kx t.1 t.2) (f:=fun t q=>q.foldl (ot x) t) (gQ x) r.2.2.1 (by omega) (fun ag t i q n hq hI=>?_) (fun q hq t n h=>RF (O.rb q hq) h) (fun ag t=>?_) 0 ([],_) (RH h (by omega))
 .have hi:=(Z0 hq).1
  simp only [rC,bW hq,nn,Q3,hq,Q9,Q4]
  refine (RR (O.rb q (Zc hq)) hI).trans ?_
  unfold Dn
  rw [aN (by omega)]
 .simp only [rC,bB,Q5]
theorem Qrz {d:Nat} {r:Rg} (O:Ro r):RU (d+3) r=some (vq r):=by
 have Kh:=O.lk.fF
 rw [e82]
 unfold vq
 by_cases h0:r.2.2.2.1 < 0
 .rw [Z5 h0,Q4,if_pos h0]
 .obtain ⟨g1,g2⟩:=YC O h0
  have au:=(Z0 g1).1
  rw [Z4 h0,Q5,Iy (by omega) O.lk.fl,Q9,Z5 (show 0<=r.2.2.2.1 by omega),Q4,Qp au,Q4,g1,Q9,Z5 g2.1,Q4,fy g2,Q9,if_neg h0]
theorem Qvp {x:Ld} (h:eR x=true) {n:Int}:(bT x.2.2.2.1).Pairwise (fun a b=>¬ (((aX x.2.1 a).1==n)=true/\((aX x.2.1 b).1==n)=true)):=by
 refine (List.nodup_iff_pairwise_ne.1 RV).imp_of_mem fun {a b} ha hb aU ⟨e1,e2⟩=>aU ?_
 exact Rw h (Ix (vr h) ha) (Ix (vr h) hb) ((beq_iff_eq.1 e1).trans (beq_iff_eq.1 e2).symm)
theorem Qjl {d:Nat} {r:Rg} {c:Cf} (hr:mE r=true) (hc:gb c=true):RW (d+12) r c=some (Fh r (bS c)):=by
 have O:=N_ hr
 have h:=N5 hc
 have L:=vr h
 have iy:=L.fF
 have hf:=L.fl
 have hv:=AI (F:=(bS c).2.2.2.1)
 rw [show d+12=d+10+2 by omega,e37,show d+10+1=d+11 by omega,Qvo hc,Q9]
 generalize bS c=x at *
 refine (RQ (z:=(x,BB x,List.replicate (bT x.2.2.2.1).length [],-1,0)) O (by show x.2.1.length<=1000;omega)).trans ?_
 show wz (d+10) r (x,BB x,List.replicate (bT x.2.2.2.1).length [],-1,0) (AG r x).1 (AG r x).2=_
 unfold wz
 simp only []
 rw [show d+10+1=d+9+2 by omega,Iy (by omega) hf,Q9]
 refine (Qb (fun (t:Int) (i:Int)=>(i,((x,AG r x,List.replicate (bT x.2.2.2.1).length [],t,r.2.2.2.2):Rg))) (bT x.2.2.2.1) (fun w i t k=>k (if ((aX x.2.1 w).1==vq r)=true then ((i:Nat):Int) else t)) (fun t=>wF (d+10) r x.1 x.2.2.2.2.2.2.2.2 t r.2.2.2.2 x.2.1 x.2.2.1 x.2.2.2.1 x.2.2.2.2.1 x.2.2.2.2.2.1 x.2.2.2.2.2.2.1 x.2.2.2.2.2.2.2.1 (AG r x).1 (AG r x).2 (List.replicate (bT x.2.2.2.1).length [])) ?_ ?_ (by rw [Q6];omega) (-1)).trans ?_
 .intro ag t i w hx
  have hi:=(Z0 hx).1
  have hw:=Ix L (Zc hx)
  simp only [wG,bW hx,nn,Q3,hx,Q9,Q4,sS hx]
  rw [Z5 hw.1,Q4,Qp (by have:=hw;unfold vI at this;omega),Q4,fy hw,Q9,show d+10+1=d+8+3 by omega,Qrz O,Q9,aN (by omega)]
  cases ((aX x.2.1 w).1==vq r)<;>rfl
 .intro ag t;simp only [wG,bB,Q5]
 .rw [wH (f:=fun w i (t:Int)=>if ((aX x.2.1 w).1==vq r)=true then ((i:Nat):Int) else t),Yy (p:=fun w=>(aX x.2.1 w).1==vq r) _ _ _ (Qvp h)]
  have Dp:Iu (fh (fun w=>(aX x.2.1 w).1==vq r) (bT x.2.2.2.1) 0) (-1)=BA r x:=by
   show Iu (BA r x) (-1)=BA r x
   unfold Iu
   split
   .rfl
   .rename_i hn
    have:BA r x < 0:=by omega
    unfold BA at this ⊢
    exact (N7 _ _ (Kj.1 this)).symm
  rw [Dp]
  unfold wF
  refine (Qyb (d:=d+6) O h).trans ?_
  rfl
def zR:Rg:=((⟨#[]⟩,[],[],[],[],[],[],[],0),([],[]),[],0,0)
abbrev Rr:=Rg×List Int×Bool
def RX:Rr:=(zR,[],false)
def Dq (r:Rg) (c:Cf):Rr:=if gb c=true then ((Fh r (bS c)).1,(Fh r (bS c)).2,true) else RX
def RY (r:Rg) (c:Cf):Rr:=if mE r=true then Dq r c else RX
theorem Qaz {d:Nat} {r:Rg} {c:Cf} (h:AJ r.1) (hl:c.2.1.length < 4000000) (hf:c.2.2.1.length < 4000000):g12 (d+29) r c=some (RY r c):=by
 rw [e12,YG h,Q9]
 unfold RY Dq
 cases hg:mE r with
 | false=>rfl
 | true =>
  rw [Zl,Q5,show d+28=(d+20)+8 by omega,YH hl hf,Q9,if_pos rfl]
  cases hc:gb c with
  | false=>rfl
  | true=>rw [Zl,Q5,show d+20+8=d+11+17 by omega,Qay hg hc,Q9,if_pos rfl]
theorem Qmo {d:Nat} {r:Rg} {c:Cf} (hr:mE r=true) (hs:c.1.size < 4000000) (hf:c.2.2.1.length < 4000000):Oa (d+13) r c true=some (Dq r c):=by
 rw [e59,Zl,Q5,show d+12=d+7+5 by omega,YI hs hf,Q9]
 unfold Dq
 cases hc:gb c with
 | false=>rfl
 | true=>rw [Zl,Q5,show d+7+5=d+12 by omega,Qjl hr hc,Q9,if_pos rfl]
theorem YJ {x:Ld}:∀ (l:List (List Pk)) (t:Ls) (n:Nat),(∀ q∈l,q.length<=60)->gQ x t (l.length+n)->gQ x (l.foldl (fun t q=>q.foldl (ot x) t) t) n
 | [],t,n,_,h=>by simpa using h
 | q::l,t,n,hq,h=>by
  rw [show (q::l).length+n=l.length+n+1 by simp;omega] at h
  exact YJ l _ n (fun z hz=>hq z (by simp [hz])) (RF (hq q (by simp)) h)
theorem RZ {r:Rg} {x:Ld} (O:Ro r) (h:eR x=true):gQ x (AH r x) 0:=YJ r.2.2.1 _ 0 O.rb (RH h (by have:=RM O;omega))
theorem Kk:AK zR:=⟨⟨by show (0:Nat)<=_;omega,Nat.zero_le _,Nat.zero_le _,Nat.zero_le _,Nat.zero_le _,Nat.zero_le _,Nat.zero_le _,Nat.zero_le _⟩,⟨Nat.zero_le _,Nat.zero_le _⟩,Nat.zero_le _,fun q hq=>by simp [zR] at hq⟩
theorem R0 {r:Rg} {c:Cf} (hr:mE r=true) (hs:c.1.size<=1048576) (hc:gb c=true):AK (Fh r (bS c)).1/\(Fh r (bS c)).2.length<=100000:=by
 have O:=N_ hr
 have h:=N5 hc
 have L:=vr h
 have iy:=L.fF
 have hp:=L.pl
 have hf:=L.fl
 have Fj:=(Iw h).f16
 obtain ⟨n1,n2,n3⟩:=Qwi h
 have hv:=AI (F:=(bS c).2.2.2.1)
 obtain ⟨P,hn⟩:=RZ O h
 have jZ:=P.rl
 refine ⟨⟨⟨hs,by show (bS c).2.1.length<=_;omega,by show (bS c).2.2.1.length<=_;omega,by show (bS c).2.2.2.1.length<=_;omega,by show (bS c).2.2.2.2.1.length<=_;omega,by show (bS c).2.2.2.2.2.1.length<=_;omega,by show (bS c).2.2.2.2.2.2.1.length<=_;omega,by show (bS c).2.2.2.2.2.2.2.1.length<=_;omega⟩,⟨?_,?_⟩,?_,fun q hq=>?_⟩,by show (AH r (bS c)).1.length<=_;omega⟩
 .show ((bS c).2.1.map _).length<=_;rw [List.length_map];omega
 .show ((bS c).2.1.map _).length<=_;rw [List.length_map];omega
 .show (AH r (bS c)).2.length<=_;omega
 .obtain ⟨k,hk⟩:=List.getElem?_of_mem (show q∈(AH r (bS c)).2 from hq)
  have au:=(Z0 hk).1
  have hw:=Z6 (l:=bT (bS c).2.2.2.1) (i:=k) (by omega)
  have:=P.lm k _ hw
  rw [Zr,hk] at this
  have Iz:=(Iw h).ai _ (Zc (fy (Ix L (Zc hw))))
  unfold mD at this
  simp only [Option.getD_some] at this
  omega
theorem R3 {r:Rg} {c:Cf} (hr:mE r=true) (hs:c.1.size<=1048576):AK (Dq r c).1/\(Dq r c).2.1.length<=1048576:=by
 unfold Dq
 split
 .rename_i hc;obtain ⟨h1,h2⟩:=R0 hr hs hc;exact ⟨h1,by show (Fh r (bS c)).2.length<=_;omega⟩
 .exact ⟨Kk,Nat.zero_le _⟩
theorem AK.en {r:Rg} (h:AK r):wI r<=40000000:=by
 have hf:=h.l.2
 obtain ⟨h1,⟨h2,h3⟩,_,_⟩:=h
 have:=Ob (k:=1) h1
 unfold wI IA;omega
def R4 (c:Cf) (fs:List dw):Cf:=(c.1,c.2.1,fs,c.2.2.2)
def fK (r:Rg) (fs:List dw):Rr:=if mE r=true then Dq r (R4 (eL r.1) fs) else RX
theorem Qgo {d:Nat} {r:Rg} {fs:List dw} (h:AJ r.1) (hl:fs.length < 2000000):Kl (d+31) r fs=some (fK r fs):=by
 rw [show d+31=d+28+3 by omega,e28,show d+28+1=d+1+28 by omega,YG h,Q9]
 unfold fK
 cases hg:mE r with
 | false=>rfl
 | true =>
  obtain ⟨n1,n2⟩:=Qwh (YK hg)
  rw [Zl,Q5,show d+1+28=d+3+26 by omega,Qsw (YK hg),Q9,show d+3+26=d+28+1 by omega,R5 (by omega),Q9,if_pos rfl]
  show Q1 (g12 (d+28+1) r (R4 (eL r.1) fs)) _=_
  rw [show d+28+1=d+29 by omega,Qaz h (by show (eL r.1).2.1.length < _;omega) (by show fs.length < _;omega),Q9]
  unfold RY
  rw [if_pos hg]
theorem Qen {d:Nat} {r:Rg} {fs:List dw} (h:AJ r.1) (hl:fs.length < 2000000):Oc (d+14) r fs=some (fK r fs):=by
 rw [e26,Qsu h,Q9]
 unfold fK
 cases hg:mE r with
 | false=>rfl
 | true =>
  have O:=N_ hg
  have iy:=O.lk.fF
  have Fj:=O.lr.f16
  rw [Zl,Q5,show d+13=d+11+2 by omega,YL (by omega) (by omega),Q9,room (by simp;omega),Q4,List.nil_append,if_pos rfl]
  show Q1 (Oa (d+11+2) r (R4 (eL r.1) fs) true) _=_
  rw [show d+11+2=d+13 by omega,Qmo hg h.1 (by show fs.length < _;omega),Q9]
theorem YM {r:Rg} {fs:List dw} (hs:r.1.1.size<=1048576):AK (fK r fs).1/\(fK r fs).2.1.length<=1048576:=by
 unfold fK
 split
 .rename_i hr;exact R3 hr hs
 .exact ⟨Kk,Nat.zero_le _⟩
abbrev tyC:Ty:=.pair (.int .i64) (.pair (.int .i64) (.pair (.int .i64) (.pair (.int .i64) (.pair (.int .i64) (.pair (.int .i64) (.pair (.int .i64) (.int .i64)))))))
abbrev YN:Ty:=.pair (.int .i64) (.pair (.int .i64) (.pair (.int .i64) (.pair (.int .i64) (.int .i64))))
abbrev Km:Ty:=.pair .str (.pair (.sl tyC) (.pair (.sl (.int .i64)) (.pair (.sl (.int .i64)) (.pair (.sl (.int .i64)) (.pair (.sl (.int .i64)) (.pair (.sl YN) (.pair (.sl (.int .i64)) (.int .i64))))))))
abbrev YO:Ty:=.pair (.sl (.int .i64)) (.sl (.int .i64))
theorem Qyd {x:Ld} (h:Wf Km x):R6 x:=by
 obtain ⟨h1,⟨h2,_⟩,⟨h3,_⟩,⟨h4,_⟩,⟨h5,_⟩,⟨h6,_⟩,⟨h7,_⟩,⟨h8,_⟩,_⟩:=h
 exact ⟨h1,h2,h3,h4,h5,h6,h7,h8⟩
def tkW (t:Tk):Prop:=t.1.length<=9223372036854775807/\t.2.length<=9223372036854775807
theorem Qye {t:Tk} (h:Wf YO t):tkW t:=by
 obtain ⟨⟨h2,_⟩,⟨h3,_⟩⟩:=h
 exact ⟨h2,h3⟩
abbrev R7:Ty:=.pair (.int .i64) (.pair (.int .i64) (.pair (.int .i64) (.pair (.int .i64) (.pair (.int .i64) (.int .i64)))))
abbrev Ko:Ty:=.pair Km (.pair YO (.pair (.sl (.sl R7)) (.pair (.int .i64) (.int .i64))))
theorem Qyf {r:Rg} (h:Wf Ko r):R8 r:=by
 obtain ⟨h1,h2,⟨h3,h4⟩,_⟩:=h
 exact ⟨Qyd h1,Qye h2,h3,fun q hq=>(h4 q hq).1⟩
theorem Qs0 {d:Nat} {r:Rg} {fs:List dw} (hw:R8 r) (hc:fs.length<=9223372036854775807):g6 (d+32) r fs=some true:=by
 rw [show d+32=(d+29)+3 by omega,e6]
 obtain ⟨z,hz,hB⟩:=Qwd (d:=d+28) hw
 rw [show d+29+2=d+28+3 by omega,hz,Q9]
 by_cases h:z < 0
 .rw [Z5 h,Q4]
 obtain ⟨y0,y1,hl,cF⟩:=hB.resolve_left h
 rw [Z4 h,Q5]
 obtain ⟨z',aW,gC⟩:=YP (d:=d+30) (n:=z) y0 y1 hc
 rw [show d+28+3=d+30+1 by omega,aW,Q9]
 by_cases h':z' < 0
 .rw [Z5 h',Q4]
 have fe:=(gC.resolve_left h').2.2
 have c3:fs.length<=1048576:=by omega
 rw [Z4 h',Q5,show d+30+1=d+28+3 by omega]
 have hC:Dr (d+28+3) fs=some fs:=by rw [show d+28+3=d+29+2 by omega];exact YQ c3
 have hD:Kp (d+28+3) fs fs=some true:=by rw [show d+28+3=d+29+2 by omega];exact YR (by omega)
 obtain ⟨l1,l2,l3,l4⟩:=id hl
 obtain ⟨z1,z2,z3,z4,z5,z6,z7,z8⟩:=id l1
 have hV:AK (fK r fs).1:=(YM z1).1
 obtain ⟨YS,hV2⟩:=hV.l
 have hen:=hV.en
 obtain ⟨v1,v2,v3,v4⟩:=id YS
 obtain ⟨u1,u2,u3,u4,u5,u6,u7,u8⟩:=id v1
 have hT:g10 (d+28+3) r=some r:=by rw [show d+28+3=d+27+4 by omega];exact Qwe hl
 have hE:g13 (d+28+3) r r=some true:=by rw [show d+28+3=d+27+4 by omega];exact YT hl
 have hA:Kl (d+28+3) r fs=some (fK r fs):=by rw [show d+28+3=d+0+31 by omega];exact Qgo l1.sz (by omega)
 have hS:Oc (d+28+3) r fs=some (fK r fs):=by rw [show d+28+3=d+17+14 by omega];exact Qen l1.sz (by omega)
 have hQ:g13 (d+28+3) (fK r fs).1 (fK r fs).1=some true:=by rw [show d+28+3=d+27+4 by omega];exact YT YS
 have hH:g19 (d+28+3) (Kq (fK r fs).1) ((1:Nat):Int)=some ((wI (fK r fs).1:Nat):Int):=Qpq hV
 have hI:(fK r fs).2.1.length<=1048576:=(YM z1).2
 have hJ:g14 (d+28+3) (fK r fs).2.1 (fK r fs).2.1=some true:=by rw [show d+28+3=d+30+1 by omega];exact Ds (by omega)
 have hM:g18 (d+28+3) (fK r fs).2.1 ((wI (fK r fs).1:Nat):Int)=some (((wI (fK r fs).1+(fK r fs).2.1.length:Nat):Int),jL (wI (fK r fs).1) (fK r fs).2.1.length):=by rw [show d+28+3=d+30+1 by omega];exact oQ hI (by omega)
 have hG:g20 (d+28+3) (jL (wI (fK r fs).1) (fK r fs).2.1.length) ((wI (fK r fs).1:Nat):Int)=some ((wI (fK r fs).1+(fK r fs).2.1.length:Nat):Int):=by rw [show d+28+3=d+30+1 by omega];exact Dt hI (by omega)
 rw [hT,Q9,hC,Q9,hS,Q9,Q9,Q9,hA,Q9,hQ,Q9,Zl,Q5,hJ,Q9,Zl,Q5,beq_self_eq_true,Zl]
 unfold BD
 rw [Q5,show d+29+2=d+28+3 by omega,hT,Q9,hE,Q9,Zl,Q5,hC,Q9,hD,Q9,Zl,Q5]
 rw [show d+29=d+28+1 by omega,show (1:Int)=((1:Nat):Int) from rfl,YU z2 (by omega),Q9];simp only [];rw [oQ z3 (by omega),Q9];simp only [];rw [oQ z4 (by omega),Q9];simp only [];rw [oQ z5 (by omega),Q9];simp only [];rw [oQ z6 (by omega),Q9];simp only [];rw [R9 z7 (by omega),Q9];simp only [];rw [oQ z8 (by omega),Q9];simp only [];rw [oQ l2 (by omega),Q9];simp only [];rw [oQ l3 (by omega),Q9];simp only []
 have hL:=Ob (k:=1) l1
 unfold BE at hL
 refine (YV (fun ag n i rs=>rfl) l4 cF (by omega)).trans ?_
 unfold iY
 rw [show d+28+1+2=d+30+1 by omega,R9 c3 (by omega),Q9]
 simp only []
 rw [Z4 (by omega),Q5,show d+30+1=d+28+3 by omega,hQ,Q9,Zl,Q5,hJ,Q9,Zl,Q5,beq_self_eq_true,Zl]
 unfold wJ
 rw [Q5]
 rw [show d+29=d+28+1 by omega,show (1:Int)=((1:Nat):Int) from rfl,YU u2 (by omega),Q9];simp only [];rw [oQ u3 (by omega),Q9];simp only [];rw [oQ u4 (by omega),Q9];simp only [];rw [oQ u5 (by omega),Q9];simp only [];rw [oQ u6 (by omega),Q9];simp only [];rw [R9 u7 (by omega),Q9];simp only [];rw [oQ u8 (by omega),Q9];simp only [];rw [oQ v2 (by omega),Q9];simp only [];rw [oQ v3 (by omega),Q9];simp only []
 have hL2:=Ob (k:=1) v1
 unfold BE at hL2
 refine (YV (fun ag n i rs=>rfl) v4 (by omega) (by omega)).trans ?_
 unfold iZ
 rw [show d+28+1+2=d+28+3 by omega,show (1:Int)=((1:Nat):Int) from rfl]
 show Q1 (g18 (d+28+3) (fK r fs).2.1 ((wI (fK r fs).1:Nat):Int)) _=_
 rw [hM,Q9]
 simp only []
 show Q1 (g19 (d+28+3) (Kq (fK r fs).1) ((1:Nat):Int)) _=_
 rw [hH,Q9,Z4 (by omega),Q5,hG,Q9,Z4 (by omega),Q5]
 rw [bne_self_eq_false,Q5,hT,Q9,hC,Q9,hA,Q9,hQ,Q9,Zl,Q5,hJ,Q9,Zl,Q5,beq_self_eq_true,Zl]
 unfold BF
 rw [Q5]
 show Q1 (g19 (d+28+3) (Kq (fK r fs).1) ((1:Nat):Int)) _=_
 rw [hH,Q9,Z4 (by omega),Q5,hG,Q9,Z4 (by omega),Q5]
 rw [bne_self_eq_false,Q5]
def tysLaw:List Ty:=[Ko,.sl YN]
theorem lawAny:YW Tryz.prog Qc (32) 6 tysLaw :=
 ⟨rfl,rfl,rfl,fun a h=>by
  obtain ⟨r,fs⟩:=a
  exact ⟨true,Qs0 (d:=0) (Qyf (h ⟨_,r⟩ (List.Mem.head _))) (h ⟨_,fs⟩ (List.Mem.tail _ (List.Mem.head _))).1,rfl⟩⟩
end Go.Proofs.YtcoimfbmgjhcjaaGreatDoor
