/-
  Configurations by value. And what stood behind it in 3 texts.
  Conditions: said at the theorems.
-/
import Derived.Test.YtcoimfbmgjhcjaaGreatDoorK22
import Derived.Test.YtcoimfbmgjhcjaaGreatDoorRepW
set_option linter.all false
namespace Go.Proofs.YtcoimfbmgjhcjaaGreatDoor
open Go.Ev Go.Pv
theorem Qrx {c:Cf} (G:Gd c):((bS c).2.1.map (·.1)).Nodup:=by
 have T:=G.tr
 show (((aG c.2.1).map (aW c.2.1)).map (·.1)).Nodup
 rw [List.map_map,List.nodup_iff_pairwise_ne,List.pairwise_map]
 exact (List.nodup_iff_pairwise_ne.1 (qY T)).imp_of_mem fun ha hb aU e=>aU (T.inj _ _ ((jz T).1 ha) ((jz T).1 hb) e)
theorem Ym {l:List aC} (h:(l.map (·.1)).Nodup):l.Nodup:=by
 rw [List.nodup_iff_pairwise_ne,List.pairwise_map] at h
 exact List.nodup_iff_pairwise_ne.2 (h.imp fun h e=>h (by rw [e]))
theorem Rl {c:Cf} (h:ga c=true):qZ c.2.1=true:=by
 have hc:=(q_ h).cl
 unfold kE at hc
 simp only [Z8] at hc
 exact hc.2.1
theorem Rm {c:Cf} (h:ga c=true):(bS c).2.1.Perm c.2.1:=by
 have G:=q_ h
 refine (List.perm_ext_iff_of_nodup (Ym (Qrx G)) (Ym (Rn (Rl h)))).2 fun a=>?_
 show a∈(aG c.2.1).map (aW c.2.1)↔_
 rw [List.mem_map]
 constructor
 .rintro ⟨i,hi,rfl⟩
  exact Zc (fu ((jz G.tr).1 hi))
 .intro ha
  obtain ⟨k,hk⟩:=List.getElem?_of_mem ha
  exact ⟨(k:Int),(jz G.tr).2 (Dd hk),kK hk⟩
theorem Rp {c:Cf} (h:ga c=true):eI (bS c)=c:=by
 have G:=q_ h
 have h1:De (bS c).2.1=c.2.1:=by
  refine (List.Perm.eq_of_pairwise (le:=fun a b=>cu a<=cu b) (fun a b ha hb h1 h2=>?_) ?_ Yn ((Rm h).symm.trans AF.symm)).symm
  .unfold cu at h1 h2
   exact Yo (Rn (Rl h)) ha ((Rm h).mem_iff.1 (AF.mem_iff.1 hb)) (by omega)
  .rw [List.pairwise_iff_getElem]
   intro i j hi hj ng
   have:=J' (Rl h) j i _ _ ng (Z6 hi) (Z6 hj)
   unfold cu;omega
 have h2:Bw (bS c)=c.2.2.2:=by
  show (if 0<=vu c/\vu c < (((bS c).2.1.length:Nat):Int) then (aW (bS c).2.1 (vu c)).1 else 0)=_
  unfold vu
  by_cases h0:c.2.2.2=0
  .rw [if_pos h0,if_neg (by omega),h0]
  .rw [if_neg h0]
   obtain ⟨t1,_⟩:=G.Ka h0
   obtain ⟨k,k1,k2⟩:=Bx G.tr t1
   have k3:(bS c).2.1[k]? = some (aW c.2.1 (bU c.2.1 c.2.2.2)):=by
    show ((aG c.2.1).map (aW c.2.1))[k]? = _
    rw [List.getElem?_map,k1];rfl
   have k4:=(Z0 k3).1
   rw [k2,if_pos ⟨by omega,by omega⟩,kK k3]
   obtain ⟨_,x,e1,e2,e3⟩:=By t1.1
   rw [e1,kK e2,e3]
 show (c.1,De (bS c).2.1,c.2.2.1,Bw (bS c))=c
 rw [h1,h2]
theorem NY {c:Cf} (h:ga c=true):eP (bS c)=true:=by
 have G:=q_ h
 unfold eP Df
 rw [Rp h,h]
 have h1:=(Rm h).length_eq
 have h2:=G.tr.fE
 have h3:=G.f16
 have h4:(bS c).2.2.2.2.2.2.1.length<=16:=h3
 simp only [decide_true,beq_self_eq_true,Bool.and_true,Zg,Zj]
 exact ⟨by omega,h4⟩
theorem Rq {x:Ld} (h:eP x=true) {i j:Int} (hi:vI x.2.1 i) (hj:vI x.2.1 j) (e:(aW x.2.1 i).1=(aW x.2.1 j).1):i=j:=by
 have hd:=Rs (NZ h) AF
 obtain ⟨i1,i2⟩:=Z0 (fu hi)
 obtain ⟨j1,j2⟩:=Z0 (fu hj)
 have:=(List.getElem_inj (h₀:=show i.toNat < (x.2.1.map (·.1)).length by simpa using i1) (h₁:=show j.toNat < (x.2.1.map (·.1)).length by simpa using j1) hd).1 (by simp [i2,j2,e])
 have h0:=hi.1
 have h1:=hj.1
 omega
theorem Rt {x:Ld} (h:eP x=true) {i:Int} (hi:vI x.2.1 i):1<=(aW x.2.1 i).1:=by
 have hm:aW x.2.1 i∈(eI x).2.1:=AF.mem_iff.2 (Zc (fu hi))
 obtain ⟨k,hk⟩:=List.getElem?_of_mem hm
 have:=(q_ (NZ h)).tr.pos _ (Dd hk)
 rw [kK hk] at this;exact this
theorem N0 {α:Type} {p:α->Bool}:∀ (l:List α) (i:Nat),(∀ x∈l,p x=false)->fe p l i=-1
 | [],i,_=>rfl
 | x::r,i,h=>by
  unfold fe
  rw [if_neg (by rw [h x (by simp)];simp)]
  exact N0 r (i+1) fun y hy=>h y (by simp [hy])
def It (n t:Int):Int:=if 0<=n then n else t
theorem Yp {p:Int->Bool}:∀ (l:List Int) (i:Nat) (t:Int),l.Pairwise (fun a b=>¬ (p a=true/\p b=true))->cD (fun w k (t:Int)=>if p w=true then ((k:Nat):Int) else t) l i t=It (fe p l i) t
 | [],i,t,_=>by simp [cD,fe,It]
 | x::r,i,t,h=>by
  obtain ⟨h1,h2⟩:=List.pairwise_cons.1 h
  simp only [cD]
  rw [Yp r (i+1) _ h2]
  by_cases hx:p x=true
  .have hn:fe p r (i+1)=-1:=N0 r _ fun y hy=>by
    have:=h1 y hy
    simpa [hx] using this
   have he:fe p (x::r) i=(i:Int):=if_pos hx
   rw [hn,if_pos hx,he]
   unfold It
   rw [if_neg (by omega),if_pos (by omega)]
  .have he:fe p (x::r) i=fe p r (i+1):=if_neg hx
   rw [if_neg hx,he]
theorem Ru {α τ β:Type} {p:α->Bool} {J:Int->Option β}:∀ (l:List α) (i:Nat) (t:τ),dY (fun x i t k=>aa (p x) (J ((i:Nat):Int)) (k t)) (fun _=>J (-1)) l i t=J (fe p l i)
 | [],i,t=>rfl
 | x::r,i,t=>by
  simp only [dY,fe]
  by_cases h:p x=true
  .rw [if_pos h,h,Q4]
  .rw [if_neg h,show p x=false by simpa using h,Q5];exact Ru r (i+1) t
theorem N1 {α τ σ β:Type} (mk:τ->Int->σ) {F:(σ->Option β)->σ->Option β} {fin:τ->Option β} {f:τ->α->τ} (I:τ->Nat->Prop) (l:List α) (hl:l.length < 4000000)
  (hs:∀ ag t (i:Nat) x n,l[i]? = some x->I t (n+1)->F ag (mk t ((i:Nat):Int))=ag (mk (f t x) ((i+1:Nat):Int)))
  (hi:∀ x∈l,∀ t n,I t (n+1)->I (f t x) n) (he:∀ ag t,F ag (mk t ((l.length:Nat):Int))=fin t) (m:Nat) (t:τ) (h:I t (l.length+m)):Q8 F Qd (mk t 0)=fin (l.foldl f t):=by
 have key:∀ (r p:List α) (fuel:Nat) (t:τ),l=p++r->r.length < fuel->I t (r.length+m)->Q8 F fuel (mk t ((p.length:Nat):Int))=fin (r.foldl f t):=by
  intro r
  induction r with
  | nil =>
   intro p fuel t e h _
   obtain ⟨n,rfl⟩:∃ n,fuel=n+1:=⟨fuel - 1,by omega⟩
   rw [List.append_nil] at e
   subst e
   exact he _ _
  | cons x r ih =>
   intro p fuel t e h hI
   obtain ⟨n,rfl⟩:∃ n,fuel=n+1:=⟨fuel - 1,by omega⟩
   simp only [Z9] at h
   rw [show (x::r).length+m=r.length+m+1 by simp;omega] at hI
   have:=ih (p++[x]) n (f t x) (by rw [e];simp) (by omega) (hi x (by rw [e];simp) t _ hI)
   rw [Zf] at this
   simp only [Q8,List.foldl_cons]
   rw [hs _ t p.length x _ (by rw [e];simp) hI]
   exact this
 exact key l [] Qd t rfl (by rw [Q6];omega) h
theorem Yq {α τ:Type} {f:τ->α->τ} (I:τ->Nat->Prop):∀ (l:List α) (t:τ) (m:Nat),I t (l.length+m)->(∀ x∈l,∀ t n,I t (n+1)->I (f t x) n)->I (l.foldl f t) m
 | [],t,m,h,_=>by simpa using h
 | x::r,t,m,h,hi=>by
  rw [show (x::r).length+m=r.length+m+1 by simp;omega] at h
  exact Yq I r (f t x) m (hi x (by simp) t _ h) (fun y hy=>hi y (by simp [hy]))
theorem Kb {α:Type} {l:List α} {i:Nat} {v:α} (h:l[i]? = some v):l.set i v=l:=by
 obtain ⟨h1,h2⟩:=Z0 h
 rw [<- h2,List.set_getElem_self]
theorem Yr {β:Type} {F:((Int×List Int×List Int)->Option β)->(Int×List Int×List Int)->Option β} {KX:List Int->List Int->Option β} {C:List aC} {bu cb f g:aC->Int} (hC:C.length<=1000)
  (hF:∀ ag (i:Nat) c l m,C[i]? = some c->l[i]? = some (bu c)->m[i]? = some (cb c)->F ag ((i:Int),l,m)=ag (((i+1:Nat):Int),l.set i (f c),m.set i (g c)))
  (hE:∀ ag l m,F ag (((C.length:Nat):Int),l,m)=KX l m):Q8 F Qd (0,C.map bu,C.map cb)=KX (C.map f) (C.map g):=by
 have key:∀ (r p:List aC) (fuel:Nat),C=p++r->r.length < fuel->Q8 F fuel (((p.length:Nat):Int),p.map f++r.map bu,p.map g++r.map cb)=KX (C.map f) (C.map g):=by
  intro r
  induction r with
  | nil =>
   intro p fuel e h
   obtain ⟨n,rfl⟩:∃ n,fuel=n+1:=⟨fuel - 1,by omega⟩
   rw [List.append_nil] at e
   subst e
   simp only [Q8,List.map_nil,List.append_nil]
   exact hE _ _ _
  | cons c r ih =>
   intro p fuel e h
   obtain ⟨n,rfl⟩:∃ n,fuel=n+1:=⟨fuel - 1,by omega⟩
   simp only [Z9] at h
   simp only [Q8,List.map_cons]
   rw [hF _ p.length c _ _ (by rw [e];simp) (by simp) (by simp)]
   have:=ih (p++[c]) n (by rw [e];simp) (by omega)
   rw [Zf,List.map_append,List.map_append,List.append_assoc,List.append_assoc] at this
   simp only [Z9,Zb,List.map_cons,List.map_nil,List.singleton_append] at this
   have e1:=Ff (p:=p.map f) (r:=r.map bu) (x:=bu c) (y:=f c)
   have e2:=Ff (p:=p.map g) (r:=r.map cb) (x:=cb c) (y:=g c)
   rw [List.length_map] at e1 e2
   rw [e1,e2]
   exact this
 exact key C [] Qd rfl (by rw [Q6];omega)
def Rv (b n:Int):Int:=if b < n then b else n
theorem Rw {b n:Int}:min n b=Rv b n:=by unfold Rv;rw [Int.min_def];split<;>split<;>omega
def Dg (old:List aC) (ts:List Int) (k:aC) (b:Int):Int:=if 0<=bU old k.1 then Rv b (ts.getD (bU old k.1).toNat 0) else b
def AG (r:Rg) (x:Ld):Tk:=(x.2.1.map fun k=>Dg r.1.2.1 r.2.1.1 k k.2.2.2.2.1,x.2.1.map fun k=>Dg r.1.2.1 r.2.1.2 k k.2.2.2.2.2.1)
abbrev Ls:=List Int×List (List Pk)
def oq (x:Ld) (t:Ls) (p:Pk):Ls:=Dh x t.2 p (t.1++[p.1],t.2) (fun _=>(t.1++[p.1],t.2)) (fun _=>(t.1,Iu x t.2 p))
def AH (r:Rg) (x:Ld):Ls:=r.2.2.1.foldl (fun t q=>q.foldl (oq x) t) ([],List.replicate (bT x.2.2.2.1).length [])
def vw (r:Rg):Int:=if r.2.2.2.1 < 0 then 0 else (aW r.1.2.1 ((bT r.1.2.2.2.1).getD r.2.2.2.1.toNat 0)).1
def Bz (r:Rg) (x:Ld):Int:=fe (fun w=>(aW x.2.1 w).1==vw r) (bT x.2.2.2.1) 0
def Fg (r:Rg) (x:Ld):Rg×List Int:=((x,AG r x,(AH r x).2,Bz r x,r.2.2.2.2),(AH r x).1)
def Kc (x:Ld) (t:Ls) (n:Nat):Prop:=Pu x t.2/\t.1.length+n<=100000
def gO (x:Ld) (t:Ls) (n:Nat):Prop:=Pu x t.2/\t.1.length+60*n<=100000
theorem Rx {x:Ld} {rows:List (List Pk)} {p:Pk} (P:Pu x rows) (h:¬ cC x p < 0) (hn:¬ (((ri x rows p).length:Nat):Int)=mB x (cC x p)):Pu x (Iu x rows p):=by
 have a:=Ry P h
 have hl:=a.ai
 refine ⟨P.lk,P.lr,P.lf,by unfold Iu;rw [List.length_set];exact P.rl,fun k w hw=>?_⟩
 have:=P.lm k w hw
 unfold Iu
 rw [Zr,List.getElem?_set]
 split
 .rename_i e
  rw [<- e,a.get] at hw
  injection hw with hw
  rw [if_pos a.lt]
  simp only [Option.getD_some,Zf,Z9,Zb]
  rw [<- hw];omega
 .rw [<- Zr];exact this
theorem Rz {x:Ld} {t:Ls} {p:Pk} {n:Nat} (h:Kc x t (n+1)):Kc x (oq x t p) n:=by
 obtain ⟨P,hn⟩:=h
 unfold oq Dh
 split
 .exact ⟨P,by simp;omega⟩
 .split
  .exact ⟨P,by simp;omega⟩
  .rename_i h1 h2
   exact ⟨Rx P h1 h2,by simp only;omega⟩
theorem RA {x:Ld} {t:Ls} {q:List Pk} {n:Nat} (hq:q.length<=60) (h:gO x t (n+1)):gO x (q.foldl (oq x) t) n:=by
 have:=Yq (f:=oq x) (Kc x) q t (60*n) ⟨h.1,by have:=h.2;omega⟩ (fun p _ t n h=>Rz h)
 exact ⟨this.1,this.2⟩
theorem Qy8 {x:Ld} (h:eP x=true):Pu x (List.replicate (bT x.2.2.2.1).length []):=by
 have L:=vz h
 have R:=Iv h
 refine ⟨L,R,fun p=>RB h p,by rw [List.length_replicate],fun k w hw=>?_⟩
 have hk:=(Z0 hw).1
 rw [Zr,List.getElem?_replicate,if_pos hk]
 have hm:=Zc hw
 obtain ⟨v1,v2⟩:=Fh hm
 have hf:=L.fl
 exact R.l0 _ (Zc (fu ⟨v1,by omega⟩))
theorem RC {x:Ld} (h:eP x=true) {n:Nat} (hn:n<=1000):gO x ([],List.replicate (bT x.2.2.2.1).length []) n:=⟨Qy8 h,by simp;omega⟩
theorem RD {d:Nat} {r:Rg} {x:Ld} {KX:List Int->List Int->Option (Rg×List Int)} (O:Ro r) (hx:x.2.1.length<=1000):Q8 (rj d r x KX) Qd (0,(BA x).1,(BA x).2)=KX (AG r x).1 (AG r x).2:=by
 have iw:=O.lk.fE
 refine Yr (C:=x.2.1) (bu:=fun k=>k.2.2.2.2.1) (cb:=fun k=>k.2.2.2.2.2.1) (f:=fun k=>Dg r.1.2.1 r.2.1.1 k k.2.2.2.2.1) (g:=fun k=>Dg r.1.2.1 r.2.1.2 k k.2.2.2.2.2.1) hx ?_ ?_
 .intro ag i c l m hc hl hm
  have hi:=(Z0 hc).1
  have hU:=(Z0 hl).1
  have N3:=(Z0 hm).1
  simp only [rj,bW hc,nn,Q3,hc,Q9,Q4,sV hc]
  refine (Qb (fun (t:Int) (j:Int)=>(t,j)) r.1.2.1 (fun y j t k=>aa (y.1==c.1) (dG d r ag ((i:Nat):Int) l m c ((j:Nat):Int)) (k t)) (fun _=>dG d r ag ((i:Nat):Int) l m c (-1)) ?_ ?_ (by rw [Q6];omega) 0).trans ((Ru (J:=fun n=>dG d r ag ((i:Nat):Int) l m c n) r.1.2.1 0 0).trans ?_)
  .intro ag t i x hx;have hi:=(Z0 hx).1;simp only [iW,bW hx,nn,Q3,hx,Q9,Q4];rw [aN (by omega)]
  .intro ag t;simp only [iW,bB,Q5];rfl
  .show dG d r ag ((i:Nat):Int) l m c (bU r.1.2.1 c.1)=_
   unfold dG Dg
   by_cases h:0<=bU r.1.2.1 c.1
   .have au:=BB (l:=r.1.2.1) (id:=c.1)
    have t1:=O.t1
    have t2:=O.t2
    have e1:r.2.1.1[(bU r.1.2.1 c.1).toNat]? = some (r.2.1.1.getD (bU r.1.2.1 c.1).toNat 0):=nh (by omega)
    have e2:r.2.1.2[(bU r.1.2.1 c.1).toNat]? = some (r.2.1.2.getD (bU r.1.2.1 c.1).toNat 0):=nh (by omega)
    rw [Z5 (show bU r.1.2.1 c.1>=0 from h),Q4,e1,e2]
    simp only [nn,Q3,Q4,Q9,Qp hU,Qp N3,hl,hm]
    rw [aN (by omega),if_pos h,if_pos h]
    rfl
   .rw [Z4 (show ¬ bU r.1.2.1 c.1>=0 from h),Q5,aN (by omega),if_neg h,if_neg h,Kb hl,Kb hm]
 .intro ag l m;simp only [rj,bB,Q5]
theorem RE {d:Nat} {x:Ld} {q:List Pk} {kx:Int->List Int->List (List Pk)->Option (Rg×List Int)} {t:Ls} {n:Nat} (hq:q.length<=60) (h:gO x t (n+1)):Q8 (rm (d+3) x q kx) Qd (t.1,0,t.2)=kx ((q.length:Nat):Int) (q.foldl (oq x) t).1 (q.foldl (oq x) t).2:=by
 refine N1 (fun (t:Ls) (i:Int)=>(t.1,i,t.2)) (fin:=fun t=>kx ((q.length:Nat):Int) t.1 t.2) (f:=oq x) (Kc x) q (by omega) (fun ag t i p n hp hI=>?_) (fun p _ t n h=>Rz h) (fun ag t=>?_) (60*n) t ⟨h.1,by have:=h.2;omega⟩
 .obtain ⟨P,hn⟩:=hI
  have hi:=(Z0 hp).1
  simp only [rm,bW hp,nn,Q3,hp,Q9,Q4]
  rw [show d+3+1=d+4 by omega,Ys P.lr,Q9]
  refine (RF (d:=d+3) (x:=x) (rows:=t.2) (p:=p) (A:=dH (d+3) ag t.1 ((i:Nat):Int) p 3 0 t.2) (B:=fun y=>dH (d+3) ag t.1 ((i:Nat):Int) p 2 y.1 t.2) (C:=fun y rows=>dH (d+3) ag t.1 ((i:Nat):Int) p 1 y.1 rows) P).trans ?_
  unfold oq Dh dH
  split
  .rw [show ((3:Int) != 1)=true from rfl,Q4,room (by simp;omega),Q4,aN (by omega)]
  .split
   .rw [show ((2:Int) != 1)=true from rfl,Q4,room (by simp;omega),Q4,aN (by omega)]
   .rw [show ((1:Int) != 1)=false from rfl,Q5,aN (by omega)]
 .simp only [rm,bB,Q5]
theorem Qy9 {d:Nat} {r:Rg} {x:Ld} {kx:List Int->List (List Pk)->Option (Rg×List Int)} (O:Ro r) (h:eP x=true):Q8 (ru (d+3) r x kx) Qd ([],0,List.replicate (bT x.2.2.2.1).length [])=kx (AH r x).1 (AH r x).2:=by
 have hb:=RG O
 refine N1 (fun (t:Ls) (i:Int)=>(t.1,i,t.2)) (fin:=fun t=>kx t.1 t.2) (f:=fun t q=>q.foldl (oq x) t) (gO x) r.2.2.1 (by omega) (fun ag t i q n hq hI=>?_) (fun q hq t n h=>RA (O.rb q hq) h) (fun ag t=>?_) 0 ([],_) (RC h (by omega))
 .have hi:=(Z0 hq).1
  simp only [ru,bW hq,nn,Q3,hq,Q9,Q4]
  refine (RE (O.rb q (Zc hq)) hI).trans ?_
  unfold Di
  rw [aN (by omega)]
 .simp only [ru,bB,Q5]
theorem Yt {r:Rg} (O:Ro r) (h:¬ r.2.2.2.1 < 0):(bT r.1.2.2.2.1)[r.2.2.2.1.toNat]? = some ((bT r.1.2.2.2.1).getD r.2.2.2.1.toNat 0)/\vI r.1.2.1 ((bT r.1.2.2.2.1).getD r.2.2.2.1.toNat 0):=by
 have la:=O.la
 have hf:=O.lk.fl
 have hg:=nh (l:=bT r.1.2.2.2.1) (i:=r.2.2.2.1.toNat) (z:=0) (by omega)
 obtain ⟨v1,v2⟩:=Fh (Zc hg)
 exact ⟨hg,v1,by omega⟩
theorem Iw {x:Ld} (L:Lk x) {w:Int} (h:w∈bT x.2.2.2.1):vI x.2.1 w:=by
 have hf:=L.fl
 obtain ⟨v1,v2⟩:=Fh h
 exact ⟨v1,by omega⟩
theorem RH {r:Rg} {x:Ld} (h:eP x=true) (h0:r.2.2.2.1 < 0):Bz r x=-1:=by
 unfold Bz vw
 rw [if_pos h0]
 refine N0 _ _ fun w hw=>?_
 have:=Rt h (Iw (vz h) hw)
 rw [beq_eq_false_iff_ne];omega
theorem Qya {d:Nat} {r:Rg} {x:Ld} {a b lost:List Int} {rows:List (List Pk)} (O:Ro r) (h:eP x=true):wz (d+3) r x a b lost rows=some ((x,(a,b),rows,Bz r x,r.2.2.2.2),lost):=by
 have L:=vz h
 have iw:=L.fE
 have hf:=L.fl
 have hv:=AI (F:=x.2.2.2.1)
 have oP:=O.lk.fE
 unfold wz
 by_cases h0:r.2.2.2.1 < 0
 .rw [Z4 (show ¬ r.2.2.2.1>=0 by omega),Q5,RH h h0]
 .obtain ⟨g1,g2⟩:=Yt O h0
  have au:=(Z0 g1).1
  rw [Z5 (show r.2.2.2.1>=0 by omega),Q4,show d+3+2=d+4+1 by omega,Ke (by omega) O.lk.fl,Q9,Q4,Qp au,Q4,g1,Q9,Z5 g2.1,Q4,fu g2,Q9,Ke (by omega) hf,Q9]
  have hl:(aW r.1.2.1 ((bT r.1.2.2.2.1).getD r.2.2.2.1.toNat 0)).1=vw r:=by unfold vw;rw [if_neg h0]
  refine (Qb (fun (t:Int) (j:Int)=>(t,j)) (bT x.2.2.2.1) (fun w j t k=>aa ((aW x.2.1 w).1==vw r) (some (((x,(a,b),rows,((j:Nat):Int),r.2.2.2.2):Rg),lost)) (k t)) (fun _=>some (((x,(a,b),rows,(-1),r.2.2.2.2):Rg),lost)) ?_ ?_ (by rw [Q6];omega) 0).trans (Ru (J:=fun n=>some (((x,(a,b),rows,n,r.2.2.2.2):Rg),lost)) (bT x.2.2.2.1) 0 0)
  .intro ag t i w hx
   have hi:=(Z0 hx).1
   have hw:=Iw L (Zc hx)
   simp only [gP,bW hx,nn,Q3,hx,Q9,Q4,sV hx]
   rw [Z5 hw.1,Q4,Qp (by have:=hw;unfold vI at this;omega),Q4,fu hw,Q9,aN (by omega),hl]
  .intro ag t;simp only [gP,bB,Q5];rfl
theorem Qay {d:Nat} {r:Rg} {c:Cf} (hr:mD r=true) (hc:ga c=true):RI (d+17) r c=some (Fg r (bS c)):=by
 have O:=N4 hr
 have h:=NY hc
 have L:=vz h
 have iw:=L.fE
 have hf:=L.fl
 have hv:=AI (F:=(bS c).2.2.2.1)
 rw [show d+17=d+14+3 by omega,e44,show d+14+2=d+2+14 by omega,Yu (q_ hc),Q9,show d+2+14=d+15+1 by omega,Qhj (by omega),Q9,Ke (by omega) hf,Q9]
 rw [nn,Q4,Q4,Q3,show (Nat.ble (bT (bS c).2.2.2.1).length (bT (bS c).2.2.2.1).length&&Nat.ble ((bT (bS c).2.2.2.1).length*24) Q7)=true by rw [Z8,Nat.ble_eq,Nat.ble_eq];unfold Q7;omega,Q4]
 refine (RD O (by omega)).trans ?_
 unfold Dj
 rw [Q3]
 refine (Qy9 (d:=d+11) O h).trans ?_
 exact Qya (d:=d+11) O h
theorem Qvo {d:Nat} {c:Cf} (hc:ga c=true):RJ (d+11) c=some (bS c,BA (bS c),List.replicate (bT (bS c).2.2.2.1).length [],-1,0):=by
 have L:=vz (NY hc)
 have iw:=L.fE
 have hf:=L.fl
 have hv:=AI (F:=(bS c).2.2.2.1)
 rw [e80,Yv (q_ hc),Q9,show d+10=d+9+1 by omega,Qsx (by omega),Q9,show d+9+1=d+8+2 by omega,Ix (by omega) hf,Q9]
 rw [nn,Q4,Q4,Q3,show (Nat.ble (bT (bS c).2.2.2.1).length (bT (bS c).2.2.2.1).length&&Nat.ble ((bT (bS c).2.2.2.1).length*24) Q7)=true by rw [Z8,Nat.ble_eq,Nat.ble_eq];unfold Q7;omega,Q4]
theorem RK {d:Nat} {r z:Rg} {KX:List Int->List Int->Option (Rg×List Int)} (O:Ro r) (hx:z.1.2.1.length<=1000):Q8 (rz d r z KX) Qd (0,(BA z.1).1,(BA z.1).2)=KX (AG r z.1).1 (AG r z.1).2:=by
 have iw:=O.lk.fE
 refine Yr (C:=z.1.2.1) (bu:=fun k=>k.2.2.2.2.1) (cb:=fun k=>k.2.2.2.2.2.1) (f:=fun k=>Dg r.1.2.1 r.2.1.1 k k.2.2.2.2.1) (g:=fun k=>Dg r.1.2.1 r.2.1.2 k k.2.2.2.2.2.1) hx ?_ ?_
 .intro ag i c l m hc hl hm
  have hi:=(Z0 hc).1
  have hU:=(Z0 hl).1
  have N3:=(Z0 hm).1
  simp only [rz,bW hc,nn,Q3,hc,Q9,Q4,sV hc]
  rw [Qz7 (by omega),Q9]
  unfold Dg
  by_cases h:0<=bU r.1.2.1 c.1
  .have au:=BB (l:=r.1.2.1) (id:=c.1)
   have t1:=O.t1
   have t2:=O.t2
   have e1:r.2.1.1[(bU r.1.2.1 c.1).toNat]? = some (r.2.1.1.getD (bU r.1.2.1 c.1).toNat 0):=nh (by omega)
   have e2:r.2.1.2[(bU r.1.2.1 c.1).toNat]? = some (r.2.1.2.getD (bU r.1.2.1 c.1).toNat 0):=nh (by omega)
   rw [Z5 (show bU r.1.2.1 c.1>=0 from h),Q4,e1,e2]
   simp only [nn,Q3,Q4,Q9,Qp hU,Qp N3,hl,hm,Qom,Rw]
   rw [aN (by omega),if_pos h,if_pos h]
  .rw [Z4 (show ¬ bU r.1.2.1 c.1>=0 from h),Q5,aN (by omega),if_neg h,if_neg h,Kb hl,Kb hm]
 .intro ag l m;simp only [rz,bB,Q5]
theorem RM {d:Nat} {x1:ByteArray} {x2:List aC} {x3 x4 x5 x6:List Int} {x7:List dR} {x8:List Int} {x9:Int} {q:List Pk} {kx:Int->List Int->List (List Pk)->Option (Rg×List Int)} {t:Ls} {n:Nat} (hq:q.length<=60) (h:gO (x1,x2,x3,x4,x5,x6,x7,x8,x9) t (n+1)):Q8 (rA (d+4) x1 x9 x2 x3 x4 x5 x6 x7 x8 q kx) Qd (t.1,0,t.2)=kx ((q.length:Nat):Int) (q.foldl (oq (x1,x2,x3,x4,x5,x6,x7,x8,x9)) t).1 (q.foldl (oq (x1,x2,x3,x4,x5,x6,x7,x8,x9)) t).2:=by
 refine N1 (fun (t:Ls) (i:Int)=>(t.1,i,t.2)) (fin:=fun t=>kx ((q.length:Nat):Int) t.1 t.2) (f:=oq (x1,x2,x3,x4,x5,x6,x7,x8,x9)) (Kc (x1,x2,x3,x4,x5,x6,x7,x8,x9)) q (by omega) (fun ag t i p n hp hI=>?_) (fun p _ t n h=>Rz h) (fun ag t=>?_) (60*n) t ⟨h.1,by have:=h.2;omega⟩
 .obtain ⟨P,hn⟩:=hI
  have hi:=(Z0 hp).1
  simp only [rA,bW hp,nn,Q3,hp,Q9,Q4]
  rw [Yw P.lr,Q9]
  refine (RN (x:=(x1,x2,x3,x4,x5,x6,x7,x8,x9)) (rows:=t.2) (p:=p) (A:=dI (d+4) ag t.1 ((i:Nat):Int) p 3 0 t.2) (B:=fun y=>dI (d+4) ag t.1 ((i:Nat):Int) p 2 y.1 t.2) (C:=fun y rows=>dI (d+4) ag t.1 ((i:Nat):Int) p 1 y.1 rows) P (fun a y=>?_)).trans ?_
  .have iw:=P.lk.fE
   refine (Qz8 (d:=d+2) (K:=fun k=>iX (d+4) ag t.1 ((i:Nat):Int) t.2 p y k) a (by omega) P.lk.fl (fun ag k=>?_)).trans ?_
   .simp only [ni]
   .unfold iX RO;rfl
  .unfold oq Dh dI
   split
   .rw [show ((3:Int) != 1)=true from rfl,Q4,room (by simp;omega),Q4,aN (by omega)]
   .split
    .rw [show ((2:Int) != 1)=true from rfl,Q4,room (by simp;omega),Q4,aN (by omega)]
    .rw [show ((1:Int) != 1)=false from rfl,Q5,aN (by omega)]
 .simp only [rA,bB,Q5]
theorem Qyb {d:Nat} {r:Rg} {x:Ld} {kx:List Int->List (List Pk)->Option (Rg×List Int)} (O:Ro r) (h:eP x=true):Q8 (rB (d+4) r x.1 x.2.2.2.2.2.2.2.2 x.2.1 x.2.2.1 x.2.2.2.1 x.2.2.2.2.1 x.2.2.2.2.2.1 x.2.2.2.2.2.2.1 x.2.2.2.2.2.2.2.1 kx) Qd ([],0,List.replicate (bT x.2.2.2.1).length [])=kx (AH r x).1 (AH r x).2:=by
 have hb:=RG O
 refine N1 (fun (t:Ls) (i:Int)=>(t.1,i,t.2)) (fin:=fun t=>kx t.1 t.2) (f:=fun t q=>q.foldl (oq x) t) (gO x) r.2.2.1 (by omega) (fun ag t i q n hq hI=>?_) (fun q hq t n h=>RA (O.rb q hq) h) (fun ag t=>?_) 0 ([],_) (RC h (by omega))
 .have hi:=(Z0 hq).1
  simp only [rB,bW hq,nn,Q3,hq,Q9,Q4]
  refine (RM (O.rb q (Zc hq)) hI).trans ?_
  unfold Dk
  rw [aN (by omega)]
 .simp only [rB,bB,Q5]
theorem Qrz {d:Nat} {r:Rg} (O:Ro r):RP (d+3) r=some (vw r):=by
 have oP:=O.lk.fE
 rw [e82]
 unfold vw
 by_cases h0:r.2.2.2.1 < 0
 .rw [Z5 h0,Q4,if_pos h0]
 .obtain ⟨g1,g2⟩:=Yt O h0
  have au:=(Z0 g1).1
  rw [Z4 h0,Q5,Ix (by omega) O.lk.fl,Q9,Z5 (show 0<=r.2.2.2.1 by omega),Q4,Qp au,Q4,g1,Q9,Z5 g2.1,Q4,fu g2,Q9,if_neg h0]
theorem Qvp {x:Ld} (h:eP x=true) {n:Int}:(bT x.2.2.2.1).Pairwise (fun a b=>¬ (((aW x.2.1 a).1==n)=true/\((aW x.2.1 b).1==n)=true)):=by
 refine (List.nodup_iff_pairwise_ne.1 RQ).imp_of_mem fun {a b} ha hb aU ⟨e1,e2⟩=>aU ?_
 exact Rq h (Iw (vz h) ha) (Iw (vz h) hb) ((beq_iff_eq.1 e1).trans (beq_iff_eq.1 e2).symm)
theorem Qjh {d:Nat} {r:Rg} {c:Cf} (hr:mD r=true) (hc:ga c=true):RR (d+12) r c=some (Fg r (bS c)):=by
 have O:=N4 hr
 have h:=NY hc
 have L:=vz h
 have iw:=L.fE
 have hf:=L.fl
 have hv:=AI (F:=(bS c).2.2.2.1)
 rw [show d+12=d+10+2 by omega,e37,show d+10+1=d+11 by omega,Qvo hc,Q9]
 generalize bS c=x at *
 refine (RK (z:=(x,BA x,List.replicate (bT x.2.2.2.1).length [],-1,0)) O (by show x.2.1.length<=1000;omega)).trans ?_
 show wF (d+10) r (x,BA x,List.replicate (bT x.2.2.2.1).length [],-1,0) (AG r x).1 (AG r x).2=_
 unfold wF
 simp only []
 rw [show d+10+1=d+9+2 by omega,Ix (by omega) hf,Q9]
 refine (Qb (fun (t:Int) (i:Int)=>(i,((x,AG r x,List.replicate (bT x.2.2.2.1).length [],t,r.2.2.2.2):Rg))) (bT x.2.2.2.1) (fun w i t k=>k (if ((aW x.2.1 w).1==vw r)=true then ((i:Nat):Int) else t)) (fun t=>wG (d+10) r x.1 x.2.2.2.2.2.2.2.2 t r.2.2.2.2 x.2.1 x.2.2.1 x.2.2.2.1 x.2.2.2.2.1 x.2.2.2.2.2.1 x.2.2.2.2.2.2.1 x.2.2.2.2.2.2.2.1 (AG r x).1 (AG r x).2 (List.replicate (bT x.2.2.2.1).length [])) ?_ ?_ (by rw [Q6];omega) (-1)).trans ?_
 .intro ag t i w hx
  have hi:=(Z0 hx).1
  have hw:=Iw L (Zc hx)
  simp only [wH,bW hx,nn,Q3,hx,Q9,Q4,sV hx]
  rw [Z5 hw.1,Q4,Qp (by have:=hw;unfold vI at this;omega),Q4,fu hw,Q9,show d+10+1=d+8+3 by omega,Qrz O,Q9,aN (by omega)]
  cases ((aW x.2.1 w).1==vw r)<;>rfl
 .intro ag t;simp only [wH,bB,Q5]
 .rw [wI (f:=fun w i (t:Int)=>if ((aW x.2.1 w).1==vw r)=true then ((i:Nat):Int) else t),Yp (p:=fun w=>(aW x.2.1 w).1==vw r) _ _ _ (Qvp h)]
  have Dl:It (fe (fun w=>(aW x.2.1 w).1==vw r) (bT x.2.2.2.1) 0) (-1)=Bz r x:=by
   show It (Bz r x) (-1)=Bz r x
   unfold It
   split
   .rfl
   .rename_i hn
    have:Bz r x < 0:=by omega
    unfold Bz at this ⊢
    exact (N0 _ _ (Kg.1 this)).symm
  rw [Dl]
  unfold wG
  refine (Qyb (d:=d+6) O h).trans ?_
  rfl
def zR:Rg:=((⟨#[]⟩,[],[],[],[],[],[],[],0),([],[]),[],0,0)
abbrev Rr:=Rg×List Int×Bool
def RS:Rr:=(zR,[],false)
def Dm (r:Rg) (c:Cf):Rr:=if ga c=true then ((Fg r (bS c)).1,(Fg r (bS c)).2,true) else RS
def RT (r:Rg) (c:Cf):Rr:=if mD r=true then Dm r c else RS
theorem Qaz {d:Nat} {r:Rg} {c:Cf} (h:AJ r.1) (hl:c.2.1.length < 4000000) (hf:c.2.2.1.length < 4000000):g12 (d+29) r c=some (RT r c):=by
 rw [e12,Yx h,Q9]
 unfold RT Dm
 cases hg:mD r with
 | false=>rfl
 | true =>
  rw [Zl,Q5,show d+28=(d+20)+8 by omega,Yy hl hf,Q9,if_pos rfl]
  cases hc:ga c with
  | false=>rfl
  | true=>rw [Zl,Q5,show d+20+8=d+11+17 by omega,Qay hg hc,Q9,if_pos rfl]
theorem Qmo {d:Nat} {r:Rg} {c:Cf} (hr:mD r=true) (hs:c.1.size < 4000000) (hf:c.2.2.1.length < 4000000):N5 (d+13) r c true=some (Dm r c):=by
 rw [e59,Zl,Q5,show d+12=d+7+5 by omega,Yz hs hf,Q9]
 unfold Dm
 cases hc:ga c with
 | false=>rfl
 | true=>rw [Zl,Q5,show d+7+5=d+12 by omega,Qjh hr hc,Q9,if_pos rfl]
theorem YA {x:Ld}:∀ (l:List (List Pk)) (t:Ls) (n:Nat),(∀ q∈l,q.length<=60)->gO x t (l.length+n)->gO x (l.foldl (fun t q=>q.foldl (oq x) t) t) n
 | [],t,n,_,h=>by simpa using h
 | q::l,t,n,hq,h=>by
  rw [show (q::l).length+n=l.length+n+1 by simp;omega] at h
  exact YA l _ n (fun z hz=>hq z (by simp [hz])) (RA (hq q (by simp)) h)
theorem RU {r:Rg} {x:Ld} (O:Ro r) (h:eP x=true):gO x (AH r x) 0:=YA r.2.2.1 _ 0 O.rb (RC h (by have:=RG O;omega))
theorem Kh:AK zR:=⟨⟨by show (0:Nat)<=_;omega,Nat.zero_le _,Nat.zero_le _,Nat.zero_le _,Nat.zero_le _,Nat.zero_le _,Nat.zero_le _,Nat.zero_le _⟩,⟨Nat.zero_le _,Nat.zero_le _⟩,Nat.zero_le _,fun q hq=>by simp [zR] at hq⟩
theorem RV {r:Rg} {c:Cf} (hr:mD r=true) (hs:c.1.size<=1048576) (hc:ga c=true):AK (Fg r (bS c)).1/\(Fg r (bS c)).2.length<=100000:=by
 have O:=N4 hr
 have h:=NY hc
 have L:=vz h
 have iw:=L.fE
 have hp:=L.pl
 have hf:=L.fl
 have Fi:=(Iv h).f16
 obtain ⟨n1,n2,n3⟩:=Qwi h
 have hv:=AI (F:=(bS c).2.2.2.1)
 obtain ⟨P,hn⟩:=RU O h
 have jZ:=P.rl
 refine ⟨⟨⟨hs,by show (bS c).2.1.length<=_;omega,by show (bS c).2.2.1.length<=_;omega,by show (bS c).2.2.2.1.length<=_;omega,by show (bS c).2.2.2.2.1.length<=_;omega,by show (bS c).2.2.2.2.2.1.length<=_;omega,by show (bS c).2.2.2.2.2.2.1.length<=_;omega,by show (bS c).2.2.2.2.2.2.2.1.length<=_;omega⟩,⟨?_,?_⟩,?_,fun q hq=>?_⟩,by show (AH r (bS c)).1.length<=_;omega⟩
 .show ((bS c).2.1.map _).length<=_;rw [List.length_map];omega
 .show ((bS c).2.1.map _).length<=_;rw [List.length_map];omega
 .show (AH r (bS c)).2.length<=_;omega
 .obtain ⟨k,hk⟩:=List.getElem?_of_mem (show q∈(AH r (bS c)).2 from hq)
  have au:=(Z0 hk).1
  have hw:=Z6 (l:=bT (bS c).2.2.2.1) (i:=k) (by omega)
  have:=P.lm k _ hw
  rw [Zr,hk] at this
  have Iy:=(Iv h).ai _ (Zc (fu (Iw L (Zc hw))))
  unfold mB at this
  simp only [Option.getD_some] at this
  omega
theorem RW {r:Rg} {c:Cf} (hr:mD r=true) (hs:c.1.size<=1048576):AK (Dm r c).1/\(Dm r c).2.1.length<=1048576:=by
 unfold Dm
 split
 .rename_i hc;obtain ⟨h1,h2⟩:=RV hr hs hc;exact ⟨h1,by show (Fg r (bS c)).2.length<=_;omega⟩
 .exact ⟨Kh,Nat.zero_le _⟩
theorem AK.en {r:Rg} (h:AK r):wJ r<=40000000:=by
 have hf:=h.l.2
 obtain ⟨h1,⟨h2,h3⟩,_,_⟩:=h
 have:=N6 (k:=1) h1
 unfold wJ Iz;omega
def RX (c:Cf) (id:Int):Cf:=(c.1,c.2.1,c.2.2.1,id)
def fJ (r:Rg) (id:Int):Rr:=if mD r=true then Dm r (RX (eI r.1) id) else RS
theorem Qgk {d:Nat} {r:Rg} {id:Int} (h:AJ r.1):g24 (d+31) r id=some (fJ r id):=by
 rw [show d+31=d+28+3 by omega,e24,show d+28+1=d+1+28 by omega,Yx h,Q9]
 unfold fJ
 cases hg:mD r with
 | false=>rfl
 | true =>
  obtain ⟨n1,n2⟩:=Qwh (YB hg)
  rw [Zl,Q5,show d+1+28=d+3+26 by omega,Qsw (YB hg),Q9,if_pos rfl]
  show Q1 (g12 (d+3+26) r (RX (eI r.1) id)) _=_
  rw [show d+3+26=d+29 by omega,Qaz h (by show (eI r.1).2.1.length < _;omega) (by show (eI r.1).2.2.1.length < _;omega),Q9]
  unfold RT
  rw [if_pos hg]
theorem Qek {d:Nat} {r:Rg} {id:Int} (h:AJ r.1):g23 (d+14) r id=some (fJ r id):=by
 rw [e23,Qsu h,Q9]
 unfold fJ
 cases hg:mD r with
 | false=>rfl
 | true =>
  have O:=N4 hg
  have iw:=O.lk.fE
  have Fi:=O.lr.f16
  rw [Zl,Q5,show d+13=d+11+2 by omega,YC (by omega) (by omega),Q9,if_pos rfl]
  show Q1 (N5 (d+11+2) r (RX (eI r.1) id) true) _=_
  rw [show d+11+2=d+13 by omega,Qmo hg h.1 (by show r.1.2.2.2.2.2.2.1.length < _;omega),Q9]
theorem YD {r:Rg} {id:Int} (hs:r.1.1.size<=1048576):AK (fJ r id).1/\(fJ r id).2.1.length<=1048576:=by
 unfold fJ
 split
 .rename_i hr;exact RW hr hs
 .exact ⟨Kh,Nat.zero_le _⟩
abbrev tyC:Ty:=.pair (.int .i64) (.pair (.int .i64) (.pair (.int .i64) (.pair (.int .i64) (.pair (.int .i64) (.pair (.int .i64) (.pair (.int .i64) (.int .i64)))))))
abbrev tyF:Ty:=.pair (.int .i64) (.pair (.int .i64) (.pair (.int .i64) (.pair (.int .i64) (.int .i64))))
abbrev Ki:Ty:=.pair .str (.pair (.sl tyC) (.pair (.sl (.int .i64)) (.pair (.sl (.int .i64)) (.pair (.sl (.int .i64)) (.pair (.sl (.int .i64)) (.pair (.sl tyF) (.pair (.sl (.int .i64)) (.int .i64))))))))
abbrev YE:Ty:=.pair (.sl (.int .i64)) (.sl (.int .i64))
theorem Qyd {x:Ld} (h:Wf Ki x):RY x:=by
 obtain ⟨h1,⟨h2,_⟩,⟨h3,_⟩,⟨h4,_⟩,⟨h5,_⟩,⟨h6,_⟩,⟨h7,_⟩,⟨h8,_⟩,_⟩:=h
 exact ⟨h1,h2,h3,h4,h5,h6,h7,h8⟩
def tkW (t:Tk):Prop:=t.1.length<=9223372036854775807/\t.2.length<=9223372036854775807
theorem Qye {t:Tk} (h:Wf YE t):tkW t:=by
 obtain ⟨⟨h2,_⟩,⟨h3,_⟩⟩:=h
 exact ⟨h2,h3⟩
abbrev RZ:Ty:=.pair (.int .i64) (.pair (.int .i64) (.pair (.int .i64) (.pair (.int .i64) (.pair (.int .i64) (.int .i64)))))
abbrev Kj:Ty:=.pair Ki (.pair YE (.pair (.sl (.sl RZ)) (.pair (.int .i64) (.int .i64))))
theorem Qyf {r:Rg} (h:Wf Kj r):R0 r:=by
 obtain ⟨h1,h2,⟨h3,h4⟩,_⟩:=h
 exact ⟨Qyd h1,Qye h2,h3,fun q hq=>(h4 q hq).1⟩
theorem Qs0 {d:Nat} {r:Rg} {ii:Int} (hw:R0 r):g5 (d+32) r ii=some true:=by
 rw [show d+32=(d+29)+3 by omega,e5]
 obtain ⟨z,hz,hB⟩:=Qwd (d:=d+28) hw
 rw [show d+29+2=d+28+3 by omega,hz,Q9]
 by_cases h:z < 0
 .rw [Z5 h,Q4]
 obtain ⟨y0,y1,hl,cF⟩:=hB.resolve_left h
 rw [Z4 h,Q5]
 obtain ⟨l1,l2,l3,l4⟩:=id hl
 obtain ⟨z1,z2,z3,z4,z5,z6,z7,z8⟩:=id l1
 have hV:AK (fJ r ii).1:=(YD z1).1
 obtain ⟨YF,hV2⟩:=hV.l
 have hen:=hV.en
 obtain ⟨v1,v2,v3,v4⟩:=id YF
 obtain ⟨u1,u2,u3,u4,u5,u6,u7,u8⟩:=id v1
 have hT:g10 (d+28+3) r=some r:=by rw [show d+28+3=d+27+4 by omega];exact Qwe hl
 have hE:g13 (d+28+3) r r=some true:=by rw [show d+28+3=d+27+4 by omega];exact YG hl
 have hA:g24 (d+28+3) r ii=some (fJ r ii):=by rw [show d+28+3=d+0+31 by omega];exact Qgk l1.sz
 have hS:g23 (d+28+3) r ii=some (fJ r ii):=by rw [show d+28+3=d+17+14 by omega];exact Qek l1.sz
 have hQ:g13 (d+28+3) (fJ r ii).1 (fJ r ii).1=some true:=by rw [show d+28+3=d+27+4 by omega];exact YG YF
 have hH:g19 (d+28+3) (Kk (fJ r ii).1) ((1:Nat):Int)=some ((wJ (fJ r ii).1:Nat):Int):=Qpq hV
 have hI:(fJ r ii).2.1.length<=1048576:=(YD z1).2
 have hJ:g14 (d+28+3) (fJ r ii).2.1 (fJ r ii).2.1=some true:=by rw [show d+28+3=d+30+1 by omega];exact Dn (by omega)
 have hM:g18 (d+28+3) (fJ r ii).2.1 ((wJ (fJ r ii).1:Nat):Int)=some (((wJ (fJ r ii).1+(fJ r ii).2.1.length:Nat):Int),jL (wJ (fJ r ii).1) (fJ r ii).2.1.length):=by rw [show d+28+3=d+30+1 by omega];exact oQ hI (by omega)
 have hG:g20 (d+28+3) (jL (wJ (fJ r ii).1) (fJ r ii).2.1.length) ((wJ (fJ r ii).1:Nat):Int)=some ((wJ (fJ r ii).1+(fJ r ii).2.1.length:Nat):Int):=by rw [show d+28+3=d+30+1 by omega];exact Dp hI (by omega)
 rw [hT,Q9,hS,Q9,Q9,hA,Q9,hQ,Q9,Zl,Q5,hJ,Q9,Zl,Q5,beq_self_eq_true,Zl]
 unfold BC
 rw [Q5,show d+29+2=d+28+3 by omega,hT,Q9,hE,Q9,Zl,Q5]
 rw [show d+29=d+28+1 by omega,show (1:Int)=((1:Nat):Int) from rfl,YH z2 (by omega),Q9];simp only [];rw [oQ z3 (by omega),Q9];simp only [];rw [oQ z4 (by omega),Q9];simp only [];rw [oQ z5 (by omega),Q9];simp only [];rw [oQ z6 (by omega),Q9];simp only [];rw [YI z7 (by omega),Q9];simp only [];rw [oQ z8 (by omega),Q9];simp only [];rw [oQ l2 (by omega),Q9];simp only [];rw [oQ l3 (by omega),Q9];simp only []
 have hL:=N6 (k:=1) l1
 unfold BD at hL
 refine (YJ (fun ag n i rs=>rfl) l4 cF (by omega)).trans ?_
 unfold iY
 rw [Z4 (by omega),Q5,show d+28+1+2=d+28+3 by omega,hQ,Q9,Zl,Q5,hJ,Q9,Zl,Q5,beq_self_eq_true,Zl]
 unfold wK
 rw [Q5]
 rw [show d+29=d+28+1 by omega,show (1:Int)=((1:Nat):Int) from rfl,YH u2 (by omega),Q9];simp only [];rw [oQ u3 (by omega),Q9];simp only [];rw [oQ u4 (by omega),Q9];simp only [];rw [oQ u5 (by omega),Q9];simp only [];rw [oQ u6 (by omega),Q9];simp only [];rw [YI u7 (by omega),Q9];simp only [];rw [oQ u8 (by omega),Q9];simp only [];rw [oQ v2 (by omega),Q9];simp only [];rw [oQ v3 (by omega),Q9];simp only []
 have hL2:=N6 (k:=1) v1
 unfold BD at hL2
 refine (YJ (fun ag n i rs=>rfl) v4 (by omega) (by omega)).trans ?_
 unfold iZ
 rw [show d+28+1+2=d+28+3 by omega,show (1:Int)=((1:Nat):Int) from rfl]
 show Q1 (g18 (d+28+3) (fJ r ii).2.1 ((wJ (fJ r ii).1:Nat):Int)) _=_
 rw [hM,Q9]
 simp only []
 show Q1 (g19 (d+28+3) (Kk (fJ r ii).1) ((1:Nat):Int)) _=_
 rw [hH,Q9,Z4 (by omega),Q5,hG,Q9,Z4 (by omega),Q5]
 rw [bne_self_eq_false,Q5,hT,Q9,hA,Q9,hQ,Q9,Zl,Q5,hJ,Q9,Zl,Q5,beq_self_eq_true,Zl]
 unfold BE
 rw [Q5]
 show Q1 (g19 (d+28+3) (Kk (fJ r ii).1) ((1:Nat):Int)) _=_
 rw [hH,Q9,Z4 (by omega),Q5,hG,Q9,Z4 (by omega),Q5]
 rw [bne_self_eq_false,Q5]
def tysLaw:List Ty:=[Kj,.int .i64]
theorem lawAny:YK Tryz.prog Qc (32) 5 tysLaw :=
 ⟨rfl,rfl,rfl,fun a h=>by
  obtain ⟨r,ii⟩:=a
  exact ⟨true,Qs0 (d:=0) (Qyf (h ⟨_,r⟩ (List.Mem.head _))),rfl⟩⟩
end Go.Proofs.YtcoimfbmgjhcjaaGreatDoor
