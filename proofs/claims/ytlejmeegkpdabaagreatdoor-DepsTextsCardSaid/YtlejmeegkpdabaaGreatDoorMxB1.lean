/- The proof of a statement, some of its texts joined in build order: part B1. -/
import Derived.Test.YtlejmeegkpdabaaGreatDoorMxK21
import Derived.Test.YtlejmeegkpdabaaGreatDoorMxK6
import Derived.Test.YtlejmeegkpdabaaGreatDoorMxK10
import Derived.Test.YtlejmeegkpdabaaGreatDoorMxK7
set_option maxHeartbeats 1000000
namespace Go.Proofs.YtlejmeegkpdabaaGreatDoor
open Go Go.RowKit Go.Maps
inductive Lkd (B:Bd):List Int→List Int→Prop
 |stop {t:List Int} (h:∀n r,t=n::r→n<0→B n=none):Lkd B t t
 |go {n:Int} {r u p:List Int} (hn:n<0) (hB:B n=some u) (h:Lkd B u p):Lkd B (n::r) p
theorem Lkd.det{B:Bd}{a p p':List Int}(h:Lkd B a p)(h':Lkd B a p'):p=p':=by
 induction h with
 |stop h=>
  cases h' with
  |stop _=>rfl
  |go f b _=>rw[h _ _ rfl f]at b;cases b
 |go f b _ i=>
  cases h' with
  |stop h=>rw[h _ _ rfl f]at b;cases b
  |go _ c g=>rw[b]at c;cases c;exact i g
def Rg(t:List Int):Prop:=∀n∈t,n<0→-24≤n
def eX(B:Bd):Prop:=∀n u,B n=some u→Rg u∧-24≤n
section
variable {s:Sg}{B:Bd}{θ:Int→List Int}{ρ:Int→Nat}
theorem Lkd.spec(h:Slv s B θ ρ){a p:List Int}(hl:Lkd B a p)(ha:W1 s a):W1 s p∧ap θ p=ap θ a∧(∀n r,p=n::r→n<0→B n=none):=by
 induction hl with
 |stop hs=>exact⟨ha,rfl,hs⟩
 |go c b _ j=>
  obtain⟨f,g,i⟩:=j (h.wf _ _ b).1
  have:=ha.leaf c
  subst this
  exact⟨f,by rw[g,cZ c,h.bnd _ _ b],i⟩
theorem Lkd.eta{η:Int→List Int}(hη:dJ B η){a p:List Int}(hl:Lkd B a p)(ha:W1 s a)(hw:∀n u,B n=some u→W1 s u):ap η p=ap η a:=by
 induction hl with
 |stop hs=>rfl
 |go c b _ f=>
  have:=ha.leaf c
  subst this
  rw[f (hw _ _ b),cZ c,hη _ _ b]
theorem Lkd.rg(hr:eX B){a p:List Int}(hl:Lkd B a p)(ha:Rg a):Rg p:=by
 induction hl with
 |stop hs=>exact ha
 |go f b _ c=>exact c (hr _ _ b).1
theorem Lkd.ex(h:Slv s B θ ρ):∀(k:Nat) (a:List Int),(∀n r,a=n::r→n<0→ρ n<k)→∃p,Lkd B a p
 |k,[],_=>⟨[], .stop (fun n r e=>by cases e)⟩
 |k,n::r,hk=>by
  by_cases hn:n<0
  ·cases hB:B n with
   |none=>exact⟨n::r, .stop (fun m r' e h0=>by cases e;exact hB)⟩
   |some u=>
    cases k with
    |zero=>have:=hk n r rfl hn;omega
    |succ k=>
     obtain⟨p,c⟩:=Lkd.ex h k u (fun m r' e b=>by
      have f:=h.rk n u hB m (by rw[e];simp) b
      have g:=hk n r rfl hn
      omega)
     exact⟨p, .go hn hB c⟩
  exact⟨n::r, .stop (fun m r' e h0=>by cases e;exact(hn h0).elim)⟩
end
def free(B:Bd):Nat:=((List.range 24).filter (fun(i:Nat)=>(B (-(i:Int)-1)).isNone)).length
theorem nD{B:Bd}{v:Int}{q:List Int}(hv:v<0)(h24:-24≤v)(hB:B v=none):free (bg B v q)<free B:=by
 unfold free
 have c:(-v-1).toNat∈List.range 24:=by rw[List.mem_range];omega
 have b:-(((-v-1).toNat:Nat):Int)-1=v:=by omega
 have:∀(l:List Nat),(∀i∈l,((bg B v q) (-(i:Int)-1)).isNone=true→(B (-(i:Int)-1)).isNone=true)→(l.filter (fun(i:Nat)=>((bg B v q) (-(i:Int)-1)).isNone)).length≤(l.filter (fun(i:Nat)=>(B (-(i:Int)-1)).isNone)).length∧((-v-1).toNat∈l→(l.filter (fun(i:Nat)=>((bg B v q) (-(i:Int)-1)).isNone)).length<(l.filter (fun(i:Nat)=>(B (-(i:Int)-1)).isNone)).length):=by
  intro l
  induction l with
  |nil=>intro _;simp
  |cons x r m=>
   intro g
   obtain⟨k,j⟩:=m (fun i c=>g i (by simp[c]))
   by_cases hx:((bg B v q) (-(x:Int)-1)).isNone=true
   ·have a:=g x (by simp) hx
    simp only[List.filter_cons,hx,a,if_true,List.length_cons]
    refine⟨by omega,fun f=> ?_⟩
    rcases List.mem_cons.1 f with e|e
    ·rw[←e,b]at hx;simp[bg]at hx
    have:=j e;omega
   by_cases a:(B (-(x:Int)-1)).isNone=true
   ·simp only[List.filter_cons,hx,a,if_true,List.length_cons]
    exact⟨by simp;omega,fun _=>by simp;omega⟩
   simp only[List.filter_cons,hx,a]
   refine⟨k,fun f=> ?_⟩
   rcases List.mem_cons.1 f with e|e
   ·rw[←e,b]at a;rw[hB]at a;simp at a
   exact j e
 refine(this (List.range 24) (fun i _ h=> ?_)).2 c
 unfold bg at h
 split at h
 ·simp at h
 exact h
abbrev Prs:=List (List Int×List Int)
def wt(θ:Int→List Int)(L:Prs):Nat:=(L.map (fun e=>(ap θ e.1).length+(ap θ e.2).length)).sum
theorem Ac(θ:Int→List Int)(L M:Prs):wt θ (L++M)=wt θ L+wt θ M:=by unfold wt;rw[List.map_append,List.sum_append]
theorem Ad(θ:Int→List Int):∀{l m:List (List Int)},l.length=m.length→wt θ (l.zip m)=(ap θ l.flatten).length+(ap θ m.flatten).length
 | [],[],_=>rfl
 |x::l,y::m,h=>by
  have ih:=Ad θ (l:=l) (m:=m) (by simpa using h)
  unfold wt at*
  rw[List.zip_cons_cons,List.map_cons,List.sum_cons,ih,List.flatten_cons,List.flatten_cons,fx,fx,List.length_append,List.length_append]
  simp only;omega
def aK(p q:List Int):List Int×List Int:=if q.headD 0<0 then(q,p)else(p,q)
def Halts(s:Sg):Nat→Bd→Prs→Prop
 |0,_,L=>L=[]
 |k+1,B,L=>∀L0 a b,L=L0++[(a,b)]→∀p q,Lkd B a p→Lkd B b q→
   ((aK p q).1.headD 0<0→(aK p q).2.headD 0=(aK p q).1.headD 0→Halts s k B L0)∧
   ((aK p q).1.headD 0<0→(aK p q).2.headD 0≠(aK p q).1.headD 0→(∃θ ρ,Slv s (bg B ((aK p q).1.headD 0) (aK p q).2) θ ρ)→Halts s k (bg B ((aK p q).1.headD 0) (aK p q).2) L0)∧
   (0≤(aK p q).1.headD 0→(aK p q).2.headD 0=(aK p q).1.headD 0→Halts s k B (L0++(bc s (aK p q).1).zip (bc s (aK p q).2)))
theorem mv{P:List Int→Prop}{p q:List Int}(hp:P p)(hq:P q):P (aK p q).1∧P (aK p q).2:=by
 unfold aK;split
 ·exact⟨hq,hp⟩
 exact⟨hp,hq⟩
def kR(s:Sg)(L:Prs):Prop:=∀e∈L,(W1 s e.1∧Rg e.1)∧(W1 s e.2∧Rg e.2)
theorem zd{α:Type}{l m:List α}{x y:α}(h:l++[x]=m++[y]):l=m∧x=y:=by
 have:=List.append_inj' h rfl
 exact⟨this.1,by simpa using this.2⟩
theorem mV{s:Sg}{t:List Int}(ht:W1 s t)(hr:Rg t):∀u∈bc s t,W1 s u∧Rg u:=by
 intro u a
 cases t with
 |nil=>simp[bc]at a
 |cons n x=>
  obtain⟨-,b,c,-⟩:=ht.args
  refine⟨c u a,fun m f=>hr m ?_⟩
  rw[List.mem_cons]
  right
  rw[←b]
  exact List.mem_flatten.2 ⟨u,a,f⟩
theorem Halts.ex{s:Sg}:∀(f c:Nat) (B:Bd) (θ:Int→List Int) (ρ:Int→Nat) (L:Prs),Slv s B θ ρ→eX B→kR s L→free B≤f→wt θ L≤c→∃k,Halts s k B L:=by
 intro f
 induction f using Nat.strongRecOn with
 |_ f W=>
  intro c
  induction c using Nat.strongRecOn with
  |_ c D=>
   intro B θ ρ L hS j H hf hc
   rcases List.eq_nil_or_concat L with rfl|⟨g,⟨a,b⟩,rfl⟩
   ·exact⟨0,rfl⟩
   rw[List.concat_eq_append]at H hc⊢
   obtain⟨⟨ha,T⟩,⟨hb,U⟩⟩:=H (a,b) (by simp)
   have o:kR s g:=fun e i=>H e (by simp[i])
   obtain⟨M,Z⟩:∃M,(∀n r,a=n::r→n<0→ρ n<M)∧(∀n r,b=n::r→n<0→ρ n<M):=
    ⟨ρ (a.headD 0)+ρ (b.headD 0)+1,fun n r e _=>by subst e;simp;omega,fun n r e _=>by subst e;simp;omega⟩
   obtain⟨p,N⟩:=Lkd.ex hS M a Z.1
   obtain⟨q,R⟩:=Lkd.ex hS M b Z.2
   obtain⟨p1,p2,p3⟩:=N.spec hS ha
   obtain⟨q1,q2,q3⟩:=R.spec hS hb
   have t1:=mv (P:=fun t=>W1 s t∧Rg t∧∀n r,t=n::r→n<0→B n=none) ⟨p1,N.rg j T,p3⟩ ⟨q1,R.rg j U,q3⟩
   have C:wt θ (g++[(a,b)])=wt θ g+((ap θ (aK p q).1).length+(ap θ (aK p q).2).length):=by
    rw[Ac]
    congr 1
    unfold aK wt
    split<;>simp[p2,q2];omega
   obtain⟨⟨F,X,u3⟩,⟨G,w2,w3⟩⟩:=t1
   have J:=(F.ap hS.th).len
   have K:=(G.ap hS.th).len
   have z:∃k,((aK p q).1.headD 0<0→(aK p q).2.headD 0=(aK p q).1.headD 0→Halts s k B g)∧
     ((aK p q).1.headD 0<0→(aK p q).2.headD 0≠(aK p q).1.headD 0→(∃θ ρ,Slv s (bg B ((aK p q).1.headD 0) (aK p q).2) θ ρ)→Halts s k (bg B ((aK p q).1.headD 0) (aK p q).2) g)∧
     (0≤(aK p q).1.headD 0→(aK p q).2.headD 0=(aK p q).1.headD 0→Halts s k B (g++(bc s (aK p q).1).zip (bc s (aK p q).2))):=by
    generalize (aK p q).1=P at*
    generalize (aK p q).2=Q at*
    cases P with
    |nil=>exact(F.ne rfl).elim
    |cons n x=>
     simp only[List.headD_cons]at*
     by_cases w:n<0
     ·by_cases i:Q.headD 0=n
      ·obtain⟨k,v⟩:=D (wt θ g) (by omega) B θ ρ g hS j o hf (Nat.le_refl _)
       exact⟨k,fun _ _=>v,fun _ h=>(h i).elim,fun h=>by omega⟩
      by_cases Y:∃θ ρ,Slv s (bg B n Q) θ ρ
      ·obtain⟨θ',ρ',I⟩:=Y
       have aN:=nD (q:=Q) w (X n (by simp) w) (u3 n x rfl w)
       have A:eX (bg B n Q):=fun m u E=>by
        unfold bg at E
        split at E
        ·rename_i e;subst e;cases E;exact⟨w2,X m (by simp) w⟩
        exact j m u E
       obtain⟨k,v⟩:=W (free (bg B n Q)) (by omega) (wt θ' g) (bg B n Q) θ' ρ' g I A o (Nat.le_refl _) (Nat.le_refl _)
       exact⟨k,fun _ h=>(i h).elim,fun _ _ _=>v,fun h=>by omega⟩
      exact⟨0,fun _ h=>(i h).elim,fun _ _ h=>(Y h).elim,fun h=>by omega⟩
     by_cases i:Q.headD 0=n
     ·cases Q with
      |nil=>exact(G.ne rfl).elim
      |cons m y=>
       simp only[List.headD_cons]at i
       subst i
       obtain⟨a1,a2,a3,-⟩:=F.args
       obtain⟨b1,b2,b3,-⟩:=G.args
       have hz:=Ad θ (l:=bc s (m::x)) (m:=bc s (m::y)) (by rw[a1,b1])
       rw[a2,b2]at hz
       rw[bM w,bM w]at C
       simp only[List.length_cons]at C
       have V:wt θ (g++(bc s (m::x)).zip (bc s (m::y)))<c:=by rw[Ac,hz];omega
       obtain⟨k,v⟩:=D _ V B θ ρ _ hS j (fun e i=>by
        rcases List.mem_append.1 i with h|h
        ·exact o e h
        obtain⟨g1,g2⟩:=List.of_mem_zip h
        exact⟨mV F X _ g1,mV G w2 _ g2⟩) hf (Nat.le_refl _)
       exact⟨k,fun h=>by omega,fun h=>by omega,fun _ _=>v⟩
     exact⟨0,fun h=>by omega,fun h=>by omega,fun _ h=>(i h).elim⟩
   obtain⟨k,v⟩:=z
   refine⟨k+1,fun ad a' b' e p' q' O S=> ?_⟩
   obtain⟨e1,e2⟩:=zd e
   cases e2
   subst e1
   rw[←N.det O,←R.det S]
   exact v
def InfT(a b t:List Int):Prop:=t<:+:a∨t<:+:b
theorem InfT.part{a b t u:List Int}(h:InfT a b t)(hu:u<:+:t):InfT a b u:=by
 rcases h with h|h
 ·exact .inl (hu.trans h)
 exact .inr (hu.trans h)
def kh(a:List Int):List (List Int):=(List.range (a.length+1)).flatMap fun i=>(List.range (a.length+1)).map fun j=>(a.drop i).take j
theorem xe{a t:List Int}(h:t<:+:a):t∈kh a:=by
 obtain⟨x,y,rfl⟩:=h
 unfold kh
 rw[List.mem_flatMap]
 refine⟨x.length,by rw[List.mem_range];simp;omega,?_⟩
 rw[List.mem_map]
 refine⟨t.length,by rw[List.mem_range];simp;omega,?_⟩
 rw[List.append_assoc,List.drop_left,List.take_left]
theorem zt:∀(l:List Nat) (n:Nat),(l.map fun _=>n).sum=l.length*n
 | [],n=>by simp
 |x::l,n=>by rw[List.map_cons,List.sum_cons,zt l n,List.length_cons,Nat.succ_mul];omega
theorem tj(a:List Int):(kh a).length=(a.length+1)*(a.length+1):=by
 unfold kh
 rw[List.length_flatMap]
 simp only[List.length_map,List.length_range]
 rw[zt,List.length_range]
theorem xA{α:Type}[DecidableEq α]:∀{l F:List α},l.Nodup→(∀x∈l,x∈F)→l.length≤F.length
 | [],F,_,_=>Nat.zero_le _
 |x::l,F,h,hm=>by
  rw[List.nodup_cons]at h
  have h1:=xA (F:=F.erase x) h.2 (fun y hy=>(List.mem_erase_of_ne (fun e:y=x=>h.1 (by rw[←e];exact hy))).2 (hm y (by simp[hy])))
  have a:=List.length_erase_of_mem (hm x (by simp))
  have b:=List.length_pos_of_mem (hm x (by simp))
  simp only[List.length_cons];omega
def SubW(θ:Int→List Int)(p q:List Int):Prop:=∃pre post,pre≠ []∧ap θ p=pre++ap θ q++post
section
variable {s:Sg}{θ θ':Int→List Int}{B:Bd}{p q r a b:List Int}
theorem SubW.trans(h:SubW θ p q)(k:SubW θ q r):SubW θ p r:=by
 obtain⟨x,y,hx,h⟩:=h
 obtain⟨b,c,a,k⟩:=k
 exact⟨x++b,c++y,by simp[hx],by rw[h,k];simp⟩
theorem SubW.ne(h:SubW θ p q):p≠q:=by
 rintro rfl
 obtain⟨x,y,hx,h⟩:=h
 have:=congrArg List.length h
 simp only[List.length_append]at this
 have:=List.length_pos_iff.2 hx
 omega
theorem SubW.more(hθ:bh s θ')(hm:∀t,ap θ' (ap θ t)=ap θ' t)(h:SubW θ p q):SubW θ' p q:=by
 obtain⟨x,y,hx,h⟩:=h
 refine⟨ap θ' x,ap θ' y,fun e=> ?_,?_⟩
 ·have:=kW hθ x
  rw[e,List.length_nil]at this
  have:=List.length_pos_iff.2 hx
  omega
 rw[←hm p,h,fx,fx,hm]
theorem SubW.same(h:SubW θ p q)(e:ap θ r=ap θ q):SubW θ p r:=by
 obtain⟨x,y,hx,h⟩:=h;exact⟨x,y,hx,by rw[e];exact h⟩
def Pile(θ:Int→List Int)(a b:List Int):List (List Int)→Prs→Prop
 | [],L=>L.length≤1
 |p::C,L=>∃L0 seg,L=L0++seg∧seg.length≤3∧(∀e∈seg,SubW θ p e.1)∧InfT a b p∧(∀c∈C,SubW θ c p)∧Pile θ a b C L0
theorem Pile.more(hθ:bh s θ')(hm:∀t,ap θ' (ap θ t)=ap θ' t):∀{C:List (List Int)} {L:Prs},Pile θ a b C L→Pile θ' a b C L
 | [],_,h=>h
 |_::_,_,⟨L0,seg,h1,h2,h3,h4,h5,h6⟩=>⟨L0,seg,h1,h2,fun e he=>(h3 e he).more hθ hm,h4,fun c hc=>(h5 c hc).more hθ hm,Pile.more hθ hm h6⟩
theorem Pile.pop:∀{C:List (List Int)} {L:Prs} {e:List Int×List Int},Pile θ a b C (L++[e])→∃C',Pile θ a b C' L∧∀c∈C',SubW θ c e.1
 | [],L,e,h=>by
  have h':(L++[e]).length≤1:=h
  rw[List.length_append,List.length_singleton]at h'
  exact⟨[],by show L.length≤1;omega,fun c k=>by cases k⟩
 |p::C,L,e,⟨o,l,i,s,m,t,n,j⟩=>by
  rcases List.eq_nil_or_concat l with rfl|⟨f,x,rfl⟩
  ·rw[List.append_nil]at i
   rw[←i]at j
   exact Pile.pop j
  rw[List.concat_eq_append,←List.append_assoc]at i
  obtain⟨q,r⟩:=zd i
  subst r
  have hs:=m e (by simp)
  refine⟨p::C,⟨o,f,q,by simp at s;omega,fun y hy=>m y (by simp[hy]),t,n,j⟩,fun c k=> ?_⟩
  rcases List.mem_cons.1 k with g|g
  ·rw[g];exact hs
  exact(n c g).trans hs
theorem Pile.push{C:List (List Int)}{L seg:Prs}(h:Pile θ a b C L)(h2:seg.length≤3)(h3:∀e∈seg,SubW θ p e.1)(h4:InfT a b p)(h5:∀c∈C,SubW θ c p):Pile θ a b (p::C) (L++seg):=
 ⟨L,seg,rfl,h2,h3,h4,h5,h⟩
theorem Pile.chain:∀{C:List (List Int)} {L:Prs},Pile θ a b C L→C.Nodup∧(∀c∈C,InfT a b c)∧L.length≤3*C.length+1
 | [],_,h=>⟨List.nodup_nil,fun _ h=>(by cases h),by have h':List.length _≤1:=h;simpa using h'⟩
 |p::C,_,⟨q,o,i,s,t,j,k,l⟩=>by
  obtain⟨f,g,r⟩:=Pile.chain l
  refine⟨List.nodup_cons.2 ⟨fun n=>(k p n).ne rfl,f⟩,fun c m=> ?_,by rw[i,List.length_append,List.length_cons];omega⟩
  rcases List.mem_cons.1 m with e|e
  ·rw[e];exact j
  exact g c e
theorem Pile.len{C:List (List Int)}{L:Prs}(h:Pile θ a b C L)(ha:a.length≤1000)(hb:b.length≤1000):L.length≤10000000:=by
 obtain⟨c,f,i⟩:=h.chain
 have g:=xA (F:=kh a++kh b) c (fun x hx=>by
  rcases f x hx with e|e
  ·exact List.mem_append.2 (.inl (xe e))
  exact List.mem_append.2 (.inr (xe e)))
 rw[List.length_append,tj,tj]at g
 have j:(a.length+1)*(a.length+1)≤1001*1001:=Nat.mul_le_mul (by omega) (by omega)
 have k:(b.length+1)*(b.length+1)≤1001*1001:=Nat.mul_le_mul (by omega) (by omega)
 omega
theorem pD{n:Int}{x:List Int}(h:W1 s (n::x))(hn:0≤n):∀u∈bc s (n::x),SubW θ (n::x) u∧u<:+:(n::x):=by
 intro u c
 obtain⟨-,b,-,-⟩:=h.args
 obtain⟨l,r,a⟩:=List.append_of_mem c
 rw[a]at b
 have hx:x=l.flatten++u++r.flatten:=by rw[←b,List.flatten_append,List.flatten_cons,List.append_assoc]
 refine⟨⟨n::ap θ l.flatten,ap θ r.flatten,by simp,?_⟩,⟨n::l.flatten,r.flatten,?_⟩⟩
 ·rw[bM (by omega),hx,fx,fx];simp
 rw[hx];simp
theorem Lkd.inf{t:List Int}(hl:Lkd B t p)(hB:∀n u,B n=some u→InfT a b u)(ht:InfT a b t):InfT a b p:=by
 induction hl with
 |stop _=>exact ht
 |go _ c _ f=>exact f (hB _ _ c)
end
theorem kO(w:World):(zeroValue 4).run Tryz.prog w= .ok (.bool false) w:=by kernel_rfl
theorem kg(w:World):(zeroValue 3).run Tryz.prog w= .ok (.int .i64 0) w:=by kernel_rfl
theorem fA{n:Nat}(h:n≤aB):n≤maxLen:=by unfold aB at h;unfold maxLen;omega
def nm(s:Sg)(k:Nat):List ByteArray:=(s.take k).map (fun e=>e.1)
def iY(s:Sg)(k:Nat):Prop:=(s.take k).all f9=true∧(nm s k).Nodup
theorem u9(s:Sg):iY s 0:=by simp[iY,nm]
theorem uZ{s:Sg}{k:Nat}(h:iY s k)(hk:k<s.length)(he:f9 s[k]=true)(hn:s[k].1∉nm s k):iY s (k+1):=by
 obtain⟨g,i⟩:=h
 unfold iY nm at*
 rw[List.take_succ_eq_append_getElem hk]
 refine⟨by rw[List.all_append,g];simp[he],?_⟩
 rw[List.map_append,List.nodup_append]
 refine⟨i,by simp,?_⟩
 intro a ha b f c
 simp at f
 subst f;subst c
 exact hn ha
theorem m6{s:Sg}{k:Nat}(hk:k<s.length)(he:f9 s[k]=false):aH s=false:=by
 have:s.all f9=false:=by rw[List.all_eq_false];exact⟨s[k],List.getElem_mem hk,by simp[he]⟩
 simp[aH,this]
theorem tI{s:Sg}{k:Nat}(hk:k<s.length)(hn:s[k].1∈nm s k):aH s=false:=by
 unfold nm at hn
 have:¬(s.map (·.1)).Nodup:=by
  intro h
  rw[←List.take_append_drop k s,List.map_append,List.nodup_append]at h
  refine h.2.2 _ hn s[k].1 ?_ rfl
  rw[List.drop_eq_getElem_cons hk,List.map_cons];exact List.mem_cons_self ..
 simp[aH,this]
theorem vd{s:Sg}{k:Nat}(hk:s.length≤k)(h:iY s k):aH s=(decide (1≤s.length)&&decide (s.length≤12)&&decide ((s.getD 0 default).2=2)):=by
 obtain⟨b,a⟩:=h
 unfold nm at a
 rw[List.take_of_length_le hk]at b a
 simp[aH,b,a]
theorem nA(x:ByteArray×Int):f9 x=(fc x.1&&(decide (0≤x.2)&&decide (x.2≤3))):=rfl
def gg(s:Sg)(k:Nat)(x:ByteArray):Bool:=(nm s k).any (fun y=>decide (y=x))
theorem E0{s:Sg}{k:Nat}{x:ByteArray}(h:gg s k x=true):x∈nm s k:=by
 simp only[gg,List.any_eq_true,decide_eq_true_eq]at h
 obtain⟨y,hy,rfl⟩:=h;exact hy
theorem EY{s:Sg}{k:Nat}{x:ByteArray}(h:gg s k x=false):x∉nm s k:=by
 simp only[gg,List.any_eq_false,decide_eq_true_eq]at h
 exact fun hx=>h x hx rfl
theorem EZ{s:Sg}{k:Nat}(hk:k<s.length):(fun z=>if z=s[k].1 then true else gg s k z)=gg s (k+1):=by
 funext z
 unfold gg nm
 rw[List.take_succ_eq_append_getElem hk,List.map_append,List.any_append]
 by_cases h:z=s[k].1
 ·simp[h]
 rw[if_neg h];simp;exact fun e=>(h e.symm).elim
def IZ(s:Sg)(w0:World)(i:Value)(wr:World):Prop:=
 ∃k:Nat,i= .int .i64 k∧k≤s.length∧iY s k∧BMap Tryz.prog 9 4 wr w0.heap.size k (gg s k)∧Below w0.heap.size w0 wr
theorem mK{S:Nat→Prop}(a:Option Addr)(c:Nat)(s:Sg)(w:World)(h:Sign S w a c s):
  Calls Tryz.prog 50 #[.slice a s.length c] w fun e w'=>e= .returned (.bool (aH s))∧Below w.heap.size w w':=by
 have m:=h.le
 have av:= @run_makeMap Tryz.prog
 go_enter Tryz.func50,Tryz.ntmps50
 go_wp2_with fail
 go_loopw [9] (fun i wr=>IZ s w i wr) (fun i _=>s.length-(intOf i).toNat)
 case atStart=>exact⟨0,rfl,Nat.zero_le _,u9 s,(funext (fun x=>by simp[gg,nm]):gg s 0=fun _=>false)▸BMap.made w,an _ _⟩
 case round=>
  obtain⟨k,rfl,hk,hg,hm,H⟩:=hrel
  by_cases v:k<s.length
  ·obtain⟨b,o,rfl,-,M,V,q,ac⟩:=h.sym k v
   have W:b<w.heap.size:=World.block_lt_of_cell? w _ M
   have p1:=(H.cell (p:=⟨b,o+k*2,none⟩) W).trans M
   have p2:=(H.cell (p:=⟨b,o+k*2+1,none⟩) W).trans V
   clear M V
   obtain⟨x,hx⟩:∃x,s[k].1=x:=⟨_,rfl⟩
   obtain⟨n,hn⟩:∃n,s[k].2=n:=⟨_,rfl⟩
   rw[hx]at p1 q
   rw[hn]at p2 ac
   have G:=Lib.hid hx
   have R:=Lib.hid hn
   have Y:=Lib.hid hg
   have F:=hm.lt
   clear hx hn hg h
   obtain⟨ok,D⟩:∃ok,fc x=ok:=⟨_,rfl⟩
   cases ok with
   |false=>
    have g:=Lib.hid (m6 v (by rw[nA,G.out,D];rfl))
    have l:=Lib.hid D
    clear D
    go_wp2_with (go_at_call 98;refine(nQ _ _ q).mono ?_;rw[l.out];rintro e r ⟨rfl,f⟩)
    go_ret
    exact⟨aF g.out.symm,m8 H (Nat.le_of_lt F) f⟩
   |true=>
    have l:=Lib.hid D
    clear D
    have Q:∀r,Below (wr.alloc (.cells #[.string x, .int .i64 n] 78)).heap.size (wr.alloc (.cells #[.string x, .int .i64 n] 78)) r→BMap Tryz.prog 9 4 r w.heap.size k (gg s k):=
     fun r f=>(hm.below (B:=wr.heap.size) (an _ _) F).below f (by simp;omega)
    have t:=Lib.hid Q
    clear Q
    obtain⟨mt,y⟩:∃mt,gg s k x=mt:=⟨_,rfl⟩
    cases mt with
    |true=>
     have g:=Lib.hid (tI v (by rw[G.out];exact E0 y))
     have u:=Lib.hid y
     clear y
     go_wp2_with (go_at_call 98;refine(nQ _ _ q).mono ?_;rw[l.out];rintro e r ⟨rfl,f⟩;have C:=(t.out r f).look (tm:=82) Tryz.underlying82 Tryz.underlying9 Tryz.underlying4 (kO r) x (fA q);rw[u.out]at C;have x0:r.cell? ⟨wr.heap.size,0,none⟩=some (.string x):=(f.cell (by simp)).trans (by go_simp))
     go_ret
     exact⟨aF g.out.symm,m8 H (Nat.le_of_lt F) f⟩
    |false=>
     have T:s[k].1∉nm s k:=by rw[G.out];exact EY y
     have U:=Lib.hid T
     have u:=Lib.hid y
     clear y T
     obtain⟨ra,z⟩:∃ra,(decide (0≤n)&&decide (n≤3))=ra:=⟨_,rfl⟩
     cases ra with
     |false=>
      have g:=Lib.hid (m6 v (by rw[nA,R.out,z];simp))
      have E:=Lib.hid z
      clear z
      go_wp2_with (first|(go_at_call 98;refine(nQ _ _ q).mono ?_;rw[l.out];rintro e r ⟨rfl,f⟩;have C:=(t.out r f).look (tm:=82) Tryz.underlying82 Tryz.underlying9 Tryz.underlying4 (kO r) x (fA q);rw[u.out]at C;have x0:r.cell? ⟨wr.heap.size,0,none⟩=some (.string x):=(f.cell (by simp)).trans (by go_simp);have x1:r.cell? ⟨wr.heap.size,1,none⟩=some (.int .i64 n):=(f.cell (by simp)).trans (by go_simp))|(go_at_call 99;refine(fR _ _ _ _).mono ?_;rw[E.out];rintro e w' ⟨rfl,rfl⟩))
      go_ret
      exact⟨aF g.out.symm,m8 H (Nat.le_of_lt F) f⟩
     |true=>
      have K:f9 s[k]=true:=by rw[nA,G.out,R.out,z,l.out];rfl
      have Z:=Lib.hid (uZ Y.out v K U.out)
      have E:=Lib.hid z
      clear z K
      go_wp2_with (first|(go_at_call 98;refine(nQ _ _ q).mono ?_;rw[l.out];rintro e r ⟨rfl,f⟩;have C:=(t.out r f).look (tm:=82) Tryz.underlying82 Tryz.underlying9 Tryz.underlying4 (kO r) x (fA q);rw[u.out]at C;have x0:r.cell? ⟨wr.heap.size,0,none⟩=some (.string x):=(f.cell (by simp)).trans (by go_simp);have x1:r.cell? ⟨wr.heap.size,1,none⟩=some (.int .i64 n):=(f.cell (by simp)).trans (by go_simp);obtain⟨w2,ax,ad,ag⟩:=(t.out r f).store (tm:=82) Tryz.underlying82 Tryz.underlying9 Tryz.underlying4 (by unfold maxLen;omega) x (fA q) true)|(go_at_call 99;refine(fR _ _ _ _).mono ?_;rw[E.out];rintro e w' ⟨rfl,rfl⟩))
      go_roundw
      case rel=>
       have X:=m8 H (Nat.le_of_lt F) f
       exact⟨k+1,by go_num,by omega,Z.out,by rw[←EZ v,G.out];exact ad,X.grown ag (Nat.le_trans (by simp) f.size |> Nat.le_trans H.size) (fun j e=>by cases e;exact Nat.le_refl _)⟩
      case measure=>simp[intOf];omega
  have g:=Lib.hid (vd (by omega) hg)
  by_cases L:1≤s.length∧s.length≤12
  ·have hr:(decide (1≤(s.length:Int))&&decide ((s.length:Int)≤12))=true:=by simp;omega
   have P:0<s.length:=by omega
   obtain⟨b,o,rfl,-,M,V,-,-⟩:=h.sym 0 P
   have W:b<w.heap.size:=World.block_lt_of_cell? w _ M
   have p2:=(H.cell (p:=⟨b,o+0*2+1,none⟩) W).trans V
   rw[Nat.zero_mul,Nat.add_zero]at p2
   have N:(s.getD 0 default).2=s[0].2:=by rw[List.getD_eq_getElem?_getD,List.getElem?_eq_getElem P];rfl
   have O:=Lib.hid N
   have J:=Lib.hid L
   clear M V hg N L h
   go_wp2_with (go_at_call 99;refine(fR _ _ _ _).mono ?_;rw[hr];rintro e w' ⟨rfl,rfl⟩)
   go_ret
   refine⟨aF ?_,H⟩
   rw[g.out,O.out,decide_eq_true J.out.1,decide_eq_true J.out.2]
   rfl
  have hr:(decide (1≤(s.length:Int))&&decide ((s.length:Int)≤12))=false:=by simp;omega
  have A:aH s=false:=by rw[g.out];simp;omega
  have I:=Lib.hid A
  clear hg L h A
  go_wp2_with (go_at_call 99;refine(fR _ _ _ _).mono ?_;rw[hr];rintro e w' ⟨rfl,rfl⟩)
  go_ret
  exact⟨aF I.out.symm,H⟩
def Same2(s:Sg)(a b:List Int)(B:Bd)(L:Prs):Prop:=∀η,bh s η→(ap η a=ap η b↔dJ B η∧∀e∈L,ap η e.1=ap η e.2)
theorem Same2.start(s:Sg)(a b:List Int):Same2 s a b (fun _=>none) [(a,b)]:=fun η _=>⟨fun h=>⟨fun _ _ h=>(by cases h),fun e c=>by rw[List.mem_singleton]at c;rw[c];exact h⟩,fun h=>h.2 (a,b) (by simp)⟩
theorem turned_eq{η:Int→List Int}{p q:List Int}:ap η (aK p q).1=ap η (aK p q).2↔ap η p=ap η q:=by
 unfold aK;split
 ·exact⟨Eq.symm,Eq.symm⟩
 exact Iff.rfl
theorem Same2.done{s:Sg}{a b:List Int}{B:Bd}(h:Same2 s a b B []):∀η,bh s η→(dJ B η↔ap η a=ap η b):=fun η hw=>by rw[h η hw];simp
structure St (s:Sg) (a b:List Int) (k:Nat) (B:Bd) (θ:Int→List Int) (ρ:Int→Nat) (L:Prs):Prop where
 halts:Halts s k B L
 slv:Slv s B θ ρ
 rg:eX B
 ok:kR s L
 eq:Same2 s a b B L
 inf:∀e∈L,InfT a b e.1∧InfT a b e.2
 infB:∀n u,B n=some u→InfT a b u
 pile:∃C,Pile θ a b C L
section
variable {s:Sg}{a b:List Int}{k:Nat}{B:Bd}{θ:Int→List Int}{ρ:Int→Nat}{L:Prs}{x y p q:List Int}
theorem St.start(ha:W1 s a)(hb:W1 s b)(ra:Rg a)(rb:Rg b):∃k,St s a b k (fun _=>none) (fun n=>[n]) (fun _=>0) [(a,b)]:=by
 have f:kR s [(a,b)]:=fun e c=>by rw[List.mem_singleton]at c;rw[c];exact⟨⟨ha,ra⟩,hb,rb⟩
 have g:eX (fun _=>none):=fun _ _ h=>by cases h
 obtain⟨k,i⟩:=Halts.ex (s:=s) _ _ _ _ _ _ (Slv.empty s) g f (Nat.le_refl _) (Nat.le_refl _)
 exact⟨k,i,Slv.empty s,g,f,Same2.start s a b,fun e c=>by rw[List.mem_singleton]at c;rw[c];exact⟨.inl (List.infix_refl _), .inr (List.infix_refl _)⟩,(fun _ _ h=>by cases h),[],Nat.le_refl 1⟩
theorem St.pos(h:St s a b k B θ ρ (L++[(x,y)])):∃m,k=m+1:=by
 cases k with
 |zero=>have:=h.halts;simp[Halts]at this
 |succ m=>exact⟨m,rfl⟩
theorem St.len(h:St s a b k B θ ρ L)(ha:a.length≤1000)(hb:b.length≤1000):L.length≤10000000:=by
 obtain⟨C,c⟩:=h.pile;exact c.len ha hb
theorem St.item(h:St s a b k B θ ρ (L++[(x,y)])):(W1 s x∧Rg x∧InfT a b x)∧W1 s y∧Rg y∧InfT a b y:=by
 obtain⟨⟨c,f⟩,g,i⟩:=h.ok (x,y) (by simp)
 obtain⟨j,l⟩:=h.inf (x,y) (by simp)
 exact⟨⟨c,f,j⟩,g,i,l⟩
structure Seen (s:Sg) (a b:List Int) (B:Bd) (p:List Int):Prop where
 w:W1 s p
 r:Rg p
 i:InfT a b p
 v:p.headD 0<0→p=[p.headD 0]∧B (p.headD 0)=none∧-24≤p.headD 0
theorem Seen.of(h:St s a b k B θ ρ L)(hx:W1 s x)(hr:Rg x)(hi:InfT a b x)(hl:Lkd B x p):Seen s a b B p:=by
 obtain⟨f,l,j⟩:=hl.spec h.slv hx
 have c:=hl.rg h.rg hr
 refine⟨f,c,hl.inf h.infB hi,fun i=> ?_⟩
 cases p with
 |nil=>exact(f.ne rfl).elim
 |cons n r=>
  have g:n<0:=i
  have:=f.leaf g
  subst this
  exact⟨rfl,j n [] rfl g,c n (by simp) g⟩
theorem St.seen(h:St s a b k B θ ρ (L++[(x,y)]))(hp:Lkd B x p)(hq:Lkd B y q):Seen s a b B p∧Seen s a b B q:=by
 obtain⟨⟨c,f,g⟩,i,j,l⟩:=h.item
 exact⟨Seen.of h c f g hp,Seen.of h i j l hq⟩
theorem St.top(h:St s a b k B θ ρ (L++[(x,y)]))(hp:Lkd B x p)(hq:Lkd B y q){η:Int→List Int}(hw:bh s η):
  ap η a=ap η b↔dJ B η∧(∀e∈L,ap η e.1=ap η e.2)∧ap η (aK p q).1=ap η (aK p q).2:=by
 obtain⟨⟨hx,-,-⟩,hy,-,-⟩:=h.item
 have c:∀n u,B n=some u→W1 s u:=fun n u o=>(h.slv.wf n u o).1
 rw[h.eq η hw]
 constructor
 ·rintro⟨f,j⟩
  have i:=j (x,y) (by simp)
  simp only at i
  rw[←hp.eta f hx c,←hq.eta f hy c]at i
  exact⟨f,fun e l=>j e (by simp[l]),turned_eq.2 i⟩
 rintro⟨f,j,i⟩
 have m:ap η p=ap η q:=turned_eq.1 i
 rw[hp.eta f hx c,hq.eta f hy c]at m
 exact⟨f,fun e l=>by
  rcases List.mem_append.1 l with g|g
  ·exact j e g
  rw[List.mem_singleton]at g;rw[g];exact m⟩
theorem St.below(h:St s a b (k+1) B θ ρ (L++[(x,y)])):kR s L∧(∀e∈L,InfT a b e.1∧InfT a b e.2)∧∃C,Pile θ a b C L∧∀c∈C,SubW θ c x:=by
 obtain⟨C,g⟩:=h.pile
 exact⟨fun e f=>h.ok e (by simp[f]),fun e f=>h.inf e (by simp[f]),g.pop⟩
theorem St.same(h:St s a b (k+1) B θ ρ (L++[(x,y)]))(hp:Lkd B x p)(hq:Lkd B y q)(h0:(aK p q).1.headD 0<0)(he:(aK p q).2.headD 0=(aK p q).1.headD 0):St s a b k B θ ρ L:=by
 obtain⟨o,r⟩:=h.seen hp hq
 obtain⟨m,n⟩:=mv (P:=Seen s a b B) o r
 obtain⟨i,j,C,l,-⟩:=h.below
 have f:=(m.v h0).1
 have c:=(n.v (by rw[he];exact h0)).1
 rw[he]at c
 refine⟨(h.halts L x y rfl p q hp hq).1 h0 he,h.slv,h.rg,i,fun η hw=> ?_,j,h.infB,C,l⟩
 rw[h.top hp hq hw]
 exact⟨fun g=>⟨g.1,g.2.1⟩,fun g=>⟨g.1,g.2,by rw[f,c]⟩⟩
theorem St.bind(h:St s a b (k+1) B θ ρ (L++[(x,y)]))(hp:Lkd B x p)(hq:Lkd B y q)(h0:(aK p q).1.headD 0<0)(he:(aK p q).2.headD 0≠(aK p q).1.headD 0)(hocc:(aK p q).1.headD 0∉ap θ (aK p q).2):
  ∃θ' ρ',St s a b k (bg B ((aK p q).1.headD 0) (aK p q).2) θ' ρ' L:=by
 obtain⟨E,F⟩:=h.seen hp hq
 obtain⟨D,m⟩:=mv (P:=Seen s a b B) E F
 obtain⟨t,z,C,A,-⟩:=h.below
 obtain⟨o,f,l⟩:=D.v h0
 obtain⟨θ',ρ',hS⟩:=h.slv.bind h0 f m.w hocc
 have j:=(yH f).1 hS.bnd
 refine⟨θ',ρ',(h.halts L x y rfl p q hp hq).2.1 h0 he ⟨θ',ρ',hS⟩,hS,fun n u c=> ?_,t,fun η hw=> ?_,z,fun n u c=> ?_,C,A.more hS.th (h.slv.most j.1)⟩
 ·unfold bg at c
  split at c
  ·rename_i e;cases c;rw[e];exact⟨m.r,l⟩
  exact h.rg n u c
 ·rw[h.top hp hq hw,yH f]
  have:ap η (aK p q).1=η ((aK p q).1.headD 0):=by
   conv=>lhs;rw[o]
   rw[cZ h0]
  rw[this]
  exact⟨fun g=>⟨⟨g.1,g.2.2⟩,g.2.1⟩,fun g=>⟨g.1.1,g.2,g.1.2⟩⟩
 unfold bg at c
 split at c
 ·cases c;exact m.i
 exact h.infB n u c
theorem St.occ(h:St s a b (k+1) B θ ρ (L++[(x,y)]))(hp:Lkd B x p)(hq:Lkd B y q)(h0:(aK p q).1.headD 0<0)(he:(aK p q).2.headD 0≠(aK p q).1.headD 0)(hocc:(aK p q).1.headD 0∈ap θ (aK p q).2):
  ∀η,bh s η→ap η a≠ap η b:=fun η hw g=>by
 obtain⟨E,F⟩:=h.seen hp hq
 obtain⟨D,t⟩:=mv (P:=Seen s a b B) E F
 obtain⟨u,A,-⟩:=D.v h0
 obtain⟨z,-,o⟩:=(h.top hp hq hw).1 g
 have j:ap θ (aK p q).2≠ [(aK p q).1.headD 0]:=fun e=>by
  obtain⟨n,r,f⟩:∃n r,(aK p q).2=n::r:=by
   cases C:(aK p q).2 with
   |nil=>exact(t.w.ne C).elim
   |cons n r=>exact⟨n,r,rfl⟩
  have i:(aK p q).2.headD 0=n:=by rw[f];rfl
  by_cases c:n<0
  ·obtain⟨l,m,-⟩:=t.v (by rw[i];exact c)
   rw[i]at l m
   rw[l,cZ c,h.slv.free n c m]at e
   exact he (by rw[i];exact(List.cons.inj e).1)
  rw[f,bM c]at e
  have:=(List.cons.inj e).1
  omega
 rw[u,cZ h0]at o
 exact h.slv.occurs_no h0 hocc j hw z o
theorem St.nonneg(h0:0≤(aK p q).1.headD 0):(aK p q).1=p∧(aK p q).2=q∧0≤q.headD 0:=by
 unfold aK at*
 split at h0
 ·rename_i a;simp only at h0;omega
 rename_i a;rw[if_neg a];exact⟨rfl,rfl,by omega⟩
theorem St.clash(h:St s a b (k+1) B θ ρ (L++[(x,y)]))(hp:Lkd B x p)(hq:Lkd B y q)(h0:0≤(aK p q).1.headD 0)(he:(aK p q).1.headD 0≠(aK p q).2.headD 0):
  ∀η,bh s η→ap η a≠ap η b:=fun η hw f=>by
 obtain⟨g,i,j⟩:=St.nonneg h0
 obtain⟨l,o⟩:=h.seen hp hq
 obtain⟨-,-,c⟩:=(h.top hp hq hw).1 f
 rw[g,i]at c he
 rw[g]at h0
 cases p with
 |nil=>exact(l.w.ne rfl).elim
 |cons n r=>
  cases q with
  |nil=>exact(o.w.ne rfl).elim
  |cons m t=>
   simp only[List.headD_cons]at h0 j he
   rw[bM (by omega),bM (by omega)]at c
   exact he (List.cons.inj c).1
theorem xd{f:List Int→List Int}:∀{l m:List (List Int)},l.length=m.length→(l.map f=m.map f↔∀e∈l.zip m,f e.1=f e.2)
 | [],[],_=>by simp
 |x::l,y::m,h=>by
  have ih:=xd (f:=f) (l:=l) (m:=m) (by simpa using h)
  rw[List.map_cons,List.map_cons,List.zip_cons_cons]
  simp only[List.cons.injEq,ih,List.mem_cons,forall_eq_or_imp]
theorem St.args(h:St s a b (k+1) B θ ρ (L++[(x,y)]))(hp:Lkd B x p)(hq:Lkd B y q)(h0:0≤(aK p q).1.headD 0)(he:(aK p q).2.headD 0=(aK p q).1.headD 0)(h3:(bc s (aK p q).1).length≤3):
  St s a b k B θ ρ (L++(bc s (aK p q).1).zip (bc s (aK p q).2)):=by
 obtain⟨t,z,K⟩:=St.nonneg h0
 obtain⟨j,o⟩:=h.seen hp hq
 obtain⟨G,H,C,I,J⟩:=h.below
 have E:=(h.halts L x y rfl p q hp hq).2.2 h0 he
 have l:=fun η hw=>h.top hp hq (η:=η) hw
 rw[t]at h3
 rw[t,z]at he E⊢
 simp only[t,z]at l
 rw[t]at h0
 obtain⟨⟨hx,-,-⟩,-⟩:=h.item
 obtain⟨-,A,-⟩:=hp.spec h.slv hx
 cases p with
 |nil=>exact(j.w.ne rfl).elim
 |cons n r=>
  cases q with
  |nil=>exact(o.w.ne rfl).elim
  |cons m F=>
   simp only[List.headD_cons]at h0 K he
   subst he
   have u:∀e∈(bc s (m::r)).zip (bc s (m::F)),e.1∈bc s (m::r)∧e.2∈bc s (m::F):=fun e f=>by
    obtain⟨t,z⟩:=e
    exact List.of_mem_zip f
   refine⟨E,h.slv,h.rg,fun e f=> ?_,fun η hw=> ?_,fun e f=> ?_,h.infB,_,I.push (p:=m::r) (by rw[List.length_zip];omega) (fun e f=>(pD j.w h0 _ (u e f).1).1) j.i (fun c M=>(J c M).same A)⟩
   ·rcases List.mem_append.1 f with g|g
    ·exact G e g
    exact⟨mV j.w j.r _ (u e g).1,mV o.w o.r _ (u e g).2⟩
   ·rw[l η hw,tt hw j.w o.w h0,xd (by rw[j.w.args.1,o.w.args.1])]
    constructor
    ·rintro⟨D,v,N⟩
     refine⟨D,fun e f=> ?_⟩
     rcases List.mem_append.1 f with g|g
     ·exact v e g
     exact N e g
    rintro⟨D,v⟩
    exact⟨D,fun e g=>v e (by simp[g]),fun e g=>v e (by simp[g])⟩
   rcases List.mem_append.1 f with g|g
   ·exact H e g
   exact⟨j.i.part (pD (θ:=θ) j.w h0 _ (u e g).1).2,o.i.part (pD (θ:=θ) o.w h0 _ (u e g).2).2⟩
structure Nxt (s:Sg) (a b:List Int) (k:Nat) (B:Bd) (θ:Int→List Int) (ρ:Int→Nat) (L:Prs) (P Q:List Int) (p0 q0:Int):Prop where
 hP:P.headD 0=p0
 hQ:Q.headD 0=q0
 sP:Seen s a b B P
 sQ:Seen s a b B Q
 slv:Slv s B θ ρ
 rg:eX B
 same:p0<0→q0=p0→St s a b k B θ ρ L
 bind:p0<0→q0≠p0→p0∉ap θ Q→∃θ' ρ',St s a b k (bg B p0 Q) θ' ρ' L
 occ:p0<0→q0≠p0→p0∈ap θ Q→∀η,bh s η→ap η a≠ap η b
 clash:0≤p0→p0≠q0→∀η,bh s η→ap η a≠ap η b
 args:0≤p0→q0=p0→(bc s P).length≤3→St s a b k B θ ρ (L++(bc s P).zip (bc s Q))
theorem St.nxt(h:St s a b (k+1) B θ ρ (L++[(x,y)]))(hp:Lkd B x p)(hq:Lkd B y q):Nxt s a b k B θ ρ L (aK p q).1 (aK p q).2 ((aK p q).1.headD 0) ((aK p q).2.headD 0):=by
 obtain⟨g,i⟩:=h.seen hp hq
 obtain⟨c,f⟩:=mv (P:=Seen s a b B) g i
 exact⟨rfl,rfl,c,f,h.slv,h.rg,h.same hp hq,h.bind hp hq,h.occ hp hq,h.clash hp hq,h.args hp hq⟩
end
theorem Ig{S:Nat→Prop}{w:World}{a:Option Addr}{c:Nat}{s:Sg}(h:Sign S w a c s)(h0:0<s.length):
  ∃b off,a=some ⟨b,off,none⟩∧S b∧w.cell? ⟨b,off,none⟩=some (.string s[0].1)∧w.cell? ⟨b,off+1,none⟩=some (.int .i64 s[0].2):=by
 obtain⟨b,o,ha,i,f,g,_⟩:=h.sym 0 h0
 simp at f g
 exact⟨b,o,ha,i,f,g⟩
def IX(s:Sg)(w0:World)(i:Value)(wr:World):Prop:=∃k:Nat,i= .int .i64 k∧k≤s.length∧iY s k∧Drew w0 wr
def IY(s:Sg)(w0:World)(x:ByteArray)(k:Nat)(i:Value)(wr:World):Prop:=∃j:Nat,i= .int .i64 j∧j≤k∧x∉nm s j∧Drew w0 wr
theorem Fv{s:Sg}{j:Nat}{x:ByteArray}(hj:j<s.length)(h:x∉nm s j)(hx:s[j].1≠x):x∉nm s (j+1):=by
 unfold nm at*
 rw[List.take_succ_eq_append_getElem hj,List.map_append,List.mem_append,not_or]
 exact⟨h,by simpa using fun e=>hx e.symm⟩
theorem Fu{s:Sg}{j k:Nat}(hj:j<k)(hk:k≤s.length):(s[j]'(by omega)).1∈nm s k:=by
 unfold nm
 exact List.mem_map.2 ⟨s[j],List.mem_take_iff_getElem.2 ⟨j,by omega,rfl⟩,rfl⟩
theorem ox{S:Nat→Prop}(a:Option Addr)(c:Nat)(s:Sg)(w:World)(h:Sign S w a c s):
  Calls Tryz.prog 25 #[.slice a s.length c] w fun e w'=>e= .returned (.bool (aH s))∧Drew w w':=by
 have m:=h.le
 by_cases C:1≤s.length∧s.length≤12
 ·have hr:(decide (1≤(s.length:Int))&&decide ((s.length:Int)≤12))=true:=by simp;omega
  have J:0<s.length:=by omega
  obtain⟨b,o,rfl,ab,-,q0⟩:=Ig h J
  have v:(s.getD 0 default).2=s[0].2:=by rw[List.getD_eq_getElem?_getD,List.getElem?_eq_getElem J];rfl
  have r:=Lib.hid v
  have A:=Lib.hid C
  obtain⟨X,K⟩:∃n,s[0].2=n:=⟨_,rfl⟩
  rw[K]at q0 v
  have r:=Lib.hid v
  clear v K C
  by_cases P:X=2
  ·subst P
   go_enter Tryz.func25,Tryz.ntmps25
   go_wp2_with (go_at_call 64;refine(fq _ _ _ _).mono ?_;rw[hr];rintro e w' ⟨rfl,rfl⟩)
   go_loopw [3,4] (fun i _ wr=>IX s w i wr) (fun i _ _=>s.length-(intOf i).toNat)
   case atStart=>exact⟨0,rfl,Nat.zero_le _,u9 s, .refl _⟩
   case round=>
    obtain⟨k,rfl,hk,hg,n1,rfl⟩:=hrel
    by_cases p:k<s.length
    ·obtain⟨Y,o',G,-,p1,p2,z,W⟩:=h.sym k p
     simp only[Option.some.injEq,Addr.mk.injEq,and_true]at G
     obtain⟨rfl,rfl⟩:=G
     obtain⟨x,hx⟩:∃x,s[k].1=x:=⟨_,rfl⟩
     obtain⟨n,V⟩:∃n,s[k].2=n:=⟨_,rfl⟩
     rw[hx]at p1 z
     rw[V]at p2 W
     obtain⟨ok,E⟩:∃ok,fc x=ok:=⟨_,rfl⟩
     obtain⟨Q,F⟩:∃Q,(decide (0≤n)&&decide (n≤3))=Q:=⟨_,rfl⟩
     have B:f9 s[k]=(ok&&Q):=by rw[nA,hx,V,E,F]
     have M:=Lib.hid hx
     have R:=Lib.hid hg
     have g:=Lib.hid B
     have t:=Lib.hid E
     have u:=Lib.hid F
     have Z:=Lib.hid h
     clear hx V hg B E F h
     cases ok with
     |false=>
      have f:=Lib.hid (m6 p g.out)
      go_wp2_with (first|(go_at_call 64;refine(fq _ _ _ _).mono ?_;rw[u.out];rintro e w' ⟨rfl,rfl⟩)|(go_at_call 65;refine(qK _ _ z).mono ?_;rw[t.out];rintro e w' ⟨rfl,rfl⟩))
      go_ret
      exact⟨aF f.out.symm, .mk _ _⟩
     |true=>
      cases Q with
      |false=>
       have f:=Lib.hid (m6 p g.out)
       go_wp2_with (first|(go_at_call 64;refine(fq _ _ _ _).mono ?_;rw[u.out];rintro e w' ⟨rfl,rfl⟩)|(go_at_call 65;refine(qK _ _ z).mono ?_;rw[t.out];rintro e w' ⟨rfl,rfl⟩))
       go_ret
       exact⟨aF f.out.symm, .mk _ _⟩
      |true=>
       go_wp2_with (first|(go_at_call 64;refine(fq _ _ _ _).mono ?_;rw[u.out];rintro e w' ⟨rfl,rfl⟩)|(go_at_call 65;refine(qK _ _ z).mono ?_;rw[t.out];rintro e w' ⟨rfl,rfl⟩))
       go_loopw [4] (fun i wr=>IY s w x k i wr) (fun i _=>k-(intOf i).toNat)
       case atStart=>exact⟨0,rfl,Nat.zero_le _,by simp[nm], .mk _ _⟩
       case round=>
        obtain⟨j,rfl,hj,D,n2,rfl⟩:=hrel
        by_cases U:j<k
        ·have I:j<s.length:=by omega
         obtain⟨Y,o',G,-,r1,-,-,-⟩:=Z.out.sym j I
         simp only[Option.some.injEq,Addr.mk.injEq,and_true]at G
         obtain⟨rfl,rfl⟩:=G
         have L:=Lib.hid D
         obtain⟨y,hy⟩:∃y,s[j].1=y:=⟨_,rfl⟩
         rw[hy]at r1
         have O:=Lib.hid hy
         clear D hy
         by_cases q:y=x
         ·have f:=Lib.hid (tI p (by rw[M.out,←q,←O.out];exact Fu U (Nat.le_of_lt p)))
          have hb:=fe q
          clear q
          go_wp2_with fail
          go_quiet (fail)
          all_goals go_wp2_with fail
          go_ret
          exact⟨aF f.out.symm, .mk2 _ _ _⟩
         have hb:=eM q
         have N:=Lib.hid q
         clear q
         go_wp2_with fail
         go_quiet (fail)
         all_goals go_wp2_with fail
         exact⟨⟨j+1,by go_num,by omega,Fv I L.out (by rw[O.out];exact N.out), .mk _ _⟩,by simp[intOf];omega⟩
        have H:j=k:=by omega
        subst H
        have T:=Lib.hid (uZ R.out p g.out (by rw[M.out];exact D))
        go_wp2_with fail
        go_roundw
        case rel=>exact⟨j+1,by go_num,by omega,T.out, .mk _ _⟩
        case measure=>simp[intOf];omega
    have f:=Lib.hid (vd (by omega) hg)
    clear hg
    go_wp2_with fail
    go_ret
    refine⟨aF ?_, .mk _ _⟩
    rw[f.out,r.out,decide_eq_true A.out.1,decide_eq_true A.out.2]
    rfl
  have f:aH s=false:=by unfold aH;rw[r.out,decide_eq_false P,Bool.and_false]
  have ad:(X != 2)=true:=by simp[P]
  have l:=Lib.hid f
  clear f P
  go_enter Tryz.func25,Tryz.ntmps25
  go_wp2_with (go_at_call 64;refine(fq _ _ _ _).mono ?_;rw[hr];rintro e w' ⟨rfl,rfl⟩)
  go_ret
  exact⟨aF l.out.symm, .refl _⟩
 have hr:(decide (1≤(s.length:Int))&&decide ((s.length:Int)≤12))=false:=by simp;omega
 have f:aH s=false:=by simp[aH];omega
 have l:=Lib.hid f
 clear f C
 go_enter Tryz.func25,Tryz.ntmps25
 go_wp2_with (go_at_call 64;refine(fq _ _ _ _).mono ?_;rw[hr];rintro e w' ⟨rfl,rfl⟩)
 go_ret
 exact⟨aF l.out.symm, .refl _⟩
theorem CH{s:Sg}{t:List Int}(ht:1≤t.length):decide (eJ s t 0=t.length)=decide (aJ s 1 t=some []):=by
 rw[Bool.eq_iff_iff,decide_eq_true_eq,decide_eq_true_eq]
 cases h:aJ s 1 t with
 |none=>have:=nz s t 0 (by simpa using h);simp at this;rw[this];simp<;>omega
 |some r=>
  obtain⟨a,b,c,f⟩:=kp s t 0 r (by simpa using h)
  simp at a
  rw[a]
  constructor
  ·intro e;have:r.length=0:=by omega
   rw[List.length_eq_zero_iff]at this;rw[this]
  intro e;cases e;simp
theorem B9{s:Sg}{n:Int}:(decide (-12≤n)&&decide (n≤(s.length:Int)-1))=br s n:=by
 rw[Bool.eq_iff_iff];simp[br]<;>omega
theorem fS{S1 S2:Nat→Prop}(a1 a2:Option Addr)(c1 c2:Nat)(s:Sg)(t:List Int)(w:World)(h1:Sign S1 w a1 c1 s)(h2:Ints S2 w a2 c2 t):
  Calls Tryz.prog 89 #[.slice a1 s.length c1, .slice a2 t.length c2] w fun e w'=>e= .returned (.bool (aw s t))∧Below w.heap.size w w':=by
 have m:=h2.le
 obtain⟨ok,f⟩:∃ok,aH s=ok:=⟨_,rfl⟩
 have j:=mK a1 c1 s w h1
 rw[f]at j
 have g:=Lib.hid j
 clear j
 cases ok with
 |false=>
  have a:aw s t=false:=by simp[aw,f]
  have b:=Lib.hid a
  clear a f
  go_enter Tryz.func89,Tryz.ntmps89
  go_wp2_with (go_at_call 50;refine g.out.mono ?_;rintro e l ⟨rfl,c⟩)
  go_ret
  exact⟨aF b.out.symm,c⟩
 |true=>
  by_cases k:1≤t.length∧t.length≤60
  ·have hr:(decide (1≤(t.length:Int))&&decide ((t.length:Int)≤60))=true:=by simp;omega
   have a:aw s t=decide (eJ s t 0=t.length):=by rw[CH k.1];simp[aw,f,k]
   have b:=Lib.hid a
   have h:=Lib.hid f
   clear a f
   go_enter Tryz.func89,Tryz.ntmps89
   go_wp2_with (first|(go_at_call 50;refine g.out.mono ?_;rintro e l ⟨rfl,c⟩)|(go_at_call 99;refine(fR _ _ _ _).mono ?_;rw[hr];rintro e w' ⟨rfl,rfl⟩)|(go_at_call 134;refine(uA h.out 0 _ (.inr ⟨Int.le_refl _,Int.natCast_nonneg _⟩) (h1.below c) (h2.below c)).mono ?_;rintro e w2 ⟨d,rfl,hd,i⟩))
   go_ret
   refine⟨aF ?_,c.trans (i.mono c.size)⟩
   rw[b.out,Bool.eq_iff_iff];simp
  have hr:(decide (1≤(t.length:Int))&&decide ((t.length:Int)≤60))=false:=by simp;omega
  have a:aw s t=false:=by simp[aw,f];omega
  have b:=Lib.hid a
  clear a f
  go_enter Tryz.func89,Tryz.ntmps89
  go_wp2_with (first|(go_at_call 50;refine g.out.mono ?_;rintro e l ⟨rfl,c⟩)|(go_at_call 99;refine(fR _ _ _ _).mono ?_;rw[hr];rintro e w' ⟨rfl,rfl⟩))
  go_ret
  exact⟨aF b.out.symm,c⟩
def G1(s:Sg)(t:List Int)(w:World)(need i:Value)(wr:World):Prop:=
 ∃k n:Nat,i= .int .i64 k∧need= .int .i64 n∧k≤t.length∧n≤1+3*k∧(aJ s n (t.drop k)=some []↔aJ s 1 t=some [])∧Drew w wr
theorem oy{S1 S2:Nat→Prop}(a1 a2:Option Addr)(c1 c2:Nat)(s:Sg)(t:List Int)(w:World)(h1:Sign S1 w a1 c1 s)(h2:Ints S2 w a2 c2 t):
  Calls Tryz.prog 80 #[.slice a1 s.length c1, .slice a2 t.length c2] w fun e w'=>e= .returned (.bool (aw s t))∧Drew w w':=by
 have M:=h1.le
 have N:=h2.le
 obtain⟨ok,f⟩:∃ok,aH s=ok:=⟨_,rfl⟩
 have E:=ox a1 c1 s w h1
 rw[f]at E
 have r:=Lib.hid E
 clear E
 cases ok with
 |false=>
  have a:aw s t=false:=by simp[aw,f]
  have c:=Lib.hid a
  clear a f
  go_enter Tryz.func80,Tryz.ntmps80
  go_wp2_with (go_at_call 25;refine r.out.mono ?_;rintro e G ⟨rfl,p⟩)
  go_ret
  exact⟨aF c.out.symm,p⟩
 |true=>
  by_cases H:1≤t.length∧t.length≤60
  ·have hr:(decide (1≤(t.length:Int))&&decide ((t.length:Int)≤60))=true:=by simp;omega
   have a:aw s t=decide (aJ s 1 t=some []):=by simp[aw,f,H]
   have c:=Lib.hid a
   have x:=Lib.hid f
   clear a f
   go_enter Tryz.func80,Tryz.ntmps80
   go_wp2_with (first|(go_at_call 25;refine r.out.mono ?_;rintro e G ⟨rfl,O,rfl⟩)|(go_at_call 64;refine(fq _ _ _ _).mono ?_;rw[hr];rintro e w' ⟨rfl,rfl⟩))
   go_loopw [5,6] (fun need i wr=>G1 s t w need i wr) (fun _ i _=>t.length-(intOf i).toNat)
   case atStart=>exact⟨0,1,rfl,rfl,Nat.zero_le _,Nat.le_refl _,by simp, .mk _ _⟩
   case round=>
    obtain⟨k,n,rfl,rfl,K,L,hs,J,rfl⟩:=hrel
    by_cases v:k<t.length
    ·have j:=List.drop_eq_getElem_cons v
     rw[j]at hs
     obtain⟨b,o,rfl,-,q,-⟩:=h2.int k v
     by_cases D:n=0
     ·subst D
      have a:aw s t=false:=by rw[c.out,decide_eq_false];rw[←hs,dQ];exact fun e=>by cases e
      have g:=Lib.hid a
      clear hs j a h2 h1
      go_wp2_with fail
      go_ret
      exact⟨aF g.out.symm, .mk _ _⟩
     obtain⟨z,rfl⟩:∃z,n=z+1:=⟨n-1,by omega⟩
     have I:(((z+1:Nat):Int)==0)=false:=by simp;omega
     rw[eu]at hs
     obtain⟨B,h⟩:∃B,br s t[k]=B:=⟨_,rfl⟩
     have hw:=B9 (s:=s) (n:=t[k])
     rw[h]at hw
     rw[h]at hs
     have y:=Lib.hid hw
     clear hw
     cases B with
     |false=>
      have a:aw s t=false:=by rw[c.out,decide_eq_false];rw[←hs];simp
      have g:=Lib.hid a
      clear hs j a h2 h1 h
      go_wp2_with (go_at_call 64;refine(fq _ _ _ _).mono ?_;rw[y.out];rintro e w' ⟨rfl,rfl⟩)
      go_ret
      exact⟨aF g.out.symm, .mk _ _⟩
     |true=>
      rw[if_pos rfl]at hs
      obtain⟨hA,C⟩:=fU x.out h
      have A:=rB a1 c1 s t[k] (w.drewN J) (h1.drewN _) h
      rw[hA]at A
      have u:=Lib.hid A
      have l:=Lib.hid hs
      obtain⟨m,F⟩:∃m,ar s t[k]=m:=⟨_,rfl⟩
      rw[F]at u l C
      clear hs j h A hA F
      go_wp2_with (first|(go_at_call 64;refine(fq _ _ _ _).mono ?_;rw[y.out];rintro e w' ⟨rfl,rfl⟩)|(go_at_call 121;refine u.out.mono ?_;rintro e w' ⟨rfl,rfl⟩))
      go_roundw
      case rel=>exact⟨k+1,z+m,by go_num,by congr 1<;>omega,by omega,by omega,l.out, .mk _ _⟩
      case measure=>simp[intOf];omega
    have hd:t.drop k=[]:=List.drop_eq_nil_of_le (by omega)
    rw[hd]at hs
    have l:=Lib.hid hs
    clear hs hd h1 h2
    go_wp2_with fail
    go_ret
    refine⟨aF ?_, .mk _ _⟩
    rw[c.out,Bool.eq_iff_iff,decide_eq_true_eq,←l.out]
    cases n with
    |zero=>simp[dQ]
    |succ n=>simp[jY]<;>omega
  have hr:(decide (1≤(t.length:Int))&&decide ((t.length:Int)≤60))=false:=by simp;omega
  have a:aw s t=false:=by simp[aw,f];omega
  have c:=Lib.hid a
  clear a f
  go_enter Tryz.func80,Tryz.ntmps80
  go_wp2_with (first|(go_at_call 25;refine r.out.mono ?_;rintro e G ⟨rfl,p⟩)|(go_at_call 64;refine(fq _ _ _ _).mono ?_;rw[hr];rintro e w' ⟨rfl,rfl⟩))
  go_ret
  exact⟨aF c.out.symm,p⟩
abbrev OwnI (w:World) (base:Nat) (v:Value) (l:List Int):Prop:=OwnL intE (fun _=>False) w base 3 v l
def dI:Nat:=1000000
def kA(w:World)(l:List Int)(e:Ending)(w':World):Prop:=∃v,e= .returned v∧OwnI w' w.heap.size v l∧Below w.heap.size w w'
theorem gW:(Tryz.prog.info? 3).map (fun i=>(i.zero,i.size,i.bytes))=some (some (.int .i64 0),1,8):=by kernel_rfl
theorem OwnI.ints{w:World}{base:Nat}{v:Value}{l:List Int}(h:OwnI w base v l):∃a c,v= .slice a l.length c∧Ints (fun b=>base≤b) w a c l:=h.slB (fun _ h=>h.elim)
theorem mC{S:Nat→Prop}(a:Option Addr)(c:Nat)(l:List Int)(w:World)(h:Ints S w a c l)(hl:l.length≤dI):
  Calls Tryz.prog 135 #[.slice a l.length c] w (kA w l):=by
 cases a with
 |none=>
  obtain⟨rfl,rfl⟩:=h.nil rfl
  have g:=fun W=>Lib.run_eql_slice_nil (P:=Tryz.prog) W 42 3 none 0 0 0 0 Tryz.underlying42
  go_enter Tryz.func135,Tryz.ntmps135
  go_wp2_with fail
  go_ret
  exact⟨_,rfl, .nil _ _ _ _ _, .refl _ _⟩
 |some a=>
  have g:=fun W=>Lib.run_eql_slice_nil (P:=Tryz.prog) W 42 3 (some a) l.length c 0 0 Tryz.underlying42
  obtain⟨v',w',b,i,hg,-,-⟩:=(OwnL.made intE (fun _=>False) w w.heap.size 3 (Nat.le_refl _)).append_run (P:=Tryz.prog) (t:=42) (ty:=42) Tryz.underlying42 gW rfl (h.below (an w (.cells #[] 3))) (fun _ _ _ h=>h) (by unfold dI at hl;simp;omega) (by unfold dI at hl;unfold aB;simp;omega) (by simp)
  have j:Below w.heap.size w w':=(an w (.cells #[] 3)).grown hg (by simp) (fun k e=>by simp[Value.ownBlock]at e;omega)
  rw[List.nil_append]at i
  clear hg
  have f:=Lib.hid b
  clear b
  go_enter Tryz.func135,Tryz.ntmps135
  go_wp2_with (at_builtin;refine bo rfl _ _ _ rfl rfl rfl f.out ?_)
  go_ret
  exact⟨_,rfl,i,j⟩
theorem pO{t:List Int}{x:Int}(hx:aE x)(hl:t.length≤dI):aE (bO (aD t) x):=by
 have:=mw t
 unfold dI at hl
 unfold aE at*
 rcases BM (v:=aD t) (n:=x)with h|h<;>omega
def BJ(t:List Int)(w:World)(g cap:Nat)(i:Value)(wr:World):Prop:=
 ∃k:Nat,i= .int .i64 k∧k≤t.length∧IMap Tryz.prog 3 3 wr w.heap.size (aD (t.take k)).length (dY t k)∧
  OwnI wr (w.heap.size+1) (.slice (some ⟨g,0,none⟩) t.length cap) (dz (bO (aD t)) t k)∧Below w.heap.size w wr
theorem tN{S:Nat→Prop}(a:Option Addr)(c:Nat)(t:List Int)(w:World)(h:Ints S w a c t)(hl:t.length≤dI)(hne:t≠ []):
  Calls Tryz.prog 91 #[.slice a t.length c] w (kA w (cz t)):=by
 have m:=h.le
 have aW:= @run_makeMap Tryz.prog
 go_enter Tryz.func91,Tryz.ntmps91
 go_wp2_with fail
 refine(mC a c t _ (h.below (an w _)) hl).mono ?_
 rintro e w1 ⟨v,rfl,I,L⟩
 obtain⟨g,ac,rfl,aq,R⟩:=I.form hne
 have au:IMap Tryz.prog 3 3 w1 w.heap.size 0 (fun _=>none):=(IMap.made w).below L (by simp)
 have aj:Below w.heap.size w w1:=(an w _).trans (L.mono (by simp))
 rw[World.size_alloc]at I aq
 clear L
 go_wp2_with fail
 go_loopw [14] (fun i wr=>BJ t w g ac i wr) (fun i _=>t.length-(intOf i).toNat)
 case atStart=>exact⟨0,rfl,Nat.zero_le _,by rw[xm];exact au,by rw[pZ];exact I,aj⟩
 case round=>
  obtain⟨k,rfl,hk,N,I,L⟩:=hrel
  by_cases A:k<t.length
  ·obtain⟨b,o,rfl,-,q,J⟩:=h.int k A
   have hb:b<w.heap.size:=World.block_lt_of_cell? w _ q
   have p1:=(L.cell (p:=⟨b,o+k,none⟩) hb).trans q
   clear q
   obtain⟨x,hx⟩:∃x,t[k]=x:=⟨_,rfl⟩
   rw[hx]at p1 J
   have C:=Lib.hid hx
   clear hx
   have ag:w.heap.size≠g:=by omega
   by_cases h0:0≤x
   ·obtain⟨r,B⟩:=nX A (.inl (by rw[C.out];exact h0))
    have hd:=uq A (f:=bO (aD t)) (by rw[C.out];exact iT h0)
    have P:=Lib.hid N
    have Q:=Lib.hid I
    have Y:=Lib.hid r
    have D:=Lib.hid B
    have ao:=Lib.hid hd
    clear N I r B hd h
    go_wp2_with fail
    go_roundw
    case rel=>exact⟨k+1,by go_num,by omega,by rw[Y.out,D.out];exact P.out,by rw[←ao.out];exact Q.out,L⟩
    case measure=>simp[intOf];omega
   have U:x<0:=by omega
   obtain⟨aT,aL⟩:=I.cellInt (by rw[eZ]) k (by rw[eZ];exact A)
   have s:=N.look_ok (tm:=159) Tryz.underlying159 Tryz.underlying3 Tryz.underlying3 (kg wr) x J
   have M:=pO (t:=t) J hl
   by_cases hv:x∈aD (t.take k)
   ·have u:=nU hv
    have l:=N.look (tm:=159) Tryz.underlying159 Tryz.underlying3 Tryz.underlying3 (kg wr) x J
    rw[u]at s l
    simp only[Option.getD_some,Option.isSome_some]at s l
    obtain⟨r,B⟩:=nX A (.inr (by rw[C.out];exact hv))
    obtain⟨y,hy⟩:∃y,bO (aD t) x=y:=⟨_,rfl⟩
    rw[hy]at s l M
    obtain⟨H,E⟩:=I.setInt (by rw[eZ]) k y M
    have F:=nr A (f:=bO (aD t))
    rw[C.out,hy]at F
    rw[F]at H
    have P:=Lib.hid (N.same (E.block _ N.lt (by simpa using ag)))
    have Q:=Lib.hid H
    have Y:=Lib.hid r
    have D:=Lib.hid B
    have X:=Lib.hid (L.grown E L.size (fun j e=>by cases e;omega))
    clear N I r B h H F hy u hv E
    go_wp2_with fail
    go_roundw
    case rel=>exact⟨k+1,by go_num,by omega,by rw[Y.out,D.out];exact P.out,Q.out,X.out⟩
    case measure=>simp[intOf];omega
   obtain⟨r,B⟩:=xl A (by rw[C.out];exact U) (by rw[C.out];exact hv)
   rw[C.out]at r
   have G:dY t k x=none:=by unfold dY;rw[if_neg hv]
   have V:x∈aD (t.take (k+1)):=by rw[mx A,C.out,cS,if_pos ⟨U,hv⟩];simp
   have u:=nU V
   obtain⟨y,hy⟩:∃y,bO (aD t) x=y:=⟨_,rfl⟩
   obtain⟨n,hn⟩:∃n,(aD (t.take k)).length=n:=⟨_,rfl⟩
   have a0:n≤t.length:=by have:=mw (t.take k);simp at this;omega
   rw[hy]at u M
   rw[hn]at r B N
   have K:y=-(n:Int)-1:=by
    have h1:=u
    rw[r]at h1
    simp at h1;omega
   rw[G]at s
   simp only[Option.getD_none,Option.isSome_none]at s
   have aO:=N.len (tm:=159) Tryz.underlying159 3
   obtain⟨w2,av,O,R⟩:=N.store (tm:=159) Tryz.underlying159 Tryz.underlying3 Tryz.underlying3 (by unfold dI at hl;unfold maxLen;omega) x J y M G
   rw[K]at av
   have ad:(fun z=>if z=x then some y else dY t k z)=dY t (k+1):=by rw[r,K]
   rw[ad]at O
   have l:=O.look (tm:=159) Tryz.underlying159 Tryz.underlying3 Tryz.underlying3 (kg w2) x J
   rw[u]at l
   simp only[Option.getD_some]at l
   rw[K]at l
   have T:∀q,(Value.slice (some ⟨g,0,none⟩) t.length ac).ownBlock=some q→(some w.heap.size:Option Nat)≠some q:=by
    intro q hq e
    simp[Value.ownBlock]at hq e;omega
   have H:=OwnL.grown I R T (fun b hb _=>hb.elim)
   have W:=L.grown R L.size (fun j e=>by cases e;exact Nat.le_refl _)
   obtain⟨aU,aN⟩:=H.cellInt (by rw[eZ]) k (by rw[eZ];exact A)
   obtain⟨Z,E⟩:=H.setInt (by rw[eZ]) k y M
   have F:=nr A (f:=bO (aD t))
   rw[C.out,hy]at F
   rw[F,K]at Z
   rw[K]at E
   have P:=Lib.hid (O.same (E.block _ O.lt (by simpa using ag)))
   have Q:=Lib.hid Z
   have D:=Lib.hid B
   have X:=Lib.hid (W.grown E W.size (fun j e=>by cases e;omega))
   clear N I r B h Z F hy u hv E O H W ad G V K T R hn
   go_wp2_with fail
   go_roundw
   case rel=>exact⟨k+1,by go_num,by omega,by rw[D.out];exact P.out,Q.out,X.out⟩
   case measure=>simp[intOf];omega
  go_wp2_with fail
  go_ret
  refine⟨_,rfl,?_,L⟩
  rw[pY _ _ _ (by omega)]at I
  unfold cz
  have:=I.baseMono (base':=w.heap.size) (by omega)
  exact this
end Go.Proofs.YtlejmeegkpdabaaGreatDoor
