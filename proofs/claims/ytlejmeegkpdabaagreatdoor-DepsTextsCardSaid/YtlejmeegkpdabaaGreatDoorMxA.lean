/- The proof of a statement, some of its texts joined in build order: part A. -/
import Derived.Test.YtlejmeegkpdabaaGreatDoorMxB4
import Derived.Deep.RegionLaw
import Derived.Test.YtlejmeegkpdabaaGreatDoorMxK19
import Derived.Test.YtlejmeegkpdabaaGreatDoorMxK15
set_option maxHeartbeats 1000000
namespace Go.Proofs.YtlejmeegkpdabaaGreatDoor
open Go Go.RowKit Go.Maps Go.WideMaps
abbrev Stp:=Int×Int×Int
noncomputable def dj(s:Sg)(m n:List Int):List Int×Int:=
 if aw s m=true∧aw s n=true then(if m.headD 0=0 then iL s ((bd s m).getD 0 []) (dK n) ((bd s m).getD 1 [])else([],10))else([],1)
theorem A8{s:Sg}(hok:aH s=true):ar s 0=2:=by
 have a:=(og hok).1
 unfold aH at hok
 simp only[Bool.and_eq_true,decide_eq_true_eq]at hok
 unfold ar dv
 rw[if_neg (by omega),if_pos ⟨by omega,by omega⟩]
 have:=hok.2
 simp only[Int.toNat_zero]at*
 rw[this];rfl
theorem qz{s:Sg}{m:List Int}(h:aw s m=true)(h0:m.headD 0=0):∃A B,bd s m=[A,B]∧m=0::(A++B)∧aw s A=true∧aw s B=true:=by
 obtain⟨a,b,c⟩:=fg h
 rw[h0]at a b
 rw[A8 (bj h).1]at a
 obtain⟨L,f⟩:∃L,bd s m=L:=⟨_,rfl⟩
 rw[f]at a b c
 match L,a with
 | [A,B],_=>
  refine⟨A,B,f,?_,c A (by simp),c B (by simp)⟩
  rw[b];simp
theorem Dn{s:Sg}{m A B:List Int}(h:aw s m=true)(e:m=0::(A++B))(hA:W1 s A):bd s m=[A,B]∧aw s A=true∧aw s B=true:=by
 obtain⟨j,k,g,a,b,i⟩:=qz h (by rw[e];rfl)
 rw[e]at a
 obtain⟨c,f⟩:=W1.uniq hA (fM b) (List.cons.inj a).2
 subst c f
 exact⟨g,b,i⟩
theorem kn{s:Sg}{m n A B:List Int}(h:aw s m=true)(hn:aw s n=true)(e:m=0::(A++B))(hA:W1 s A):dj s m n=iL s A (dK n) B:=by
 unfold dj
 rw[if_pos ⟨h,hn⟩,if_pos (by rw[e];rfl),(Dn h e hA).1];rfl
theorem uf{s:Sg}{m n:List Int}(h:aw s m=true)(hn:aw s n=true)(h0:m.headD 0≠0):dj s m n=([],10):=by
 unfold dj
 rw[if_pos ⟨h,hn⟩,if_neg h0]
theorem ug{s:Sg}{m n:List Int}(h:aw s m=true)(hn:aw s n=true):
  (m.headD 0≠0∧dj s m n=([],10))∨∃A B,bd s m=[A,B]∧m=0::(A++B)∧aw s A=true∧aw s B=true∧
   ((∃θ,IsMgu s A (dK n) θ∧dj s m n=eK θ B∧kf s A (dK n)=true)∨((∀η,bh s η→ap η A≠ap η (dK n))∧dj s m n=([],8)∧kf s A (dK n)=false)):=by
 by_cases b:m.headD 0=0
 ·obtain⟨A,B,g,f,a,i⟩:=qz h b
  refine .inr ⟨A,B,g,f,a,i,?_⟩
  rw[kn h hn f (fM a)]
  rcases IB (bj h).1 (fM a) (kY (fM hn)) (l9 a) (kX hn)with⟨θ,c⟩|⟨j,k,l⟩
  ·exact .inl ⟨θ,c,sC c B,IA c⟩
  exact .inr ⟨j,l B,k⟩
 exact .inl ⟨b,uf h hn b⟩
theorem Cu{s:Sg}{m n:List Int}(h:(dj s m n).2=0):aw s m=true∧aw s n=true∧aw s (dj s m n).1=true:=by
 by_cases a:aw s m=true∧aw s n=true
 ·refine⟨a.1,a.2,?_⟩
  rcases ug a.1 a.2 with⟨-,e⟩|⟨A,B,-,-,-,b,(⟨θ,c,e,-⟩|⟨-,e,-⟩)⟩
  ·rw[e]at h;cases h
  ·rw[e]at h⊢;exact(EN (bj a.1).1 c.th (fM b) h).1
  rw[e]at h;cases h
 unfold dj at h;rw[if_neg a]at h;cases h
theorem Ct{s:Sg}{m n:List Int}(hm:aw s m=true)(hn:aw s n=true):(dj s m n).2=0∨((dj s m n).1=[]∧((dj s m n).2=4∨(dj s m n).2=8∨(dj s m n).2=10)):=by
 rcases ug hm hn with⟨-,e⟩|⟨A,B,-,-,-,a,(⟨θ,b,e,-⟩|⟨-,e,-⟩)⟩
 ·rw[e];exact .inr ⟨rfl, .inr (.inr rfl)⟩
 ·rw[e];unfold eK;split
  ·exact .inl rfl
  exact .inr ⟨rfl, .inl rfl⟩
 rw[e];exact .inr ⟨rfl, .inr (.inl rfl)⟩
def Ins(s:Sg)(a b:List Int):Prop:=∃η,bh s η∧ap η a=b
theorem Ins.canon{s:Sg}{a b:List Int}(h:Ins s a b):Ins s (cz a) (cz b):=by
 obtain⟨η,hw,f⟩:=h
 obtain⟨τ,j,c⟩:=BN (s:=s) a
 refine⟨fun n=>ap (fun n=>[bO (aD b) n]) (ap η (τ n)),fun n i=>((j n i).ap hw).ap (fun m g=>W1.var (nf g)),?_⟩
 rw[←iO (fun n=>ap η (τ n)),←iO τ η,c,f,←pR]
def aY(G:Int)(n:Nat)(x:Stp):Bool:=(decide (x.1=1)&&(decide (0≤x.2.1)&&decide (x.2.1≤G-1))&&decide (x.2.2=0))||(decide (x.1=2)&&(decide (0≤x.2.1)&&decide (x.2.1≤(n:Int)-1))&&(decide (0≤x.2.2)&&decide (x.2.2≤(n:Int)-1)))
def a8(G:Int):Nat→List Stp→Bool
 |_,[]=>true
 |n,x::p=>aY G n x&&a8 G (n+1) p
def dE(G:Int)(p:List Stp):Bool:=a8 G 0 p&&(decide (1≤p.length)&&decide (p.length≤60))
def bk(G:Int)(p:List Stp):Bool:=(decide (0≤G)&&decide (G≤60))&&dE G p
def iX(s:Sg)(g:List (List Int)):Bool:=aH s&&decide (g.length≤60)&&g.all (aw s)
noncomputable def bT(s:Sg)(g l:List (List Int))(x:Stp):List Int×Int:=
 if x.1=1 then(cz (g.getD x.2.1.toNat []),0)else dj s (l.getD x.2.1.toNat []) (l.getD x.2.2.toNat [])
noncomputable def cD(s:Sg)(g:List (List Int)):List Stp→List (List Int)→List (List Int)×Int
 | [],l=>(l,0)
 |x::p,l=>if(bT s g l x).2=0 then cD s g p (l++[(bT s g l x).1])else(l,(bT s g l x).2)
def iQ(s:Sg)(g:List (List Int))(p:List Stp):Bool:=iX s g&&dE g.length p
noncomputable def jW(s:Sg)(g:List (List Int))(p:List Stp):List (List Int)×Int×Int:=
 if iQ s g p=true then(if(cD s g p []).2=0 then((cD s g p []).1,-1,0)else((cD s g p []).1,((cD s g p []).1.length:Int),(cD s g p []).2))else([],0,1)
noncomputable def fO(s:Sg)(g:List (List Int))(p:List Stp):List Int×Int:=
 if iQ s g p=true then(if(cD s g p []).2=0 then((cD s g p []).1.getLastD [],0)else([],(cD s g p []).2))else([],1)
theorem rO{G:Int}{n:Nat}{x:Stp}(h:aY G n x=true)(h1:x.1=1):0≤x.2.1∧x.2.1<G∧x.2.2=0:=by
 simp only[aY,Bool.or_eq_true,Bool.and_eq_true,decide_eq_true_eq]at h;omega
theorem oJ{G:Int}{n:Nat}{x:Stp}(h:aY G n x=true)(h1:x.1≠1):x.1=2∧0≤x.2.1∧x.2.1<n∧0≤x.2.2∧x.2.2<n:=by
 simp only[aY,Bool.or_eq_true,Bool.and_eq_true,decide_eq_true_eq]at h;omega
theorem uY{s:Sg}{g:List (List Int)}(h:iX s g=true):aH s=true∧g.length≤60∧∀t∈g,aw s t=true:=by
 simp only[iX,Bool.and_eq_true,decide_eq_true_eq,List.all_eq_true]at h
 exact⟨h.1.1,h.1.2,h.2⟩
theorem qo{α:Type}{l:List α}{n:Nat}(d:α)(h:n<l.length):l.getD n d∈l:=by
 rw[List.getD_eq_getElem?_getD,List.getElem?_eq_getElem h];exact List.getElem_mem h
theorem si{s:Sg}{g l:List (List Int)}{x:Stp}(hg:∀t∈g,aw s t=true)(hr:aY g.length l.length x=true)(h:(bT s g l x).2=0):aw s (bT s g l x).1=true:=by
 unfold bT at h⊢
 by_cases a:x.1=1
 ·rw[if_pos a]
  obtain⟨b,c,-⟩:=rO hr a
  exact FI (hg _ (qo [] (by omega)))
 rw[if_neg a]at h⊢
 exact(Cu h).2.2
theorem yC{s:Sg}{g:List (List Int)}(hg:∀t∈g,aw s t=true):∀(p:List Stp) (l:List (List Int)),(∀t∈l,aw s t=true)→a8 g.length l.length p=true→(∀t∈(cD s g p l).1,aw s t=true)∧((cD s g p l).2=0→(cD s g p l).1.length=l.length+p.length)∧(cD s g p l).1.length≤l.length+p.length
 | [],l,hl,_=>⟨hl,fun _=>rfl,Nat.le_refl _⟩
 |x::p,l,hl,ho=>by
  simp only[a8,Bool.and_eq_true]at ho
  rw[cD]
  split
  ·rename_i hz
   have hx:=si hg ho.1 hz
   have a:∀t∈l++[(bT s g l x).1],aw s t=true:=fun t c=>by
    rcases List.mem_append.1 c with h|h
    ·exact hl t h
    rw[List.mem_singleton]at h;rw[h];exact hx
   have b:=yC hg p (l++[(bT s g l x).1]) a (by rw[List.length_append,List.length_singleton];exact ho.2)
   rw[List.length_append,List.length_singleton]at b
   refine⟨b.1,fun h=> ?_,?_⟩
   ·rw[b.2.1 h,List.length_cons];omega
   rw[List.length_cons];omega
  rename_i hz
  exact⟨hl,fun h=>(hz h).elim,by simp⟩
theorem l8{G:Int}:∀(p q:List Stp) (n:Nat),a8 G n (p++q)=(a8 G n p&&a8 G (n+p.length) q)
 | [],q,n=>by simp[a8]
 |x::p,q,n=>by
  rw[List.cons_append,a8,a8,l8 p q (n+1),Bool.and_assoc,List.length_cons,show n+1+p.length=n+(p.length+1)by omega]
theorem zW{G:Int}{p:List Stp}(h:dE G p=true):a8 G 0 p=true∧1≤p.length∧p.length≤60:=by
 simp only[dE,Bool.and_eq_true,decide_eq_true_eq]at h;exact h
inductive Tr where
 |g (n:Nat)
 |d (a b:Tr)
def nl(n:Nat):List UInt8:=[UInt8.ofNat (48+n / 10),UInt8.ofNat (48+n % 10)]
def Tr.text:Tr→List UInt8
 | .g n=>103::nl n
 | .d a b=>68::(a.text++b.text)
def Tr.subs:Tr→List Tr
 | .g n=>[.g n]
 | .d a b=> .d a b::(a.subs++b.subs)
theorem Tr.text_len(t:Tr):3≤t.text.length:=by
 induction t with
 |g n=>simp[Tr.text,nl]
 |d a b c f=>simp[Tr.text];omega
theorem Tr.sub_self(t:Tr):t∈t.subs:=by cases t<;>simp[Tr.subs]
def eN(ts:List Tr)(x:Stp):Tr:=if x.1=2 then .d (ts.getD x.2.1.toNat (.g 0)) (ts.getD x.2.2.toNat (.g 0))else .g x.2.1.toNat
def iJ:List Stp→List Tr→List Tr
 | [],ts=>ts
 |x::p,ts=>iJ p (ts++[eN ts x])
def cM(p:List Stp):List Tr:=iJ p []
theorem zI:∀(p q:List Stp) (ts:List Tr),iJ (p++q) ts=iJ q (iJ p ts)
 | [],_,_=>rfl
 |x::p,q,ts=>by rw[List.cons_append,iJ,iJ,zI p q]
theorem zJ:∀(p:List Stp) (ts:List Tr),(iJ p ts).length=ts.length+p.length
 | [],_=>rfl
 |x::p,ts=>by rw[iJ,zJ p,List.length_append,List.length_singleton,List.length_cons];omega
theorem kb(p:List Stp):(cM p).length=p.length:=by unfold cM;rw[zJ];simp
theorem o8(p:List Stp)(x:Stp):cM (p++[x])=cM p++[eN (cM p) x]:=by unfold cM;rw[zI];rfl
theorem nG{α:Type}{ts us:List α}{k:Nat}(d:α)(h:k<ts.length):(ts++us).getD k d=ts.getD k d:=by
 rw[List.getD_eq_getElem?_getD,List.getD_eq_getElem?_getD,List.getElem?_append_left h]
theorem uT{α:Type}(ts:List α)(x d:α):(ts++[x]).getD ts.length d=x:=by
 rw[List.getD_eq_getElem?_getD,List.getElem?_append_right (Nat.le_refl _)];simp
theorem zL{G:Int}{n:Nat}{x:Stp}{ts us:List Tr}(h:aY G n x=true)(hn:n≤ts.length):eN (ts++us) x=eN ts x:=by
 unfold eN
 by_cases a:x.1=2
 ·obtain⟨-,b,c,f,g⟩:=oJ h (by omega)
  rw[if_pos a,if_pos a,nG _ (by omega),nG _ (by omega)]
 rw[if_neg a,if_neg a]
theorem xE{G:Int}:∀(p:List Stp) (n:Nat) (x:Stp),a8 G n (p++[x])=(a8 G n p&&aY G (n+p.length) x)
 | [],n,x=>by simp[a8]
 |y::p,n,x=>by
  rw[List.cons_append,a8,a8,xE p (n+1) x,Bool.and_assoc,List.length_cons,show n+1+p.length=n+(p.length+1)by omega]
theorem ky{G:Int}:∀(p:List Stp) (n k:Nat) (hk:k<p.length),a8 G n p=true→aY G (n+k) p[k]=true
 |x::p,n,0,_,h=>by simp only[a8,Bool.and_eq_true]at h;exact h.1
 |x::p,n,k+1,hk,h=>by
  simp only[a8,Bool.and_eq_true]at h
  have:=ky p (n+1) k (by simpa using hk) h.2
  rw[show n+(k+1)=n+1+k by omega]
  simpa using this
theorem zN{G:Int}:∀(q p:List Stp),a8 G 0 (p++q)=true→(∀k (hk:k<p.length),(cM p).getD k (.g 0)=eN (cM p) p[k])→∀k (hk:k<(p++q).length),(cM (p++q)).getD k (.g 0)=eN (cM (p++q)) (p++q)[k]
 | [],p,_,h,k,hk=>by
  simp only[List.append_nil]at hk⊢
  exact h k hk
 |x::q,p,ho,h,k,hk=>by
  have e:p++x::q=(p++[x])++q:=by simp
  have c:a8 G 0 ((p++[x])++q)=true:=by rw[←e];exact ho
  have hx:aY G p.length x=true:=by
   have:=ky (p++x::q) 0 p.length (by simp) ho
   simpa using this
  have g:∀j (b:j<p.length),aY G j p[j]=true:=fun j b=>by
   have:=ky (p++x::q) 0 j (by simp;omega) ho
   rw[List.getElem_append_left b]at this
   simpa using this
  have f:=zN q (p++[x]) c (fun j b=>by
   rw[o8]
   rw[List.length_append,List.length_singleton]at b
   by_cases a:j<p.length
   ·rw[nG _ (by rw[kb];exact a),h j a,List.getElem_append_left a,zL (g j a) (by rw[kb];omega)]
   obtain rfl:j=p.length:=by omega
   have:=uT (cM p) (eN (cM p) x) (.g 0)
   rw[kb]at this
   rw[this,List.getElem_append_right (Nat.le_refl _)]
   simp only[Nat.sub_self,List.getElem_singleton]
   rw[zL hx (by rw[kb];omega)]) k (by rw[←e];exact hk)
  simp only[←e]at f
  exact f
theorem zM{G:Int}{p:List Stp}(h:a8 G 0 p=true)(k:Nat)(hk:k<p.length):(cM p).getD k (.g 0)=eN (cM p) p[k]:=by
 have:=zN (G:=G) p [] (by simpa using h) (fun k hk=>by simp at hk) k (by simpa using hk)
 simpa using this
def kV(p:List Stp)(x:Stp):List Stp×Nat:=if x∈p then(p,p.idxOf x)else(p++[x],p.length)
structure AddP (G:Int) (p:List Stp) (x:Stp) (p':List Stp) (k:Nat):Prop where
 nd:p'.Nodup
 ok:a8 G 0 p'=true
 more:∃us,cM p'=cM p++us
 le:p.length≤p'.length
 lt:k<p'.length
 len:p'.length≤p.length+1
 new:x∉p→k+1=p'.length
 tr:(cM p').getD k (.g 0)=eN (cM p) x
 all:∀t∈cM p',t∈cM p∨t=eN (cM p) x
 old:x∈p→p'=p
 pre:p<+:p'
theorem AY{G:Int}{p:List Stp}{x:Stp}(nd:p.Nodup)(ok:a8 G 0 p=true)(hx:aY G p.length x=true):AddP G p x (kV p x).1 (kV p x).2:=by
 unfold kV
 by_cases c:x∈p
 ·rw[if_pos c]
  have i:=List.idxOf_lt_length_of_mem c
  exact⟨nd,ok,⟨[],by simp⟩,Nat.le_refl _,i,Nat.le_succ _,fun h=>(h c).elim,by rw[zM ok _ i];simp,fun t f=> .inl f,fun _=>rfl,List.prefix_refl _⟩
 rw[if_neg c]
 refine⟨?_,?_,⟨_,o8 _ _⟩,by simp,by simp,by simp,fun _=>by simp,?_,fun t f=> ?_,fun h=>(c h).elim,List.prefix_append _ _⟩
 ·rw[List.nodup_append]
  exact⟨nd,by simp,fun a ha b g e=>by rw[List.mem_singleton]at g;subst g;subst e;exact c ha⟩
 ·rw[xE,ok,Nat.zero_add,hx];rfl
 ·rw[o8]
  have:=uT (cM p) (eN (cM p) x) (.g 0)
  rw[kb]at this;exact this
 rw[o8,List.mem_append,List.mem_singleton]at f;exact f
def lH(b:UInt8):Bool:=decide (48≤b.toNat)&&decide (b.toNat≤57)
def jR(a b:UInt8):Nat:=10*(a.toNat-48)+(b.toNat-48)
theorem CB{a b:UInt8}(ha:lH a=true)(hb:lH b=true):nl (jR a b)=[a,b]:=by
 simp only[lH,Bool.and_eq_true,decide_eq_true_eq]at ha hb
 unfold nl jR
 have c:48+(10*(a.toNat-48)+(b.toNat-48)) / 10=a.toNat:=by omega
 have f:48+(10*(a.toNat-48)+(b.toNat-48)) % 10=b.toNat:=by omega
 rw[c,f];simp
def fN(ts:List Tr):List (Option Nat)→List UInt8
 | []=>[]
 |none::st=>fN ts st++[68]
 |some m::st=>fN ts st++68::(ts.getD m (.g 0)).text
theorem rL{ts us:List Tr}:∀{st:List (Option Nat)},(∀m,some m∈st→m<ts.length)→fN (ts++us) st=fN ts st
 | [],_=>rfl
 |none::st,h=>by rw[fN,fN,rL (fun m hm=>h m (by simp[hm]))]
 |some m::st,h=>by rw[fN,fN,rL (fun m hm=>h m (by simp[hm])),nG _ (h m (by simp))]
structure Jo (G:Int) (st:List (Option Nat)) (p:List Stp) (w:Option Nat) (c:List UInt8):Prop where
 nd:p.Nodup
 ok:a8 G 0 p=true
 stl:∀m,some m∈st→m<p.length
 open_:w=none→c=fN (cM p) st
 whole:∀k,w=some k→st=[]∧k+1=p.length∧c=((cM p).getD k (.g 0)).text
 le:∀t∈cM p,t.text.length≤c.length
 cnt:p.length+st.length≤c.length
structure Jc (G:Int) (st:List (Option Nat)) (p:List Stp) (k b:Nat) (c:List UInt8):Prop where
 nd:p.Nodup
 ok:a8 G 0 p=true
 stl:∀m,some m∈st→m<p.length
 kl:k<p.length
 txt:c=fN (cM p) st++((cM p).getD k (.g 0)).text
 le:∀t∈cM p,t.text.length≤b∨t.text.length≤((cM p).getD k (.g 0)).text.length
 bl:b<c.length
 last:st=[]→k+1=p.length
 cnt:p.length+st.length≤c.length
theorem Jo.start(G:Int):Jo G [] [] none []:=⟨.nil,rfl,(fun m h=>by cases h),fun _=>rfl,(fun k h=>by cases h),(fun t h=>by cases h),Nat.le_refl _⟩
theorem Jo.d{G:Int}{st:List (Option Nat)}{p:List Stp}{c:List UInt8}(h:Jo G st p none c):Jo G (none::st) p none (c++[68]):=
 ⟨h.nd,h.ok,fun m a=>h.stl m (by simpa using a),fun _=>by rw[fN,←h.open_ rfl],(fun k e=>by cases e),fun t b=>by have:=h.le t b;simp;omega,by have:=h.cnt;simp;omega⟩
theorem GU{G:Int}{n i:Nat}(h:(n:Int)<G):aY G i (1,(n:Int),0)=true:=by
 simp only[aY,Bool.or_eq_true,Bool.and_eq_true,decide_eq_true_eq];left;exact⟨⟨trivial,by omega,by omega⟩,trivial⟩
theorem zK(ts:List Tr)(n:Nat):eN ts (1,(n:Int),0)= .g n:=by unfold eN;rw[if_neg (by simp)];rfl
theorem EX{G:Int}{p:List Stp}{x:Stp}(ok:a8 G 0 p=true)(h:x∈p):eN (cM p) x∈cM p:=by
 obtain⟨i,a,rfl⟩:=List.getElem_of_mem h
 rw[←zM ok i a,List.getD_eq_getElem?_getD,List.getElem?_eq_getElem (by rw[kb];exact a)]
 exact List.getElem_mem _
theorem Jo.g{G:Int}{st:List (Option Nat)}{p:List Stp}{c:List UInt8}{a b:UInt8}(h:Jo G st p none c)(ha:lH a=true)(hb:lH b=true)(hG:(jR a b:Int)<G):
  Jc G st (kV p (1,(jR a b:Int),0)).1 (kV p (1,(jR a b:Int),0)).2 c.length (c++[103,a,b]):=by
 have hS:=AY h.nd h.ok (GU (i:=p.length) hG)
 obtain⟨s,o⟩:=hS.more
 have f:=hS.tr
 rw[zK]at f
 have n:(Tr.g (jR a b)).text=[103,a,b]:=by rw[Tr.text,CB ha hb]
 refine⟨hS.nd,hS.ok,fun m k=>Nat.lt_of_lt_of_le (h.stl m k) hS.le,hS.lt,?_,fun t q=> ?_,by simp,fun l=>hS.new fun k=> ?_,?_⟩
 ·rw[f,n,o,rL (by rw[kb];exact h.stl),←h.open_ rfl]
 ·rcases hS.all t q with j|j
  ·exact .inl (h.le t j)
  rw[f,j,zK];exact .inr (Nat.le_refl _)
 ·have j:=h.le _ (EX h.ok k)
  have r:=Tr.text_len (eN (cM p) (1,(jR a b:Int),0))
  rw[h.open_ rfl,l]at j
  simp only[fN,List.length_nil]at j
  omega
 have:=h.cnt
 have:=hS.len
 simp;omega
theorem Jc.done{G:Int}{p:List Stp}{k b:Nat}{c:List UInt8}(h:Jc G [] p k b c):Jo G [] p (some k) c:=by
 have a:=h.txt
 rw[fN,List.nil_append]at a
 refine⟨h.nd,h.ok,h.stl,(fun e=>by cases e),fun j e=>by cases e;exact⟨rfl,h.last rfl,a⟩,fun t i=> ?_,h.cnt⟩
 have g:=h.bl
 rw[a]at g⊢
 rcases h.le t i with f|f<;>omega
def stpE:Enc Stp:=dC intE (dC intE intE)
abbrev Steps:=Sl stpE
abbrev stpV (x:Stp):Value:= .agg #[.int .i64 x.1, .int .i64 x.2.1, .int .i64 x.2.2]
def fP(x:Stp):Prop:=aE x.1∧aE x.2.1∧aE x.2.2
theorem Sl.stp{S:Nat→Prop}{w:World}{a:Option Addr}{c:Nat}{l:List Stp}(h:Steps S w a c l)(i:Nat)(hi:i<l.length):
  ∃b off,a=some ⟨b,off,none⟩∧S b∧w.cell? ⟨b,off+i*3,none⟩=some (.int .i64 l[i].1)∧w.cell? ⟨b,off+i*3+1,none⟩=some (.int .i64 l[i].2.1)∧w.cell? ⟨b,off+i*3+2,none⟩=some (.int .i64 l[i].2.2)∧fP l[i]:=by
 obtain⟨b,off,ha,p,_,vs,_,f,hr⟩:=h.at1 i hi
 obtain⟨t,s,rfl,⟨rfl,m⟩,r,q,rfl,⟨rfl,n⟩,⟨rfl,o⟩⟩:=hr
 have g:=f 0 (by simp)
 have j:=f 1 (by simp)
 have k:=f 2 (by simp)
 simp[stpE,dC,intE]at g j k
 exact⟨b,off,ha,p,g,j,k,m,n,o⟩
theorem lM(n lo hi:Int)(w:World):
  Calls Tryz.prog 106 #[.int .i64 n, .int .i64 lo, .int .i64 hi] w fun e w'=>e= .returned (.bool (decide (lo≤n)&&decide (n≤hi)))∧w=w':=by
 go_enter Tryz.func106,Tryz.ntmps106
 go_wp2
 all_goals go_ret
 all_goals exact⟨aF (by simp;omega),rfl⟩
theorem GT(G:Int)(n:Nat)(x:Stp)(w:World)(h0:0≤G)(h1:G≤1000000)(hn:n≤9223372036854775807):
  Calls Tryz.prog 105 #[.int .i64 G, .int .i64 n,stpV x] w fun e w'=>e= .returned (.bool (aY G n x))∧Below w.heap.size w w':=by
 obtain⟨k,A,B⟩:=x
 have v:IntKind.i64.wrap (G-1)=G-1:=IntWalk.i64_in _ (by omega)
 have C:IntKind.i64.wrap ((n:Int)-1)=(n:Int)-1:=IntWalk.i64_in _ (by omega)
 have h:=an w (.cells #[.int .i64 k, .int .i64 A, .int .i64 B] 72)
 have m:=fun W=>lM A 0 (G-1) W
 have o:=fun W=>lM A 0 ((n:Int)-1) W
 have p:=fun W=>lM B 0 ((n:Int)-1) W
 by_cases f:k=1
 ·subst f
  have b:aY G n (1,A,B)=((decide (0≤A)&&decide (A≤G-1))&&decide (B=0)):=by simp[aY]
  obtain⟨y,hy⟩:∃y,(decide (0≤A)&&decide (A≤G-1))=y:=⟨_,rfl⟩
  rw[hy]at m b
  have c:=Lib.hid m
  have a:=Lib.hid b
  clear m o p b hy
  cases y with
  |false=>
   go_enter Tryz.func105,Tryz.ntmps105
   go_wp2_with (go_at_call 106;refine(c.out _).mono ?_;rintro e l ⟨rfl,rfl⟩)
   go_ret
   exact⟨by rw[a.out];rfl,h⟩
  |true=>
   by_cases r:B=0
   ·subst r
    go_enter Tryz.func105,Tryz.ntmps105
    go_wp2_with (go_at_call 106;refine(c.out _).mono ?_;rintro e l ⟨rfl,rfl⟩)
    go_ret
    exact⟨by rw[a.out];rfl,h⟩
   have u:(B==0)=false:=by simpa using r
   go_enter Tryz.func105,Tryz.ntmps105
   go_wp2_with (go_at_call 106;refine(c.out _).mono ?_;rintro e l ⟨rfl,rfl⟩)
   go_ret
   exact⟨by rw[a.out,decide_eq_false r];rfl,h⟩
 have j:(k==1)=false:=by simpa using f
 by_cases g:k=2
 ·subst g
  have b:aY G n (2,A,B)=((decide (0≤A)&&decide (A≤(n:Int)-1))&&(decide (0≤B)&&decide (B≤(n:Int)-1))):=by simp[aY]
  obtain⟨y,hy⟩:∃y,(decide (0≤A)&&decide (A≤(n:Int)-1))=y:=⟨_,rfl⟩
  obtain⟨z,t⟩:∃y,(decide (0≤B)&&decide (B≤(n:Int)-1))=y:=⟨_,rfl⟩
  rw[hy]at o b
  rw[t]at p b
  have i:=Lib.hid o
  have q:=Lib.hid p
  have a:=Lib.hid b
  clear m o p b hy t j
  cases y with
  |false=>
   go_enter Tryz.func105,Tryz.ntmps105
   go_wp2_with fail
   refine(i.out _).mono ?_
   rintro e l ⟨rfl,rfl⟩
   go_wp2_with fail
   go_ret
   exact⟨by rw[a.out];rfl,h⟩
  |true=>
   go_enter Tryz.func105,Tryz.ntmps105
   go_wp2_with fail
   refine(i.out _).mono ?_
   rintro e l ⟨rfl,rfl⟩
   go_wp2_with fail
   refine(q.out _).mono ?_
   rintro e l ⟨rfl,rfl⟩
   go_wp2_with fail
   go_ret
   exact⟨by rw[a.out];rfl,h⟩
 have s:(k==2)=false:=by simpa using g
 have b:aY G n (k,A,B)=false:=by simp[aY,f,g]
 go_enter Tryz.func105,Tryz.ntmps105
 go_wp2_with fail
 go_ret
 exact⟨by rw[b];rfl,h⟩
theorem rl{G:Int}:∀(p:List Stp) (n:Nat) (x:Stp),a8 G n (p++[x])=(a8 G n p&&aY G (n+p.length) x)
 | [],n,x=>by simp[a8]
 |y::p,n,x=>by
  rw[List.cons_append,a8,a8,rl p (n+1) x,Bool.and_assoc,List.length_cons,show n+1+p.length=n+(p.length+1)by omega]
theorem rm{G:Int}:∀(p:List Stp) (n k:Nat),a8 G n p=true→a8 G n (p.take k)=true
 | [],_,_,_=>by simp[a8]
 |x::p,n,0,_=>rfl
 |x::p,n,k+1,h=>by
  simp only[a8,Bool.and_eq_true]at h
  rw[List.take_succ_cons,a8,Bool.and_eq_true]
  exact⟨h.1,rm p (n+1) k h.2⟩
theorem qQ{S:Nat→Prop}(G:Int)(a:Option Addr)(c:Nat)(p:List Stp)(w:World)(h:Steps S w a c p)(h0:0≤G)(h1:G≤1000000):
  Calls Tryz.prog 55 #[.int .i64 G, .slice a p.length c] w fun e w'=>e= .returned (.bool (dE G p))∧Below w.heap.size w w':=by
 have m:=h.le
 go_enter Tryz.func55,Tryz.ntmps55
 go_wp2_with fail
 go_loopw [9] (fun i wr=>∃k:Nat,k≤p.length∧i= .int .i64 k∧a8 G 0 (p.take k)=true∧Below w.heap.size w wr) (fun i _=>p.length-(intOf i).toNat)
 case atStart=>exact⟨0,Nat.zero_le _,rfl,rfl, .refl _ _⟩
 case round=>
  obtain⟨k,I,rfl,g,t⟩:=hrel
  by_cases r:k<p.length
  ·obtain⟨b,o,rfl,-,z,A,B,hr⟩:=(h.below t).stp k r
   have f:=rl (G:=G) (p.take k) 0 p[k]
   rw[List.length_take,Nat.min_eq_left (by omega),Nat.zero_add,←List.take_succ_eq_append_getElem r,g,Bool.true_and]at f
   have s:=fun W=>GT G k p[k] W h0 h1 (by omega)
   obtain⟨x,hx⟩:∃x,p[k]=x:=⟨_,rfl⟩
   obtain⟨y,hy⟩:∃y,aY G k p[k]=y:=⟨_,rfl⟩
   rw[hy]at f s
   rw[hx]at s z A B
   obtain⟨E,F,H⟩:=x
   simp only at z A B
   have q:=fun W=>an W (.cells #[.int .i64 E, .int .i64 F, .int .i64 H] 72)
   have l:=Lib.hid s
   have j:=Lib.hid f
   have n:=Lib.hid t
   clear s f t g hx hy h
   cases y with
   |true=>
    go_wp2_with (go_at_call 105;refine(l.out _).mono ?_;rintro e C ⟨rfl,v⟩)
    go_roundw
    case rel=>exact⟨k+1,by omega,by go_num,j.out,aa n.out (aa (q _) v)⟩
    case measure=>simp[intOf];omega
   |false=>
    go_wp2_with (go_at_call 105;refine(l.out _).mono ?_;rintro e C ⟨rfl,v⟩)
    go_ret
    have hf:dE G p=false:=by
     unfold dE
     cases D:a8 G 0 p with
     |false=>rfl
     |true=>have:=rm p 0 (k+1) D;rw[j.out]at this;cases this
    exact⟨aF hf.symm,aa n.out (aa (q _) v)⟩
  rw[List.take_of_length_le (by omega)]at g
  have cw:=fun W=>lM (p.length:Int) 1 60 W
  have hf:(decide ((1:Int)≤p.length)&&decide ((p.length:Int)≤60))=dE G p:=by
   unfold dE
   rw[g,Bool.true_and,Bool.eq_iff_iff]
   simp only[Bool.and_eq_true,decide_eq_true_eq]
   omega
  rw[hf]at cw
  have u:=Lib.hid cw
  clear g cw hf
  go_wp2_with (go_at_call 106;refine(u.out _).mono ?_;rintro e C ⟨rfl,rfl⟩)
  go_ret
  exact⟨rfl,t⟩
theorem Ay{S1 S2:Nat→Prop}(a1 a2:Option Addr)(c1 c2:Nat)(s:Sg)(L:List (List Int))(bx:Nat)(w:World)(h1:Sign S1 w a1 c1 s)(h2:Terms S2 w a2 c2 L)(hq:w.cell? ⟨bx,0,none⟩=some (.slice a1 s.length c1)):
  Calls Tryz.prog 244 #[.slice a2 L.length c2, .func (.func 236) #[] #[.pointer (some ⟨bx,0,none⟩)]] w (D3 s L w):=by
 have D:=h2.le
 have t:bx<w.heap.size:=World.block_lt_of_cell? w _ hq
 go_enter Tryz.func244,Tryz.ntmps244
 go_wp2_with fail
 go_loopw [8] (fun i wr=>∃k:Nat,k≤L.length∧i= .int .i64 k∧(L.take k).all (aw s)=true∧Below w.heap.size w wr) (fun i _=>L.length-(intOf i).toNat)
 case atStart=>exact⟨0,Nat.zero_le _,rfl,rfl, .refl _ _⟩
 case round=>
  obtain⟨k,C,rfl,a,g⟩:=hrel
  by_cases h:k<L.length
  ·obtain⟨b,o,v,y,rfl,-,q,r⟩:=h2.sub k h
   have E:=(g.cell (p:=⟨b,o+k,none⟩) (World.block_lt_of_cell? _ _ q)).trans q
   have B:=(g.cell (p:=⟨bx,0,none⟩) t).trans hq
   have n:=fS a1 v c1 y s L[k] wr (h1.below g) (r.below g)
   obtain⟨x,hx⟩:∃x,aw s L[k]=x:=⟨_,rfl⟩
   rw[hx]at n
   have z:Calls Tryz.prog 236 #[.slice v L[k].length y, .pointer (some ⟨bx,0,none⟩)] wr fun e w'=>e= .returned (.bool (!x))∧Below wr.heap.size wr w':=by
    have u:=Lib.hid n
    clear n r h1 h2 hx g a q hq
    go_enter Tryz.func236,Tryz.ntmps236
    go_wp2_with (go_at_call 89;refine u.out.mono ?_;rintro e A ⟨rfl,l⟩)
    go_ret
    exact⟨rfl,l⟩
   have j:=Lib.hid z
   have c:=Lib.hid a
   have m:=Lib.hid hx
   have f:=Lib.hid g
   clear n z a r h1 h2 hx g q hq
   cases x with
   |true=>
    go_wp2_with (go_at_call 236;refine j.out.mono ?_;rintro e A ⟨rfl,l⟩)
    go_roundw
    case rel=>exact⟨k+1,by omega,by go_num,by rw[List.take_succ_eq_append_getElem h,List.all_append,c.out];simp[m.out],f.out.trans (l.mono f.out.size)⟩
    case measure=>simp[intOf];omega
   |false=>
    go_wp2_with (go_at_call 236;refine j.out.mono ?_;rintro e A ⟨rfl,l⟩)
    go_ret
    have hf:L.all (aw s)=false:=by rw[List.all_eq_false];exact⟨L[k],List.getElem_mem h,by rw[m.out];simp⟩
    exact⟨k,rfl,by omega,by rw[hf];simp,f.out.trans (l.mono f.out.size)⟩
  rw[List.take_of_length_le (by omega)]at a
  have c:=Lib.hid a
  clear a
  go_wp2_with fail
  go_ret
  exact⟨-1,rfl,by omega,by rw[c.out];rfl,g⟩
theorem Ao{S1 S2:Nat→Prop}(a1 a2:Option Addr)(c1 c2:Nat)(s:Sg)(L:List (List Int))(bx:Nat)(w:World)(h1:Sign S1 w a1 c1 s)(h2:Terms S2 w a2 c2 L)(hq:w.cell? ⟨bx,0,none⟩=some (.slice a1 s.length c1)):
  Calls Tryz.prog 235 #[.slice a2 L.length c2, .func (.func 236) #[] #[.pointer (some ⟨bx,0,none⟩)]] w fun e w'=>e= .returned (.bool (!(L.all (aw s))))∧Below w.heap.size w w':=by
 have f:=Ay a1 a2 c1 c2 s L bx w h1 h2 hq
 have c:=Lib.hid f
 clear f h1 h2 hq
 go_enter Tryz.func235,Tryz.ntmps235
 go_wp2_with (go_at_call 244;refine c.out.mono ?_;rintro e w' ⟨n,rfl,h,a,g⟩;have b:=Lib.hid a;clear a)
 go_ret
 exact⟨aF b.out,g⟩
theorem AV{S1 S2:Nat→Prop}(a1 a2:Option Addr)(c1 c2:Nat)(s:Sg)(L:List (List Int))(w:World)(h1:Sign S1 w a1 c1 s)(h2:Terms S2 w a2 c2 L):
  Calls Tryz.prog 226 #[.slice a1 s.length c1, .slice a2 L.length c2] w fun e w'=>e= .returned (.bool (iX s L))∧Below w.heap.size w w':=by
 have r:=h2.le
 have c:=an w (.cells #[.slice a1 s.length c1] 23)
 have p:(w.alloc (.cells #[.slice a1 s.length c1] 23)).cell? ⟨w.heap.size,0,none⟩=some (.slice a1 s.length c1):=by go_simp
 have j:=mK a1 c1 s (w.alloc (.cells #[.slice a1 s.length c1] 23)) (h1.below c)
 have k:=fun W (m:Below w.heap.size w W) o=>Ao a1 a2 c1 c2 s L w.heap.size W (h1.below m) (h2.below m) o
 have hg:iX s L=(aH s&&decide (L.length≤60)&&L.all (aw s)):=rfl
 obtain⟨x,hx⟩:∃x,aH s=x:=⟨_,rfl⟩
 obtain⟨y,hy⟩:∃x,L.all (aw s)=x:=⟨_,rfl⟩
 rw[hx]at j hg
 rw[hy]at k hg
 have g:=Lib.hid j
 have l:=Lib.hid k
 have f:=Lib.hid hg
 have b:=Lib.hid c
 clear j k h1 h2 hx hy hg c
 cases x with
 |false=>
  go_enter Tryz.func226,Tryz.ntmps226
  go_wp2_with fail
  refine g.out.mono ?_
  rintro e n ⟨rfl,a⟩
  go_wp2_with fail
  go_ret
  exact⟨by rw[f.out];rfl,aa b.out a⟩
 |true=>
  by_cases h:L.length≤60
  ·have hd:decide ((L.length:Int)≤60)=true:=by simp;omega
   go_enter Tryz.func226,Tryz.ntmps226
   go_wp2_with fail
   refine g.out.mono ?_
   rintro e n ⟨rfl,a⟩
   have q:=cell_later a p
   have a:=aa b.out a
   go_wp2_with fail
   refine(l.out _ a q).mono ?_
   rintro e w2 ⟨rfl,i⟩
   go_wp2_with fail
   go_ret
   exact⟨by rw[f.out,decide_eq_true h];simp,aa a i⟩
  have hd:decide ((L.length:Int)≤60)=false:=by simp;omega
  go_enter Tryz.func226,Tryz.ntmps226
  go_wp2_with fail
  refine g.out.mono ?_
  rintro e n ⟨rfl,a⟩
  go_wp2_with fail
  go_ret
  exact⟨by rw[f.out,decide_eq_false h];rfl,aa b.out a⟩
theorem Bj{S1 S2 S3:Nat→Prop}(a1 a2 a3:Option Addr)(c1 c2 c3:Nat)(s:Sg)(L:List (List Int))(p:List Stp)(w:World)(h1:Sign S1 w a1 c1 s)(h2:Terms S2 w a2 c2 L)(h3:Steps S3 w a3 c3 p):
  Calls Tryz.prog 212 #[.slice a1 s.length c1, .slice a2 L.length c2, .slice a3 p.length c3] w fun e w'=>e= .returned (.bool (iQ s L p))∧Below w.heap.size w w':=by
 have o:=h2.le
 have q:=h3.le
 have j:=AV a1 a2 c1 c2 s L w h1 h2
 have l:L.length≤60→∀W,Below w.heap.size w W→_:=fun f W m=>qQ (L.length:Int) a3 c3 p W (h3.below m) (by omega) (by omega)
 have hg:iQ s L p=(iX s L&&dE L.length p):=rfl
 have f:iX s L=true→L.length≤60:=fun h=>(uY h).2.1
 obtain⟨x,hx⟩:∃x,iX s L=x:=⟨_,rfl⟩
 rw[hx]at j hg f
 have c:=Lib.hid j
 have k:=Lib.hid l
 have b:=Lib.hid hg
 have i:=Lib.hid f
 clear j l h1 h2 h3 hx hg f
 cases x with
 |false=>
  go_enter Tryz.func212,Tryz.ntmps212
  go_wp2_with fail
  refine c.out.mono ?_
  rintro e n ⟨rfl,a⟩
  go_wp2_with fail
  go_ret
  exact⟨by rw[b.out];rfl,a⟩
 |true=>
  go_enter Tryz.func212,Tryz.ntmps212
  go_wp2_with fail
  refine c.out.mono ?_
  rintro e n ⟨rfl,a⟩
  go_wp2_with fail
  refine(k.out (i.out trivial) _ a).mono ?_
  rintro e w2 ⟨rfl,g⟩
  go_wp2_with fail
  go_ret
  exact⟨by rw[b.out];simp,aa a g⟩
theorem me(n lo hi:Int)(w:World):
  Calls Tryz.prog 75 #[.int .i64 n, .int .i64 lo, .int .i64 hi] w fun e w'=>e= .returned (.bool (decide (lo≤n)&&decide (n≤hi)))∧w=w':=by
 go_enter Tryz.func75,Tryz.ntmps75
 go_wp2
 all_goals go_ret
 all_goals exact⟨aF (by simp;omega),rfl⟩
theorem Ef(n:Int)(w:World):
  Calls Tryz.prog 74 #[.int .i64 n] w fun e w'=>e= .returned (.bool (decide (0≤n)&&decide (n≤60)))∧w=w':=by
 have h:=Lib.hid (me n 0 60 w)
 go_enter Tryz.func74,Tryz.ntmps74
 go_wp2_with fail
 refine h.out.mono ?_
 rintro e a ⟨rfl,rfl⟩
 go_wp2_with fail
 go_ret
 exact⟨rfl,rfl⟩
theorem j9(G:Int)(n:Nat)(x:Stp)(w:World)(h0:0≤G)(h1:G≤1000000)(hn:n≤9223372036854775807):
  Calls Tryz.prog 73 #[.int .i64 G,stpV x, .int .i64 n] w fun e w'=>e= .returned (.bool (aY G n x))∧Below w.heap.size w w':=by
 obtain⟨k,A,B⟩:=x
 have v:IntKind.i64.wrap (G-1)=G-1:=IntWalk.i64_in _ (by omega)
 have C:IntKind.i64.wrap ((n:Int)-1)=(n:Int)-1:=IntWalk.i64_in _ (by omega)
 have h:=an w (.cells #[.int .i64 k, .int .i64 A, .int .i64 B] 72)
 have m:=fun W=>me A 0 (G-1) W
 have o:=fun W=>me A 0 ((n:Int)-1) W
 have p:=fun W=>me B 0 ((n:Int)-1) W
 by_cases f:k=1
 ·subst f
  have b:aY G n (1,A,B)=((decide (0≤A)&&decide (A≤G-1))&&decide (B=0)):=by simp[aY]
  obtain⟨y,hy⟩:∃y,(decide (0≤A)&&decide (A≤G-1))=y:=⟨_,rfl⟩
  rw[hy]at m b
  have c:=Lib.hid m
  have a:=Lib.hid b
  clear m o p b hy
  cases y with
  |false=>
   go_enter Tryz.func73,Tryz.ntmps73
   go_wp2_with (go_at_call 75;refine(c.out _).mono ?_;rintro e l ⟨rfl,rfl⟩)
   go_ret
   exact⟨by rw[a.out];rfl,h⟩
  |true=>
   by_cases r:B=0
   ·subst r
    go_enter Tryz.func73,Tryz.ntmps73
    go_wp2_with (go_at_call 75;refine(c.out _).mono ?_;rintro e l ⟨rfl,rfl⟩)
    go_ret
    exact⟨by rw[a.out];rfl,h⟩
   have u:(B==0)=false:=by simpa using r
   go_enter Tryz.func73,Tryz.ntmps73
   go_wp2_with (go_at_call 75;refine(c.out _).mono ?_;rintro e l ⟨rfl,rfl⟩)
   go_ret
   exact⟨by rw[a.out,decide_eq_false r];rfl,h⟩
 have j:(k==1)=false:=by simpa using f
 by_cases g:k=2
 ·subst g
  have b:aY G n (2,A,B)=((decide (0≤A)&&decide (A≤(n:Int)-1))&&(decide (0≤B)&&decide (B≤(n:Int)-1))):=by simp[aY]
  obtain⟨y,hy⟩:∃y,(decide (0≤A)&&decide (A≤(n:Int)-1))=y:=⟨_,rfl⟩
  obtain⟨z,t⟩:∃y,(decide (0≤B)&&decide (B≤(n:Int)-1))=y:=⟨_,rfl⟩
  rw[hy]at o b
  rw[t]at p b
  have i:=Lib.hid o
  have q:=Lib.hid p
  have a:=Lib.hid b
  clear m o p b hy t j
  cases y with
  |false=>
   go_enter Tryz.func73,Tryz.ntmps73
   go_wp2_with fail
   refine(i.out _).mono ?_
   rintro e l ⟨rfl,rfl⟩
   go_wp2_with fail
   go_ret
   exact⟨by rw[a.out];rfl,h⟩
  |true=>
   go_enter Tryz.func73,Tryz.ntmps73
   go_wp2_with fail
   refine(i.out _).mono ?_
   rintro e l ⟨rfl,rfl⟩
   go_wp2_with fail
   refine(q.out _).mono ?_
   rintro e l ⟨rfl,rfl⟩
   go_wp2_with fail
   go_ret
   exact⟨by rw[a.out];rfl,h⟩
 have s:(k==2)=false:=by simpa using g
 have b:aY G n (k,A,B)=false:=by simp[aY,f,g]
 go_enter Tryz.func73,Tryz.ntmps73
 go_wp2_with fail
 go_ret
 exact⟨by rw[b];rfl,h⟩
theorem td{S:Nat→Prop}(G:Int)(a:Option Addr)(c:Nat)(p:List Stp)(w:World)(h:Steps S w a c p):
  Calls Tryz.prog 63 #[.int .i64 G, .slice a p.length c] w fun e w'=>e= .returned (.bool (bk G p))∧Below w.heap.size w w':=by
 have m:=h.le
 have f:=lM G 0 60 w
 cases hx:(decide (0≤G)&&decide (G≤60))with
 |false=>
  rw[hx]at f
  have hr:bk G p=false:=by unfold bk;rw[hx];rfl
  have b:=Lib.hid f
  clear f h hx
  go_enter Tryz.func63,Tryz.ntmps63
  go_wp2_with fail
  refine b.out.mono ?_
  rintro e j ⟨rfl,rfl⟩
  go_wp2_with fail
  go_ret
  exact⟨by rw[hr];rfl, .refl _ _⟩
 |true=>
  rw[hx]at f
  have hr:bk G p=dE G p:=by unfold bk;rw[hx];rfl
  simp only[Bool.and_eq_true,decide_eq_true_eq]at hx
  have i:=qQ G a c p w h hx.1 (by omega)
  have b:=Lib.hid f
  have g:=Lib.hid i
  clear f i h hx
  go_enter Tryz.func63,Tryz.ntmps63
  go_wp2_with fail
  refine b.out.mono ?_
  rintro e j ⟨rfl,rfl⟩
  go_wp2_with fail
  refine g.out.mono ?_
  rintro e j ⟨rfl,k⟩
  go_wp2_with fail
  go_ret
  exact⟨by rw[hr];rfl,k⟩
theorem rD{S:Nat→Prop}(G:Int)(a:Option Addr)(c:Nat)(p:List Stp)(w:World)(h:Steps S w a c p):
  Calls Tryz.prog 31 #[.int .i64 G, .slice a p.length c] w fun e w'=>e= .returned (.bool (bk G p))∧Below w.heap.size w w':=by
 have m:=h.le
 have l:=Ef G w
 have r:=me (p.length:Int) 1 60 w
 cases hx:(decide (0≤G)&&decide (G≤60))with
 |false=>
  rw[hx]at l
  have hr:bk G p=false:=by unfold bk;rw[hx];rfl
  have j:=Lib.hid l
  clear l r h hx
  go_enter Tryz.func31,Tryz.ntmps31
  go_wp2_with fail
  refine j.out.mono ?_
  rintro e s ⟨rfl,rfl⟩
  go_wp2_with fail
  go_ret
  exact⟨by rw[hr];rfl, .refl _ _⟩
 |true=>
  cases hy:(decide ((1:Int)≤p.length)&&decide ((p.length:Int)≤60))with
  |false=>
   rw[hx]at l
   rw[hy]at r
   have hr:bk G p=false:=by
    unfold bk dE
    have:(decide (1≤p.length)&&decide (p.length≤60))=false:=by
     rw[←hy,Bool.eq_iff_iff];simp only[Bool.and_eq_true,decide_eq_true_eq];omega
    rw[this,Bool.and_false,Bool.and_false]
   have j:=Lib.hid l
   have n:=Lib.hid r
   clear l r h hx hy
   go_enter Tryz.func31,Tryz.ntmps31
   go_wp2_with fail
   refine j.out.mono ?_
   rintro e s ⟨rfl,rfl⟩
   go_wp2_with fail
   refine n.out.mono ?_
   rintro e s ⟨rfl,rfl⟩
   go_wp2_with fail
   go_ret
   exact⟨by rw[hr];rfl, .refl _ _⟩
  |true=>
   rw[hx]at l
   rw[hy]at r
   have hr:bk G p=a8 G 0 p:=by
    unfold bk dE
    have:(decide (1≤p.length)&&decide (p.length≤60))=true:=by
     rw[←hy,Bool.eq_iff_iff];simp only[Bool.and_eq_true,decide_eq_true_eq];omega
    rw[this,hx,Bool.and_true,Bool.true_and]
   simp only[Bool.and_eq_true,decide_eq_true_eq]at hx
   obtain⟨F,I⟩:=hx
   have j:=Lib.hid l
   have n:=Lib.hid r
   clear l r hy
   go_enter Tryz.func31,Tryz.ntmps31
   go_wp2_with fail
   refine j.out.mono ?_
   rintro e s ⟨rfl,rfl⟩
   go_wp2_with fail
   refine n.out.mono ?_
   rintro e s ⟨rfl,rfl⟩
   go_wp2_with fail
   clear j n
   go_loopw [5] (fun i wr=>∃k:Nat,k≤p.length∧i= .int .i64 k∧a8 G 0 (p.take k)=true∧Below w.heap.size w wr) (fun i _=>p.length-(intOf i).toNat)
   case atStart=>exact⟨0,Nat.zero_le _,rfl,rfl, .refl _ _⟩
   case round=>
    obtain⟨k,J,rfl,g,A⟩:=hrel
    by_cases v:k<p.length
    ·obtain⟨b,o,rfl,-,C,D,E,-⟩:=(h.below A).stp k v
     have f:=rl (G:=G) (p.take k) 0 p[k]
     rw[List.length_take,Nat.min_eq_left (by omega),Nat.zero_add,←List.take_succ_eq_append_getElem v,g,Bool.true_and]at f
     have z:=fun W=>j9 G k p[k] W F (by omega) (by omega)
     obtain⟨x,hx⟩:∃x,p[k]=x:=⟨_,rfl⟩
     obtain⟨y,hy⟩:∃y,aY G k p[k]=y:=⟨_,rfl⟩
     rw[hy]at f z
     rw[hx]at z C D E
     obtain⟨K,L,M⟩:=x
     simp only at C D E
     have t:=Lib.hid z
     have q:=Lib.hid f
     have u:=Lib.hid A
     clear z f A g hx hy h
     cases y with
     |true=>
      go_wp2_with (go_at_call 73;refine(t.out _).mono ?_;rintro e s ⟨rfl,B⟩)
      go_roundw
      case rel=>exact⟨k+1,by omega,by go_num,q.out,aa u.out B⟩
      case measure=>simp[intOf];omega
     |false=>
      go_wp2_with (go_at_call 73;refine(t.out _).mono ?_;rintro e s ⟨rfl,B⟩)
      go_ret
      have hf:a8 G 0 p=false:=by
       cases H:a8 G 0 p with
       |false=>rfl
       |true=>have:=rm p 0 (k+1) H;rw[q.out]at this;cases this
      exact⟨by rw[hr,hf];rfl,aa u.out B⟩
    rw[List.take_of_length_le (by omega)]at g
    rw[g]at hr
    clear g
    go_wp2_with fail
    go_ret
    exact⟨by rw[hr];rfl,A⟩
abbrev OwnSt (w:World) (base:Nat) (v:Value) (l:List Stp):Prop:=OwnL stpE (fun _=>False) w base 72 v l
theorem jd:(Tryz.prog.info? 72).map (fun i=>(i.zero,i.size,i.bytes))=some (some (.agg #[.int .i64 0, .int .i64 0, .int .i64 0]),3,24):=by kernel_rfl
theorem OwnSt.steps{w:World}{base:Nat}{v:Value}{l:List Stp}(h:OwnSt w base v l):∃a c,v= .slice a l.length c∧Steps (fun b=>base≤b) w a c l:=h.slB (fun _ h=>h.elim)
theorem kF{S:Nat→Prop}{w:World}{y:Stp}(h:fP y):stpE.R S w [.int .i64 y.1, .int .i64 y.2.1, .int .i64 y.2.2] y:=⟨[_],[_,_],rfl,⟨rfl,h.1⟩,[_],[_],rfl,⟨rfl,h.2.1⟩,rfl,h.2.2⟩
section
variable {B:Nat}{W:World}{q p:List Stp}{dn op:List Int}{vO:Value}
end
theorem uu{t:ByteArray}{k:Nat}(h:k<t.size):t.data.toList.drop k=t[k]::t.data.toList.drop (k+1):=by
 rw[List.drop_eq_getElem_cons (by simpa using h)];rfl
end Go.Proofs.YtlejmeegkpdabaaGreatDoor
