/- The proof of a statement, some of its texts joined in build order: part Z2. -/
import Derived.Test.YtlejmeegkpdabaaGreatDoorMxZ1
set_option maxHeartbeats 4000000
set_option maxRecDepth 100000
namespace Go.Proofs.YtlejmeegkpdabaaGreatDoor
open Go Go.RowKit Go.Maps
theorem sH(m:UInt8):∀(a r:List UInt8),aA m (a++m::r)=aA m a++aA m r
 | [],r=>by
  show aA m (m::r)=[]::aA m r
  rw[aA,if_pos rfl]
 |c::a,r=>by
  rw[List.cons_append,aA,aA,sH m a r]
  by_cases h:c=m
  ·rw[if_pos h,if_pos h];rfl
  rw[if_neg h,if_neg h]
  cases hw:aA m a with
  |nil=>exact(eV m a hw).elim
  |cons w ws=>rfl
theorem mB{m:UInt8}:∀{L:List (List UInt8)},L≠ []→(∀w∈L,m∉w)→aA m (aS m L)=L
 | [],h,_=>(h rfl).elim
 | [w],_,h=>by rw[aS];exact ij (h w (by simp))
 |w::v::ws,_,h=>by
  rw[aS,eU (h w (by simp)),mB (by simp) (fun u hu=>h u (List.mem_cons_of_mem _ hu))]
theorem Aa{m c:UInt8}(hc:c≠m):∀(l:List UInt8),∃A w,aA m l=A++[w]∧aA m (l++[c])=A++[w++[c]]
 | []=>⟨[],[],rfl,by rw[List.nil_append,aA,if_neg hc];rfl⟩
 |x::l=>by
  obtain⟨A,w,h1,h2⟩:=Aa hc l
  rw[List.cons_append,aA,aA,h1,h2]
  by_cases h:x=m
  ·rw[if_pos h,if_pos h];exact⟨[]::A,w,rfl,rfl⟩
  rw[if_neg h,if_neg h]
  cases A with
  |nil=>exact⟨[],x::w,rfl,rfl⟩
  |cons a A=>exact⟨(x::a)::A,w,rfl,rfl⟩
theorem pg{m c:UInt8}:∀{l w:List UInt8},w∈aA m l→c∈w→c∈l
 | [],w,h,hc=>by rw[aA,List.mem_singleton]at h;rw[h]at hc;exact hc
 |x::l,w,h,hc=>by
  rw[aA]at h
  by_cases e:x=m
  ·rw[if_pos e]at h
   rcases List.mem_cons.1 h with e2|e2
   ·rw[e2]at hc;cases hc
   exact List.mem_cons_of_mem _ (pg e2 hc)
  rw[if_neg e]at h
  cases hw:aA m l with
  |nil=>exact(eV m l hw).elim
  |cons v ws=>
   rw[hw]at h
   rcases List.mem_cons.1 h with e2|e2
   ·rw[e2]at hc
    rcases List.mem_cons.1 hc with e3|e3
    ·rw[e3];simp
    exact List.mem_cons_of_mem _ (pg (by rw[hw];simp) e3)
   exact List.mem_cons_of_mem _ (pg (by rw[hw];simp[e2]) hc)
def mSa:List UInt8:=[32,115,97,121,115,32,60]
def mUs:List UInt8:=[62,32,117,115,101,115]
def eR(l:List UInt8):List UInt8:=if l.head?=some 32 then l.tail else l
def gH(n b:List UInt8)(t:List Int)(us:List (List UInt8)):Ent:=(gF n,gF b,t,us.map gF,[])
def dH(s:Sg)(b:List UInt8):Option Ent:=
 if(Lib.cut b mSa).2.2=true∧(Lib.cut (Lib.cut b mSa).2.1 mUs).2.2=true∧(cC s 1 (Lib.cut (Lib.cut b mSa).2.1 mUs).1).2=0∧(aA 32 (Lib.cut b mSa).1).length=4 then
  some (gH ((aA 32 (Lib.cut b mSa).1).getD 1 []) ((aA 32 (Lib.cut b mSa).1).getD 3 []) (cC s 1 (Lib.cut (Lib.cut b mSa).2.1 mUs).1).1
   (if(Lib.cut (Lib.cut b mSa).2.1 mUs).2.1=[]then []else aA 32 (eR (Lib.cut (Lib.cut b mSa).2.1 mUs).2.1)))
 else none
theorem lI(m:UInt8):∀(A B:List (List UInt8)),A≠ []→B≠ []→aS m (A++B)=aS m A++m::aS m B
 | [],_,h,_=>(h rfl).elim
 | [w],b::B,_,_=>by rw[List.cons_append,List.nil_append,ir];rfl
 | [w],[],_,h=>(h rfl).elim
 |w::v::A,B,_,hB=>by
  rw[List.cons_append,List.cons_append,ir,←List.cons_append,lI m (v::A) B (by simp) hB,ir,List.append_assoc];rfl
def ff(us:List ByteArray):List UInt8:=if us=[]then []else 32::aS 32 (us.map bL)
def fD(x:Ent):List UInt8:=aS 32 [d7,bL (af x),dZ,bL (aC x)]
theorem lE(s:Sg)(x:Ent):aZ s x=fD x++(mSa++(txt 1 s (az x)++(mUs++ff (ae x)))):=by
 unfold aZ iZ fD ff mSa mUs
 by_cases a:ae x=[]
 ·rw[a,if_pos rfl]
  simp[aS,eT,eh]
 rw[if_neg a]
 rw[lI 32 _ _ (by simp) (by simpa using a)]
 simp[aS,eT,eh]
theorem oe(us:List ByteArray):(us.map bL).map gF=us:=by
 rw[List.map_map]
 have:(gF∘bL)=id:=by funext x;exact fK x
 rw[this,List.map_id]
theorem iz{x:ByteArray}(h:a6 x=true):(32:UInt8)∉bL x∧(60:UInt8)∉bL x∧(62:UInt8)∉bL x∧(10:UInt8)∉bL x:=⟨nY h (by decide),nY h (by decide),nY h (by decide),nY h (by decide)⟩
theorem Ds{x:Ent}(h1:a6 (af x)=true)(h2:a6 (aC x)=true):aA 32 (fD x)=[d7,bL (af x),dZ,bL (aC x)]:=by
 refine mB (by simp) fun w hw=> ?_
 simp only[List.mem_cons,List.not_mem_nil,or_false]at hw
 rcases hw with e|e|e|e
 ·rw[e];decide
 ·rw[e];exact(iz h1).1
 ·rw[e];decide
 rw[e];exact(iz h2).1
theorem qZ{m c:UInt8}:∀{L:List (List UInt8)},c∈aS m L→c=m∨∃w∈L,c∈w
 | [],h=>by rw[aS]at h;cases h
 | [w],h=> .inr ⟨w,by simp,by rw[aS]at h;exact h⟩
 |w::v::L,h=>by
  rw[aS]at h
  rcases List.mem_append.1 h with e|e
  ·exact .inr ⟨w,by simp,e⟩
  rcases List.mem_cons.1 e with e|e
  ·exact .inl e
  rcases qZ e with e|⟨u,hu,hc⟩
  ·exact .inl e
  exact .inr ⟨u,List.mem_cons_of_mem _ hu,hc⟩
theorem Dr{x:Ent}(h1:a6 (af x)=true)(h2:a6 (aC x)=true){m:UInt8}(hm:fi m=false)(h32:m≠32):m∉fD x:=fun h=>by
 rcases qZ h with e|⟨w,hw,a⟩
 ·exact h32 e
 simp only[List.mem_cons,List.not_mem_nil,or_false]at hw
 have g:∀c∈d7,fi c=true:=by decide
 have f:∀c∈dZ,fi c=true:=by decide
 have b:fi m=true:=by
  rcases hw with e|e|e|e
  ·rw[e]at a;exact g m a
  ·rw[e]at a;exact q7 h1 m a
  ·rw[e]at a;exact f m a
  rw[e]at a;exact q7 h2 m a
 rw[hm]at b;cases b
theorem Dv{s:Sg}{x:Ent}(h:b9 s x=true)(hp:ai x=[]):dH s (aZ s x)=some x:=by
 obtain⟨f,g,-,i,-,-,l⟩:=ji h
 have j:Lib.cut (aZ s x) mSa=(fD x,txt 1 s (az x)++(mUs++ff (ae x)),true):=by
  rw[lE,show mSa=[32,115,97,121,115,32]++[60]from rfl]
  refine Cj fun m=> ?_
  rcases List.mem_append.1 m with e|e
  ·exact Dr f g (by decide) (by decide) e
  revert e;decide
 have k:Lib.cut (txt 1 s (az x)++(mUs++ff (ae x))) mUs=(txt 1 s (az x),ff (ae x),true):=by
  rw[show mUs=62::[32,117,115,101,115]from rfl]
  exact Ci (sy i (by decide))
 have hw:=Ds f g
 have c:(if ff (ae x)=[]then []else aA 32 (eR (ff (ae x))))=(ae x).map bL:=by
  unfold ff
  by_cases a:ae x=[]
  ·rw[a];rfl
  rw[if_neg a,if_neg (by simp)]
  show aA 32 (aS 32 ((ae x).map bL))=_
  refine mB (by simpa using a) fun w hw=> ?_
  obtain⟨u,b,rfl⟩:=List.mem_map.1 hw
  exact(iz (l u b)).1
 unfold dH
 rw[j]
 simp only
 rw[k]
 simp only
 rw[yj i,hw,if_pos ⟨trivial,trivial,rfl,rfl⟩,c]
 congr 1
 unfold gH
 rw[oe]
 show(gF (bL (af x)),gF (bL (aC x)),az x,ae x,([]:List Stp))=x
 rw[fK,fK,←hp]
 rfl
def iM(w:List (List UInt8)):Option Nat:=(List.range w.length).find? (fun i=>decide (5≤i)&&(decide (w.getD i []=eh)&&decide ((w.getD (i-1) []).getLast?=some 62)))
def gh(l:List UInt8):List UInt8:=(l.drop 1).dropLast
def el(s:Sg)(b:List UInt8):Option Ent:=
 match iM (aA 32 b)with
 |some k=>
  if(7≤(aA 32 b).length∧(aA 32 b).getD 0 []=d7∧(aA 32 b).getD 2 []=dZ∧(aA 32 b).getD 4 []=eT)∧(2≤(aS 32 (((aA 32 b).take k).drop 5)).length∧(aS 32 (((aA 32 b).take k).drop 5)).head?=some 60)∧(cC s 1 (gh (aS 32 (((aA 32 b).take k).drop 5)))).2=0 then
   some (gH ((aA 32 b).getD 1 []) ((aA 32 b).getD 3 []) (cC s 1 (gh (aS 32 (((aA 32 b).take k).drop 5)))).1 ((aA 32 b).drop (k+1)))
  else none
 |none=>none
theorem Dx{s:Sg}{x:Ent}(h:b9 s x=true)(hp:ai x=[]):el s (aZ s x)=some x:=by
 obtain⟨H,I,-,C,-,-,M⟩:=ji h
 obtain⟨A,a,D,B⟩:=Aa (m:=32) (c:=62) (by decide) (60::txt 1 s (az x))
 have N:(60::(txt 1 s (az x)++[62]))=(60::txt 1 s (az x))++[62]:=rfl
 have o:aA 32 (aZ s x)=[d7,bL (af x),dZ,bL (aC x),eT]++((A++[a++[62]])++(eh::(ae x).map bL)):=by
  have E:aZ s x=aS 32 [d7,bL (af x),dZ,bL (aC x),eT]++32::((60::(txt 1 s (az x)++[62]))++32::aS 32 (eh::(ae x).map bL)):=by
   unfold aZ iZ
   rw[show([d7,bL (af x),dZ,bL (aC x),eT,60::(txt 1 s (az x)++[62]),eh]++(ae x).map bL)=[d7,bL (af x),dZ,bL (aC x),eT]++((60::(txt 1 s (az x)++[62]))::eh::(ae x).map bL)from rfl,lI 32 _ _ (by simp) (by simp),ir 32 (60::(txt 1 s (az x)++[62])) eh _]
  rw[E,sH,sH,N,B]
  rw[mB (L:=[d7,bL (af x),dZ,bL (aC x),eT]) (by simp),mB (L:=eh::(ae x).map bL) (by simp)]
  ·intro w hw
   rcases List.mem_cons.1 hw with e|e
   ·rw[e];decide
   obtain⟨u,R,rfl⟩:=List.mem_map.1 e
   exact(iz (M u R)).1
  intro w hw
  simp only[List.mem_cons,List.not_mem_nil,or_false]at hw
  rcases hw with e|e|e|e|e
  ·rw[e];decide
  ·rw[e];exact(iz H).1
  ·rw[e];decide
  ·rw[e];exact(iz I).1
  rw[e];decide
 have t:aS 32 (A++[a++[62]])=60::(txt 1 s (az x)++[62]):=by rw[←B];exact jK 32 _
 have b:∀w∈A,w.getLast?≠some 62:=fun w hw P=>by
  have n:=List.mem_of_getLast? P
  have:=pg (m:=32) (l:=60::txt 1 s (az x)) (w:=w) (by rw[D];exact List.mem_append_left _ hw) n
  rcases List.mem_cons.1 this with e|e
  ·revert e;decide
  exact sy C (by decide) e
 obtain⟨q,y⟩:∃q,5+(A++[a++[62]]).length=q:=⟨_,rfl⟩
 have Q:q=5+A.length+1:=by rw[←y,List.length_append,List.length_singleton];omega
 have g:∀i,(aA 32 (aZ s x)).getD i []=if i<5 then [d7,bL (af x),dZ,bL (aC x),eT].getD i []else if i<q then(A++[a++[62]]).getD (i-5) []else(eh::(ae x).map bL).getD (i-q) []:=fun i=>by
  rw[o,List.getD_eq_getElem?_getD]
  by_cases r:i<5
  ·rw[if_pos r,List.getElem?_append_left (by simpa using r),List.getD_eq_getElem?_getD]
  rw[if_neg r,List.getElem?_append_right (by simp;omega)]
  by_cases f:i<q
  ·rw[if_pos f,List.getElem?_append_left (by simp only[List.length_cons,List.length_nil];omega),List.getD_eq_getElem?_getD];rfl
  rw[if_neg f,List.getElem?_append_right (by simp only[List.length_cons,List.length_nil];omega),List.getD_eq_getElem?_getD]
  congr 2
  simp only[List.length_cons,List.length_nil]
  omega
 have k:(aA 32 (aZ s x)).length=q+1+(ae x).length:=by rw[o];simp;omega
 have O:iM (aA 32 (aZ s x))=some q:=by
  unfold iM
  rw[List.find?_eq_some_iff_getElem]
  refine⟨?_,q,by rw[List.length_range,k];omega,List.getElem_range _,fun j S=> ?_⟩
  ·rw[g q,g (q-1),if_neg (by omega),if_neg (by omega),Nat.sub_self,if_neg (by omega),if_pos (by omega)]
   have:q-1-5=A.length:=by omega
   have F:(A++[a++[62]]).getD A.length []=a++[62]:=by simp
   rw[this,F]
   have G:(eh::(ae x).map bL).getD 0 []=eh:=rfl
   rw[G]
   simp
   omega
  rw[List.getElem_range]
  by_cases J:5≤j
  ·rw[g (j-1)]
   have v:¬((if j-1<5 then [d7,bL (af x),dZ,bL (aC x),eT].getD (j-1) []else if j-1<q then(A++[a++[62]]).getD (j-1-5) []else(eh::(ae x).map bL).getD (j-1-q) []).getLast?=some 62):=by
    by_cases K:j=5
    ·subst K;rw[if_pos (by omega),show [d7,bL (af x),dZ,bL (aC x),eT].getD (5-1) []=eT from rfl];decide
    rw[if_neg (by omega),if_pos (by omega),List.getD_eq_getElem?_getD,List.getElem?_append_left (by omega),List.getElem?_eq_getElem (by omega)]
    exact b _ (List.getElem_mem _)
   rw[decide_eq_false v];simp
  rw[decide_eq_false J];rfl
 have z:((aA 32 (aZ s x)).take q).drop 5=A++[a++[62]]:=by
  rw[o,←List.append_assoc,List.take_left' (by rw[List.length_append];exact y)];rfl
 have p:(aA 32 (aZ s x)).drop (q+1)=(ae x).map bL:=by
  rw[o,←List.append_assoc,←List.drop_drop,List.drop_left' (by rw[List.length_append];exact y)];rfl
 unfold el
 rw[O]
 simp only
 rw[z,t,p,show gh (60::(txt 1 s (az x)++[62]))=txt 1 s (az x)by unfold gh;simp,yj C]
 rw[if_pos ⟨⟨by omega,by rw[g 0];rfl,by rw[g 2];rfl,by rw[g 4];rfl⟩,⟨by simp,rfl⟩,rfl⟩]
 congr 1
 unfold gH
 rw[oe,g 1,g 3]
 show(gF (bL (af x)),gF (bL (aC x)),az x,ae x,([]:List Stp))=x
 rw[fK,fK,←hp]
 rfl
def entE:Enc Ent:=dC strE (dC strE (dC (cI intE) (dC (cI strE) (cI stpE))))
abbrev LibL (S:Nat→Prop) (w:World) (a:Option Addr) (c:Nat) (l:List Ent):Prop:=Sl entE S w a c l
theorem Sl.ent{S:Nat→Prop}{w:World}{a:Option Addr}{c:Nat}{l:List Ent}(h:LibL S w a c l)(i:Nat)(hi:i<l.length):
  ∃b off a1 c1 a2 c2 a3 c3,a=some ⟨b,off,none⟩∧S b∧w.cell? ⟨b,off+i*5,none⟩=some (.string (af l[i]))∧w.cell? ⟨b,off+i*5+1,none⟩=some (.string (aC l[i]))∧
   w.cell? ⟨b,off+i*5+2,none⟩=some (.slice a1 (az l[i]).length c1)∧w.cell? ⟨b,off+i*5+3,none⟩=some (.slice a2 (ae l[i]).length c2)∧w.cell? ⟨b,off+i*5+4,none⟩=some (.slice a3 (ai l[i]).length c3)∧
   (af l[i]).size≤aB∧(aC l[i]).size≤aB∧Ints S w a1 c1 (az l[i])∧Sl strE S w a2 c2 (ae l[i])∧Steps S w a3 c3 (ai l[i]):=by
 obtain⟨b,off,ha,t,u,vs,_,f,hr⟩:=h.at1 i hi
 obtain⟨A,v,rfl,⟨rfl,o⟩,B,x,rfl,⟨rfl,p⟩,u3,y,rfl,⟨a1,c1,rfl,q⟩,C,z,rfl,⟨a2,c2,rfl,r⟩,⟨a3,c3,rfl,s⟩⟩:=hr
 have g:=f 0 (by simp)
 have j:=f 1 (by simp)
 have k:=f 2 (by simp)
 have m:=f 3 (by simp)
 have n:=f 4 (by simp)
 simp[entE,dC,cI,intE,strE,stpE]at g j k m n
 exact⟨b,off,a1,c1,a2,c2,a3,c3,ha,t,g,j,k,m,n,o,p,q,r,s⟩
abbrev OwnS (w:World) (base:Nat) (v:Value) (l:List ByteArray):Prop:=OwnL strE (fun _=>False) w base 9 v l
theorem jI:(Tryz.prog.info? 9).map (fun i=>(i.zero,i.size,i.bytes))=some (some (.string ByteArray.empty),1,16):=by kernel_rfl
theorem OwnS.strs{w:World}{base:Nat}{v:Value}{l:List ByteArray}(h:OwnS w base v l):∃a c,v= .slice a l.length c∧Sl strE (fun b=>base≤b) w a c l:=by
 obtain⟨a,c,rfl,f⟩:=OwnL.sl h
 exact⟨a,c,rfl,f.weak (fun b g=>g.elim id False.elim)⟩
theorem Sl.str{S:Nat→Prop}{w:World}{a:Option Addr}{c:Nat}{l:List ByteArray}(h:Sl strE S w a c l)(i:Nat)(hi:i<l.length):
  ∃b off,a=some ⟨b,off,none⟩∧S b∧w.cell? ⟨b,off+i,none⟩=some (.string l[i])∧l[i].size≤aB:=by
 obtain⟨b,off,ha,f,_,vs,_,g,hr⟩:=h.at1 i hi
 obtain⟨rfl,hx⟩:=hr
 have:=g 0 (by simp)
 simp[strE]at this
 exact⟨b,off,ha,f,this,hx⟩
theorem Fz(l:List UInt8):(((di l).length<1∨18<(di l).length)→bi l=none)∧
  (¬((di l).length<1∨18<(di l).length)→(∀m,Lib.decFrom 0 (di l)=some m→bi l=if Lib.itoa (gL l m)=l then some (gL l m)else none)∧(Lib.decFrom 0 (di l)=none→bi l=none)):=by
 refine⟨fun h=>by unfold bi;rw[if_pos h],fun h=>⟨fun m a=> ?_,fun a=> ?_⟩⟩
 ·unfold bi;rw[if_neg h,a]
 unfold bi;rw[if_neg h,a]
theorem AD(s:ByteArray)(hs:s.size≤65536)(w:World):Calls Tryz.prog 119 #[.string s] w (GL s.data.toList w):=by
 obtain⟨J,K⟩:=Fz s.data.toList
 by_cases av:s.size=0
 ·have ax:s=ByteArray.empty:=by
   refine ByteArray.ext (Array.eq_empty_of_size_eq_zero ?_)
   exact av
  subst ax
  have a:=Lib.hid (show bi (ByteArray.empty).data.toList=none from rfl)
  clear J K
  go_enter Tryz.func119,Tryz.ntmps119
  go_wp2_with fail
  all_goals go_ret2
  all_goals exact⟨0,by rw[a.out];rfl,fun m g=>by(rw[a.out]at g;cases g),by unfold aE;omega,rfl⟩
 have N:0<s.size:=by omega
 have gs:((0:Int)<(s.size:Int))=True:=eq_true (by omega)
 have V:s.data.toList.head?=some (s[0]'N):=by
  have:=pV N
  rw[List.head?_eq_getElem?];exact this
 by_cases E:s[0]'N=45
 ·have Y:(((s[0]'N).toNat:Int)==45)=true:=by rw[E];rfl
  rw[E]at V
  have t:di s.data.toList=(s.extract 1 s.size).data.toList:=by
   unfold di;rw[if_pos V]
   rw[ByteArray.data_extract,Array.toList_extract]
   rw[show(s.data.toList.extract 1 s.size)=s.data.toList.tail from ?_]
   rw[List.extract_eq_take_drop,List.drop_one,List.take_of_length_le]
   rw[List.length_tail,Array.length_toList];exact Nat.le_refl _
  have I:∀m,gL s.data.toList m=-(m:Int):=fun m=>by unfold gL;rw[if_pos V]
  obtain⟨b,y⟩:∃b,s.extract 1 s.size=b:=⟨_,rfl⟩
  have aj:b.size=s.size-1:=by rw[←y,ByteArray.size_extract];omega
  rw[y]at t
  have f:((di s.data.toList).length<1∨18<(di s.data.toList).length)→bi s.data.toList=none:=J
  have v:=t
  have p:¬((di s.data.toList).length<1∨18<(di s.data.toList).length)→(∀m:Nat,Lib.decFrom 0 b.data.toList=some m→bi s.data.toList=if Lib.itoa (-(m:Int))=s.data.toList then some (-(m:Int))else none)∧(Lib.decFrom 0 b.data.toList=none→bi s.data.toList=none):=fun h=>by
   have:=K h
   rw[v]at this
   exact⟨fun m g=>by have:=this.1 m g;rwa[I]at this,this.2⟩
  have ag:((b.size:Int)<(s.size:Int))=True:=eq_true (by omega)
  clear J K I V t E
  go_enter Tryz.func119,Tryz.ntmps119
  go_upto_region 4 with fail
  try rw[y]
  clear y aj
  have u:b.data.toList.length=b.size:=by have:b.size=b.data.size:=rfl;rw[Array.length_toList,this]
  by_cases P:b.size<1
  ·have g1:((b.size:Int)<1)=True:=eq_true (by omega)
   have a:=Lib.hid (f (by rw[v,u];exact .inl P))
   clear f p
   go_wp2_with fail
   all_goals go_ret2
   all_goals exact⟨0,by rw[a.out];rfl,fun m g=>by(rw[a.out]at g;cases g),by unfold aE;omega,rfl⟩
  have g1:((b.size:Int)<1)=False:=eq_false (by omega)
  by_cases Q:18<b.size
  ·have g2:(18<(b.size:Int))=True:=eq_true (by omega)
   have a:=Lib.hid (f (by rw[v,u];exact .inr Q))
   clear f p
   go_wp2_with fail
   all_goals go_ret2
   all_goals exact⟨0,by rw[a.out];rfl,fun m g=>by(rw[a.out]at g;cases g),by unfold aE;omega,rfl⟩
  have g2:(18<(b.size:Int))=False:=eq_false (by omega)
  have o:=Lib.hid (p (by rw[v,u];omega))
  clear f p
  go_wp2_with fail
  go_loopw [5,6] (fun nV iV wr=>nZ b w nV iV wr) (fun _ iV _=>b.size-(intOf iV).toNat)
  case atStart=>exact⟨0,0,rfl,rfl,Nat.zero_le _,rfl,by decide,rfl⟩
  case round=>
   obtain⟨k,m,rfl,rfl,hk,l,B,U⟩:=hrel
   subst U
   by_cases c:k<b.size
   ·have i:=pV c
    have al:=(b[k]'c).toNat_lt
    have G:m<1000000000000000000:=Nat.lt_of_lt_of_le B (Nat.le_trans (Nat.pow_le_pow_right (n:=10) (by decide) (show _≤18 by omega)) (by decide))
    have aq:((k:Int)<(b.size:Int))=True:=eq_true (by omega)
    by_cases R:(b[k]'c).toNat<48
    ·have a:=Lib.hid ((o.out).2 (li _ 0 k _ i (nk (.inl R))))
     have Z:(((b[k]'c).toNat:Int)<48)=True:=eq_true (by omega)
     clear l i
     go_wp2_with fail
     all_goals go_ret2
     all_goals exact⟨0,by rw[a.out];rfl,fun m g=>by(rw[a.out]at g;cases g),by unfold aE;omega,rfl⟩
    have Z:(((b[k]'c).toNat:Int)<48)=False:=eq_false (by omega)
    by_cases S:57<(b[k]'c).toNat
    ·have a:=Lib.hid ((o.out).2 (li _ 0 k _ i (nk (.inr S))))
     have c2:(57<((b[k]'c).toNat:Int))=True:=eq_true (by omega)
     clear l i
     go_wp2_with fail
     all_goals go_ret2
     all_goals exact⟨0,by rw[a.out];rfl,fun m g=>by(rw[a.out]at g;cases g),by unfold aE;omega,rfl⟩
    have c2:(57<((b[k]'c).toNat:Int))=False:=eq_false (by omega)
    have C:=Lib.decFrom_take _ k 0 m _ _ l i (un (by omega) (by omega))
    have X:m<100000000000000000:=Nat.lt_of_lt_of_le B (Nat.le_trans (Nat.pow_le_pow_right (n:=10) (by decide) (show k≤17 by omega)) (by decide))
    have T:∀z:Int,0≤z→z<256→IntKind.u8.wrap z=z:=fun z N h1=>by
     unfold IntKind.wrap
     simp[IntKind.signed,IntKind.bits]
     omega
    have hu:IntKind.u8.wrap (((b[k]'c).toNat:Int)-48)=(((b[k]'c).toNat-48:Nat):Int):=by rw[T _ (by omega) (by omega)];omega
    obtain⟨d,hd⟩:∃d,(b[k]'c).toNat-48=d:=⟨_,rfl⟩
    have ao:d≤9:=by omega
    rw[hd]at hu C
    have aN:IntKind.i64.wrap (10*(m:Int))=10*(m:Int):=IntWalk.i64_in _ (by omega)
    have aO:IntKind.i64.wrap (d:Int)=(d:Int):=IntWalk.i64_in _ (by omega)
    have aP:IntKind.i64.wrap (10*(m:Int)+(d:Int))=10*(m:Int)+(d:Int):=IntWalk.i64_in _ (by omega)
    have hrel:nZ b wr (.int .i64 (10*(m:Int)+(d:Int))) (.int .i64 ((k:Int)+1)) wr:=⟨k+1,m*10+d,by go_num,by congr 1;omega,by omega,C,by rw[Nat.pow_succ];omega,rfl⟩
    have D:=Lib.hid hrel
    clear hrel l i C hd
    go_wp2_with fail
    all_goals go_roundw
    all_goals first|exact D.out|(simp[intOf];done)|(simp[intOf];omega)
   obtain rfl:k=b.size:=by omega
   rw[List.take_of_length_le (by rw[u];exact Nat.le_refl _)]at l
   have G:m<1000000000000000000:=Nat.lt_of_lt_of_le B (Nat.le_trans (Nat.pow_le_pow_right (n:=10) (by decide) (show _≤18 by omega)) (by decide))
   have M:=(o.out).1 m l
   have O:=fun W=>kQ (-(m:Int)) (by omega) (by omega) W
   obtain⟨L,A⟩:∃L:ByteArray,(⟨(Lib.itoa (-(m:Int))).toArray⟩:ByteArray)=L:=⟨_,rfl⟩
   simp only[A]at O
   have x:L.data.toList=Lib.itoa (-(m:Int)):=by rw[←A]
   have F:=Lib.hid O
   have aL:IntKind.i64.wrap (-(m:Int))=-(m:Int):=IntWalk.i64_in _ (by omega)
   clear O A l
   by_cases q:L=s
   ·have r:bi s.data.toList=some (-(m:Int)):=by rw[M,if_pos (by rw[←q,x])]
    have hq:=fe q
    have j:=Lib.hid r
    clear M r x q
    go_wp2_with fail
    refine(F.out _).mono ?_
    rintro e w2 ⟨rfl,rfl⟩
    go_wp2_with fail
    all_goals go_ret2
    all_goals exact⟨(-(m:Int)),by(simp only[j.out];rfl),fun m' g=>by(rw[j.out]at g;exact Option.some.inj g),by unfold aE;omega,rfl⟩
   have r:bi s.data.toList=none:=by rw[M,if_neg (fun e=>q (ByteArray.ext (Array.toList_inj.1 (by rw[x,e]))))]
   have hq:=eM q
   have j:=Lib.hid r
   clear M r x
   go_wp2_with fail
   refine(F.out _).mono ?_
   rintro e w2 ⟨rfl,rfl⟩
   go_wp2_with fail
   all_goals go_ret2
   all_goals exact⟨(-(m:Int)),by(simp only[j.out];rfl),fun m' g=>by(rw[j.out]at g;cases g),by unfold aE;omega,rfl⟩
 have Y:(((s[0]'N).toNat:Int)==45)=false:=by
  rw[beq_eq_false_iff_ne];intro e;exact E (UInt8.toNat_inj.1 (by show(s[0]'N).toNat=45;omega))
 have H:¬s.data.toList.head?=some 45:=fun e=>by rw[V]at e;exact E (Option.some.inj e)
 have t:di s.data.toList=s.data.toList:=by unfold di;rw[if_neg H]
 have I:∀m,gL s.data.toList m=(m:Int):=fun m=>by unfold gL;rw[if_neg H]
 obtain⟨b,y⟩:∃b,b=s:=⟨s,rfl⟩
 have f:((di s.data.toList).length<1∨18<(di s.data.toList).length)→bi s.data.toList=none:=J
 have v:di s.data.toList=b.data.toList:=by rw[y];exact t
 have p:¬((di s.data.toList).length<1∨18<(di s.data.toList).length)→(∀m:Nat,Lib.decFrom 0 b.data.toList=some m→bi s.data.toList=if Lib.itoa (m:Int)=s.data.toList then some (m:Int)else none)∧(Lib.decFrom 0 b.data.toList=none→bi s.data.toList=none):=fun h=>by
  have:=K h
  rw[v]at this
  exact⟨fun m g=>by have:=this.1 m g;rwa[I]at this,this.2⟩
 have ag:((b.size:Int)<(b.size:Int))=False:=eq_false (by omega)
 clear J K I V t E H
 go_enter Tryz.func119,Tryz.ntmps119
 go_upto_region 4 with fail
 subst y
 have u:b.data.toList.length=b.size:=by have:b.size=b.data.size:=rfl;rw[Array.length_toList,this]
 by_cases P:b.size<1
 ·have g1:((b.size:Int)<1)=True:=eq_true (by omega)
  have a:=Lib.hid (f (by rw[v,u];exact .inl P))
  clear f p
  go_wp2_with fail
  all_goals go_ret2
  all_goals exact⟨0,by rw[a.out];rfl,fun m g=>by(rw[a.out]at g;cases g),by unfold aE;omega,rfl⟩
 have g1:((b.size:Int)<1)=False:=eq_false (by omega)
 by_cases Q:18<b.size
 ·have g2:(18<(b.size:Int))=True:=eq_true (by omega)
  have a:=Lib.hid (f (by rw[v,u];exact .inr Q))
  clear f p
  go_wp2_with fail
  all_goals go_ret2
  all_goals exact⟨0,by rw[a.out];rfl,fun m g=>by(rw[a.out]at g;cases g),by unfold aE;omega,rfl⟩
 have g2:(18<(b.size:Int))=False:=eq_false (by omega)
 have o:=Lib.hid (p (by rw[v,u];omega))
 clear f p
 go_wp2_with fail
 go_loopw [5,6] (fun nV iV wr=>nZ b w nV iV wr) (fun _ iV _=>b.size-(intOf iV).toNat)
 case atStart=>exact⟨0,0,rfl,rfl,Nat.zero_le _,rfl,by decide,rfl⟩
 case round=>
  obtain⟨k,m,rfl,rfl,hk,l,B,U⟩:=hrel
  subst U
  by_cases c:k<b.size
  ·have i:=pV c
   have al:=(b[k]'c).toNat_lt
   have G:m<1000000000000000000:=Nat.lt_of_lt_of_le B (Nat.le_trans (Nat.pow_le_pow_right (n:=10) (by decide) (show _≤18 by omega)) (by decide))
   have aq:((k:Int)<(b.size:Int))=True:=eq_true (by omega)
   by_cases R:(b[k]'c).toNat<48
   ·have a:=Lib.hid ((o.out).2 (li _ 0 k _ i (nk (.inl R))))
    have Z:(((b[k]'c).toNat:Int)<48)=True:=eq_true (by omega)
    clear l i
    go_wp2_with fail
    all_goals go_ret2
    all_goals exact⟨0,by rw[a.out];rfl,fun m g=>by(rw[a.out]at g;cases g),by unfold aE;omega,rfl⟩
   have Z:(((b[k]'c).toNat:Int)<48)=False:=eq_false (by omega)
   by_cases S:57<(b[k]'c).toNat
   ·have a:=Lib.hid ((o.out).2 (li _ 0 k _ i (nk (.inr S))))
    have c2:(57<((b[k]'c).toNat:Int))=True:=eq_true (by omega)
    clear l i
    go_wp2_with fail
    all_goals go_ret2
    all_goals exact⟨0,by rw[a.out];rfl,fun m g=>by(rw[a.out]at g;cases g),by unfold aE;omega,rfl⟩
   have c2:(57<((b[k]'c).toNat:Int))=False:=eq_false (by omega)
   have C:=Lib.decFrom_take _ k 0 m _ _ l i (un (by omega) (by omega))
   have X:m<100000000000000000:=Nat.lt_of_lt_of_le B (Nat.le_trans (Nat.pow_le_pow_right (n:=10) (by decide) (show k≤17 by omega)) (by decide))
   have T:∀z:Int,0≤z→z<256→IntKind.u8.wrap z=z:=fun z N h1=>by
    unfold IntKind.wrap
    simp[IntKind.signed,IntKind.bits]
    omega
   have hu:IntKind.u8.wrap (((b[k]'c).toNat:Int)-48)=(((b[k]'c).toNat-48:Nat):Int):=by rw[T _ (by omega) (by omega)];omega
   obtain⟨d,hd⟩:∃d,(b[k]'c).toNat-48=d:=⟨_,rfl⟩
   have ao:d≤9:=by omega
   rw[hd]at hu C
   have aN:IntKind.i64.wrap (10*(m:Int))=10*(m:Int):=IntWalk.i64_in _ (by omega)
   have aO:IntKind.i64.wrap (d:Int)=(d:Int):=IntWalk.i64_in _ (by omega)
   have aP:IntKind.i64.wrap (10*(m:Int)+(d:Int))=10*(m:Int)+(d:Int):=IntWalk.i64_in _ (by omega)
   have hrel:nZ b wr (.int .i64 (10*(m:Int)+(d:Int))) (.int .i64 ((k:Int)+1)) wr:=⟨k+1,m*10+d,by go_num,by congr 1;omega,by omega,C,by rw[Nat.pow_succ];omega,rfl⟩
   have D:=Lib.hid hrel
   clear hrel l i C hd
   go_wp2_with fail
   all_goals go_roundw
   all_goals first|exact D.out|(simp[intOf];done)|(simp[intOf];omega)
  obtain rfl:k=b.size:=by omega
  rw[List.take_of_length_le (by rw[u];exact Nat.le_refl _)]at l
  have G:m<1000000000000000000:=Nat.lt_of_lt_of_le B (Nat.le_trans (Nat.pow_le_pow_right (n:=10) (by decide) (show _≤18 by omega)) (by decide))
  have M:=(o.out).1 m l
  have O:=fun W=>kQ (m:Int) (by omega) (by omega) W
  obtain⟨L,A⟩:∃L:ByteArray,(⟨(Lib.itoa (m:Int)).toArray⟩:ByteArray)=L:=⟨_,rfl⟩
  simp only[A]at O
  have x:L.data.toList=Lib.itoa (m:Int):=by rw[←A]
  have F:=Lib.hid O
  have aL:IntKind.i64.wrap (-(m:Int))=-(m:Int):=IntWalk.i64_in _ (by omega)
  clear O A l
  by_cases q:L=b
  ·have r:bi b.data.toList=some (m:Int):=by rw[M,if_pos (by rw[←q,x])]
   have hq:=fe q
   have j:=Lib.hid r
   clear M r x q
   go_wp2_with fail
   refine(F.out _).mono ?_
   rintro e w2 ⟨rfl,rfl⟩
   go_wp2_with fail
   all_goals go_ret2
   all_goals exact⟨(m:Int),by(simp only[j.out];rfl),fun m' g=>by(rw[j.out]at g;exact Option.some.inj g),by unfold aE;omega,rfl⟩
  have r:bi b.data.toList=none:=by rw[M,if_neg (fun e=>q (ByteArray.ext (Array.toList_inj.1 (by rw[x,e]))))]
  have hq:=eM q
  have j:=Lib.hid r
  clear M r x
  go_wp2_with fail
  refine(F.out _).mono ?_
  rintro e w2 ⟨rfl,rfl⟩
  go_wp2_with fail
  all_goals go_ret2
  all_goals exact⟨(m:Int),by(simp only[j.out];rfl),fun m' g=>by(rw[j.out]at g;cases g),by unfold aE;omega,rfl⟩
theorem pJ(b:ByteArray):b.data.toList.length=b.size:=Array.length_toList
theorem uS{s:ByteArray}{k:Nat}(h:k<s.size):s.data.toList.getD k 0=s[k]'h:=by
 rw[List.getD_eq_getElem?_getD,List.getElem?_eq_getElem (by rw[pJ];exact h),Option.getD_some,Array.getElem_toList];rfl
def oc(s:ByteArray)(w:World)(i:Value)(wr:World):Prop:=∃k:Nat,i= .int .i64 k∧k≤s.size∧gZ s k=true∧w=wr
theorem pT(s:ByteArray)(hs:s.size≤aB)(w:World):Calls Tryz.prog 95 #[.string s] w fun e w'=>e= .returned (.bool (a6 s))∧w=w':=by
 unfold aB at hs
 go_enter Tryz.func95,Tryz.ntmps95
 go_wp2_with fail
 go_loopw [7] (fun i wr=>oc s w i wr) (fun i _=>s.size-(intOf i).toNat)
 case atStart=>exact⟨0,rfl,Nat.zero_le _,rfl,rfl⟩
 case round=>
  obtain⟨k,rfl,t,m,rfl⟩:=hrel
  by_cases j:k<s.size
  ·have hg:=uS j
   have l:=xv s k
   rw[m,Bool.true_and,hg]at l
   have c:=fun h=>xu j (by rw[hg];exact h)
   have q:((k:Int)<(s.size:Int))=True:=eq_true (by omega)
   have a:=Lib.hid l
   have f:=Lib.hid c
   clear hg l c m
   go_wp2_with fail
   all_goals try subst_vars
   all_goals first
    |(go_ret;exact⟨aF (f.out (by simp[fI];(try simp at*);omega)).symm,rfl⟩)
    |(go_roundw;all_goals first|exact⟨1,rfl,by omega,by(have h:=a.out;rw[h];simp[fI];(try simp at*);omega),rfl⟩|exact⟨k+1,by go_num,by omega,by(have h:=a.out;rw[h];simp[fI];(try simp at*);omega),rfl⟩|(simp[intOf];omega))
    |(refine⟨⟨k+1,?_,by omega,?_,rfl⟩,?_⟩;·go_num;·(have h:=a.out;rw[h];simp[fI];(try simp at*);omega);·(simp[intOf];omega))
    |(refine⟨⟨1,rfl,by omega,?_,rfl⟩,?_⟩;·(have h:=a.out;rw[h];simp[fI];(try simp at*);omega);·(simp[intOf];omega))
  have g:k=s.size:=by omega
  rw[g]at m
  have n:a6 s=(decide (1≤s.size)&&decide (s.size≤16)):=by unfold a6;rw[m,Bool.true_and]
  have q:((k:Int)<(s.size:Int))=False:=eq_false (by omega)
  have b:=Lib.hid n
  have r:=Lib.hid g
  clear m n g j t
  by_cases u:1≤s.size
  ·have o:((1:Int)≤(s.size:Int))=True:=eq_true (by omega)
   by_cases v:s.size≤16
   ·have p:((s.size:Int)≤16)=True:=eq_true (by omega)
    go_wp2_with fail
    go_ret
    exact⟨aF (by rw[b.out];simp;omega),rfl⟩
   have p:((s.size:Int)≤16)=False:=eq_false (by omega)
   go_wp2_with fail
   go_ret
   exact⟨aF (by rw[b.out];simp;omega),rfl⟩
  have o:((1:Int)≤(s.size:Int))=False:=eq_false (by omega)
  go_wp2_with fail
  go_ret
  exact⟨aF (by rw[b.out];simp;omega),rfl⟩
theorem ii(m:UInt8):∀l,(aA m l).length≤l.length+1
 | []=>Nat.le_refl _
 |c::r=>by
  have ih:=ii m r
  rw[aA]
  split
  ·simp;omega
  split
  ·simp
  rename_i w a h;rw[h]at ih;simp at ih⊢;omega
def aI(l:List ByteArray):List (List UInt8):=l.map fun b=>b.data.toList
def sF(t:ByteArray)(m:UInt8)(w:World)(vO fV iV:Value)(wr:World):Prop:=
 ∃(f i:Nat) (out:List ByteArray),fV= .int .i64 f∧iV= .int .i64 i∧f≤i∧i≤t.size∧OwnS wr w.heap.size vO out∧aI out++aA m (t.data.toList.drop f)=aA m t.data.toList∧m∉(t.data.toList.drop f).take (i-f)∧Below w.heap.size w wr
def oH(l:List (List UInt8))(w:World)(e:Ending)(w':World):Prop:=∃v out,e= .returned v∧OwnS w' w.heap.size v out∧aI out=l∧Below w.heap.size w w'
theorem kq(t:ByteArray)(a b:Nat):(t.extract a b).data.toList=(t.data.toList.drop a).take (b-a):=by
 rw[ByteArray.data_extract,Array.toList_extract,List.extract_eq_take_drop]
theorem tf(t:ByteArray)(m:UInt8)(hs:t.size≤65536)(w:World):
  Calls Tryz.prog 71 #[.string t, .int .u8 (m.toNat:Int)] w (oH (aA m t.data.toList) w):=by
 have r:t.data.toList.length=t.size:=by have:t.size=t.data.size:=rfl;rw[Array.length_toList,this]
 have y:=ii m t.data.toList
 have C:=Lib.hid y
 clear y
 go_enter Tryz.func71,Tryz.ntmps71
 go_wp2_with fail
 go_loopw [5,6,7] (fun vO fV iV wr=>sF t m w vO fV iV wr) (fun _ _ iV _=>t.size-(intOf iV).toNat)
 case atStart=>exact⟨0,0,[],rfl,rfl,Nat.le_refl _,Nat.zero_le _, .nil _ _ _ _ _,by simp[aI],by simp,Below.refl _ _⟩
 case round=>
  obtain⟨f,i,out,rfl,rfl,D,H,l,hw,a,j⟩:=hrel
  have p:out.length≤65537:=by
   have A:=congrArg List.length hw
   have B:=C.out
   rw[List.length_append]at A
   unfold aI at A
   rw[List.length_map]at A
   omega
  have q:(t.extract f i).size≤65536:=by rw[ByteArray.size_extract];omega
  by_cases c:i<t.size
  ·have E:((i:Int)<(t.size:Int))=True:=eq_true (by omega)
   have h:(t.data.toList.drop f).drop (i-f)=(t[i]'c)::t.data.toList.drop (i+1):=by
    rw[List.drop_drop,show f+(i-f)=i by omega]
    exact uu c
   by_cases s:t[i]'c=m
   ·have F:(((t[i]'c).toNat:Int)==(m.toNat:Int))=true:=by rw[s];simp
    obtain⟨v',z,g,v,hg,-⟩:=OwnL.push (P:=Tryz.prog) (t:=37) (ty:=37) l Tryz.underlying37 jI rfl (vs:=[.string (t.extract f i)]) (x:=t.extract f i) ⟨rfl,by unfold aB;omega⟩ (by omega) (by unfold aB;omega) j.size
    have hrel:sF t m w v' (.int .i64 ((i:Int)+1)) (.int .i64 ((i:Int)+1)) z:=by
     refine⟨i+1,i+1,out++[t.extract f i],by go_num,by go_num,Nat.le_refl _,by omega,v,?_,by simp,j.grown hg j.size (fun k e=>(OwnL.lt l k e).1)⟩
     rw[←hw]
     have B:t.data.toList.drop f=(t.data.toList.drop f).take (i-f)++m::t.data.toList.drop (i+1):=by
      rw[←s,←h,List.take_append_drop]
     rw[B,eU a]
     unfold aI
     rw[List.map_append,List.append_assoc,List.map_singleton,kq]
     have G:((List.take (i-f) (List.drop f t.data.toList)++m::List.drop (i+1) t.data.toList))=List.drop f t.data.toList:=B.symm
     rfl
    have b:=Lib.hid hrel
    clear hrel l j hw a h v hg p q s
    go_wp2_with (at_builtin;refine bo rfl _ _ _ rfl rfl rfl g ?_)
    all_goals go_roundw
    all_goals first|exact b.out|(simp[intOf];done)|(simp[intOf];omega)
   have F:(((t[i]'c).toNat:Int)==(m.toNat:Int))=false:=by
    rw[beq_eq_false_iff_ne];intro e;exact s (UInt8.toNat_inj.1 (by show(t[i]'c).toNat=m.toNat;omega))
   have hrel:sF t m w u5 (.int .i64 (f:Int)) (.int .i64 ((i:Int)+1)) wr:=by
    refine⟨f,i+1,out,rfl,by go_num,by omega,by omega,l,hw,?_,j⟩
    have u:i-f<(t.data.toList.drop f).length:=by rw[List.length_drop,r];omega
    rw[show i+1-f=i-f+1 by omega,List.take_succ_eq_append_getElem u,List.mem_append,List.mem_singleton,not_or]
    refine⟨a,fun e=>s ?_⟩
    rw[List.drop_eq_getElem_cons u]at h
    rw[e]
    exact(List.cons.inj h).1.symm
   have b:=Lib.hid hrel
   clear hrel l j hw a h p q s
   go_wp2_with fail
   all_goals go_roundw
   all_goals first|exact b.out|(simp[intOf];done)|(simp[intOf];omega)
  obtain rfl:i=t.size:=by omega
  rw[List.take_of_length_le (by rw[List.length_drop,r];exact Nat.le_refl _)]at a
  rw[ij a]at hw
  obtain⟨v',z,g,v,hg,-⟩:=OwnL.push (P:=Tryz.prog) (t:=37) (ty:=37) l Tryz.underlying37 jI rfl (vs:=[.string (t.extract f t.size)]) (x:=t.extract f t.size) ⟨rfl,by unfold aB;omega⟩ (by omega) (by unfold aB;omega) j.size
  have n:oH (aA m t.data.toList) w (.returned v') z:=by
   refine⟨v',_,rfl,v,?_,j.grown hg j.size (fun k e=>(OwnL.lt l k e).1)⟩
   rw[←hw]
   unfold aI
   rw[List.map_append,List.map_singleton,kq,List.take_of_length_le (by rw[List.length_drop,r];exact Nat.le_refl _)]
  have o:=Lib.hid n
  clear n l j hw a v hg p q
  go_wp2_with (at_builtin;refine bo rfl _ _ _ rfl rfl rfl g ?_)
  all_goals go_ret
  all_goals exact o.out
def GM(l:List (List UInt8))(w:World)(e:Ending)(w':World):Prop:=
 ∃v ns,e= .returned (.tuple #[v, .bool (l.mapM bi).isSome])∧OwnI w' w.heap.size v ns∧(∀ms,l.mapM bi=some ms→ns=ms)∧Below w.heap.size w w'
def xC(l:List (List UInt8))(w:World)(vO iV:Value)(wr:World):Prop:=
 ∃(k:Nat) (ns:List Int),iV= .int .i64 k∧k≤l.length∧OwnI wr w.heap.size vO ns∧ns.length=k∧(l.take k).mapM bi=some ns∧Below w.heap.size w wr
theorem EP{l:List (List UInt8)}{x:List UInt8}:(l++[x]).mapM bi=(l.mapM bi).bind fun ns=>(bi x).bind fun n=>some (ns++[n]):=by
 induction l with
 |nil=>simp[List.mapM_cons]
 |cons a l b=>
  rw[List.cons_append,List.mapM_cons,List.mapM_cons,b]
  cases bi a with
  |none=>rfl
  |some v=>
   cases l.mapM bi with
   |none=>rfl
   |some vs=>
    cases bi x with
    |none=>rfl
    |some u=>rfl
theorem wY:∀{l:List (List UInt8)} {k:Nat},(l.take k).mapM bi=none→l.mapM bi=none
 | [],k,h=>by simp at h
 |a::l,0,h=>by simp at h
 |a::l,k+1,h=>by
  rw[List.take_succ_cons,List.mapM_cons]at h
  rw[List.mapM_cons]
  cases ha:bi a with
  |none=>rfl
  |some v=>
   rw[ha]at h
   cases hl:(l.take k).mapM bi with
   |none=>rw[wY hl];rfl
   |some vs=>rw[hl]at h;simp at h
theorem AE{S:Nat→Prop}(a:Option Addr)(c:Nat)(l:List ByteArray)(w:World)(h:Sl strE S w a c l)(hb:∀b∈l,b.size≤65536)(hl:l.length≤65537):
  Calls Tryz.prog 72 #[.slice a l.length c] w (GM (aI l) w):=by
 have m:=h.le
 have hH:=Lib.hid h
 have M:=Lib.hid hb
 have v:(aI l).length=l.length:=by unfold aI;rw[List.length_map]
 clear h hb
 go_enter Tryz.func72,Tryz.ntmps72
 go_wp2_with fail
 go_loopw [4,5,6,7] (fun vO iV _ _ wr=>xC (aI l) w vO iV wr) (fun _ iV _ _ _=>l.length-(intOf iV).toNat)
 case atStart=>exact⟨0,[],rfl,Nat.zero_le _, .nil _ _ _ _ _,rfl,rfl,Below.refl _ _⟩
 case round=>
  obtain⟨k,U,rfl,hk,s,N,o,p⟩:=hrel
  rw[v]at hk
  by_cases A:k<l.length
  ·obtain⟨bl,ol,L,-,q0,-⟩:=(hH.out.below p).str k A
   subst L
   have I:=M.out _ (List.getElem_mem A)
   have y:(aI l).take (k+1)=(aI l).take k++[l[k].data.toList]:=by
    rw[List.take_succ_eq_append_getElem (by rw[v];exact A)]
    congr 1
    simp[aI]
   obtain⟨x,C⟩:∃x,l[k]=x:=⟨_,rfl⟩
   rw[C]at q0 I y
   have f:=EP (l:=(aI l).take k) (x:=x.data.toList)
   rw[←y,o]at f
   have J:=fun W=>AD x I W
   cases g:bi x.data.toList with
   |none=>
    rw[g]at f
    have r:=wY f
    have i:=Lib.hid r
    have K:=Lib.hid J
    have q:=Lib.hid p
    have G:=Lib.hid g
    clear r J p s o f y g C
    go_wp2_with fail
    refine(K.out _).mono ?_
    rintro e w2 ⟨n,rfl,-,-,rfl⟩
    rw[G.out]
    go_wp2_with fail
    all_goals go_ret2
    all_goals exact⟨_,[],by rw[i.out];rfl, .nil _ _ _ _ _,fun ms F=>by(rw[i.out]at F;cases F),q.out⟩
   |some n=>
    rw[g]at f
    have j:((aI l).take (k+1)).mapM bi=some (U++[n]):=f
    have D:∀W,Calls Tryz.prog 119 #[.string x] W fun e w'=>e= .returned (.tuple #[.int .i64 n, .bool true])∧aE n∧W=w':=fun W=>(J W).mono fun e w' hh=>by
     obtain⟨n',R,X,Y,Z⟩:=hh
     have:=X n g
     subst this
     rw[g]at R
     exact⟨R,Y,Z⟩
    have E:=Lib.hid D
    have q:=Lib.hid p
    have u:=Lib.hid s
    have Q:=Lib.hid j
    clear J D p s o f j y g C
    go_wp2_with fail
    refine(E.out _).mono ?_
    rintro e w2 ⟨rfl,O,rfl⟩
    have p:=q.out
    have s:=u.out
    obtain⟨v',V,H,T,hg,-⟩:=OwnL.push (P:=Tryz.prog) (t:=41) (ty:=41) s Tryz.underlying41 gW rfl (vs:=[.int .i64 n]) (x:=n) ⟨rfl,O⟩ (by omega) (by unfold aB;omega) p.size
    have hrel:xC (aI l) w v' (.int .i64 ((k:Int)+1)) V:=⟨k+1,_,by go_num,by rw[v];omega,T,by simp[N],Q.out,p.grown hg p.size (fun k e=>(OwnL.lt s k e).1)⟩
    have B:=Lib.hid hrel
    clear hrel s p T hg u
    go_wp2_with (at_builtin;refine bo rfl _ _ _ rfl rfl rfl H ?_)
    all_goals go_roundw
    all_goals first|exact B.out|(simp[intOf];done)|(simp[intOf];omega)
  obtain rfl:k=l.length:=by omega
  rw[List.take_of_length_le (by rw[v];exact Nat.le_refl _)]at o
  have q:=Lib.hid p
  have u:=Lib.hid s
  have z:=Lib.hid o
  clear p s o
  go_wp2_with fail
  all_goals go_ret2
  all_goals exact⟨_,U,by rw[z.out];rfl,u.out,fun ms F=>by(rw[z.out]at F;exact Option.some.inj F),q.out⟩
theorem nR{l:List ByteArray}{x:ByteArray}{k:Nat}(hk:k<l.length):bC (l.take (k+1)) x=(bC (l.take k) x||decide (l[k]=x)):=by
 unfold bC
 rw[List.take_succ_eq_append_getElem hk,List.any_append]
 simp
theorem xX{S:Nat→Prop}(a:Option Addr)(c:Nat)(l:List ByteArray)(x:ByteArray)(w:World)(h:Sl strE S w a c l):
  Calls Tryz.prog 70 #[.slice a l.length c, .string x] w fun e w'=>e= .returned (.bool (bC l x))∧w=w':=by
 have m:=h.le
 have v:=Lib.hid h
 clear h
 go_enter Tryz.func70,Tryz.ntmps70
 go_wp2_with fail
 go_loopw [5] (fun i wr=>∃k:Nat,i= .int .i64 k∧k≤l.length∧bC (l.take k) x=false∧w=wr) (fun i _=>l.length-(intOf i).toNat)
 case atStart=>exact⟨0,rfl,Nat.zero_le _,rfl,rfl⟩
 case round=>
  obtain⟨k,rfl,B,p,rfl⟩:=hrel
  by_cases f:k<l.length
  ·obtain⟨b,o,rfl,-,q,-⟩:=v.out.str k f
   have r:=nR (x:=x) f
   rw[p,Bool.false_or]at r
   obtain⟨y,hy⟩:∃y,l[k]=y:=⟨_,rfl⟩
   have j:y=x→bC l x=true:=fun e=>memB_iff.2 (by rw[←e,←hy];exact List.getElem_mem f)
   rw[hy]at q r
   have t:=Lib.hid r
   have s:=Lib.hid j
   clear r j p hy
   by_cases n:y=x
   ·have A:=fe n
    have g:=Lib.hid (s.out n)
    clear n
    go_wp2_with fail
    go_ret
    first|exact⟨aF g.out.symm,rfl⟩|exact⟨aF g.out.symm,trivial⟩
   have A:=eM n
   have g:=Lib.hid (show bC (l.take (k+1)) x=false by rw[t.out];exact decide_eq_false n)
   clear n
   go_wp2_with fail
   go_roundw
   case rel=>first|exact⟨k+1,by go_num,f,g.out,rfl⟩|exact⟨k+1,by go_num,f,g.out,trivial⟩
   case measure=>simp[intOf];omega
  have z:((k:Int)<(l.length:Int))=False:=eq_false (by omega)
  rw[List.take_of_length_le (by omega)]at p
  have g:=Lib.hid p
  have u:=Lib.hid f
  clear p f
  go_wp2_with fail
  go_ret
  first|exact⟨aF g.out.symm,rfl⟩|exact⟨aF g.out.symm,trivial⟩
theorem Fr{s:ByteArray}{w:World}{k:Nat}(hk:k<s.size)(h:gZ s (k+1)=true):oc s w (.int .i64 ((k:Int)+1)) w∧s.size-(intOf (.int .i64 ((k:Int)+1))).toNat<s.size-(intOf (.int .i64 (k:Int))).toNat:=
 ⟨⟨k+1,by simp,hk,h,rfl⟩,by simp only[intOf];omega⟩
theorem Fs{s:ByteArray}{w:World}(hk:0<s.size)(h:gZ s (0+1)=true):oc s w (.int .i64 1) w∧s.size-(intOf (.int .i64 1)).toNat<s.size-(intOf (.int .i64 ((0:Nat):Int))).toNat:=
 ⟨⟨1,rfl,hk,h,rfl⟩,by simp only[intOf];omega⟩
theorem kz(s:ByteArray)(hs:s.size≤aB)(w:World):Calls Tryz.prog 69 #[.string s] w fun e w'=>e= .returned (.bool (a6 s))∧w=w':=by
 unfold aB at hs
 go_enter Tryz.func69,Tryz.ntmps69
 go_wp2_with fail
 go_loopw [3] (fun i wr=>oc s w i wr) (fun i _=>s.size-(intOf i).toNat)
 case atStart=>exact⟨0,rfl,Nat.zero_le _,rfl,rfl⟩
 case round=>
  obtain⟨k,rfl,t,m,rfl⟩:=hrel
  by_cases a:k<s.size
  ·have hg:=uS a
   have l:=xv s k
   rw[m,Bool.true_and,hg]at l
   have c:=fun h=>xu a (by rw[hg];exact h)
   have q:((k:Int)<(s.size:Int))=True:=eq_true (by omega)
   have f:=Lib.hid l
   have g:=Lib.hid c
   clear hg l c m
   go_wp2_with fail
   all_goals try subst_vars
   all_goals first
    |(exfalso;omega)
    |(exfalso;simp only[Bool.not_eq_false',Bool.not_eq_true',decide_eq_true_eq,decide_eq_false_iff_not,beq_iff_eq,beq_eq_false_iff_ne,ne_eq]at*;omega)
    |exact Fs a (f.out.trans (by simp only[fI,Bool.or_eq_true,Bool.and_eq_true,decide_eq_true_eq,ne_eq];(try simp only[Bool.not_eq_true',decide_eq_false_iff_not]at*);omega))
    |exact Fr a (f.out.trans (by simp only[fI,Bool.or_eq_true,Bool.and_eq_true,decide_eq_true_eq,ne_eq];(try simp only[Bool.not_eq_false',Bool.not_eq_true',decide_eq_true_eq,decide_eq_false_iff_not,beq_iff_eq,beq_eq_false_iff_ne,ne_eq]at*);omega))
    |(go_ret;exact⟨aF (g.out (by rw[Bool.eq_false_iff];simp only[fI,Bool.or_eq_true,Bool.and_eq_true,decide_eq_true_eq,ne_eq];(try simp only[Bool.not_eq_true',decide_eq_false_iff_not,beq_iff_eq,beq_eq_false_iff_ne,ne_eq]at*);first|omega|(simp;done)|(simp;omega))).symm,rfl⟩)
  have j:k=s.size:=by omega
  rw[j]at m
  have n:a6 s=(decide (1≤s.size)&&decide (s.size≤16)):=by unfold a6;rw[m,Bool.true_and]
  have q:((k:Int)<(s.size:Int))=False:=eq_false (by omega)
  have b:=Lib.hid n
  have r:=Lib.hid j
  clear m n j a t
  by_cases u:1≤s.size
  ·have o:((1:Int)≤(s.size:Int))=True:=eq_true (by omega)
   by_cases v:s.size≤16
   ·have p:((s.size:Int)≤16)=True:=eq_true (by omega)
    go_wp2_with fail
    go_ret
    exact⟨aF (by rw[b.out];simp;omega),rfl⟩
   have p:((s.size:Int)≤16)=False:=eq_false (by omega)
   go_wp2_with fail
   go_ret
   exact⟨aF (by rw[b.out];simp;omega),rfl⟩
  have o:((1:Int)≤(s.size:Int))=False:=eq_false (by omega)
  go_wp2_with fail
  go_ret
  exact⟨aF (by rw[b.out];simp;omega),rfl⟩
end Go.Proofs.YtlejmeegkpdabaaGreatDoor
