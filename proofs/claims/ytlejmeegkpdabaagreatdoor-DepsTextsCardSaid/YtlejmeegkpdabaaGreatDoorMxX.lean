/- The proof of a statement, some of its texts joined in build order: part X. -/
import Derived.Test.YtlejmeegkpdabaaGreatDoorMxZ4
import Derived.Test.YtlejmeegkpdabaaGreatDoorMxS
set_option maxHeartbeats 4000000
set_option maxRecDepth 100000
namespace Go.Proofs.YtlejmeegkpdabaaGreatDoor
open Go Go.RowKit Go.Maps
def nh(t:ByteArray)(m:UInt8)(w:World)(vO fV iV:Value)(wr:World):Prop:=
 ∃(f i:Nat) (out:List ByteArray),fV= .int .i64 f∧iV= .int .i64 i∧OwnS wr w.heap.size vO out∧Below w.heap.size w wr∧
  ((f≤i∧i≤t.size∧aI out++aA m (t.data.toList.drop f)=aA m t.data.toList∧m∉(t.data.toList.drop f).take (i-f))∨(i=t.size+1∧aI out=aA m t.data.toList))
theorem xW(t:ByteArray)(m:UInt8)(hs:t.size≤65536)(w:World):
  Calls Tryz.prog 26 #[.string t, .int .u8 (m.toNat:Int)] w (oH (aA m t.data.toList) w):=by
 have q:t.data.toList.length=t.size:=by have:t.size=t.data.size:=rfl;rw[Array.length_toList,this]
 have A:=Lib.hid (ii m t.data.toList)
 go_enter Tryz.func26,Tryz.ntmps26
 go_wp2_with fail
 go_loopw [5,6,7] (fun vO fV iV wr=>nh t m w vO fV iV wr) (fun _ _ iV _=>t.size+1-(intOf iV).toNat)
 case atStart=>exact⟨0,0,[],rfl,rfl, .nil _ _ _ _ _,Below.refl _ _, .inl ⟨Nat.le_refl _,Nat.zero_le _,by simp[aI],by simp⟩⟩
 case round=>
  obtain⟨f,i,out,rfl,rfl,n,l,hd⟩:=hrel
  rcases hd with⟨E,H,hw,b⟩|⟨rfl,hw⟩
  ·have o:out.length≤65537:=by
    have y:=congrArg List.length hw
    have z:=A.out
    rw[List.length_append]at y
    unfold aI at y
    rw[List.length_map]at y
    omega
   have p:(t.extract f i).size≤65536:=by rw[ByteArray.size_extract];omega
   obtain⟨v',D,h,v,hg,-⟩:=OwnL.push (P:=Tryz.prog) (t:=37) (ty:=37) n Tryz.underlying37 jI rfl (vs:=[.string (t.extract f i)]) (x:=t.extract f i) ⟨rfl,by unfold aB;omega⟩ (by omega) (by unfold aB;omega) l.size
   have g:=l.grown hg l.size (fun k e=>(OwnL.lt n k e).1)
   have B:((i:Int)≤(t.size:Int))=True:=eq_true (by omega)
   by_cases c:i<t.size
   ·have C:((i:Int)==(t.size:Int))=false:=by rw[beq_eq_false_iff_ne];omega
    have j:(t.data.toList.drop f).drop (i-f)=(t[i]'c)::t.data.toList.drop (i+1):=by
     rw[List.drop_drop,show f+(i-f)=i by omega]
     exact uu c
    by_cases r:t[i]'c=m
    ·have F:(((t[i]'c).toNat:Int)==(m.toNat:Int))=true:=by rw[r];simp
     have hrel:nh t m w v' (.int .i64 ((i:Int)+1)) (.int .i64 ((i:Int)+1)) D:=by
      refine⟨i+1,i+1,out++[t.extract f i],by go_num,by go_num,v,g, .inl ⟨Nat.le_refl _,by omega,?_,by simp⟩⟩
      rw[←hw]
      have z:t.data.toList.drop f=(t.data.toList.drop f).take (i-f)++m::t.data.toList.drop (i+1):=by
       rw[←r,←j,List.take_append_drop]
      rw[z,eU b]
      unfold aI
      rw[List.map_append,List.append_assoc,List.map_singleton,kq]
      have G:((List.take (i-f) (List.drop f t.data.toList)++m::List.drop (i+1) t.data.toList))=List.drop f t.data.toList:=z.symm
      rfl
     have a:=Lib.hid hrel
     clear hrel n l hw b j v hg o p r g
     go_wp2_with (at_builtin;refine bo rfl _ _ _ rfl rfl rfl h ?_)
     all_goals go_roundw
     all_goals first|exact a.out|(simp[intOf];done)|(simp[intOf];omega)
    have F:(((t[i]'c).toNat:Int)==(m.toNat:Int))=false:=by
     rw[beq_eq_false_iff_ne];intro e;exact r (UInt8.toNat_inj.1 (by show(t[i]'c).toNat=m.toNat;omega))
    have hrel:nh t m w u5 (.int .i64 (f:Int)) (.int .i64 ((i:Int)+1)) wr:=by
     refine⟨f,i+1,out,rfl,by go_num,n,l, .inl ⟨by omega,by omega,hw,?_⟩⟩
     have u:i-f<(t.data.toList.drop f).length:=by rw[List.length_drop,q];omega
     rw[show i+1-f=i-f+1 by omega,List.take_succ_eq_append_getElem u,List.mem_append,List.mem_singleton,not_or]
     refine⟨b,fun e=>r ?_⟩
     rw[List.drop_eq_getElem_cons u]at j
     rw[e]
     exact(List.cons.inj j).1.symm
    have a:=Lib.hid hrel
    clear hrel n l hw b j o p r v hg g h
    go_wp2_with fail
    all_goals go_roundw
    all_goals first|exact a.out|(simp[intOf];done)|(simp[intOf];omega)
   obtain rfl:i=t.size:=by omega
   rw[List.take_of_length_le (by rw[List.length_drop,q];exact Nat.le_refl _)]at b
   rw[ij b]at hw
   have C:((t.size:Int)==(t.size:Int))=true:=by simp
   have hrel:nh t m w v' (.int .i64 ((t.size:Int)+1)) (.int .i64 ((t.size:Int)+1)) D:=by
    refine⟨t.size+1,t.size+1,out++[t.extract f t.size],by go_num,by go_num,v,g, .inr ⟨rfl,?_⟩⟩
    rw[←hw]
    unfold aI
    rw[List.map_append,List.map_singleton,kq,List.take_of_length_le (by rw[List.length_drop,q];exact Nat.le_refl _)]
   have a:=Lib.hid hrel
   clear hrel n l hw b v hg o p g
   go_wp2_with (at_builtin;refine bo rfl _ _ _ rfl rfl rfl h ?_)
   all_goals go_roundw
   all_goals first|exact a.out|(simp[intOf];done)|(simp[intOf];omega)
  have B:(((t.size+1:Nat):Int)≤(t.size:Int))=False:=eq_false (by omega)
  have s:=Lib.hid (show oH (aA m t.data.toList) w (.returned u5) wr from⟨u5,out,rfl,n,hw,l⟩)
  clear n l hw
  go_wp2_with fail
  all_goals go_ret
  all_goals exact s.out
def dS(v:List UInt8)(ws:List (List UInt8)):Option Stp:=
 if(ws.all fun w=>decide (Lib.itoa (co w)=w))=true then
  match ws.map co with
  | [a]=>if v=dU then some (1,a,0)else none
  | [a,c]=>if v=dL then some (2,a,c)else none
  |_=>none
 else none
def dR(b:List UInt8):Option Stp:=dS ((aA 32 b).headD []) (aA 32 b).tail
theorem HQ{b:List UInt8}{x:Stp}(h:dR b=some x):dA x=b:=by
 have c:=jK 32 b
 unfold dR at h
 cases hw:aA 32 b with
 |nil=>exact(eV _ _ hw).elim
 |cons v g=>
  rw[hw]at h c
  change dS v g=some x at h
  unfold dS at h
  by_cases ha:(g.all fun w=>decide (Lib.itoa (co w)=w))=true
  ·rw[if_pos ha]at h
   rw[List.all_eq_true]at ha
   match g,ha,h,c with
   | [],_,h,_=>simp at h
   | [w1],ha,h,c=>
    have f:=ha w1 (by simp)
    rw[decide_eq_true_eq]at f
    simp only[List.map_cons,List.map_nil]at h
    by_cases a:v=dU
    ·rw[if_pos a]at h
     injection h with h
     rw[←h]
     unfold dA
     rw[if_pos rfl]
     simp only
     rw[f,←a]
     exact c
    rw[if_neg a]at h;cases h
   | [w1,w2],ha,h,c=>
    have f:=ha w1 (by simp)
    have i:=ha w2 (by simp)
    rw[decide_eq_true_eq]at f i
    simp only[List.map_cons,List.map_nil]at h
    by_cases a:v=dL
    ·rw[if_pos a]at h
     injection h with h
     rw[←h]
     unfold dA
     rw[if_neg (by simp)]
     simp only
     rw[f,i,←a]
     exact c
    rw[if_neg a]at h;cases h
   |w1::w2::j::r,_,h,_=>simp at h
  rw[if_neg ha]at h;cases h
theorem zl{i:Nat}{x:Stp}(h:aY 60 i x=true)(hi:i≤60):dR (dA x)=some x:=by
 rcases jq h hi with⟨a,ha,rfl⟩|⟨a,b,ha,c,rfl⟩
 ·have f:=ew ⟨a,ha⟩
  unfold dR
  rw[lN ha,eU (by decide),ij f.2.2.2.2.2.1]
  show dS dU [dg a]=_
  unfold dS
  have q:=je (n:=a) (by omega)
  simp[pI ha,q]
 have f:=ew ⟨a,ha⟩
 have g:=ew ⟨b,c⟩
 unfold dR
 rw[lO ha c,eU (by decide),eU f.2.2.2.2.2.1,ij g.2.2.2.2.2.1]
 show dS dL [dg a,dg b]=_
 unfold dS
 have q:=je (n:=a) (by omega)
 have j:=je (n:=b) (by omega)
 simp[pI ha,q,pI c,j]
theorem ma{G:Int}{pf:List Stp}{x:Stp}(h:bk G (pf++[x])=true):aY 60 pf.length x=true∧pf.length≤59:=by
 obtain⟨-,b,-,c,f⟩:=jm h
 have a:=l7 b f
 rw[l8,Bool.and_eq_true,a8,Bool.and_eq_true,Nat.zero_add]at a
 rw[List.length_append,List.length_singleton]at c
 exact⟨a.2.1,by omega⟩
theorem H2{b:List UInt8}{x:Stp}(hs:dR b=some x)(G:Int)(pf:List Stp):bk G (pf++[x])=bk G (pf++[bF b])∧(bk G (pf++[x])=true→x=bF b):=by
 have g:=HQ hs
 have key:bk G (pf++[x])=true→x=bF b:=fun h=>by
  obtain⟨f,a⟩:=ma h
  rw[←g,rJ f (by omega)]
 refine⟨?_,key⟩
 cases h:bk G (pf++[x])with
 |true=>rw[←key h,h]
 |false=>
  cases a:bk G (pf++[bF b])with
  |false=>rfl
  |true=>
   obtain⟨c,i⟩:=ma a
   have:=zl c (by omega)
   rw[rI c,hs]at this
   injection this with this
   rw[this,a]at h;cases h
theorem H1{b:List UInt8}(hs:dR b=none)(G:Int)(pf:List Stp):bk G (pf++[bF b])=false:=by
 cases c:bk G (pf++[bF b])with
 |false=>rfl
 |true=>
  obtain⟨a,f⟩:=ma c
  have:=zl a (by omega)
  rw[rI a,hs]at this
  cases this
def ep(n:Nat):List UInt8:=(List.replicate n ((1,0,0):Stp)).flatMap bD
theorem xJ(n:Nat):ep (n+1)=ep n++bD (1,0,0):=by
 unfold ep
 rw[List.replicate_succ',List.flatMap_append,List.flatMap_singleton]
theorem rr(n:Nat):(ep n).length=7*n:=by
 induction n with
 |zero=>rfl
 |succ n a=>rw[xJ,List.length_append,a,show(bD (1,0,0)).length=7 from by decide+kernel];omega
theorem EH:(10:UInt8)∉dA (1,0,0):=wO (i:=0) (by decide) (by omega)
theorem xM:∀(m n:Nat) (b:List UInt8),(10:UInt8)∉b→n+m≤59→
  be (aA 10 ((List.replicate m ((1,0,0):Stp)).flatMap bD++(b++[10]))) n (List.replicate n (1,0,0))=
   if aY 60 (n+m) (bF b)=true then(List.replicate (n+m) (1,0,0)++[bF b],0,0)else([],n+m,2)
 |0,n,b,hb,hn=>by
  show be (aA 10 (b++10::[])) n _=_
  simp only[Nat.add_zero]
  rw[eU hb,show aA 10 []=[[]]from rfl,be]
  by_cases h:aY 60 n (bF b)=true
  ·rw[if_pos ⟨by omega,h⟩,if_pos h,be,if_pos ⟨rfl,by simp⟩]
  rw[if_neg (fun e=>h e.2),if_neg h]
 |m+1,n,b,hb,hn=>by
  have hr:aY 60 n ((1,0,0):Stp)=true:=rfl
  have e:(List.replicate (m+1) ((1,0,0):Stp)).flatMap bD++(b++[10])=dA (1,0,0)++10::((List.replicate m ((1,0,0):Stp)).flatMap bD++(b++[10])):=by
   rw[List.replicate_succ,List.flatMap_cons,bD,List.append_assoc,List.append_assoc];rfl
  rw[e,eU EH]
  have a:=xM m (n+1) b hb (by omega)
  cases hw:aA 10 ((List.replicate m ((1,0,0):Stp)).flatMap bD++(b++[10]))with
  |nil=>exact(eV _ _ hw).elim
  |cons v c=>
   rw[hw]at a
   rw[be,rJ hr (by omega),if_pos ⟨by omega,hr⟩,←List.replicate_succ',a,show n+1+m=n+(m+1)by omega]
theorem xN{n:Nat}{b:List UInt8}(hb:(10:UInt8)∉b)(hn:n≤59)(hl:b.length≤65000):jk (ep n++(b++[10]))=if aY 60 n (bF b)=true then(List.replicate n (1,0,0)++[bF b],0,0)else([],n,2):=by
 have:=xM n 0 b hb (by omega)
 rw[Nat.zero_add]at this
 unfold jk
 rw[if_pos (by rw[List.length_append,rr,List.length_append,List.length_singleton];omega)]
 exact this
theorem vD{s:Sg}{b:List UInt8}{x:Ent}(h:dH s b=some x)(hb:aZ s x=b)(hk:b9 s x=true):bX s b=some x:=by
 unfold bX
 rw[h,Option.filter_some,hk,decide_eq_true hb];rfl
theorem vB{s:Sg}{b:List UInt8}{x:Ent}(h:dH s b=some x)(hn:¬(b9 s x=true∧aZ s x=b)):bX s b=none:=by
 unfold bX
 rw[h,Option.filter_some,if_neg]
 rw[Bool.and_eq_true,decide_eq_true_eq];exact hn
theorem DG{s:Sg}{b:List UInt8}(h:dH s b=none):bX s b=none:=by unfold bX;rw[h];rfl
theorem yk{G:Int}{pf:List Stp}:bk G (pf++[((0,0,0):Stp)])=false:=by
 cases h:bk G (pf++[((0,0,0):Stp)])with
 |false=>rfl
 |true=>
  obtain⟨a,-⟩:=ma h
  simp[aY]at a
theorem Gn{s:Sg}{acc:List Ent}{b:List UInt8}{x:Ent}(h:dH s b=some x)(hb:aZ s x=b)(hk:b9 s x=true)(ho:de acc=false)(ht:acc.any (fun y=>decide (af y=af x))=false)(h60:acc.length≠60):bK s acc b=some (acc++[x]):=by
 unfold bK
 rw[vD h hb hk]
 simp only
 rw[ho,ht,decide_eq_false h60];rfl
theorem Gv{s:Sg}{acc:List Ent}{b:List UInt8}{x:Ent}(h:dH s b=some x)(hb:aZ s x=b)(hno:¬(de acc=false∧acc.any (fun y=>decide (af y=af x))=false∧acc.length≠60∧b9 s x=true)):bK s acc b=none:=by
 unfold bK
 by_cases a:b9 s x=true
 ·rw[vD h hb a]
  simp only
  rw[if_pos]
  rw[Bool.or_eq_true,Bool.or_eq_true,decide_eq_true_eq]
  by_cases c:de acc=true
  ·exact .inl c
  by_cases f:acc.any (fun y=>decide (af y=af x))=true
  ·exact .inr (.inl f)
  by_cases g:acc.length=60
  ·exact .inr (.inr g)
  exact(hno ⟨Bool.eq_false_iff.2 c,Bool.eq_false_iff.2 f,g,a⟩).elim
 rw[vB h (fun e=>a e.1)]
 simp only
 obtain⟨r,hr⟩:=qB s x
 rw[yl (r:=r) (by rw[←hb];exact hr)]
 split
 ·rw[if_neg];rw[yk];simp
 rfl
theorem Gx{s:Sg}{A:List Ent}{y:Ent}{b:List UInt8}{x:Stp}(h:bX s b=none)(hs:dR b=some x):bK s (A++[y]) b=if ae y≠ []∧bk (ae y).length (ai y++[x])=true then some (A++[dm y (ai y++[x])])else none:=by
 unfold bK
 rw[h,List.getLast?_concat,List.dropLast_concat]
 simp only
 obtain⟨c,f⟩:=H2 hs (ae y).length (ai y)
 rw[←c]
 by_cases a:ae y≠ []∧bk (ae y).length (ai y++[x])=true
 ·rw[if_pos a,if_pos a,f a.2]
 rw[if_neg a,if_neg a]
theorem Gu{s:Sg}{acc:List Ent}{b:List UInt8}(h:bX s b=none)(hs:dR b=none):bK s acc b=none:=by
 unfold bK
 rw[h]
 simp only
 split
 ·rw[if_neg];rw[H1 hs];simp
 rfl
theorem ye{s:Sg}{b:List UInt8}(h:bX s b=none):bK s [] b=none:=by unfold bK;rw[h];rfl
theorem Gw{s:Sg}{A:List Ent}{y:Ent}{b:List UInt8}(h:bX s b=none):bK s (A++[y]) b=if ae y≠ []∧bk (ae y).length (ai y++[bF b])=true then some (A++[dm y (ai y++[bF b])])else none:=by
 unfold bK
 rw[h,List.getLast?_concat,List.dropLast_concat]
theorem jE{s:Sg}{b:List UInt8}(h:el s b=none):bX s b=none:=by rw[←qF,h];rfl
theorem vz{s:Sg}{b:List UInt8}{x:Ent}(h:el s b=some x)(hn:¬(b9 s x=true∧aZ s x=b)):bX s b=none:=by
 rw[←qF,h,Option.filter_some,if_neg]
 rw[Bool.and_eq_true,decide_eq_true_eq];exact hn
theorem DD{s:Sg}{b:List UInt8}{x:Ent}(h:el s b=some x)(hk:b9 s x=true)(hb:aZ s x=b):bX s b=some x:=by
 rw[←qF,h,Option.filter_some,hk,decide_eq_true hb];rfl
def fv(w:List (List UInt8))(i:Nat):Bool:=decide (5≤i)&&(decide (w.getD i []=eh)&&decide ((w.getD (i-1) []).getLast?=some 62))
def gM(w:List (List UInt8))(i:Nat):Option Nat:=(List.range i).find? (fv w)
theorem zS(w:List (List UInt8)):iM w=gM w w.length:=rfl
theorem IF(w:List (List UInt8))(i:Nat):gM w (i+1)=(gM w i).or (if fv w i=true then some i else none):=by
 unfold gM
 rw[List.range_succ,List.find?_append,List.find?_singleton]
theorem ID(w:List (List UInt8)):∀i,i≤5→gM w i=none:=fun i b=>by
 unfold gM
 rw[List.find?_eq_none]
 intro j a
 have:¬5≤j:=by have:=List.mem_range.1 a;omega
 unfold fv
 rw[decide_eq_false this];simp
theorem IE{w:List (List UInt8)}{i k:Nat}(h:gM w i=some k):5≤k∧k<i:=by
 have b:=List.mem_range.1 (List.mem_of_find?_eq_some h)
 have a:=List.find?_some h
 unfold fv at a
 rw[Bool.and_eq_true,decide_eq_true_eq]at a
 exact⟨a.1,b⟩
theorem IG{w:List (List UInt8)}{i:Nat}(h:w.getD i []≠eh):fv w i=false:=by unfold fv;rw[decide_eq_false h];simp
theorem zU{w:List (List UInt8)}{i:Nat}(h:(w.getD (i-1) []).getLast?≠some 62):fv w i=false:=by unfold fv;rw[decide_eq_false h];simp
theorem II{w:List (List UInt8)}{i:Nat}(h5:5≤i)(h1:w.getD i []=eh)(h2:(w.getD (i-1) []).getLast?=some 62):fv w i=true:=by unfold fv;rw[decide_eq_true h5,decide_eq_true h1,decide_eq_true h2];rfl
def rF(w:List (List UInt8)):Prop:=7≤w.length∧w.getD 0 []=d7∧w.getD 2 []=dZ∧w.getD 4 []=eT
def gK(w:List (List UInt8))(k:Nat):List UInt8:=aS 32 ((w.take k).drop 5)
theorem nJ{s:Sg}{b:List UInt8}(h:¬rF (aA 32 b)):el s b=none:=by
 unfold el
 split
 ·rw[if_neg (fun e=>h e.1)]
 rfl
theorem DA{s:Sg}{b:List UInt8}(h:iM (aA 32 b)=none):el s b=none:=by
 unfold el;rw[h]
theorem Dy{s:Sg}{b:List UInt8}{k:Nat}(h:iM (aA 32 b)=some k)(hn:¬(2≤(gK (aA 32 b) k).length∧(gK (aA 32 b) k).head?=some 60)):el s b=none:=by
 unfold el;rw[h];simp only
 rw[if_neg (fun e=>hn e.2.1)]
theorem Dz{s:Sg}{b:List UInt8}{k:Nat}(h:iM (aA 32 b)=some k)(hn:¬(cC s 1 (gh (gK (aA 32 b) k))).2=0):el s b=none:=by
 unfold el;rw[h];simp only
 rw[if_neg (fun e=>hn e.2.2)]
theorem DC{s:Sg}{b:List UInt8}{k:Nat}(h:iM (aA 32 b)=some k)(h4:rF (aA 32 b))(hs:2≤(gK (aA 32 b) k).length∧(gK (aA 32 b) k).head?=some 60)(ht:(cC s 1 (gh (gK (aA 32 b) k))).2=0):
  el s b=some (gH ((aA 32 b).getD 1 []) ((aA 32 b).getD 3 []) (cC s 1 (gh (gK (aA 32 b) k))).1 ((aA 32 b).drop (k+1))):=by
 unfold el;rw[h];simp only
 exact if_pos ⟨h4,hs,ht⟩
theorem qO(m:UInt8):∀(L:List (List UInt8)) (k:Nat),(aS m (L.take k)).length≤(aS m L).length∧(aS m (L.drop k)).length≤(aS m L).length
 | [],k=>by simp
 |w::L,0=>by simp[aS]
 | [w],k+1=>by simp[aS]
 |w::v::L,k+1=>by
  obtain⟨h1,h2⟩:=qO m (v::L) k
  rw[ir,List.take_succ_cons,List.drop_succ_cons]
  simp only[List.length_append,List.length_cons]
  refine⟨?_,by omega⟩
  cases a:List.take k (v::L)with
  |nil=>simp[aS]
  |cons u M=>rw[a]at h1;rw[ir];simp only[List.length_append,List.length_cons];omega
theorem G3(b:List UInt8)(k:Nat):(gK (aA 32 b) k).length≤b.length:=by
 unfold gK
 have c:=(qO 32 ((aA 32 b).take k) 5).2
 have a:=(qO 32 (aA 32 b) k).1
 rw[jK]at a
 omega
theorem E5{x:ByteArray}:bL (x.extract 1 (x.size-1))=gh (bL x):=by
 unfold bL gh
 rw[ByteArray.data_extract,Array.toList_extract,List.extract_eq_take_drop,List.dropLast_eq_take,List.length_drop,Array.length_toList]
 congr 1
theorem F9{S:Nat→Prop}(a:Option Addr)(c:Nat)(L:List ByteArray)(w:World)(h:Sl strE S w a c L)(hm:(aS 32 (L.map bL)).length≤1000000):
  Calls Tryz.prog 66 #[.slice a L.length c, .string ⟨#[32]⟩] w fun e w'=>e= .returned (.string (ah (aS 32 (L.map bL))))∧w=w':=by
 have J:=h.le
 have F:=Lib.hid h
 have y:=Lib.hid hm
 clear h hm
 go_enter Tryz.func66,Tryz.ntmps66
 go_wp2_with fail
 go_loopw [5,6] (fun sv i wr=>∃j:Nat,i= .int .i64 j∧j≤L.length∧sv= .string (ah (aS 32 ((L.map bL).take j)))∧wr=w) (fun _ i _=>L.length-(intOf i).toNat)
 case atStart=>exact⟨0,rfl,Nat.zero_le _,rfl,rfl⟩
 case round=>
  obtain⟨j,rfl,I,rfl,rfl⟩:=hrel
  by_cases k:j<L.length
  ·obtain⟨b,o,rfl,-,-,vs,t,u,E⟩:=F.out.at1 j k
   obtain⟨rfl,-⟩:=E
   have q:=u 0 (by rw[t];exact Nat.one_pos)
   simp only[List.getElem_cons_zero,Nat.add_zero,show strE.size=1 from rfl,Nat.mul_one]at q
   have C:=wv (m:=32) (L:=L.map bL) j
   have g:=wv (m:=32) (L:=L.map bL) (j+1)
   have s:=y.out
   have l:=Eo (m:=32) (L:=L.map bL) (j:=j) (by rw[List.length_map];exact k)
   rw[List.getElem_map]at l
   have z:=cX (aS 32 ((L.map bL).take j))
   have D:(bL L[j]).length=L[j].size:=Array.length_toList
   by_cases A:j=0
   ·subst A
    rw[if_pos rfl]at l
    have n:=Lib.hid (show L[0]=ah (aS 32 ((L.map bL).take (0+1)))by rw[l];exact(zC _).symm)
    rw[l]at g
    have H:(9223372036854775807<L[0].size)=False:=eq_false (by omega)
    have r:(ah (aS 32 ((L.map bL).take 0)):ByteArray)=ByteArray.empty:=rfl
    rw[r]
    simp only[Nat.add_zero]at q
    generalize L[0]=X at*
    clear l u t z D C g s r
    go_wp2_with fail
    go_roundw
    case rel=>exact⟨1,by go_num,k,by first|exact congrArg Value.string n.out|(simp;exact n.out),by trivial⟩
    case measure=>simp[intOf];omega
   rw[if_neg A]at l
   have n:(ah (aS 32 ((L.map bL).take j))++⟨#[32]⟩)++L[j]=ah (aS 32 ((L.map bL).take (j+1))):=by
    rw[l]
    refine gQ ?_
    simp[ByteArray.data_append,ah,bL]
   rw[l,List.length_append,List.length_cons]at g
   obtain⟨B,p⟩:∃B,ah (aS 32 ((L.map bL).take j))=B:=⟨_,rfl⟩
   have G:(0<(j:Int))=True:=eq_true (by omega)
   rw[p]at n z
   rw[p]
   generalize L[j]=X at*
   have H:(9223372036854775807<B.size+1)=False:=eq_false (by omega)
   have K:(9223372036854775807<B.size+1+X.size)=False:=eq_false (by omega)
   have v:=Lib.hid n
   clear l u t z D C g s p n
   go_wp2_with fail
   go_roundw
   case rel=>exact⟨j+1,by go_num,k,congrArg Value.string v.out,by trivial⟩
   case measure=>simp[intOf];omega
  have x:j=L.length:=by omega
  subst x
  have n:=Lib.hid (show ah (aS 32 ((L.map bL).take L.length))=ah (aS 32 (L.map bL))by rw[←List.length_map (f:=bL),List.take_length])
  go_wp2_with fail
  go_ret
  exact⟨congrArg (fun b=>Ending.returned (.string b)) n.out,rfl⟩
theorem dN{W:World}{b:Nat}{u0 u1 u2 u3 u4:Value}(h:W.heap[b]?=some (.cells #[u0,u1,u2,u3,u4] 46 (0,0))):(W.cell? ⟨b,0,none⟩=some u0∧W.cell? ⟨b,1,none⟩=some u1∧W.cell? ⟨b,2,none⟩=some u2∧W.cell? ⟨b,3,none⟩=some u3∧W.cell? ⟨b,4,none⟩=some u4)∧
  (W.frozen? ⟨b,0,none⟩=false∧W.frozen? ⟨b,1,none⟩=false∧W.frozen? ⟨b,2,none⟩=false∧W.frozen? ⟨b,3,none⟩=false∧W.frozen? ⟨b,4,none⟩=false):=
 ⟨⟨by simp[World.cell?,h],by simp[World.cell?,h],by simp[World.cell?,h],by simp[World.cell?,h],by simp[World.cell?,h]⟩,Lib.frozen_of_heap h 0,Lib.frozen_of_heap h 1,Lib.frozen_of_heap h 2,Lib.frozen_of_heap h 3,Lib.frozen_of_heap h 4⟩
theorem d9{B b:Nat}{w wr:World}(h:Below B w wr)(hb:B≤b)(v0 v1 v2 v3 v4:Value):Below B w (((((wr.setCell ⟨b,0,none⟩ v0).setCell ⟨b,1,none⟩ v1).setCell ⟨b,2,none⟩ v2).setCell ⟨b,3,none⟩ v3).setCell ⟨b,4,none⟩ v4):=
 ((((h.setCell (p:=⟨b,0,none⟩) hb _).setCell (p:=⟨b,1,none⟩) hb _).setCell (p:=⟨b,2,none⟩) hb _).setCell (p:=⟨b,3,none⟩) hb _).setCell (p:=⟨b,4,none⟩) hb _
theorem oz{S:Nat→Prop}{b:Nat}{wr:World}(hb:¬S b)(v0 v1 v2 v3 v4:Value):Agree S wr (((((wr.setCell ⟨b,0,none⟩ v0).setCell ⟨b,1,none⟩ v1).setCell ⟨b,2,none⟩ v2).setCell ⟨b,3,none⟩ v3).setCell ⟨b,4,none⟩ v4):=fun k c _=>by
 have a:k≠b:=fun e=>hb (e▸c)
 rw[Below.heap_setCell _ _ _ _ a,Below.heap_setCell _ _ _ _ a,Below.heap_setCell _ _ _ _ a,Below.heap_setCell _ _ _ _ a,Below.heap_setCell _ _ _ _ a]
def jT(s:Sg)(t:ByteArray)(w:World)(e:Ending)(w':World):Prop:=
 (match bX s (bL t)with
  |some x=>∃a1 c1 a2 c2,e= .returned (.tuple #[entV (af x) (aC x) (az x).length (ae x).length 0 a1 a2 none c1 c2 0, .bool true])∧Ints (fun b=>w.heap.size≤b) w' a1 c1 (az x)∧Sl strE (fun b=>w.heap.size≤b) w' a2 c2 (ae x)
  |none=>∃nm bn n1 n2 a1 a2 c1 c2,e= .returned (.tuple #[entV nm bn n1 n2 0 a1 a2 none c1 c2 0, .bool false]))∧Below w.heap.size w w'
theorem yo{s:Sg}{t:ByteArray}{w w':World}{nm bn:ByteArray}{n1 n2:Nat}{a1 a2:Option Addr}{c1 c2:Nat}(h:bX s (bL t)=none)(hb:Below w.heap.size w w'):jT s t w (.returned (.tuple #[entV nm bn n1 n2 0 a1 a2 none c1 c2 0, .bool false])) w':=by
 unfold jT;rw[h];exact⟨⟨_,_,_,_,_,_,_,_,rfl⟩,hb⟩
theorem fp{s:Sg}{t:ByteArray}{w w':World}(h:bX s (bL t)=none)(hb:Below w.heap.size w w'):jT s t w (.returned (.tuple #[.agg #[.string ⟨#[]⟩, .string ⟨#[]⟩, .slice none 0 0, .slice none 0 0, .slice none 0 0], .bool false])) w':=
 yo (nm:=⟨#[]⟩) (bn:=⟨#[]⟩) (n1:=0) (n2:=0) (a1:=none) (a2:=none) (c1:=0) (c2:=0) h hb
theorem ly{x:ByteArray}{l:List UInt8}(h:bL x=l):(x.toList==l)=true:=by
 have:x.toList=l:=by rw[←h,ByteArray.toList_eq];rfl
 rw[this];exact beq_self_eq_true l
theorem lD{x:ByteArray}{l:List UInt8}(h:¬bL x=l):(x.toList==l)=false:=by
 rw[beq_eq_false_iff_ne];intro e
 exact h (by rw[←e,ByteArray.toList_eq];rfl)
theorem iC{w:World}{base g cap:Nat}{L:List ByteArray}(h:OwnS w base (.slice (some ⟨g,0,none⟩) L.length cap) L)(i:Nat)(hi:i<L.length):w.cell? ⟨g,i,none⟩=some (.string L[i])∧L[i].size≤aB:=by
 obtain⟨a,c,e,hs⟩:=OwnS.strs h
 injection e with f l m
 subst f
 obtain⟨b,o,e,-,-,vs,n,j,k⟩:=hs.at1 i hi
 cases e
 obtain⟨rfl,z⟩:=k
 have:=j 0 (by simp)
 simp only[strE,List.getElem_cons_zero,Nat.add_zero,Nat.zero_add,Nat.mul_one]at this
 exact⟨this,z⟩
theorem Sl.rsuf{α:Type}{E:Enc α}{S:Nat→Prop}{w:World}{b off c:Nat}{l:List α}(h:Sl E S w (some ⟨b,off,none⟩) c l)(k:Nat)(hk:k≤l.length):
  Sl E S w (if c=k then some ⟨b,off,none⟩else some ⟨b,off+k*E.size,none⟩) (c-k) (l.drop k):=by
 have o:=h.cap
 have p:=h.max
 refine⟨by rw[List.length_drop];omega,by omega,(fun e=>by split at e<;>cases e),(fun m=> ?_)⟩
 have f:k<l.length:=by
  rcases Nat.lt_or_ge k l.length with e|e
  ·exact e
  exact(m (List.drop_eq_nil_of_le e)).elim
 obtain⟨n,a,ha,t,y,u⟩:=h.dat (fun e=>by rw[e]at f;simp at f)
 have g:n=b∧a=off:=by simpa using ha.symm
 obtain⟨rfl,rfl⟩:=g
 refine⟨n,a+k*E.size,if_neg (by omega),t,y,fun i v=> ?_⟩
 rw[List.length_drop]at v
 obtain⟨vs,q,r,s⟩:=u (k+i) (by omega)
 refine⟨vs,q,fun j x=> ?_,by rw[List.getElem_drop];exact s⟩
 rw[←r j x,Nat.add_mul,←Nat.add_assoc]
theorem zc{T:Nat→Prop}{w:World}{a:Option Addr}{c n:Nat}{R:List ByteArray}(h:Sl strE T w a c R){k:Nat}(hk:(Value.slice a n c).ownBlock≠some k):Sl strE (fun b=>T b∧b≠k) w a c R:=by
 refine⟨h.cap,h.max,h.nil,fun f=> ?_⟩
 obtain⟨b,g,ha,i,l,j⟩:=h.dat f
 subst ha
 exact⟨b,g,rfl,⟨i,fun e=>hk (by rw[←e];rfl)⟩,l,j⟩
theorem Gi{T:Nat→Prop}{W:World}{a:Option Addr}{c:Nat}{R:List ByteArray}(h:Sl strE T W a c R)(hl:R.length≤100000)(vs:Array Value)(ty:TypeId):
  (∃a' c' w',(Builtin.append_ #[37,37] 37 #[.slice (some ⟨W.heap.size,0,none⟩) 0 0, .slice a R.length c]).run Tryz.prog (W.alloc (.cells #[] 9))= .ok (.slice a' R.length c') w'∧Sl strE (fun b=>W.heap.size≤b) w' a' c' R∧Below W.heap.size W w')∧
  (∃a' c' w',(Builtin.append_ #[37,37] 37 #[.slice (some ⟨W.heap.size,0,none⟩) 0 0, .slice a R.length c]).run Tryz.prog ((W.alloc (.cells #[] 9)).alloc (.cells vs ty))= .ok (.slice a' R.length c') w'∧Sl strE (fun b=>W.heap.size≤b∧b≠W.heap.size+1) w' a' c' R∧Below W.heap.size W w'∧w'.heap[W.heap.size+1]?=some (.cells vs ty (0,0)))∧
  (∃a' c' w',(Builtin.append_ #[37,37] 37 #[.slice (some ⟨W.heap.size+1,0,none⟩) 0 0, .slice a R.length c]).run Tryz.prog ((W.alloc (.cells vs ty)).alloc (.cells #[] 9))= .ok (.slice a' R.length c') w'∧Sl strE (fun b=>W.heap.size≤b∧b≠W.heap.size) w' a' c' R∧Below W.heap.size W w'∧w'.heap[W.heap.size]?=some (.cells vs ty (0,0))):=by
 have key:∀(q l:World) (g:Nat),OwnS l g (.slice (some ⟨q.heap.size,0,none⟩) 0 0) []→Below W.heap.size W l→g≤l.heap.size→
   ∃a' c' w',(Builtin.append_ #[37,37] 37 #[.slice (some ⟨q.heap.size,0,none⟩) 0 0, .slice a R.length c]).run Tryz.prog l= .ok (.slice a' R.length c') w'∧Sl strE (fun b=>g≤b) w' a' c' R∧l.grownBy w' (some q.heap.size)∧((Value.slice a' R.length c').ownBlock=some q.heap.size∨(Value.slice a' R.length c').ownBlock=some l.heap.size):=by
  intro q l g r u p
  obtain⟨v,w',m,o,j,i,-⟩:=OwnL.append_run (P:=Tryz.prog) (t:=37) (ty:=37) r Tryz.underlying37 jI rfl (h.below u) (fun _ _ _ h=>h) (by simp;omega) (by simp;unfold aB;omega) p
  obtain⟨a',c',rfl,hs⟩:=OwnS.strs (show OwnS w' g v R from o)
  exact⟨a',c',w',m,hs,j,i⟩
 refine⟨?_,?_,?_⟩
 ·have f:=an W (.cells #[] 9)
  obtain⟨a',c',w',m,o,j,-⟩:=key W _ W.heap.size (OwnL.made _ _ W _ _ (Nat.le_refl _)) f f.size
  exact⟨a',c',w',m,o,f.grown j f.size (fun k e=>by injection e with e;omega)⟩
 ·have f:=dT W (.cells #[] 9) (.cells vs ty)
  obtain⟨a',c',w',m,o,j,i⟩:=key W _ W.heap.size ((OwnL.made _ _ W _ _ (Nat.le_refl _)).call (an _ (.cells vs ty))) f f.size
  refine⟨a',c',w',m,zc o (n:=R.length) (fun e=> ?_),f.grown j f.size (fun k e=>by injection e with e;omega),(j.block _ (by simp only[World.size_alloc];omega) (fun e=>by injection e with e;omega)).trans ?_⟩
  ·rcases i with i|i<;>rw[i]at e<;>injection e with e<;>((try simp only[World.size_alloc]at e);omega)
  have:=heap_alloc_new (W.alloc (.cells #[] 9)) (.cells vs ty)
  rwa[World.size_alloc]at this
 have f:=dT W (.cells vs ty) (.cells #[] 9)
 have r:=OwnL.made strE (fun _=>False) (W.alloc (.cells vs ty)) W.heap.size 9 (by simp)
 have s:=key (W.alloc (.cells vs ty)) _ W.heap.size r f f.size
 rw[World.size_alloc]at s
 obtain⟨a',c',w',m,o,j,i⟩:=s
 refine⟨a',c',w',m,zc o (n:=R.length) (fun e=> ?_),f.grown j f.size (fun k e=>by injection e with e;omega),(j.block _ (by simp only[World.size_alloc];omega) (fun e=>by injection e with e;omega)).trans ?_⟩
 ·rcases i with i|i<;>rw[i]at e<;>injection e with e<;>((try simp only[World.size_alloc]at e);omega)
 rw[Below.heap_alloc _ _ _ (by simp)];exact heap_alloc_new W _
theorem mf{W:World}{b:Nat}{vs:Array Value}{T:TypeId}(i:Nat)(v:Value)(h:W.heap[b]?=some (.cells vs T (0,0))):(W.setCell ⟨b,i,none⟩ v).heap[b]?=some (.cells (vs.setIfInBounds i v) T (0,0)):=by
 unfold World.setCell
 simp only[Array.getElem?_modify,if_true,h,Option.map_some]
 rfl
theorem ya{W:World}{b x:Nat}{o:Option Obj}{v0 v1 v2 v3 v4:Value}(hx:¬x=b)(h:W.heap[x]?=o):
  (((((W.setCell ⟨b,0,none⟩ v0).setCell ⟨b,1,none⟩ v1).setCell ⟨b,2,none⟩ v2).setCell ⟨b,3,none⟩ v3).setCell ⟨b,4,none⟩ v4).heap[x]?=o:=by
 rw[Below.heap_setCell _ _ _ _ hx,Below.heap_setCell _ _ _ _ hx,Below.heap_setCell _ _ _ _ hx,Below.heap_setCell _ _ _ _ hx,Below.heap_setCell _ _ _ _ hx];exact h
theorem oC{W:World}{b:Nat}{u0 u1 u2 u3 u4 v0 v1 v2 v3 v4:Value}{T:TypeId}(h:W.heap[b]?=some (.cells #[u0,u1,u2,u3,u4] T (0,0))):
  (((((W.setCell ⟨b,0,none⟩ v0).setCell ⟨b,1,none⟩ v1).setCell ⟨b,2,none⟩ v2).setCell ⟨b,3,none⟩ v3).setCell ⟨b,4,none⟩ v4).heap[b]?=some (.cells #[v0,v1,v2,v3,v4] T (0,0)):=
 mf 4 v4 (mf 3 v3 (mf 2 v2 (mf 1 v1 (mf 0 v0 h))))
def kN(o:Option Nat):Int:=match o with|some k=>(k:Int)|none=>-1
def yx(L:List ByteArray)(w1:World)(uV iV:Value)(wr:World):Prop:=
 ∃i:Nat,iV= .int .i64 i∧5≤i∧i≤L.length∧uV= .int .i64 (kN (gM (aI L) i))∧Drew w1 wr
theorem rS{L:List ByteArray}{w1 wr:World}{i:Nat}{o o':Option Nat}{b:Bool}(h5:5≤i)(hi:i<L.length)(ho:gM (aI L) i=o)(hp:fv (aI L) i=b)(hn:o.or (if b=true then some i else none)=o')(hd:Drew w1 wr):yx L w1 (.int .i64 (kN o')) (.int .i64 ((i:Int)+1)) wr:=
 ⟨i+1,by simp,by omega,hi,by rw[IF,ho,hp,hn],hd⟩
theorem g9(l:List ByteArray):(aI l).length=l.length:=by unfold aI;rw[List.length_map]
theorem Gk{l:List ByteArray}{k:Nat}(h:k<l.length):(aI l)[k]'(by rw[g9];exact h)=l[k].data.toList:=by simp[aI]
theorem iS{L:List ByteArray}{k:Nat}(h:k<L.length):(aI L).getD k []=bL L[k]:=by
 rw[List.getD_eq_getElem?_getD,List.getElem?_eq_getElem (by rw[g9];exact h),Option.getD_some,Gk h];rfl
theorem GY{S1:Nat→Prop}(sa:Option Addr)(sc:Nat)(s:Sg)(t:ByteArray)(ht:t.size≤65536)(w:World)(h1:Sign S1 w sa sc s):
  Calls Tryz.prog 27 #[.slice sa s.length sc, .string t] w (jT s t w):=by
 have m1:=h1.le
 obtain⟨W,hW⟩:∃W,w.alloc (.cells #[.string ⟨#[]⟩, .string ⟨#[]⟩, .slice none 0 0, .slice none 0 0, .slice none 0 0] 46)=W:=⟨_,rfl⟩
 have hB:Below w.heap.size w W:=by rw[←hW];exact an w _
 have iv:w.heap.size<W.heap.size:=by rw[←hW];simp
 have g0:W.heap[w.heap.size]?=some (.cells #[.string ⟨#[]⟩, .string ⟨#[]⟩, .slice none 0 0, .slice none 0 0, .slice none 0 0] 46 (0,0)):=by rw[←hW];exact heap_alloc_new w _
 have gu:=Lib.hid (show(bL t).length=t.size from Array.length_toList)
 have vC:=Lib.hid (xW t 32 ht W)
 have hr:=Lib.hid (h1.below hB)
 have lR:=Lib.hid hB
 have lo:=Lib.hid g0
 clear hB g0 h1
 go_enter Tryz.func27,Tryz.ntmps27
 go_wp2_with fail
 try rw[hW]
 go_wp2_with fail
 refine vC.out.mono ?_
 rintro e w1 ⟨v,L,rfl,hO,hL,aj⟩
 have ej:L≠ []:=fun e=>eV 32 (bL t) (by show aA 32 t.data.toList=[];rw[←hL,e];rfl)
 obtain⟨g,bf,rfl,pP,pQ⟩:=OwnL.form hO ej
 have px:L.length≤bf∧bf≤aB:=by
  obtain⟨a,c,e,hs⟩:=OwnS.strs hO
  injection e with e1 e2 e3
  rw[e3]
  exact⟨hs.cap,hs.max⟩
 have pt:L.length≤65537:=by
  have h1:=ii 32 t.data.toList
  rw[←hL,g9]at h1
  have h2:=gu.out
  have h3:(bL t).length=t.data.toList.length:=rfl
  omega
 have g1:=(aj.block _ iv).trans lo.out
 obtain⟨⟨o,p,z,A,B⟩,aW,a0,a1,a2,a3⟩:=dN g1
 have b5:=Lib.hid (aa lR.out aj)
 have T:=Lib.hid (show aA 32 (bL t)=aI L from hL.symm)
 have bl:=Lib.hid hO
 have b8:=Lib.hid (show∀y∈L,y.size≤65536 from fun y hy=>by
  have h1:=jz hy
  rw[hL]at h1
  have h2:=ik h1
  have h3:y.data.toList.length=y.size:=Array.length_toList
  have h4:=gu.out
  have h5:(bL t).length=t.data.toList.length:=rfl
  omega)
 have ce:=Lib.hid aj
 have lq:=Lib.hid g1
 have ob:¬w.heap.size=g:=by omega
 clear hO hL ej aj g1
 by_cases h7:L.length<7
 ·have g7:((L.length:Int)<7)=True:=eq_true (by omega)
  have l:=Lib.hid (jE (nJ (s:=s) (b:=bL t) (fun e=>by have:=e.1;rw[T.out,g9]at this;omega)))
  clear h7
  go_wp2_with fail
  all_goals(try simp only[Exit.inBlock,Exit.then])
  all_goals refine bodyPost_ret (by go_simp;simp[results,Tryz.results27,go_sem,o,p,z,A,B];try rfl) rfl ?_
  all_goals exact fp l.out (d9 b5.out (Nat.le_refl _) _ _ _ _ _)
 have g7:((L.length:Int)<7)=False:=eq_false (by omega)
 obtain⟨l0,bu⟩:∃x,L[0]=x:=⟨_,rfl⟩
 obtain⟨l2,bv⟩:∃x,L[2]=x:=⟨_,rfl⟩
 obtain⟨l4,bw⟩:∃x,L[4]=x:=⟨_,rfl⟩
 have q0:=(iC bl.out 0 (by omega)).1
 have q2:=(iC bl.out 2 (by omega)).1
 have q4:=(iC bl.out 4 (by omega)).1
 rw[bu]at q0
 rw[bv]at q2
 rw[bw]at q4
 have d0:=iS (L:=L) (k:=0) (by omega)
 have d2:=iS (L:=L) (k:=2) (by omega)
 have d4:=iS (L:=L) (k:=4) (by omega)
 rw[bu]at d0
 rw[bv]at d2
 rw[bw]at d4
 have f8:(0:Int)<(L.length:Int):=by omega
 have gb:(2:Int)<(L.length:Int):=by omega
 have gf:(4:Int)<(L.length:Int):=by omega
 by_cases e0:bL l0=d7
 case neg=>
  have b0:(l0.toList==([101,110,116,114,121]:List UInt8))=false:=lD e0
  have l:=Lib.hid (jE (nJ (s:=s) (b:=bL t) (fun e=>e0 (by have:=e.2.1;rw[T.out,d0]at this;exact this))))
  clear h7 e0 bu bv bw d0 d2 d4
  go_wp2_with fail
  all_goals(try simp only[Exit.inBlock,Exit.then])
  all_goals refine bodyPost_ret (by go_simp;simp[results,Tryz.results27,go_sem,o,p,z,A,B];try rfl) rfl ?_
  all_goals exact fp l.out (d9 b5.out (Nat.le_refl _) _ _ _ _ _)
 have b0:(l0.toList==([101,110,116,114,121]:List UInt8))=true:=ly e0
 by_cases e2:bL l2=dZ
 case neg=>
  have b2:(l2.toList==([98,121]:List UInt8))=false:=lD e2
  have l:=Lib.hid (jE (nJ (s:=s) (b:=bL t) (fun e=>e2 (by have:=e.2.2.1;rw[T.out,d2]at this;exact this))))
  clear h7 e0 e2 bu bv bw d0 d2 d4
  go_wp2_with fail
  all_goals(try simp only[Exit.inBlock,Exit.then])
  all_goals refine bodyPost_ret (by go_simp;simp[results,Tryz.results27,go_sem,o,p,z,A,B];try rfl) rfl ?_
  all_goals exact fp l.out (d9 b5.out (Nat.le_refl _) _ _ _ _ _)
 have b2:(l2.toList==([98,121]:List UInt8))=true:=ly e2
 by_cases e4:bL l4=eT
 case neg=>
  have b4:(l4.toList==([115,97,121,115]:List UInt8))=false:=lD e4
  have l:=Lib.hid (jE (nJ (s:=s) (b:=bL t) (fun e=>e4 (by have:=e.2.2.2;rw[T.out,d4]at this;exact this))))
  clear h7 e0 e2 e4 bu bv bw d0 d2 d4
  go_wp2_with fail
  all_goals(try simp only[Exit.inBlock,Exit.then])
  all_goals refine bodyPost_ret (by go_simp;simp[results,Tryz.results27,go_sem,o,p,z,A,B];try rfl) rfl ?_
  all_goals exact fp l.out (d9 b5.out (Nat.le_refl _) _ _ _ _ _)
 have b4:(l4.toList==([115,97,121,115]:List UInt8))=true:=ly e4
 have lB:=Lib.hid (show rF (aA 32 (bL t))by
  rw[T.out]
  exact⟨by rw[g9];omega,d0.trans e0,d2.trans e2,d4.trans e4⟩)
 have lP:=Lib.hid (show 7≤L.length by omega)
 clear h7 e0 e2 e4 bu bv bw d0 d2 d4 o p z A B aW a0 a1 a2 a3
 go_wp2_with fail
 go_loopw [7,8] (fun uV iV wr=>yx L w1 uV iV wr) (fun _ iV _=>L.length-(intOf iV).toNat)
 case atStart=>exact⟨5,rfl,Nat.le_refl _,by have:=lP.out;omega,by rw[ID _ 5 (Nat.le_refl _)];rfl, .refl _⟩
 case round=>
  obtain⟨i,rfl,h5,hi,rfl,hD⟩:=hrel
  have I:=Lib.hid hD
  clear hD b0 b2 b4 q0 q2 q4 g7 f8 gb gf
  by_cases bA:i<L.length
  ·have mm:(i:Int)<(L.length:Int):=by omega
   cases ho:gM (aI L) i with
   |some k=>
    have qt:decide ((k:Int)<0)=false:=by simp
    have X:=Lib.hid (fun(Q:World) (hd:Drew w1 Q)=>rS (o':=some k) h5 bA ho (rfl:fv (aI L) i=_) (by simp) hd)
    rw[show kN (some k)=(k:Int)from rfl]at X⊢
    clear ho
    go_wp2_with fail
    go_quiet (fail)
    all_goals go_wp2_with fail
    all_goals go_roundw
    case rel=>exact X.out _ (fY I.out _)
    case measure=>simp[intOf];omega
   |none=>
    rw[show kN none=(-1:Int)from rfl]
    obtain⟨m,rfl⟩:∃m,i=m+1:=⟨i-1,by omega⟩
    have aN:=bl.out.call (I.out.below _)
    have qx:=(iC aN (m+1) bA).1
    have qy:=(iC aN m (by omega)).1
    have i2:=(iC aN m (by omega)).2
    obtain⟨x,hx⟩:∃x,L[m+1]=x:=⟨_,rfl⟩
    obtain⟨y,hy⟩:∃y,L[m]=y:=⟨_,rfl⟩
    have dx:=iS (L:=L) bA
    have dy:=iS (L:=L) (k:=m) (by omega)
    rw[hx]at qx dx
    rw[hy]at qy dy i2
    have V:=Lib.hid (fun(Q:World) (h:fv (aI L) (m+1)=false) (hd:Drew w1 Q)=>rS (o':=none) h5 bA ho h (by simp) hd)
    have ao:=Lib.hid (fun(Q:World) (h:fv (aI L) (m+1)=true) (hd:Drew w1 Q)=>rS (o':=some (m+1)) h5 bA ho h (by simp) hd)
    have lL:=Lib.hid h5
    have rf:IntKind.i64.wrap (m:Int)=(m:Int):=IntWalk.i64_in _ (by omega)
    have q5:(m:Int)<(L.length:Int):=by omega
    have oa:(m:Int)+1<(L.length:Int):=by omega
    have qv:(0:Int)≤(m:Int):=by omega
    have qw:(0:Int)≤(m:Int)+1:=by omega
    clear ho hx hy aN
    by_cases av:bL x=eh
    ·have bx:(x.toList==([117,115,101,115]:List UInt8))=true:=ly av
     have e7:=lL.out
     by_cases eb:y.size=0
     ·have gI:bL y=[]:=List.length_eq_zero_iff.1 (by rw[show(bL y).length=y.size from Array.length_toList];exact eb)
      have i3:y=⟨#[]⟩:=mY gI
      subst i3
      have X:=Lib.hid (fun Q hd=>V.out Q (zU (by rw[Nat.add_sub_cancel,dy,gI];simp)) hd)
      clear av dx dy h5 V ao eb e7 gI
      go_wp2_with fail
      go_quiet (fail)
      all_goals go_wp2_with fail
      all_goals go_roundw
      case rel=>exact X.out _ (fY I.out _)
      case measure=>simp[intOf];omega
     have pb:((0:Int)<(y.size:Int))=True:=eq_true (by omega)
     have pe:decide (0<y.size)=true:=decide_eq_true (by omega)
     have oj:(0:Int)≤((y.size-1:Nat):Int):=by omega
     have ol:((y.size-1:Nat):Int)<(y.size:Int):=by omega
     have pd:decide ((0:Int)<(y.size:Int))=true:=by rw[decide_eq_true_iff];omega
     have i0:IntKind.i64.wrap ((y.size:Int)-1)=((y.size-1:Nat):Int):=by rw[show((y.size:Int)-1)=((y.size-1:Nat):Int)by omega];exact IntWalk.i64_in _ (by have:=i2;unfold aB at this;omega)
     have ax:y.size-1<y.size:=by omega
     have dn:(bL y).getLast?=some (y[y.size-1]'ax):=by
      have hl:(bL y).length=y.size:=Array.length_toList
      rw[List.getLast?_eq_getElem?,hl,List.getElem?_eq_getElem (by omega)];rfl
     by_cases bP:y[y.size-1]'ax=62
     ·have lA:(((y[y.size-1]'ax).toNat:Int)==62)=true:=by rw[bP];rfl
      have X:=Lib.hid (fun Q hd=>ao.out Q (II (by omega) (by rw[dx];exact av) (by rw[Nat.add_sub_cancel,dy,dn,bP])) hd)
      clear av dx dy h5 V ao eb dn bP e7
      go_wp2_with fail
      go_quiet (fail)
      all_goals go_wp2_with fail
      all_goals go_roundw
      case rel=>exact X.out _ (fY I.out _)
      case measure=>simp[intOf];omega
     have lA:(((y[y.size-1]'ax).toNat:Int)==62)=false:=by
      rw[beq_eq_false_iff_ne];intro e;exact bP (UInt8.toNat_inj.1 (by show(y[y.size-1]'ax).toNat=62;omega))
     have X:=Lib.hid (fun Q hd=>V.out Q (zU (by rw[Nat.add_sub_cancel,dy,dn];intro e;injection e with e;exact bP e)) hd)
     clear av dx dy h5 V ao eb dn bP e7
     go_wp2_with fail
     go_quiet (fail)
     all_goals go_wp2_with fail
     all_goals go_roundw
     case rel=>exact X.out _ (fY I.out _)
     case measure=>simp[intOf];omega
    have bx:(x.toList==([117,115,101,115]:List UInt8))=false:=lD av
    have X:=Lib.hid (fun Q hd=>V.out Q (IG (by rw[dx];exact av)) hd)
    clear av dx dy h5 V ao
    go_wp2_with fail
    go_quiet (fail)
    all_goals go_wp2_with fail
    all_goals go_roundw
    case rel=>exact X.out _ (fY I.out _)
    case measure=>simp[intOf];omega
  obtain rfl:i=L.length:=by omega
  have mm:((L.length:Int)<(L.length:Int))=False:=eq_false (by omega)
  have cv:=Lib.hid (b5.out.trans (I.out.below w.heap.size))
  have eA:w.heap.size<w1.heap.size:=Nat.lt_of_lt_of_le iv ce.out.size
  have gr:=((I.out.below w1.heap.size).block _ eA).trans lq.out
  obtain⟨⟨o,p,z,A,B⟩,aW,a0,a1,a2,a3⟩:=dN gr
  have hm:=Lib.hid gr
  clear gr h5 hi bA
  cases ho:gM (aI L) L.length with
  |none=>
   have l:=Lib.hid (jE (DA (s:=s) (b:=bL t) (by rw[zS,T.out,g9];exact ho)))
   rw[show kN none=(-1:Int)from rfl]
   clear ho
   go_wp2_with fail
   all_goals(try simp only[Exit.inBlock,Exit.then])
   all_goals refine bodyPost_ret (by go_simp;simp[results,Tryz.results27,go_sem,o,p,z,A,B];try rfl) rfl ?_
   all_goals exact fp l.out (d9 cv.out (Nat.le_refl _) _ _ _ _ _)
  |some k=>
   obtain⟨qq,qs⟩:=IE ho
   obtain⟨d,rfl⟩:∃d,k=d+5:=⟨k-5,by omega⟩
   rw[show kN (some (d+5))=((d+5:Nat):Int)from rfl]
   have aN:=bl.out.call (I.out.below _)
   have fV:Sl strE (fun b=>W.heap.size≤b) wr (some ⟨g,0,none⟩) bf L:=by
    obtain⟨a,c,e,hs⟩:=OwnS.strs aN
    injection e with e1 e2 e3
    subst e1 e3
    exact hs
   have h8:((L.take (d+5)).drop 5).length=d:=by rw[List.length_drop,List.length_take];omega
   have ez:Sl strE (fun b=>W.heap.size≤b) wr (some ⟨g,5,none⟩) (bf-5) ((L.take (d+5)).drop 5):=by
    have h:=(fV.pre (d+5)).rsuf 5 (by rw[List.length_take];omega)
    rw[if_neg (by omega)]at h
    exact h
   have gs:aS 32 (((L.take (d+5)).drop 5).map bL)=gK (aA 32 (bL t)) (d+5):=by
    rw[List.map_drop,List.map_take,T.out];rfl
   have ih:=G3 (bL t) (d+5)
   have ix:=gu.out
   have vJ:=F9 (some ⟨g,5,none⟩) (bf-5) _ wr ez (by rw[gs];omega)
   rw[h8,gs]at vJ
   have dO:iM (aA 32 (bL t))=some (d+5):=by rw[zS,T.out,g9];exact ho
   have cn:=Lib.hid (fun h=>jE (Dy (s:=s) dO h))
   have ev:=Lib.hid (fun h=>jE (Dz (s:=s) dO h))
   have cy:=Lib.hid (fun h1 h2=>DC (s:=s) dO lB.out h1 h2)
   obtain⟨Y,hY⟩:∃Y,gK (aA 32 (bL t)) (d+5)=Y:=⟨_,rfl⟩
   rw[hY]at vJ ih cn ev cy
   obtain⟨D,cP⟩:∃D,ah Y=D:=⟨_,rfl⟩
   rw[cP]at vJ
   have lT:bL D=Y:=by rw[←cP];rfl
   have hE:D.size=Y.length:=by rw[←cP];exact cX Y
   have n0:D.size≤65536:=by omega
   have nb:=Lib.hid vJ
   have hN:=Lib.hid fV
   have b7:=Lib.hid lT
   have eg:=Lib.hid hE
   clear vJ fV ez gs h8 dO hY cP ho aN ih ix hE
   have py:(5:Int)≤((d+5:Nat):Int):=by omega
   go_wp2_with fail
   refine nb.out.mono ?_
   rintro e w5 ⟨rfl,rfl⟩
   by_cases cB:D.size<2
   ·have gz:((D.size:Int)<2)=True:=eq_true (by omega)
    have hn:decide (D.size<2)=true:=decide_eq_true cB
    have l:=Lib.hid (cn.out (fun e=>by have:=e.1;rw[←eg.out]at this;omega))
    clear cB
    go_wp2_with fail
    all_goals(try simp only[Exit.inBlock,Exit.then])
    all_goals refine bodyPost_ret (by go_simp;simp[results,Tryz.results27,go_sem,o,p,z,A,B];try rfl) rfl ?_
    all_goals exact fp l.out (d9 cv.out (Nat.le_refl _) _ _ _ _ _)
   have gz:((D.size:Int)<2)=False:=eq_false (by omega)
   have hn:decide (D.size<2)=false:=decide_eq_false cB
   have ag:0<D.size:=by omega
   have pf:(0:Int)<(D.size:Int):=by omega
   have c6:(bL D).head?=some (D[0]'ag):=by
    have hl:(bL D).length=D.size:=Array.length_toList
    rw[List.head?_eq_getElem?,List.getElem?_eq_getElem (by omega)];rfl
   by_cases hc:D[0]'ag=60
   case neg=>
    have gc:(((D[0]'ag).toNat:Int)==60)=false:=by
     rw[beq_eq_false_iff_ne];intro e;exact hc (UInt8.toNat_inj.1 (by show(D[0]'ag).toNat=60;omega))
    have l:=Lib.hid (cn.out (fun e=>by have:=e.2;rw[←b7.out,c6]at this;injection this with this;exact hc this))
    clear hc c6 cB
    go_wp2_with fail
    all_goals(try simp only[Exit.inBlock,Exit.then])
    all_goals refine bodyPost_ret (by go_simp;simp[results,Tryz.results27,go_sem,o,p,z,A,B];try rfl) rfl ?_
    all_goals exact fp l.out (d9 cv.out (Nat.le_refl _) _ _ _ _ _)
   case pos=>
    have gc:(((D[0]'ag).toNat:Int)==60)=true:=by rw[hc];rfl
    have mc:=Lib.hid (show 2≤Y.length∧Y.head?=some 60 from⟨by rw[←eg.out];omega,by rw[←b7.out,c6,hc]⟩)
    have i0:IntKind.i64.wrap ((D.size:Int)-1)=((D.size-1:Nat):Int):=by rw[show((D.size:Int)-1)=((D.size-1:Nat):Int)by omega];exact IntWalk.i64_in _ (by omega)
    have mu:(1:Int)≤((D.size-1:Nat):Int):=by omega
    have mz:((D.size-1:Nat):Int)≤(D.size:Int):=by omega
    have vT:=Gb sa sc s 1 (D.extract 1 (D.size-1)) wr ((hr.out.below ce.out).below (I.out.below _))
    rw[show(D.extract 1 (D.size-1)).data.toList=gh Y by rw[←b7.out];exact E5]at vT
    obtain⟨H,gl⟩:∃r,(cC s 1 (gh Y)).1=r:=⟨_,rfl⟩
    obtain⟨re,dB⟩:∃r,(cC s 1 (gh Y)).2=r:=⟨_,rfl⟩
    rw[gl,dB]at vT
    have ib:=Lib.hid (fun h=>ev.out (by rw[dB];exact h))
    have cx:=Lib.hid (fun h=>cy.out mc.out (by rw[dB];exact h))
    rw[gl]at cx
    have nc:=Lib.hid vT
    obtain⟨E,c7⟩:∃x,L[1]=x:=⟨_,rfl⟩
    obtain⟨F,db⟩:∃x,L[3]=x:=⟨_,rfl⟩
    have d1:=iS (L:=L) (k:=1) (by omega)
    have d3:=iS (L:=L) (k:=3) (by omega)
    rw[c7,←T.out]at d1
    rw[db,←T.out]at d3
    have kL:E.size≤65536:=by rw[←c7];exact b8.out _ (List.getElem_mem _)
    have kP:F.size≤65536:=by rw[←db];exact b8.out _ (List.getElem_mem _)
    have fz:=bl.out.call (I.out.below _)
    have q1:=iC fz 1 (by omega)
    have q3:=iC fz 3 (by omega)
    rw[c7]at q1
    rw[db]at q3
    obtain⟨q1,z1⟩:=q1
    obtain⟨q3,z3⟩:=q3
    obtain⟨k6,hX⟩:∃k,k=d+6:=⟨_,rfl⟩
    have er:k6≤L.length:=by omega
    have au:=hN.out.rsuf k6 er
    simp only[strE,Nat.mul_one,Nat.zero_add]at au
    obtain⟨aR,f2⟩:∃a,(if bf=k6 then some (⟨g,0,none⟩:Addr)else some ⟨g,k6,none⟩)=a:=⟨_,rfl⟩
    rw[f2]at au
    have hT:=Lib.hid f2
    have hV:(aA 32 (bL t)).drop (d+5+1)=(L.drop k6).map bL:=by rw[T.out,hX,List.map_drop];rfl
    have i1:=Lib.hid (fun h=>(cx.out h).trans (show some (gH _ _ H _)=some (E,F,H,L.drop k6,[])by
     unfold gH
     rw[d1,d3,hV,fK,fK,oe]))
    have ca:(L.drop k6).length=L.length-k6:=List.length_drop
    obtain⟨R,hR⟩:∃R,L.drop k6=R:=⟨_,rfl⟩
    rw[hR]at au i1 ca
    have n2:R.length≤65537:=by omega
    have hJ:=Lib.hid (show∀u∈R,u.size≤65536 from fun u hu=>b8.out u (List.mem_of_mem_drop (by rw[hR];exact hu)))
    have i5:=Lib.hid (And.intro kL kP)
    have f6:IntKind.i64.wrap ((d:Int)+5+1)=(k6:Int):=by rw[show(d:Int)+5+1=(k6:Int)by omega];exact IntWalk.i64_in _ (by omega)
    have f7:(k6:Int)≤(L.length:Int):=by omega
    have gp:=Lib.hid au
    clear hc c6 cB vT gl dB c7 db d1 d3 fz hV hR au hX er f2 kL kP
    go_wp2_with fail
    refine nc.out.mono ?_
    rintro e P ⟨vT,rfl,hH,bn⟩
    clear o p z A B aW a0 a1 a2 a3 gz hn gc mu mz i0
    obtain⟨aT,cT,rfl,hI⟩:=OwnI.ints hH
    have j7:=cell_later bn q1
    have kd:=cell_later bn q3
    have ab:=Lib.hid bn
    have l5:=Lib.hid hI
    have qA:=hI.le
    have bq:Below P.heap.size P P.drew:=(Below.refl _ P).drew
    obtain⟨e8,e9,fa⟩:=Gi (W:=P.drew) ((show Sl strE _ wr _ _ R from gp.out).below (bn.trans (bq.mono bn.size))) (by omega) #[.string ⟨#[]⟩, .string ⟨#[]⟩, .slice none 0 0, .slice none 0 0, .slice none 0 0] 46
    rw[ca]at e8 e9 fa
    have hw:=Lib.hid e8
    have hz:=Lib.hid e9
    have hA:=Lib.hid fa
    have hC:∀w',Below P.drew.heap.size P.drew w'→w'.cell? ⟨g,1,none⟩=some (.string E)∧w'.cell? ⟨g,3,none⟩=some (.string F):=fun w' Z=>⟨cell_later (bq.trans Z) j7,cell_later (bq.trans Z) kd⟩
    have N:=Lib.hid hC
    have f1:(1:Int)<(L.length:Int):=by omega
    have f3:(3:Int)<(L.length:Int):=by omega
    clear bn hI hH e8 e9 fa hC q1 q3 j7 kd
    go_upto_region 16 with fail
    go_cut [12]from 14 (fun na wx=>∃(xk:Nat) (aU:Option Addr) (cU:Nat),na= .pointer (some ⟨xk,0,none⟩)∧wx.heap[xk]?=some (.cells #[.string E, .string F, .slice aT H.length cT, .slice aU (L.length-k6) cU, .slice none 0 0] 46 (0,0))∧P.heap.size≤xk∧Below P.heap.size P wx∧Sl strE (fun b=>P.heap.size≤b) wx aU cU R)
    case first=>
     refine wp_region_held_drew (S:=fun w'=>w'.cell? ⟨g,1,none⟩=some (.string E)∧w'.cell? ⟨g,3,none⟩=some (.string F)) (by kernel_rfl) (N.out _ (.refl _ _)) (fun hS=> ?_)
     refine ak 0 105 (v:= ?_) hS ?_ ?_;rotate_left;·(intro C f;obtain⟨G,z1⟩:=f;go_simp;try(with_reducible rfl))
     refine ak 1 106 (v:= ?_) hS ?_ ?_;rotate_left;·(intro C f;obtain⟨G,z1⟩:=f;go_simp;try(with_reducible rfl))
     refine ak 2 107 (v:= ?_) hS ?_ ?_;rotate_left;·(intro C f;obtain⟨G,z1⟩:=f;go_simp;try(with_reducible rfl))
     refine ak 3 108 (v:= ?_) hS ?_ ?_;rotate_left;·(intro C f;obtain⟨G,z1⟩:=f;go_simp;try(with_reducible rfl))
     refine ak 4 109 (v:= ?_) hS ?_ ?_;rotate_left;·(intro C f;obtain⟨G,z1⟩:=f;go_simp;try(with_reducible rfl))
     refine ak 5 110 (v:= ?_) hS ?_ ?_;rotate_left;·(intro C f;obtain⟨G,z1⟩:=f;go_simp;try(with_reducible rfl))
     refine ak 6 111 (v:= ?_) hS ?_ ?_;rotate_left;·(intro C f;obtain⟨G,z1⟩:=f;go_simp;try(with_reducible rfl))
     refine ak 8 113 (v:= ?_) hS ?_ ?_;rotate_left;·(intro C f;obtain⟨G,z1⟩:=f;go_simp;try(with_reducible rfl))
     refine ak 9 114 (v:= ?_) hS ?_ ?_;rotate_left;·(intro C f;obtain⟨G,z1⟩:=f;go_simp;try(with_reducible rfl))
     refine ak 10 115 (v:= ?_) hS ?_ ?_;rotate_left;·(intro C f;obtain⟨G,z1⟩:=f;go_simp;try(with_reducible rfl))
     refine ak 11 116 (v:= ?_) hS ?_ ?_;rotate_left;·(intro C f;obtain⟨G,z1⟩:=f;go_simp;try(with_reducible rfl))
     rw[hT.out]
     refine oE 7 14 rfl rfl (by kernel_rfl) (fun K n=> ?_) (fun K n=> ?_)
     ·go_simp
      refine n.out _ _ (N.out _ (an _ _)) ?_
      clear n hS
      intro hS
      try simp only[Act.put,List.setIfInBounds_toArray,List.set_cons_zero,List.set_cons_succ]
      refine oE 12 14 rfl rfl (by kernel_rfl) (fun K n=> ?_) (fun K n=> ?_)
      ·obtain⟨a9,c9,C,ay,cq,J⟩:=hw.out
       refine ip rfl ?_
       refine gj (.tmp 112) (.tmp 116) _ rfl rfl rfl ay ?_
       refine n.out _ _ (N.out _ J) ?_
       clear n hS
       intro hS
       try simp only[Act.put,List.setIfInBounds_toArray,List.set_cons_zero,List.set_cons_succ]
       refine ak 13 118 (v:= ?_) hS ?_ ?_;rotate_left;·(intro C f;obtain⟨G,z1⟩:=f;go_simp;try(with_reducible rfl))
       refine bI 14 rfl (by kernel_rfl) (fun K n=> ?_)
       go_simp
       refine n.out _ _ (N.out _ (aa J (an _ _))) ?_
       clear n hS
       intro hS
       try simp only[Act.put,List.setIfInBounds_toArray,List.set_cons_zero,List.set_cons_succ]
       refine bI 15 rfl (by kernel_rfl) (fun K n=> ?_)
       go_simp
       refine n.out _ _ (N.out _ (aa J (an _ _))) ?_
       clear n hS
       intro hS
       try simp only[Act.put,List.setIfInBounds_toArray,List.set_cons_zero,List.set_cons_succ]
       refine wpAnyH_done (by kernel_rfl) ?_ _
       clear hS
       go_wp2_with fail
       all_goals go_meet
       exact⟨C.heap.size,a9,c9,rfl,heap_alloc_new C _,J.size,(bq.trans J).trans ((an C _).mono J.size),cq.below (an C _)⟩
      go_simp
      refine n.out _ _ (N.out _ (dT _ _ _)) ?_
      clear n hS
      intro hS
      try simp only[Act.put,List.setIfInBounds_toArray,List.set_cons_zero,List.set_cons_succ]
      obtain⟨a9,c9,C,ay,cq,J,cr⟩:=hz.out
      obtain⟨⟨p0,p1,p2,p3,p4⟩,p5,p6,p7,p8,p9⟩:=dN (b:=P.heap.size+1) cr
      refine bI 12 rfl (by kernel_rfl) (fun K n=> ?_)
      refine ip rfl ?_
      refine gj (.tmp 112) (.tmp 116) _ rfl rfl rfl ay ?_
      refine n.out _ _ (N.out _ J) ?_
      clear n hS
      intro hS
      try simp only[Act.put,List.setIfInBounds_toArray,List.set_cons_zero,List.set_cons_succ]
      refine ak 13 118 (v:= ?_) hS ?_ ?_;rotate_left;·(intro C f;obtain⟨G,z1⟩:=f;go_simp;try(with_reducible rfl))
      refine bI 15 rfl (by kernel_rfl) (fun K n=> ?_)
      go_simp
      refine n.out _ _ (N.out _ (d9 J (by first|exact Nat.le_refl _|exact Nat.le_succ _) _ _ _ _ _)) ?_
      clear n hS
      intro hS
      try simp only[Act.put,List.setIfInBounds_toArray,List.set_cons_zero,List.set_cons_succ]
      refine wpAnyH_done (by kernel_rfl) ?_ _
      clear hS
      go_wp2_with fail
      all_goals go_meet
      exact⟨P.heap.size+1,a9,c9,rfl,oC (b:=P.heap.size+1) cr,Nat.le_succ _,d9 (b:=P.heap.size+1) (bq.trans J) (Nat.le_succ _) _ _ _ _ _,((cq.same (oz (b:=P.heap.size+1) (fun e=>e.2 rfl) _ _ _ _ _)).weak (fun b Z=>Z.1))⟩
     go_simp
     refine n.out _ _ (N.out _ (an _ _)) ?_
     clear n hS
     intro hS
     try simp only[Act.put,List.setIfInBounds_toArray,List.set_cons_zero,List.set_cons_succ]
     refine bI 7 rfl (by kernel_rfl) (fun K n=> ?_)
     go_simp
     refine n.out _ _ (N.out _ (dT _ _ _)) ?_
     clear n hS
     intro hS
     try simp only[Act.put,List.setIfInBounds_toArray,List.set_cons_zero,List.set_cons_succ]
     obtain⟨a9,c9,C,ay,cq,J,cr⟩:=hA.out
     obtain⟨⟨p0,p1,p2,p3,p4⟩,p5,p6,p7,p8,p9⟩:=dN (b:=P.heap.size) cr
     refine bI 12 rfl (by kernel_rfl) (fun K n=> ?_)
     refine ip rfl ?_
     refine gj (.tmp 112) (.tmp 116) _ rfl rfl rfl ay ?_
     refine n.out _ _ (N.out _ J) ?_
     clear n hS
     intro hS
     try simp only[Act.put,List.setIfInBounds_toArray,List.set_cons_zero,List.set_cons_succ]
     refine ak 13 118 (v:= ?_) hS ?_ ?_;rotate_left;·(intro C f;obtain⟨G,z1⟩:=f;go_simp;try(with_reducible rfl))
     refine bI 15 rfl (by kernel_rfl) (fun K n=> ?_)
     go_simp
     refine n.out _ _ (N.out _ (d9 J (by first|exact Nat.le_refl _|exact Nat.le_succ _) _ _ _ _ _)) ?_
     clear n hS
     intro hS
     try simp only[Act.put,List.setIfInBounds_toArray,List.set_cons_zero,List.set_cons_succ]
     refine wpAnyH_done (by kernel_rfl) ?_ _
     clear hS
     go_wp2_with fail
     all_goals go_meet
     exact⟨P.heap.size,a9,c9,rfl,oC (b:=P.heap.size) cr,Nat.le_refl _,d9 (b:=P.heap.size) (bq.trans J) (Nat.le_refl _) _ _ _ _ _,((cq.same (oz (b:=P.heap.size) (fun e=>e.2 rfl) _ _ _ _ _)).weak (fun b Z=>Z.1))⟩
    case rest=>
     obtain⟨xk,aU,cU,rfl,hx,rg,bp,f0⟩:=hcut
     rw[←ca]at hx
     obtain⟨⟨y0,y1,y2,y3,y4⟩,-⟩:=dN hx
     have em:=Lib.hid (cv.out.trans ((ab.out.trans (bp.mono ab.out.size)).mono cv.out.size))
     have n8:w.heap.size<P.heap.size:=Nat.lt_of_lt_of_le eA (Nat.le_trans (I.out.below w1.heap.size).size ab.out.size)
     have gw:wc.heap[w.heap.size]?=_:=((ab.out.trans (bp.mono ab.out.size)).block _ (Array.getElem?_eq_some_iff.1 hm.out).1).trans hm.out
     obtain⟨⟨o,p,z,A,B⟩,aW,a0,a1,a2,a3⟩:=dN gw
     have hM:=(hr.out.below ce.out).below (I.out.below _)
     have cb:=(hM.below ab.out).below bp
     have fo:=l5.out.below bp
     have qL:=f0.le
     have ec:=xY sa aT sc cT s H wc cb fo
     have d5:=Lib.hid hx
     have cN:=Lib.hid gw
     have md:=Lib.hid cb
     have hF:=Lib.hid fo
     have hQ:=Lib.hid f0
     have n4:=Lib.hid bp
     have eB:¬xk=w.heap.size:=by omega
     have n1:=Lib.hid ca
     clear hx gw hM cb fo f0 bp ca f1 f3 f6 f7
     by_cases du:re=0
     case neg=>
      have rb:(re==0)=false:=by rw[beq_eq_false_iff_ne];exact du
      have l:=Lib.hid (ib.out du)
      have oi:(re != 0)=true:=by simpa using du
      clear ec
      go_wp2_with fail
      all_goals(try simp only[Exit.inBlock,Exit.then])
      all_goals refine bodyPost_ret (by go_simp;simp[results,Tryz.results27,go_sem,o,p,z,A,B];try rfl) rfl ?_
      all_goals exact fp l.out (d9 em.out (Nat.le_refl _) _ _ _ _ _)
     case pos=>
      subst du
      have d6:=i1.out rfl
      have ex:b9 s (E,F,H,R,[])=((a6 E&&(a6 F&&dc s H))&&(decide (R.length≤12)&&(decide R.Nodup&&R.all a6))):=rfl
      have bN:=Lib.hid (fun(h:b9 s (E,F,H,R,[])=false)=>vz d6 (fun e=>by rw[h]at e;cases e.1))
      have ms:=Lib.hid (fun(h:¬aZ s (E,F,H,R,[])=bL t)=>vz d6 (fun e=>h e.2))
      have mA:=Lib.hid (fun(h1:b9 s (E,F,H,R,[])=true) (h2:aZ s (E,F,H,R,[])=bL t)=>DD d6 h1 h2)
      have h6:=Lib.hid (fun h=>(ji (s:=s) (x:=(E,F,H,R,[])) h).2.2.2.1)
      have cu:=Lib.hid ex
      have k1:=kz E z1
      have k2:=kz F z3
      obtain⟨b3,f5⟩:∃b,dc s H=b:=⟨_,rfl⟩
      obtain⟨b1,aj⟩:∃b,a6 E=b:=⟨_,rfl⟩
      obtain⟨b2,f4⟩:∃b,a6 F=b:=⟨_,rfl⟩
      rw[f5]at ec
      rw[aj]at k1
      rw[f4]at k2
      have aq:=Lib.hid (show b9 s (E,F,H,R,[])=((b1&&(b2&&b3))&&(decide (R.length≤12)&&(decide R.Nodup&&R.all a6)))by rw[←aj,←f4,←f5];exact cu.out)
      have kw:=Lib.hid ec
      have mP:=Lib.hid k1
      have mU:=Lib.hid k2
      clear d6 ex ec k1 k2 aj f4 f5 cu
      go_wp2_with fail
      refine kw.out.mono ?_
      rintro e w8 ⟨rfl,cf⟩
      have U:=Lib.hid cf
      have al:=Lib.hid (aa em.out cf)
      obtain⟨⟨y0,y1,y2,y3,y4⟩,-⟩:=dN ((cf.block _ (Array.getElem?_eq_some_iff.1 d5.out).1).trans d5.out)
      obtain⟨⟨o,p,z,A,B⟩,aW,a0,a1,a2,a3⟩:=dN ((cf.block _ (Array.getElem?_eq_some_iff.1 cN.out).1).trans cN.out)
      clear cf
      cases b3 with
      |false=>
       have l:=Lib.hid (bN.out (by rw[aq.out];simp))
       go_wp2_with fail
       all_goals(try simp only[Exit.inBlock,Exit.then])
       all_goals refine bodyPost_ret (by go_simp;simp[results,Tryz.results27,go_sem,o,p,z,A,B];try rfl) rfl ?_
       all_goals exact fp l.out (d9 al.out (Nat.le_refl _) _ _ _ _ _)
      |true=>
      go_wp2_with fail
      refine(mP.out w8).mono ?_
      rintro e C ⟨rfl,rfl⟩
      cases b1 with
      |false=>
       have l:=Lib.hid (bN.out (by rw[aq.out];simp))
       go_wp2_with fail
       all_goals(try simp only[Exit.inBlock,Exit.then])
       all_goals refine bodyPost_ret (by go_simp;simp[results,Tryz.results27,go_sem,o,p,z,A,B];try rfl) rfl ?_
       all_goals exact fp l.out (d9 al.out (Nat.le_refl _) _ _ _ _ _)
      |true=>
      go_wp2_with fail
      refine(mU.out w8).mono ?_
      rintro e C ⟨rfl,rfl⟩
      cases b2 with
      |false=>
       have l:=Lib.hid (bN.out (by rw[aq.out];simp))
       go_wp2_with fail
       all_goals(try simp only[Exit.inBlock,Exit.then])
       all_goals refine bodyPost_ret (by go_simp;simp[results,Tryz.results27,go_sem,o,p,z,A,B];try rfl) rfl ?_
       all_goals exact fp l.out (d9 al.out (Nat.le_refl _) _ _ _ _ _)
      |true=>
      by_cases cO:R.length≤12
      case neg=>
       have hp:((12:Int)<(R.length:Int))=True:=eq_true (by omega)
       have l:=Lib.hid (bN.out (by rw[aq.out,decide_eq_false cO];simp))
       clear cO
       go_wp2_with fail
       all_goals(try simp only[Exit.inBlock,Exit.then])
       all_goals refine bodyPost_ret (by go_simp;simp[results,Tryz.results27,go_sem,o,p,z,A,B];try rfl) rfl ?_
       all_goals exact fp l.out (d9 al.out (Nat.le_refl _) _ _ _ _ _)
      case pos=>
       have hp:((12:Int)<(R.length:Int))=False:=eq_false (by omega)
       have cs:=Lib.hid (show b9 s (E,F,H,R,[])=(decide R.Nodup&&R.all a6)by rw[aq.out,decide_eq_true cO];simp)
       have mk:=Lib.hid (hQ.out.below U.out)
       clear cO
       go_wp2_with fail
       go_loopw [13] (fun i wr=>oM R w8 i wr) (fun i _=>R.length-(intOf i).toNat)
       case atStart=>exact⟨0,rfl,Nat.zero_le _,by simp,rfl, .refl _⟩
       case round=>
        obtain⟨j,rfl,hj,cl,cd,hD⟩:=hrel
        rename World=>wq
        have s3:=cell_later (hD.below _) y3
        have bW:=((U.out.trans ((hD.below _).mono U.out.size)).block _ (Array.getElem?_eq_some_iff.1 cN.out).1).trans cN.out
        have ea:=((U.out.trans ((hD.below _).mono U.out.size)).block _ (Array.getElem?_eq_some_iff.1 d5.out).1).trans d5.out
        have M:=Lib.hid bW
        have ac:=Lib.hid ea
        have cc:=Lib.hid (mk.out.drew hD)
        have b6:=Lib.hid hD
        have ci:=Lib.hid (aa al.out (hD.below _))
        clear hD y0 y1 y2 y3 y4 o p z A B aW a0 a1 a2 a3
        by_cases aP:j<R.length
        ·obtain⟨⟨o,p,z,A,B⟩,aW,a0,a1,a2,a3⟩:=dN bW
         obtain⟨bU,oU,rfl,-,qu,mI⟩:=cc.out.str j aP
         have mp:(j:Int)<(R.length:Int):=by omega
         have n6:(j:Int)≤(R.length:Int):=by omega
         have es:(R.take j).length=j:=by rw[List.length_take];omega
         have vn:=fun m=>kz R[j] mI (wq.drewN m)
         have vh:=fun m=>xX (some ⟨bU,oU,none⟩) cU (R.take j) R[j] (wq.drewN m) ((cc.out.pre j).drewN m)
         simp only[es]at vh
         have ch:a6 R[j]=false→R.all a6=false:=tp aP
         have cg:bC (R.take j) R[j]=true→¬R.Nodup:=xy aP
         have cm:a6 R[j]=true→bC (R.take j) R[j]=false→∀q,oM R w8 (.int .i64 ((j:Int)+1)) (wq.drewN q):=fun h1 h2 q=>⟨j+1,by simp,aP,xB aP cl h2,tq aP cd h1,fY b6.out _⟩
         have c5:=Lib.hid ch
         have cW:=Lib.hid cg
         have ds:=Lib.hid cm
         have cF:=Lib.hid vn
         have kv:=Lib.hid vh
         clear ch cg cm vn vh cl cd es bW ea
         generalize bC (R.take j) R[j]=bm at*
         generalize R[j]=u at*
         have qg:(0:Int)≤(j:Int):=by omega
         have hU:=cc.out.cap
         have qp:(j:Int)≤(cU:Int):=by omega
         have pv:¬cU=0:=by omega
         have pw:¬0=cU:=by omega
         clear hU
         cases aO:a6 u with
         |false=>
          have l:=Lib.hid (bN.out (by rw[cs.out,c5.out aO];simp))
          rw[aO]at cF
          clear aO
          go_wp2_with fail
          go_quiet ((go_at_call 69;(with_reducible exact fl (cF.out _))))
          all_goals go_wp2_with fail
          all_goals(try simp only[Exit.inBlock,Exit.then])
          all_goals refine bodyPost_ret (by go_simp;simp[results,Tryz.results27,go_sem,o,p,z,A,B];try rfl) rfl ?_
          all_goals exact fp l.out (d9 (fW ci.out _) (Nat.le_refl _) _ _ _ _ _)
         |true=>
          rw[aO]at cF
          cases bm with
          |true=>
           have l:=Lib.hid (bN.out (by rw[cs.out,decide_eq_false (cW.out rfl)];simp))
           clear aO
           go_wp2_with fail
           go_quiet (first|(go_at_call 69;(with_reducible exact fl (cF.out _)))|(go_at_call 70;(with_reducible exact fl (kv.out _))))
           all_goals go_wp2_with fail
           all_goals(try simp only[Exit.inBlock,Exit.then])
           all_goals refine bodyPost_ret (by go_simp;simp[results,Tryz.results27,go_sem,o,p,z,A,B];try rfl) rfl ?_
           all_goals exact fp l.out (d9 (fW ci.out _) (Nat.le_refl _) _ _ _ _ _)
          |false=>
           have hf:=Lib.hid (ds.out aO rfl)
           clear aO
           go_wp2_with fail
           go_quiet (first|(go_at_call 69;(with_reducible exact fl (cF.out _)))|(go_at_call 70;(with_reducible exact fl (kv.out _))))
           all_goals go_wp2_with fail
           all_goals go_roundw
           case rel=>exact hf.out _
           case measure=>simp[intOf];omega
        have mp:((j:Int)<(R.length:Int))=False:=eq_false (by omega)
        rw[List.take_of_length_le (by omega)]at cl cd
        have rc:=(I.out.below w1.heap.size).size
        have ct:b9 s (E,F,H,R,[])=true:=by rw[cs.out,decide_eq_true cl,cd];rfl
        have h0:=h6.out ct
        have hP:=(md.out.below U.out).below (b6.out.below _)
        have fr:=(hF.out.below U.out).below (b6.out.below _)
        have vl:=fun Q (Z:Below wq.heap.size wq Q)=>yu sa sc s (E,F,H,R,[]) aT aU none 0 cT cU 0 Q (hP.below Z) (show E.size≤70000 by have:=i5.out.1;omega) (show F.size≤70000 by have:=i5.out.2;omega) h0 (fr.below Z).any (cc.out.below Z).any (fun u hu=>by have:=hJ.out u hu;omega) (show R.length≤70000 by omega)
        obtain⟨D2,fn⟩:∃D,ah (aZ s (E,F,H,R,[])++[10])=D:=⟨_,rfl⟩
        have kH:∀Q,Below wq.heap.size wq Q→Calls Tryz.prog 32 #[.slice sa s.length sc, .agg #[.string E, .string F, .slice aT H.length cT, .slice aU R.length cU, .slice none 0 0]] Q fun e w'=>e= .returned (.string D2)∧Below Q.heap.size Q w':=fun Q Z=>by rw[←fn];exact vl Q Z
        have ef:=Lib.hid (show D2.data.toList=aZ s (E,F,H,R,[])++[10]by rw[←fn];rfl)
        have kI:=Lib.hid kH
        have bb:=Lib.hid (Below.drew (Below.refl wq.heap.size wq))
        have i4:=Lib.hid (fun h=>mA.out ct h)
        have en:∀(g:Bool),decide (aZ s (E,F,H,R,[])=bL t)=g→∀C,Below wq.heap.size wq C→jT s t w (.returned (.tuple #[.agg #[.string E, .string F, .slice aT H.length cT, .slice aU R.length cU, .slice none 0 0], .bool g])) (((((C.setCell ⟨w.heap.size,0,none⟩ (.string E)).setCell ⟨w.heap.size,1,none⟩ (.string F)).setCell ⟨w.heap.size,2,none⟩ (.slice aT H.length cT)).setCell ⟨w.heap.size,3,none⟩ (.slice aU R.length cU)).setCell ⟨w.heap.size,4,none⟩ (.slice none 0 0)):=fun g hg C Z=>by
         have O:=d9 (aa ci.out Z) (Nat.le_refl _) (.string E) (.string F) (.slice aT H.length cT) (.slice aU R.length cU) (.slice none 0 0)
         cases g with
         |false=>exact yo (ms.out (of_decide_eq_false hg)) O
         |true=>
          unfold jT
          rw[i4.out (of_decide_eq_true hg)]
          have lV:=(fr.below Z).same (oz (b:=w.heap.size) (by show¬wr.heap.size≤w.heap.size;omega) (.string E) (.string F) (.slice aT H.length cT) (.slice aU R.length cU) (.slice none 0 0))
          have ml:=(cc.out.below Z).same (oz (b:=w.heap.size) (by show¬P.heap.size≤w.heap.size;omega) (.string E) (.string F) (.slice aT H.length cT) (.slice aU R.length cU) (.slice none 0 0))
          exact⟨⟨aT,cT,aU,cU,rfl,lV.weak (fun b Z=>by have h9:wr.heap.size≤b:=Z;show w.heap.size≤b;omega),ml.weak (fun b Z=>by have h9:P.heap.size≤b:=Z;show w.heap.size≤b;omega)⟩,O⟩
        have cj:=Lib.hid en
        obtain⟨⟨x0,x1,x2,x3,x4⟩,-⟩:=dN ea
        obtain⟨⟨i6,i7,i8,i9,jv⟩,j1,j2,j3,j4,j5⟩:=dN bW
        clear en hP fr vl kH fn h0 ct cl cd bW ea aP hj
        have n5:¬9223372036854775807<t.size+1:=by omega
        by_cases bt:aZ s (E,F,H,R,[])=bL t
        ·have hq:=fe (x:=D2) (y:=t++⟨#[10]⟩) (tH (by rw[ef.out,bt,mZ];rfl))
         have gk:=decide_eq_true bt
         clear bt
         go_wp2_with fail
         refine wp_region_held_drew (S:=fun w'=>w'.heap[xk]?=some (.cells #[.string E, .string F, .slice aT H.length cT, .slice aU R.length cU, .slice none 0 0] 46 (0,0))) (by kernel_rfl) ac.out (fun hS=> ?_)
         refine ak 0 173 (v:= ?_) hS ?_ ?_;rotate_left;·(intro C f;have G:=f;obtain⟨⟨c0,c1,c2,c3,c4⟩,-⟩:=dN G;go_simp;try(with_reducible rfl))
         refine ak 1 174 (v:= ?_) hS ?_ ?_;rotate_left;·(intro C f;have G:=f;go_simp;try(with_reducible rfl))
         refine ak 2 175 (v:= ?_) hS ?_ ?_;rotate_left;·(intro C f;have G:=f;obtain⟨⟨c0,c1,c2,c3,c4⟩,-⟩:=dN G;go_simp;try(with_reducible rfl))
         refine ak 4 177 (v:= ?_) hS ?_ ?_;rotate_left;·(intro C f;have G:=f;go_simp;try(with_reducible rfl))
         refine ak 5 178 (v:= ?_) hS ?_ ?_;rotate_left;·(intro C f;have G:=f;go_simp;try(with_reducible rfl))
         refine bI 3 rfl (by kernel_rfl) (fun K n=> ?_)
         go_simp
         (with_reducible refine(kI.out _ bb.out).mono ?_)
         rintro e C ⟨rfl,O⟩
         obtain⟨⟨i6,i7,i8,i9,jv⟩,j1,j2,j3,j4,j5⟩:=dN ((O.block _ (show _<wq.drew.heap.size from(Array.getElem?_eq_some_iff.1 M.out).1)).trans M.out)
         go_simp
         refine n.out _ _ ((O.block _ (show _<wq.drew.heap.size from(Array.getElem?_eq_some_iff.1 ac.out).1)).trans ac.out) ?_
         clear n hS K
         intro hS
         try simp only[Act.put,List.setIfInBounds_toArray,List.set_cons_zero,List.set_cons_succ]
         refine ak 6 179 (v:= ?_) hS ?_ ?_;rotate_left;·(intro C f;have G:=f;go_simp;try(with_reducible rfl))
         refine bI 7 rfl (by kernel_rfl) (fun K n=> ?_)
         go_simp
         refine n.out _ _ (ya eB hS) ?_
         clear n hS
         intro hS
         try simp only[Act.put,List.setIfInBounds_toArray,List.set_cons_zero,List.set_cons_succ]
         refine ak 8 5 (v:= ?_) hS ?_ ?_;rotate_left;·(intro C f;have G:=f;go_simp;try(with_reducible rfl))
         refine wpAnyH_done (by kernel_rfl) ?_ _
         clear hS
         obtain⟨⟨gP,gU,g2,g3,g4⟩,-⟩:=dN (oC (v0:= .string E) (v1:= .string F) (v2:= .slice aT H.length cT) (v3:= .slice aU R.length cU) (v4:= .slice none 0 0) ((O.block _ (show _<wq.drew.heap.size from(Array.getElem?_eq_some_iff.1 M.out).1)).trans M.out))
         go_wp2_with fail
         all_goals(try simp only[Exit.inBlock,Exit.then])
         all_goals refine bodyPost_ret (by go_simp;simp[results,Tryz.results27,go_sem,gP,gU,g2,g3,g4];try rfl) rfl ?_
         all_goals exact cj.out _ gk _ (aa bb.out O)
        have hq:=eM (x:=D2) (y:=t++⟨#[10]⟩) (fun e=>bt (by
         have h9:=ef.out
         rw[e,mZ]at h9
         exact(List.append_cancel_right h9).symm))
        have gk:=decide_eq_false bt
        clear bt
        go_wp2_with fail
        refine wp_region_held_drew (S:=fun w'=>w'.heap[xk]?=some (.cells #[.string E, .string F, .slice aT H.length cT, .slice aU R.length cU, .slice none 0 0] 46 (0,0))) (by kernel_rfl) ac.out (fun hS=> ?_)
        refine ak 0 173 (v:= ?_) hS ?_ ?_;rotate_left;·(intro C f;have G:=f;obtain⟨⟨c0,c1,c2,c3,c4⟩,-⟩:=dN G;go_simp;try(with_reducible rfl))
        refine ak 1 174 (v:= ?_) hS ?_ ?_;rotate_left;·(intro C f;have G:=f;go_simp;try(with_reducible rfl))
        refine ak 2 175 (v:= ?_) hS ?_ ?_;rotate_left;·(intro C f;have G:=f;obtain⟨⟨c0,c1,c2,c3,c4⟩,-⟩:=dN G;go_simp;try(with_reducible rfl))
        refine ak 4 177 (v:= ?_) hS ?_ ?_;rotate_left;·(intro C f;have G:=f;go_simp;try(with_reducible rfl))
        refine ak 5 178 (v:= ?_) hS ?_ ?_;rotate_left;·(intro C f;have G:=f;go_simp;try(with_reducible rfl))
        refine bI 3 rfl (by kernel_rfl) (fun K n=> ?_)
        go_simp
        (with_reducible refine(kI.out _ bb.out).mono ?_)
        rintro e C ⟨rfl,O⟩
        obtain⟨⟨i6,i7,i8,i9,jv⟩,j1,j2,j3,j4,j5⟩:=dN ((O.block _ (show _<wq.drew.heap.size from(Array.getElem?_eq_some_iff.1 M.out).1)).trans M.out)
        go_simp
        refine n.out _ _ ((O.block _ (show _<wq.drew.heap.size from(Array.getElem?_eq_some_iff.1 ac.out).1)).trans ac.out) ?_
        clear n hS K
        intro hS
        try simp only[Act.put,List.setIfInBounds_toArray,List.set_cons_zero,List.set_cons_succ]
        refine ak 6 179 (v:= ?_) hS ?_ ?_;rotate_left;·(intro C f;have G:=f;go_simp;try(with_reducible rfl))
        refine bI 7 rfl (by kernel_rfl) (fun K n=> ?_)
        go_simp
        refine n.out _ _ (ya eB hS) ?_
        clear n hS
        intro hS
        try simp only[Act.put,List.setIfInBounds_toArray,List.set_cons_zero,List.set_cons_succ]
        refine ak 8 5 (v:= ?_) hS ?_ ?_;rotate_left;·(intro C f;have G:=f;go_simp;try(with_reducible rfl))
        refine wpAnyH_done (by kernel_rfl) ?_ _
        clear hS
        obtain⟨⟨gP,gU,g2,g3,g4⟩,-⟩:=dN (oC (v0:= .string E) (v1:= .string F) (v2:= .slice aT H.length cT) (v3:= .slice aU R.length cU) (v4:= .slice none 0 0) ((O.block _ (show _<wq.drew.heap.size from(Array.getElem?_eq_some_iff.1 M.out).1)).trans M.out))
        go_wp2_with fail
        all_goals(try simp only[Exit.inBlock,Exit.then])
        all_goals refine bodyPost_ret (by go_simp;simp[results,Tryz.results27,go_sem,gP,gU,g2,g3,g4];try rfl) rfl ?_
        all_goals exact cj.out _ gk _ (aa bb.out O)
end Go.Proofs.YtlejmeegkpdabaaGreatDoor
