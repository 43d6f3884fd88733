/- The proof of a statement, some of its texts joined in build order: part LastX1. -/
import Derived.Test.YtlejmeegkpdabaaGreatDoorMxK18
import Derived.LaidMore
import Derived.Stop.Joined
import Derived.Laws.StructEq
import Derived.ChangeMaps5
import Derived.Handed
import Derived.Test.YtlejmeegkpdabaaGreatDoorMxK20
import Derived.Test.YtlejmeegkpdabaaGreatDoorMxQ
set_option maxHeartbeats 8000000
set_option maxRecDepth 100000
namespace Go.Proofs.YtlejmeegkpdabaaGreatDoor
open Go Go.RowKit Go.ChangeShapes Go.WideShapes Go.ChangeAt Go.Deep Go.Maps
theorem sA{s:Sg}(hok:aH s=true){a b:List Int}(ha:W1 s a)(hb:W1 s b)(ra:Rg a)(rb:Rg b){ξ:Int→List Int}(hξ:bh s ξ)(he:ap ξ a=ap ξ b)
  (hm:∀η,bh s η→ap η a=ap η b→∀n,n<0→ap η (ξ n)=η n) (t:List Int):iL s a b t=eK ξ t:=by
 obtain⟨θ,c⟩:=xg hok ha hb ra rb hξ he
 have i:ap θ (ap ξ t)=ap θ t:=by rw[iO];exact mN (fun n _ j=>hm θ c.th c.eq n j)
 obtain⟨f,g,h⟩:=pS c.th hξ (u1:=ap θ t) (u2:=ap ξ t) (c.most hξ he t) i
 rw[sC c]
 unfold eK
 rw[f,g,h]
def aX:Sg:=[(⟨#[67]⟩,2)]
def aw4K:List Int:=[0,-1,0,-2,-1]
def aw4C:List Int:=[0,0,-1,0,-2,-3,0,0,-1,-2,0,-1,-3]
def jw:List (List Int):=[aw4K,aw4C]
def fy:List Stp:=[(1,1,0),(1,0,0),(2,0,1),(2,2,1)]
def kk:List Int:=[0,0,-1,-2,0,-1,-1]
theorem Bs:dj aX aw4C aw4K=(kk,0):=by
 have f:aw aX aw4C=true:=by decide+kernel
 have b:aw aX aw4K=true:=by decide+kernel
 have hA:W1 aX [0,-1,0,-2,-3]:=by unfold W1;decide+kernel
 have a:aw aX [0,-1,0,-2,-3]=true:=by decide+kernel
 rw[kn f b (A:=[0,-1,0,-2,-3]) (B:=[0,0,-1,-2,0,-1,-3]) rfl hA]
 have l:bh aX (fun n=>if n=-13 then [-1]else if n=-14 then [-2]else if n=-3 then [-1]else [n]):=fun n c=>by
  show W1 aX (if n=-13 then [-1]else if n=-14 then [-2]else if n=-3 then [-1]else [n])
  split
  ·exact W1.var (by decide)
  split
  ·exact W1.var (by decide)
  split
  ·exact W1.var (by decide)
  exact W1.var c
 rw[sA (bj f).1 hA (kY (fM b)) (l9 a) (kX b) l (by decide+kernel) (fun η hw g n c=> ?_)]
 ·decide+kernel
 have j:ap η [0,-1,0,-2,-3]=0::(η (-1)++(0::(η (-2)++η (-3)))):=by
  rw[bM (by decide),cY (by decide),bM (by decide),cY (by decide),cZ (by decide)]
 have k:ap η (dK aw4K)=0::(η (-13)++(0::(η (-14)++η (-13)))):=by
  show ap η [0,-13,0,-14,-13]=_
  rw[bM (by decide),cY (by decide),bM (by decide),cY (by decide),cZ (by decide)]
 rw[j,k]at g
 obtain⟨i,m⟩:=W1.uniq (hw _ (by decide)) (hw _ (by decide)) (List.cons.inj g).2
 obtain⟨o,p⟩:=W1.uniq (hw _ (by decide)) (hw _ (by decide)) (List.cons.inj m).2
 show ap η (if n=-13 then [-1]else if n=-14 then [-2]else if n=-3 then [-1]else [n])=η n
 split
 ·rename_i h;subst h;rw[cZ (by decide),i]
 split
 ·rename_i h;subst h;rw[cZ (by decide),o]
 split
 ·rename_i h;subst h;rw[cZ (by decide),p,i]
 rw[cZ c]
theorem Br:dj aX kk aw4K=([0,-1,-1],0):=by
 have f:aw aX kk=true:=by decide+kernel
 have b:aw aX aw4K=true:=by decide+kernel
 have hA:W1 aX [0,-1,-2]:=by unfold W1;decide+kernel
 have a:aw aX [0,-1,-2]=true:=by decide+kernel
 rw[kn f b (A:=[0,-1,-2]) (B:=[0,-1,-1]) rfl hA]
 have l:bh aX (fun n=>if n=-13 then [-1]else if n=-2 then [0,-14,-1]else [n]):=fun n c=>by
  show W1 aX (if n=-13 then [-1]else if n=-2 then [0,-14,-1]else [n])
  split
  ·exact W1.var (by decide)
  split
  ·unfold W1;decide+kernel
  exact W1.var c
 rw[sA (bj f).1 hA (kY (fM b)) (l9 a) (kX b) l (by decide+kernel) (fun η hw g n c=> ?_)]
 ·decide+kernel
 have j:ap η [0,-1,-2]=0::(η (-1)++η (-2)):=by
  rw[bM (by decide),cY (by decide),cZ (by decide)]
 have k:ap η (dK aw4K)=0::(η (-13)++(0::(η (-14)++η (-13)))):=by
  show ap η [0,-13,0,-14,-13]=_
  rw[bM (by decide),cY (by decide),bM (by decide),cY (by decide),cZ (by decide)]
 rw[j,k]at g
 obtain⟨i,m⟩:=W1.uniq (hw _ (by decide)) (hw _ (by decide)) (List.cons.inj g).2
 show ap η (if n=-13 then [-1]else if n=-2 then [0,-14,-1]else [n])=η n
 split
 ·rename_i h;subst h;rw[cZ (by decide),i]
 split
 ·rename_i h;subst h
  rw[bM (by decide),cY (by decide),cZ (by decide),m,i]
 rw[cZ c]
theorem Bt:fO aX jw fy=([0,-1,-1],0):=by
 have a:bT aX jw [] (1,1,0)=(aw4C,0):=by unfold bT;rw[if_pos rfl];decide+kernel
 have b:bT aX jw [aw4C] (1,0,0)=(aw4K,0):=by unfold bT;rw[if_pos rfl];decide+kernel
 have c:bT aX jw [aw4C,aw4K] (2,0,1)=(kk,0):=by unfold bT;rw[if_neg (by decide)];exact Bs
 have f:bT aX jw [aw4C,aw4K,kk] (2,2,1)=([0,-1,-1],0):=by unfold bT;rw[if_neg (by decide)];exact Br
 have hr:cD aX jw fy []=([aw4C,aw4K,kk,[0,-1,-1]],0):=by
  unfold fy
  rw[cD,a,if_pos rfl,List.nil_append,cD,b,if_pos rfl,List.cons_append,List.nil_append,cD,c,if_pos rfl,List.cons_append,List.cons_append,List.nil_append,cD,f,if_pos rfl,cD]
  rfl
 unfold fO
 rw[if_pos (by decide+kernel),hr]
 rfl
def nK:ByteArray:=⟨#[107]⟩
def nS:ByteArray:=⟨#[115]⟩
def nI:ByteArray:=⟨#[105]⟩
def gY:ByteArray:=⟨#[97,110,110]⟩
def lW:ByteArray:=⟨#[98,111,98]⟩
def skI:List Int:=[0,-1,-1]
def skiL:List Ent:=[(nK,gY,aw4K,[],[]),(nS,gY,aw4C,[],[]),(nI,lW,skI,[nK,nS],fy)]
theorem rV:bz aX skiL=true:=by decide+kernel
theorem wh{s:Sg}{a:List Int}:fb s a a=true:=instB_iff.2 ⟨fun n=>[n],fun _ b=>W1.var b,mQ (fun _ _ _=>rfl)⟩
theorem ski_at{x:ByteArray}:(aG skiL x).isSome=true↔x=nK∨x=nS∨x=nI:=by
 unfold aG skiL
 rw[List.findIdx?_isSome]
 simp only[List.any_cons,List.any_nil,Bool.or_false,Bool.or_eq_true,af]
 constructor
 ·rintro(h|h|h)
  ·exact .inl (of_decide_eq_true h).symm
  ·exact .inr (.inl (of_decide_eq_true h).symm)
  exact .inr (.inr (of_decide_eq_true h).symm)
 rintro(h|h|h)
 ·exact .inl (decide_eq_true h.symm)
 ·exact .inr (.inl (decide_eq_true h.symm))
 exact .inr (.inr (decide_eq_true h.symm))
theorem rW(n:ByteArray):bB skiL n=if n=nI then [nK,nS]else []:=by
 cases h:aG skiL n with
 |none=>
  unfold bB
  rw[h]
  by_cases e:n=nI
  ·have:(aG skiL n).isSome=true:=ski_at.2 (.inr (.inr e))
   rw[h]at this;cases this
  rw[if_neg e]
 |some i=>
  obtain⟨a,e⟩:=gx h
  unfold bB
  rw[h]
  match i,a,e with
  |0,_,e=>subst e;rfl
  |1,_,e=>subst e;rfl
  |2,_,e=>subst e;rfl
theorem yX{may:ByteArray→Prop}{n u:ByteArray}(h:Rch (bB skiL) may n u):n=nI∧(u=nK∨u=nS):=by
 induction h with
 |one a b=>
  rw[rW]at a
  by_cases e:n=nI
  ·rw[if_pos e]at a;exact⟨e,by simpa using a⟩
  rw[if_neg e]at a;cases a
 |more f a b c=>
  rw[rW]at a
  rcases c.2 with rfl|rfl
  ·rw[if_neg (by decide)]at a;cases a
  rw[if_neg (by decide)]at a;cases a
theorem Hw(x:ByteArray):gX skiL x=false:=by
 cases h:gX skiL x with
 |false=>rfl
 |true=>
  unfold gX at h
  obtain⟨b,a⟩:=yX (rchB_iff.1 h)
  subst b
  rcases a with a|a<;>exact absurd a (by decide)
theorem Hv(x:ByteArray):(gJ skiL (fun _=>true) nI x&&(aG skiL x).isSome)=true↔x∈ [nK,nS]:=by
 rw[Bool.and_eq_true,rchB_iff,ski_at]
 constructor
 ·rintro⟨h,-⟩
  have:=(yX h).2
  simpa using this
 intro h
 have a:x∈bB skiL nI:=by rw[rW,if_pos rfl];exact h
 refine⟨.one a rfl,?_⟩
 simp at h
 rcases h with h|h
 ·exact .inl h
 exact .inr (.inl h)
theorem Hs:AscN [nK,nS]:=by
 refine List.Pairwise.cons (fun y hy=> ?_) (List.pairwise_singleton _ _)
 rw[List.mem_singleton]at hy
 subst hy
 show nK.data.toList<nS.data.toList
 decide
theorem oY{s:Sg}{l:List Ent}{i:Nat}(h:ai (l.getD i default)=[]):fu s l i=some (az (l.getD i default)):=by unfold fu;rw[if_pos h]
theorem Hy:fu aX skiL 2=some skI:=by
 have a:ai (skiL.getD 2 default)=fy:=rfl
 have b:ae (skiL.getD 2 default)=[nK,nS]:=rfl
 have c:ek skiL [nK,nS]=jw:=rfl
 have f:fF skiL [nK,nS]=true:=rfl
 unfold fu
 rw[a,b,if_neg (by decide),if_pos f,c,Bt]
 rfl
theorem yV:∀i,i<3→bY aX skiL i=true:=by
 intro i g
 have a:∀t,fu aX skiL i=some t→t=az (skiL.getD i default)→aw aX t=true→bY aX skiL i=true:=fun t b c f=>by
  unfold bY
  rw[b]
  simp only
  rw[←c,f,wh]
  rfl
 match i,g with
 |0,_=>exact a _ (oY rfl) rfl (by decide+kernel)
 |1,_=>exact a _ (oY rfl) rfl (by decide+kernel)
 |2,_=>exact a _ Hy rfl (by decide+kernel)
theorem Hu:∀x∈skiL,∀u∈ae x,(aG skiL u).isSome=true:=by
 intro x hx u a
 have:skiL.all (fun x=>(ae x).all (fun u=>(aG skiL u).isSome))=true:=by decide
 rw[List.all_eq_true]at this
 have:=this x hx
 rw[List.all_eq_true]at this
 exact this u a
def jx:List (List Int):=[skI,aw4C]
def lg:List Int:=[0,0,0,-1,-2,-1,0,0,-1,-2,-2]
theorem Bw:dj aX aw4C skI=(lg,0):=by
 have g:aw aX aw4C=true:=by decide+kernel
 have b:aw aX skI=true:=by decide+kernel
 have hA:W1 aX [0,-1,0,-2,-3]:=by unfold W1;decide+kernel
 have a:aw aX [0,-1,0,-2,-3]=true:=by decide+kernel
 rw[kn g b (A:=[0,-1,0,-2,-3]) (B:=[0,0,-1,-2,0,-1,-3]) rfl hA]
 have m:bh aX (fun n=>if n=-13 then [0,-2,-3]else if n=-1 then [0,-2,-3]else [n]):=fun n c=>by
  show W1 aX (if n=-13 then [0,-2,-3]else if n=-1 then [0,-2,-3]else [n])
  split
  ·unfold W1;decide+kernel
  split
  ·unfold W1;decide+kernel
  exact W1.var c
 rw[sA (bj g).1 hA (kY (fM b)) (l9 a) (kX b) m (by decide+kernel) (fun η hw i n c=> ?_)]
 ·decide+kernel
 have k:ap η [0,-1,0,-2,-3]=0::(η (-1)++(0::(η (-2)++η (-3)))):=by
  rw[bM (by decide),cY (by decide),bM (by decide),cY (by decide),cZ (by decide)]
 have l:ap η (dK skI)=0::(η (-13)++η (-13)):=by
  show ap η [0,-13,-13]=_
  rw[bM (by decide),cY (by decide),cZ (by decide)]
 have f:ap η [0,-2,-3]=0::(η (-2)++η (-3)):=by
  rw[bM (by decide),cY (by decide),cZ (by decide)]
 rw[k,l]at i
 obtain⟨o,j⟩:=W1.uniq (hw _ (by decide)) (hw _ (by decide)) (List.cons.inj i).2
 show ap η (if n=-13 then [0,-2,-3]else if n=-1 then [0,-2,-3]else [n])=η n
 split
 ·rename_i h;subst h;rw[f,←j]
 split
 ·rename_i h;subst h;rw[f,o,←j]
 rw[cZ c]
theorem Bu:(dj aX lg skI).2=8:=by
 have g:aw aX lg=true:=by decide+kernel
 have h:aw aX skI=true:=by decide+kernel
 have hA:W1 aX [0,0,-1,-2,-1]:=by unfold W1;decide+kernel
 rw[kn g h (A:=[0,0,-1,-2,-1]) (B:=[0,0,-1,-2,-2]) rfl hA]
 rw[sB (fun η hw a=> ?_)]
 have b:ap η [0,0,-1,-2,-1]=0::((0::(η (-1)++η (-2)))++η (-1)):=by
  rw[bM (by decide),bM (by decide),cY (by decide),cY (by decide),cZ (by decide)]
  simp
 have c:ap η (dK skI)=0::(η (-13)++η (-13)):=by
  show ap η [0,-13,-13]=_
  rw[bM (by decide),cY (by decide),cZ (by decide)]
 rw[b,c]at a
 have f:W1 aX (0::(η (-1)++η (-2))):=by
  have:=(show W1 aX [0,-1,-2]by unfold W1;decide+kernel).ap hw
  rw[bM (by decide),cY (by decide),cZ (by decide)]at this
  exact this
 obtain⟨i,j⟩:=W1.uniq f (hw _ (by decide)) (List.cons.inj a).2
 have:=congrArg List.length (i.trans j.symm)
 simp at this
 omega
theorem Bx:(fO aX jx fy).2=8:=by
 have b:bT aX jx [] (1,1,0)=(aw4C,0):=by unfold bT;rw[if_pos rfl];decide+kernel
 have c:bT aX jx [aw4C] (1,0,0)=(skI,0):=by unfold bT;rw[if_pos rfl];decide+kernel
 have f:bT aX jx [aw4C,skI] (2,0,1)=(lg,0):=by unfold bT;rw[if_neg (by decide)];exact Bw
 have a:(bT aX jx [aw4C,skI,lg] (2,2,1)).2=8:=by unfold bT;rw[if_neg (by decide)];exact Bu
 have hr:(cD aX jx fy []).2=8:=by
  unfold fy
  rw[cD,b,if_pos rfl,List.nil_append,cD,c,if_pos rfl,List.cons_append,List.nil_append,cD,f,if_pos rfl,List.cons_append,List.cons_append,List.nil_append,cD,if_neg (by rw[a];decide)]
  exact a
 unfold fO
 rw[if_pos (by decide+kernel),if_neg (by rw[hr];decide)]
 exact hr
def skiL2:List Ent:=[(nK,gY,skI,[],[]),(nS,gY,aw4C,[],[]),(nI,lW,skI,[nK,nS],fy)]
theorem Hq:bY aX skiL2 2=false:=by
 have a:ai (skiL2.getD 2 default)=fy:=rfl
 have b:ae (skiL2.getD 2 default)=[nK,nS]:=rfl
 have c:ek skiL2 [nK,nS]=jx:=rfl
 have f:fF skiL2 [nK,nS]=true:=rfl
 have:fu aX skiL2 2=none:=by
  unfold fu
  rw[a,b,if_neg (by decide),if_pos f,c,if_neg (by rw[Bx];decide)]
 unfold bY
 rw[this]
theorem yU:∀i,i<2→bY aX skiL2 i=true:=by
 intro i g
 have a:∀t,fu aX skiL2 i=some t→t=az (skiL2.getD i default)→aw aX t=true→bY aX skiL2 i=true:=fun t b c f=>by
  unfold bY
  rw[b]
  simp only
  rw[←c,f,wh]
  rfl
 match i,g with
 |0,_=>exact a _ (oY rfl) rfl (by decide+kernel)
 |1,_=>exact a _ (oY rfl) rfl (by decide+kernel)
theorem Ht(x:ByteArray):fh skiL (fun k=>bY aX skiL k&& !bY aX skiL2 k) x=true↔x∈ [nI]:=by
 rw[chB_iff]
 constructor
 ·rintro⟨i,c,a,b⟩
  match i,c,a,b with
  |0,_,a,_=>rw[yU 0 (by decide)]at a;simp at a
  |1,_,a,_=>rw[yU 1 (by decide)]at a;simp at a
  |2,_,_,b=>rw[←b];exact List.mem_singleton.2 rfl
 intro h
 rw[List.mem_singleton]at h
 subst h
 exact⟨2,by decide,by rw[yV 2 (by decide),Hq];rfl,rfl⟩
theorem Dg{P:Program}{t:TypeId}{α β γ:Type}{E:Enc α}{F:Enc β}{G:Enc γ}{f0 f1 f2:Field}(ht:P.underlying t=some (.struct #[f0,f1,f2]))(h0:f0.offset=0)(h1:f1.offset=E.size)(h2:f2.offset=E.size+F.size)(hc:P.cellsOf t=E.size+(F.size+G.size))
  (hc0:P.cellsOf f0.type=E.size) (hc1:P.cellsOf f1.type=F.size) (hc2:P.cellsOf f2.type=G.size) (g0:Gives P f0.type E) (g1:Gives P f1.type F) (g2:Gives P f2.type G):Gives P t (dC E (dC F G)):=by
 intro H j w g f i n m x h
 obtain⟨v,y,z,l,_,u,q,r,s⟩:=trod_struct3 ht h
 obtain⟨a,ha⟩:=g0 H j w g f i l _ _ q
 obtain⟨b,p⟩:=g1 H j w g f i l _ _ r
 obtain⟨c,k⟩:=g2 H j w g f i l _ _ s
 refine⟨(a,b,c),_,_,?_,ha,_,_,rfl,p,k⟩
 rw[h0,h1,h2,hc0,hc1,hc2,List.drop_zero]
 have o:(m.drop (E.size+F.size)).take G.size=m.drop (E.size+F.size):=List.take_of_length_le (by simp;omega)
 rw[o,←List.drop_drop,List.take_append_drop,List.take_append_drop]
theorem C9:Gives Tryz.prog 72 stpE:=Dg Tryz.underlying72 rfl rfl rfl (by kernel_rfl) (by kernel_rfl) (by kernel_rfl) (by kernel_rfl) lw lw lw
theorem C8:Gives Tryz.prog 44 (cI stpE):=lz Tryz.underlying44 (by kernel_rfl) C9
theorem Ib(x1 x2 x3 y1 y2 y3:Int)(w:World):(binOp .neq 72 (.agg #[.int .i64 x1, .int .i64 x2, .int .i64 x3]) (.agg #[.int .i64 y1, .int .i64 y2, .int .i64 y3])).run Tryz.prog w= .ok (.bool (!(x1==y1&&(x2==y2&&x3==y3)))) w:=by
 rw[run_neq_struct,run_equalIn_struct w 9999 _ _ _ (by kernel_rfl) (by kernel_rfl)]
 simp[Op.eqFields,go_sem]
 by_cases a:x1=y1
 ·by_cases b:x2=y2
  ·by_cases c:x3=y3
   ·simp[a,b,c]
   simp[a,b,c]
  simp[a,b]
 simp[a]
theorem Ia(o1 o2:Operand)(xs ys:Array Value)(w:World):(eqGuard .neq 72 o1 o2 (.agg xs) (.agg ys)).run Tryz.prog w= .ok () w:=run_eqGuard_agg w _ _ _ _ _ _ (by kernel_rfl)
theorem Dh{P:Program}{t:TypeId}{α β γ δ ε:Type}{E:Enc α}{F:Enc β}{G:Enc γ}{J:Enc δ}{K:Enc ε}{f0 f1 f2 f3 f4:Field}(ht:P.underlying t=some (.struct #[f0,f1,f2,f3,f4]))(h0:f0.offset=0)(h1:f1.offset=E.size)(h2:f2.offset=E.size+F.size)(h3:f3.offset=E.size+F.size+G.size)(h4:f4.offset=E.size+F.size+G.size+J.size)
  (hc:P.cellsOf t=E.size+(F.size+(G.size+(J.size+K.size)))) (hc0:P.cellsOf f0.type=E.size) (hc1:P.cellsOf f1.type=F.size) (hc2:P.cellsOf f2.type=G.size) (hc3:P.cellsOf f3.type=J.size) (hc4:P.cellsOf f4.type=K.size)
  (g0:Gives P f0.type E) (g1:Gives P f1.type F) (g2:Gives P f2.type G) (g3:Gives P f3.type J) (g4:Gives P f4.type K):Gives P t (dC E (dC F (dC G (dC J K)))):=by
 intro H j w g f i n k x h
 obtain⟨D,m,_,rfl,I,l,hf⟩:=DataW.trod_struct ht h
 match D,l with
 | [L,M,N,O,Q],_=>
  have p:=hf 0 f0 rfl
  have q:=hf 1 f1 rfl
  have r:=hf 2 f2 rfl
  have s:=hf 3 f3 rfl
  have u:=hf 4 f4 rfl
  simp only[List.getElem?_cons_zero,List.getElem?_cons_succ]at p q r s u
  obtain⟨a,ha⟩:=g0 H j w g f i m _ _ p
  obtain⟨b,B⟩:=g1 H j w g f i m _ _ q
  obtain⟨c,o⟩:=g2 H j w g f i m _ _ r
  obtain⟨d,hd⟩:=g3 H j w g f i m _ _ s
  obtain⟨e,C⟩:=g4 H j w g f i m _ _ u
  refine⟨(a,b,c,d,e),_,_,?_,ha,_,_,rfl,B,_,_,rfl,o,_,_,rfl,hd,C⟩
  rw[h0,h1,h2,h3,h4,hc0,hc1,hc2,hc3,hc4,List.drop_zero]
  have v:(k.drop (E.size+F.size+G.size+J.size)).take K.size=k.drop (E.size+F.size+G.size+J.size):=List.take_of_length_le (by simp;omega)
  have y:k.drop (E.size+F.size+G.size+J.size)=(k.drop (E.size+F.size+G.size)).drop J.size:=by rw[List.drop_drop]
  have z:k.drop (E.size+F.size+G.size)=(k.drop (E.size+F.size)).drop G.size:=by rw[List.drop_drop]
  have A:k.drop (E.size+F.size)=(k.drop E.size).drop F.size:=by rw[List.drop_drop]
  rw[v,y,List.take_append_drop,z,List.take_append_drop,A,List.take_append_drop,List.take_append_drop]
theorem Da:Gives Tryz.prog 37 (cI strE):=lz Tryz.underlying37 (by kernel_rfl) nE
theorem C7:Gives Tryz.prog 46 entE:=Dh Tryz.underlying46 rfl rfl rfl rfl rfl (by kernel_rfl) (by kernel_rfl) (by kernel_rfl) (by kernel_rfl) (by kernel_rfl) (by kernel_rfl) nE nE Dc Da C8
theorem gLib:Gives Tryz.prog 24 (cI entE):=lz Tryz.underlying24 (by kernel_rfl) C7
theorem Dp{H:Type}{enc:TypeId×Value→H}{a:Assume}{C:Checked}{os:Os}{f:FuncId}{fn:Func}{s:ChangeSpec}{conds:List PathCond}{apart fresh handsOn again:Bool}{X:World→Array Value→Prop}
  (hX:∀(w w':World) (args:Array Value),w.heap=w'.heap→X w args→X w' args)
  (own:ownKnob C.prog.godebug=none) (started:os.Started) (noInit:C.prog.inits.idxOf? f=none) (hfn:C.prog.funcs[f]?=some fn)
  (witness:∃(w:World) (tape:Tape) (i:Input),w.os=os∧(w.forCall tape i).Shaped C.prog∧i.vars=[]∧Input.okWide C.prog (w.forCall tape i) .any w.heap.size f i∧
   ((s.pre enc C.prog fn conds apart (w.forCall tape i).memory i.args∧X (w.forCall tape i).memory i.args)∧sizedMet enc C.prog fn (OpenSpec.ofChange s) apart (w.forCall tape i).memory i.args)∧a.holds C.prog (lone (Frame.enter C.prog f i.args .normal) [] (w.forCall tape i)))
  (contract:∀(W:World) (base:Nat) (args:Array Value) (ds gs:List (DataW H)) (before:List MemPlace),W.ShapedOpen C.prog→
   (∀(j:Nat) t v,fn.params[j]?=some t→args[j]?=some v→Value.okWide C.prog W .any base t v)→
   DataW.Whole enc C.prog fn.params.toList s.vars apart W args.toList ds gs before→
   conds.all (PathCond.test C.prog ⟨fn.params.toList,ds,s.plain.varTypes C.prog,gs⟩)=true→
   (DataW.weightsEach C.prog (fn.params.toList++s.plain.varTypes C.prog) (ds++gs)).all (·≤reachBytes)=true→X W args→
   a.holds C.prog (lone (Frame.enter C.prog f args .normal) [] W)→
   Calls C.prog f args W fun e W'=>∃v,e= .returned v∧s.post enc C.prog fn apart fresh handsOn again W args v W'):
  ReturnsInHanded a C os f .any (fun w args=>(s.pre enc C.prog fn conds apart w args∧X w args)∧sizedMet enc C.prog fn (OpenSpec.ofChange s) apart w args) (s.post enc C.prog fn apart fresh handsOn again):=by
 refine returnsInHanded_of_calls own started noInit witness ?_
 intro w tape i _ m _ l g b
 obtain⟨_,_,_,k,c,_,_,_,_,h⟩:=l
 have e:k=fn:=Option.some.inj (c.symm.trans hfn)
 subst e
 obtain⟨⟨⟨ds,gs,before,hw,o⟩,hx⟩,r⟩:=g
 have n:=DataW.Whole.of_heap (w':=w.forCall tape i) (by rfl) hw
 refine(contract (w.forCall tape i) w.heap.size i.args ds gs before m h n o (r.weights hw) (hX _ _ _ (by rfl) hx) b).mono fun e W' ⟨v,p,q⟩=> ?_
 subst p
 exact ChangeSpec.post_blind q
theorem wa{H:Type}{enc:TypeId×Value→H}{P:Program}{w:World}{sp:Nat→Bool}{fuel:Nat}{t:TypeId}{ms:Array (String×TypeId)}{cs:List Value}{x:DataW H×List MemPlace}(ht:P.underlying t=some (.interface ms))
  (h:DataW.trod enc P w 0 sp false fuel t cs=some x):∃v,cs=[v]∧(v= .nilIface∨∃te pe,v= .iface te pe):=by
 cases fuel with
 |zero=>simp[DataW.trod]at h
 |succ fuel=>
  unfold DataW.trod at h
  rw[ht]at h
  split at h<;>first|exact⟨_,rfl, .inl rfl⟩|exact⟨_,rfl, .inr ⟨_,_,rfl⟩⟩|(rename_i a;cases a;done)|cases h
theorem yI{w:World}{g:Nat}{n:String}{cs:Array Value}(hg:Tryz.prog.globalNamed n=some g)(hv:w.var? Tryz.prog n=some cs)(hc:∃v,cs.toList=[v]∧(v= .nilIface∨∃te pe,v= .iface te pe)):pp w g:=by
 obtain⟨v,b,c⟩:=hc
 unfold World.var? at hv
 rw[hg,Option.bind_some]at hv
 split at hv
 ·rename_i a j i h
  obtain rfl:=Option.some.inj hv
  have f:a[0]?=some v:=by rw[←Array.getElem?_toList,b];rfl
  exact⟨v,by simp[World.cell?,h,f],c⟩
 cases hv
def kt(l:List Ent)(w:World)(i:Value)(wr:World):Prop:=∃k:Nat,i= .int .i64 k∧k≤l.length∧Below w.heap.size w wr
def jb(N:Nat)(w:World)(i:Value)(wr:World):Prop:=∃j:Nat,i= .int .i64 j∧j≤N∧Below w.heap.size w wr
def HvFull(l:List Ent)(w:World)(e:Ending)(w':World):Prop:=∃r:Bool,e= .returned (.bool r)∧(r=false→l.length≤100∧(l.length≤10∨60<l.length))∧Below w.heap.size w w'
theorem HvFull.t{l:List Ent}{w w':World}(hb:Below w.heap.size w w'):HvFull l w (.returned (.bool true)) w':=⟨true,rfl,(fun h=>by cases h),hb⟩
theorem DQ{S1 S2:Nat→Prop}(sa la:Option Addr)(sc lc:Nat)(s:Sg)(l:List Ent)(w:World)(h1:Sign S1 w sa sc s)(h2:LibL S2 w la lc l):
  Calls Tryz.prog 5 #[.slice sa s.length sc, .slice la l.length lc] w (HvFull l w):=by
 have m:=h2.le
 have m1:=h1.le
 have U:=Lib.hid h2
 clear h1 h2
 generalize aq:s.length=ns at*
 clear aq
 by_cases N:20<ns
 ·have b1:((20:Int)<(ns:Int))=True:=eq_true (by omega)
  go_enter Tryz.func5,Tryz.ntmps5
  go_wp2_with fail
  go_ret
  exact HvFull.t (.refl _ _)
 have b1:((20:Int)<(ns:Int))=False:=eq_false (by omega)
 by_cases O:10<l.length
 ·have Q:((10:Int)<(l.length:Int))=True:=eq_true (by omega)
  by_cases P:l.length≤60
  ·have b3:((l.length:Int)≤60)=True:=eq_true (by omega)
   go_enter Tryz.func5,Tryz.ntmps5
   go_wp2_with fail
   go_ret
   exact HvFull.t (.refl _ _)
  have b3:((l.length:Int)≤60)=False:=eq_false (by omega)
  by_cases a4:100<l.length
  ·have b4:((100:Int)<(l.length:Int))=True:=eq_true (by omega)
   go_enter Tryz.func5,Tryz.ntmps5
   go_wp2_with fail
   go_ret
   exact HvFull.t (.refl _ _)
  have b4:((100:Int)<(l.length:Int))=False:=eq_false (by omega)
  go_enter Tryz.func5,Tryz.ntmps5
  have y:=Lib.hid (show l.length≤100∧(l.length≤10∨60<l.length)by omega)
  go_wp2_with fail
  go_loopw [5] (fun i wr=>kt l w i wr) (fun i _=>l.length-(intOf i).toNat)
  case atStart=>exact⟨0,rfl,Nat.zero_le _, .refl _ _⟩
  case round=>
   obtain⟨k,rfl,hk,C⟩:=hrel
   by_cases v:k<l.length
   ·obtain⟨b,ay,N,R,O,S,P,T,rfl,-,s0,s1,s2,s3,s4,z1,z2,V,Y,X⟩:=(U.out.below C).ent k v
    obtain⟨W,n⟩:∃W,wr.alloc (.cells #[.string (af l[k]), .string (aC l[k]), .slice N (az l[k]).length R, .slice O (ae l[k]).length S, .slice P (ai l[k]).length T] 46)=W:=⟨_,rfl⟩
    have x:Below wr.heap.size wr W:=by rw[←n];exact an wr _
    have Z:W.cell? ⟨wr.heap.size,0,none⟩=some (.string (af l[k])):=by rw[←n];clear n;go_simp
    have p1:W.cell? ⟨wr.heap.size,1,none⟩=some (.string (aC l[k])):=by rw[←n];clear n;go_simp
    have p2:W.cell? ⟨wr.heap.size,2,none⟩=some (.slice N (az l[k]).length R):=by rw[←n];clear n;go_simp
    have G:W.cell? ⟨wr.heap.size,3,none⟩=some (.slice O (ae l[k]).length S):=by rw[←n];clear n;go_simp
    have p4:W.cell? ⟨wr.heap.size,4,none⟩=some (.slice P (ai l[k]).length T):=by rw[←n];clear n;go_simp
    have r:=Y.below x
    obtain⟨F,E⟩:∃F,ae l[k]=F:=⟨_,rfl⟩
    rw[E]at r s3 G n
    obtain⟨g,z⟩:∃g,F.length=g:=⟨_,rfl⟩
    have K:=r.le
    rw[z]at s3 G n K
    have D:=Lib.hid r
    have h:=Lib.hid z
    have c:=Lib.hid (aa C x)
    have m3:=V.le
    have m4:=X.le
    clear V Y X r C x E z
    generalize af l[k]=nm at*
    generalize aC l[k]=H at*
    generalize (az l[k]).length=L at*
    generalize (ai l[k]).length=q at*
    unfold aB at z1 z2
    by_cases x0:100<nm.size
    ·have y0:((100:Int)<(nm.size:Int))=True:=eq_true (by omega)
     go_wp2_with fail
     go_ret
     exact HvFull.t c.out
    have y0:((100:Int)<(nm.size:Int))=False:=eq_false (by omega)
    by_cases x1:100<H.size
    ·have y1:((100:Int)<(H.size:Int))=True:=eq_true (by omega)
     go_wp2_with fail
     go_ret
     exact HvFull.t c.out
    have y1:((100:Int)<(H.size:Int))=False:=eq_false (by omega)
    by_cases x2:100<L
    ·have y2:((100:Int)<(L:Int))=True:=eq_true (by omega)
     go_wp2_with fail
     go_ret
     exact HvFull.t c.out
    have y2:((100:Int)<(L:Int))=False:=eq_false (by omega)
    by_cases x3:20<g
    ·have y3:((20:Int)<(g:Int))=True:=eq_true (by omega)
     go_wp2_with fail
     go_ret
     exact HvFull.t c.out
    have y3:((20:Int)<(g:Int))=False:=eq_false (by omega)
    by_cases x5:12<q
    ·have y5:((12:Int)<(q:Int))=True:=eq_true (by omega)
     by_cases x6:q≤60
     ·have y6:((q:Int)≤60)=True:=eq_true (by omega)
      go_wp2_with fail
      go_ret
      exact HvFull.t c.out
     have y6:((q:Int)≤60)=False:=eq_false (by omega)
     by_cases x7:100<q
     ·have y7:((100:Int)<(q:Int))=True:=eq_true (by omega)
      go_wp2_with fail
      go_ret
      exact HvFull.t c.out
     have y7:((100:Int)<(q:Int))=False:=eq_false (by omega)
     go_wp2_with fail
     clear Z p1 p2 p4
     go_loopw [7] (fun i wr=>jb g W i wr) (fun i _=>g-(intOf i).toNat)
     case atStart=>exact⟨0,rfl,Nat.zero_le _, .refl _ _⟩
     case round=>
      obtain⟨j,rfl,I,a⟩:=hrel
      have r3:=cell_later a G
      by_cases p:j<g
      ·obtain⟨Q,o2,rfl,-,M,B⟩:=(D.out.below a).str j (by have:=h.out;omega)
       generalize F[j]'(by have:=h.out;omega)=u at M B
       by_cases hu:100<u.size
       ·have A:((100:Int)<(u.size:Int))=True:=eq_true (by omega)
        have o:=Lib.hid (aa c.out a)
        clear a
        go_wp2_with fail
        go_ret
        exact HvFull.t o.out
       have A:((100:Int)<(u.size:Int))=False:=eq_false (by omega)
       have f:=Lib.hid (show jb g W (.int .i64 ((j:Int)+1)) wr from⟨j+1,by simp,p,a⟩)
       clear a
       go_wp2_with fail
       go_roundw
       case rel=>exact f.out
       case measure=>simp[intOf];omega
      have J:((j:Int)<(g:Int))=False:=eq_false (by omega)
      have f:=Lib.hid (show kt l w (.int .i64 ((k:Int)+1)) wr from⟨k+1,by simp,v,aa c.out a⟩)
      clear a p I
      go_wp2_with fail
      go_roundw
      case rel=>exact f.out
      case measure=>simp[intOf];omega
    have y5:((12:Int)<(q:Int))=False:=eq_false (by omega)
    have y7:((100:Int)<(q:Int))=False:=eq_false (by omega)
    go_wp2_with fail
    clear Z p1 p2 p4
    go_loopw [7] (fun i wr=>jb g W i wr) (fun i _=>g-(intOf i).toNat)
    case atStart=>exact⟨0,rfl,Nat.zero_le _, .refl _ _⟩
    case round=>
     obtain⟨j,rfl,I,a⟩:=hrel
     have r3:=cell_later a G
     by_cases p:j<g
     ·obtain⟨Q,o2,rfl,-,M,B⟩:=(D.out.below a).str j (by have:=h.out;omega)
      generalize F[j]'(by have:=h.out;omega)=u at M B
      by_cases hu:100<u.size
      ·have A:((100:Int)<(u.size:Int))=True:=eq_true (by omega)
       have o:=Lib.hid (aa c.out a)
       clear a
       go_wp2_with fail
       go_ret
       exact HvFull.t o.out
      have A:((100:Int)<(u.size:Int))=False:=eq_false (by omega)
      have f:=Lib.hid (show jb g W (.int .i64 ((j:Int)+1)) wr from⟨j+1,by simp,p,a⟩)
      clear a
      go_wp2_with fail
      go_roundw
      case rel=>exact f.out
      case measure=>simp[intOf];omega
     have J:((j:Int)<(g:Int))=False:=eq_false (by omega)
     have f:=Lib.hid (show kt l w (.int .i64 ((k:Int)+1)) wr from⟨k+1,by simp,v,aa c.out a⟩)
     clear a p I
     go_wp2_with fail
     go_roundw
     case rel=>exact f.out
     case measure=>simp[intOf];omega
   have ao:((k:Int)<(l.length:Int))=False:=eq_false (by omega)
   have o:=Lib.hid C
   clear C v hk
   go_wp2_with fail
   go_ret
   exact⟨false,rfl,fun _=>y.out,o.out⟩
 have Q:((10:Int)<(l.length:Int))=False:=eq_false (by omega)
 have b4:((100:Int)<(l.length:Int))=False:=eq_false (by omega)
 go_enter Tryz.func5,Tryz.ntmps5
 have y:=Lib.hid (show l.length≤100∧(l.length≤10∨60<l.length)by omega)
 go_wp2_with fail
 go_loopw [5] (fun i wr=>kt l w i wr) (fun i _=>l.length-(intOf i).toNat)
 case atStart=>exact⟨0,rfl,Nat.zero_le _, .refl _ _⟩
 case round=>
  obtain⟨k,rfl,hk,C⟩:=hrel
  by_cases v:k<l.length
  ·obtain⟨b,ay,N,R,O,S,P,T,rfl,-,s0,s1,s2,s3,s4,z1,z2,V,Y,X⟩:=(U.out.below C).ent k v
   obtain⟨W,n⟩:∃W,wr.alloc (.cells #[.string (af l[k]), .string (aC l[k]), .slice N (az l[k]).length R, .slice O (ae l[k]).length S, .slice P (ai l[k]).length T] 46)=W:=⟨_,rfl⟩
   have x:Below wr.heap.size wr W:=by rw[←n];exact an wr _
   have Z:W.cell? ⟨wr.heap.size,0,none⟩=some (.string (af l[k])):=by rw[←n];clear n;go_simp
   have p1:W.cell? ⟨wr.heap.size,1,none⟩=some (.string (aC l[k])):=by rw[←n];clear n;go_simp
   have p2:W.cell? ⟨wr.heap.size,2,none⟩=some (.slice N (az l[k]).length R):=by rw[←n];clear n;go_simp
   have G:W.cell? ⟨wr.heap.size,3,none⟩=some (.slice O (ae l[k]).length S):=by rw[←n];clear n;go_simp
   have p4:W.cell? ⟨wr.heap.size,4,none⟩=some (.slice P (ai l[k]).length T):=by rw[←n];clear n;go_simp
   have r:=Y.below x
   obtain⟨F,E⟩:∃F,ae l[k]=F:=⟨_,rfl⟩
   rw[E]at r s3 G n
   obtain⟨g,z⟩:∃g,F.length=g:=⟨_,rfl⟩
   have K:=r.le
   rw[z]at s3 G n K
   have D:=Lib.hid r
   have h:=Lib.hid z
   have c:=Lib.hid (aa C x)
   have m3:=V.le
   have m4:=X.le
   clear V Y X r C x E z
   generalize af l[k]=nm at*
   generalize aC l[k]=H at*
   generalize (az l[k]).length=L at*
   generalize (ai l[k]).length=q at*
   unfold aB at z1 z2
   by_cases x0:100<nm.size
   ·have y0:((100:Int)<(nm.size:Int))=True:=eq_true (by omega)
    go_wp2_with fail
    go_ret
    exact HvFull.t c.out
   have y0:((100:Int)<(nm.size:Int))=False:=eq_false (by omega)
   by_cases x1:100<H.size
   ·have y1:((100:Int)<(H.size:Int))=True:=eq_true (by omega)
    go_wp2_with fail
    go_ret
    exact HvFull.t c.out
   have y1:((100:Int)<(H.size:Int))=False:=eq_false (by omega)
   by_cases x2:100<L
   ·have y2:((100:Int)<(L:Int))=True:=eq_true (by omega)
    go_wp2_with fail
    go_ret
    exact HvFull.t c.out
   have y2:((100:Int)<(L:Int))=False:=eq_false (by omega)
   by_cases x3:20<g
   ·have y3:((20:Int)<(g:Int))=True:=eq_true (by omega)
    go_wp2_with fail
    go_ret
    exact HvFull.t c.out
   have y3:((20:Int)<(g:Int))=False:=eq_false (by omega)
   by_cases x5:12<q
   ·have y5:((12:Int)<(q:Int))=True:=eq_true (by omega)
    by_cases x6:q≤60
    ·have y6:((q:Int)≤60)=True:=eq_true (by omega)
     go_wp2_with fail
     go_ret
     exact HvFull.t c.out
    have y6:((q:Int)≤60)=False:=eq_false (by omega)
    by_cases x7:100<q
    ·have y7:((100:Int)<(q:Int))=True:=eq_true (by omega)
     go_wp2_with fail
     go_ret
     exact HvFull.t c.out
    have y7:((100:Int)<(q:Int))=False:=eq_false (by omega)
    go_wp2_with fail
    clear Z p1 p2 p4
    go_loopw [7] (fun i wr=>jb g W i wr) (fun i _=>g-(intOf i).toNat)
    case atStart=>exact⟨0,rfl,Nat.zero_le _, .refl _ _⟩
    case round=>
     obtain⟨j,rfl,I,a⟩:=hrel
     have r3:=cell_later a G
     by_cases p:j<g
     ·obtain⟨Q,o2,rfl,-,M,B⟩:=(D.out.below a).str j (by have:=h.out;omega)
      generalize F[j]'(by have:=h.out;omega)=u at M B
      by_cases hu:100<u.size
      ·have A:((100:Int)<(u.size:Int))=True:=eq_true (by omega)
       have o:=Lib.hid (aa c.out a)
       clear a
       go_wp2_with fail
       go_ret
       exact HvFull.t o.out
      have A:((100:Int)<(u.size:Int))=False:=eq_false (by omega)
      have f:=Lib.hid (show jb g W (.int .i64 ((j:Int)+1)) wr from⟨j+1,by simp,p,a⟩)
      clear a
      go_wp2_with fail
      go_roundw
      case rel=>exact f.out
      case measure=>simp[intOf];omega
     have J:((j:Int)<(g:Int))=False:=eq_false (by omega)
     have f:=Lib.hid (show kt l w (.int .i64 ((k:Int)+1)) wr from⟨k+1,by simp,v,aa c.out a⟩)
     clear a p I
     go_wp2_with fail
     go_roundw
     case rel=>exact f.out
     case measure=>simp[intOf];omega
   have y5:((12:Int)<(q:Int))=False:=eq_false (by omega)
   have y7:((100:Int)<(q:Int))=False:=eq_false (by omega)
   go_wp2_with fail
   clear Z p1 p2 p4
   go_loopw [7] (fun i wr=>jb g W i wr) (fun i _=>g-(intOf i).toNat)
   case atStart=>exact⟨0,rfl,Nat.zero_le _, .refl _ _⟩
   case round=>
    obtain⟨j,rfl,I,a⟩:=hrel
    have r3:=cell_later a G
    by_cases p:j<g
    ·obtain⟨Q,o2,rfl,-,M,B⟩:=(D.out.below a).str j (by have:=h.out;omega)
     generalize F[j]'(by have:=h.out;omega)=u at M B
     by_cases hu:100<u.size
     ·have A:((100:Int)<(u.size:Int))=True:=eq_true (by omega)
      have o:=Lib.hid (aa c.out a)
      clear a
      go_wp2_with fail
      go_ret
      exact HvFull.t o.out
     have A:((100:Int)<(u.size:Int))=False:=eq_false (by omega)
     have f:=Lib.hid (show jb g W (.int .i64 ((j:Int)+1)) wr from⟨j+1,by simp,p,a⟩)
     clear a
     go_wp2_with fail
     go_roundw
     case rel=>exact f.out
     case measure=>simp[intOf];omega
    have J:((j:Int)<(g:Int))=False:=eq_false (by omega)
    have f:=Lib.hid (show kt l w (.int .i64 ((k:Int)+1)) wr from⟨k+1,by simp,v,aa c.out a⟩)
    clear a p I
    go_wp2_with fail
    go_roundw
    case rel=>exact f.out
    case measure=>simp[intOf];omega
  have ao:((k:Int)<(l.length:Int))=False:=eq_false (by omega)
  have o:=Lib.hid C
  clear C v hk
  go_wp2_with fail
  go_ret
  exact⟨false,rfl,fun _=>y.out,o.out⟩
abbrev skK:Obj:= .cells #[.int .i64 0, .int .i64 (-1), .int .i64 0, .int .i64 (-2), .int .i64 (-1)] 3
abbrev skC:Obj:= .cells #[.int .i64 0, .int .i64 0, .int .i64 (-1), .int .i64 0, .int .i64 (-2), .int .i64 (-3), .int .i64 0, .int .i64 0, .int .i64 (-1), .int .i64 (-2), .int .i64 0, .int .i64 (-1), .int .i64 (-3)] 3
abbrev skP:Obj:= .cells #[.int .i64 1, .int .i64 1, .int .i64 0, .int .i64 1, .int .i64 0, .int .i64 0, .int .i64 2, .int .i64 0, .int .i64 1, .int .i64 2, .int .i64 2, .int .i64 1] 72
abbrev skT:Obj:= .cells #[.int .i64 0, .int .i64 (-1), .int .i64 (-1)] 3
abbrev skU:Obj:= .cells #[.string nK, .string nS] 9
abbrev skE1 (n:Nat):Obj:= .cells #[.string nK, .string gY, .slice (some ⟨n,0,none⟩) 5 5, .slice none 0 0, .slice none 0 0] 46
abbrev skE2 (n:Nat):Obj:= .cells #[.string nS, .string gY, .slice (some ⟨n+1+1,0,none⟩) 13 13, .slice none 0 0, .slice none 0 0] 46
abbrev skE3 (n:Nat):Obj:= .cells #[.string nI, .string lW, .slice (some ⟨n+1+1+1+1+1,0,none⟩) 3 3, .slice (some ⟨n+1+1+1+1+1+1,0,none⟩) 2 2, .slice (some ⟨n+1+1+1+1,0,none⟩) 4 4] 46
abbrev skS:Obj:= .cells #[.string ⟨#[67]⟩, .int .i64 2] 78
abbrev skL (n:Nat):Obj:= .cells #[.string nK, .string gY, .slice (some ⟨n,0,none⟩) 5 5, .slice none 0 0, .slice none 0 0, .string nS, .string gY, .slice (some ⟨n+1+1,0,none⟩) 13 13, .slice none 0 0, .slice none 0 0,
 .string nI, .string lW, .slice (some ⟨n+1+1+1+1+1,0,none⟩) 3 3, .slice (some ⟨n+1+1+1+1+1+1,0,none⟩) 2 2, .slice (some ⟨n+1+1+1+1,0,none⟩) 4 4] 46
abbrev skW (w:World):World:=(((((((w.alloc skK).alloc (skE1 w.heap.size)).alloc skC).alloc (skE2 w.heap.size)).alloc skP).alloc skT).alloc skU).alloc (skE3 w.heap.size)
theorem nM:aE 0:=by unfold aE;decide
theorem lG:aE 1:=by unfold aE;decide
theorem qJ:aE 2:=by unfold aE;decide
structure SkAt (n:Nat) (W:World):Prop where
 k:Ints (fun _=>True) W (some ⟨n,0,none⟩) 5 aw4K
 c:Ints (fun _=>True) W (some ⟨n+1+1,0,none⟩) 13 aw4C
 p:Steps (fun _=>True) W (some ⟨n+1+1+1+1,0,none⟩) 4 fy
 t:Ints (fun _=>True) W (some ⟨n+1+1+1+1+1,0,none⟩) 3 skI
 u:Sl strE (fun _=>True) W (some ⟨n+1+1+1+1+1+1,0,none⟩) 2 [nK,nS]
theorem SkAt.below{n:Nat}{W W':World}(h:SkAt n W)(hb:Below W.heap.size W W'):SkAt n W':=⟨h.k.below hb,h.c.below hb,h.p.below hb,h.t.below hb,h.u.below hb⟩
theorem Hp(w:World):SkAt w.heap.size (skW w)∧Below w.heap.size w (skW w)∧(skW w).heap.size=w.heap.size+8:=by
 have G:=(Ints.new w aw4K 3 (by decide) (by unfold aE;decide)).any
 obtain⟨W1,b⟩:∃W,w.alloc skK=W:=⟨_,rfl⟩
 rw[show w.alloc (.cells (aw4K.map (Value.int .i64)).toArray 3)=w.alloc skK from rfl,b]at G
 have Q:W1.heap.size=w.heap.size+1:=by rw[←b];simp
 have M:Below w.heap.size w W1:=by rw[←b];exact an _ _
 obtain⟨j,k⟩:∃W,W1.alloc (skE1 w.heap.size)=W:=⟨_,rfl⟩
 have I:j.heap.size=w.heap.size+1+1:=by rw[←k];simp[Q]
 have C:Below W1.heap.size W1 j:=by rw[←k];exact an _ _
 have F:=(Ints.new j aw4C 3 (by decide) (by unfold aE;decide)).any
 obtain⟨r,c⟩:∃W,j.alloc skC=W:=⟨_,rfl⟩
 rw[show j.alloc (.cells (aw4C.map (Value.int .i64)).toArray 3)=j.alloc skC from rfl,c,I]at F
 have R:r.heap.size=w.heap.size+1+1+1:=by rw[←c];simp[I]
 have D:Below j.heap.size j r:=by rw[←c];exact an _ _
 obtain⟨n,l⟩:∃W,r.alloc (skE2 w.heap.size)=W:=⟨_,rfl⟩
 have J:n.heap.size=w.heap.size+1+1+1+1:=by rw[←l];simp[R]
 have v:Below r.heap.size r n:=by rw[←l];exact an _ _
 have O:=(Sl.new (E:=stpE) (S:=fun _=>False) n [[.int .i64 1, .int .i64 1, .int .i64 0],[.int .i64 1, .int .i64 0, .int .i64 0],[.int .i64 2, .int .i64 0, .int .i64 1],[.int .i64 2, .int .i64 2, .int .i64 1]] fy 72 rfl (by decide) (fun i y N=>by
  match i,y with
  |0,_=>exact⟨[_],_,rfl,⟨rfl,(lG:aE 1)⟩,[_],[_],rfl,⟨rfl,(lG:aE 1)⟩,⟨rfl,(nM:aE 0)⟩⟩
  |1,_=>exact⟨[_],_,rfl,⟨rfl,(lG:aE 1)⟩,[_],[_],rfl,⟨rfl,(nM:aE 0)⟩,⟨rfl,(nM:aE 0)⟩⟩
  |2,_=>exact⟨[_],_,rfl,⟨rfl,(qJ:aE 2)⟩,[_],[_],rfl,⟨rfl,(nM:aE 0)⟩,⟨rfl,(lG:aE 1)⟩⟩
  |3,_=>exact⟨[_],_,rfl,⟨rfl,(qJ:aE 2)⟩,[_],[_],rfl,⟨rfl,(qJ:aE 2)⟩,⟨rfl,(lG:aE 1)⟩⟩)).any
 obtain⟨a,f⟩:∃W,n.alloc skP=W:=⟨_,rfl⟩
 have z:Steps (fun _=>True) a (some ⟨w.heap.size+1+1+1+1,0,none⟩) 4 fy:=by rw[←J,←f];exact O
 have K:a.heap.size=w.heap.size+1+1+1+1+1:=by rw[←f];simp[J]
 have x:Below n.heap.size n a:=by rw[←f];exact an _ _
 have H:=(Ints.new a skI 3 (by decide) (by unfold aE;decide)).any
 obtain⟨o,g⟩:∃W,a.alloc skT=W:=⟨_,rfl⟩
 rw[show a.alloc (.cells (skI.map (Value.int .i64)).toArray 3)=a.alloc skT from rfl,g,K]at H
 have L:o.heap.size=w.heap.size+1+1+1+1+1+1:=by rw[←g];simp[K]
 have t:Below a.heap.size a o:=by rw[←g];exact an _ _
 have P:=(Sl.new (E:=strE) (S:=fun _=>False) o [[.string nK],[.string nS]] [nK,nS] 9 rfl (by decide) (fun i y N=>by
  match i,y with
  |0,_=>exact⟨rfl,(by decide:1≤aB)⟩
  |1,_=>exact⟨rfl,(by decide:1≤aB)⟩)).any
 obtain⟨p,h⟩:∃W,o.alloc skU=W:=⟨_,rfl⟩
 have A:Sl strE (fun _=>True) p (some ⟨w.heap.size+1+1+1+1+1+1,0,none⟩) 2 [nK,nS]:=by rw[←L,←h];exact P
 have T:p.heap.size=w.heap.size+1+1+1+1+1+1+1:=by rw[←h];simp[L]
 have s:Below o.heap.size o p:=by rw[←h];exact an _ _
 obtain⟨u,m⟩:∃W,p.alloc (skE3 w.heap.size)=W:=⟨_,rfl⟩
 have U:u.heap.size=w.heap.size+1+1+1+1+1+1+1+1:=by rw[←m];simp[T]
 have q:Below p.heap.size p u:=by rw[←m];exact an _ _
 have B:skW w=u:=by unfold skW;rw[b,k,c,l,f,g,h,m]
 rw[B]
 refine⟨⟨(((((((G.below C).below D).below v).below x).below t).below s).below q),((((F.below v).below x).below t).below s).below q,((z.below t).below s).below q,(H.below s).below q,A.below q⟩,?_,by omega⟩
 exact aa (aa (aa (aa (aa (aa (aa M C) D) v) x) t) s) q
theorem yT(w:World):Sign (fun _=>True) (w.alloc skS) (some ⟨w.heap.size,0,none⟩) 1 aX:=
 (Sl.new (E:=mn) (S:=fun _=>False) w [[.string ⟨#[67]⟩, .int .i64 2]] aX 78 rfl (by decide) (fun i a b=>by
  match i,a with
  |0,_=>exact⟨[_],[_],rfl,⟨rfl,(by decide:1≤aB)⟩,⟨rfl,(by unfold aE;decide:aE 2)⟩⟩)).any
theorem yS{n:Nat}{W:World}(h:SkAt n W):LibL (fun _=>True) (W.alloc (skL n)) (some ⟨W.heap.size,0,none⟩) 3 skiL:=
 (Sl.new (E:=entE) (S:=fun _=>True) W [[.string nK, .string gY, .slice (some ⟨n,0,none⟩) 5 5, .slice none 0 0, .slice none 0 0],[.string nS, .string gY, .slice (some ⟨n+1+1,0,none⟩) 13 13, .slice none 0 0, .slice none 0 0],
  [.string nI, .string lW, .slice (some ⟨n+1+1+1+1+1,0,none⟩) 3 3, .slice (some ⟨n+1+1+1+1+1+1,0,none⟩) 2 2, .slice (some ⟨n+1+1+1+1,0,none⟩) 4 4]] skiL 46 rfl (by decide) (fun i a b=>by
  match i,a with
  |0,_=>exact⟨[_],_,rfl,⟨rfl,(by decide:1≤aB)⟩,[_],_,rfl,⟨rfl,(by decide:3≤aB)⟩,[_],_,rfl,⟨_,_,rfl,h.k⟩,[_],[_],rfl,⟨none,0,rfl,Sl.empty⟩,⟨none,0,rfl,Sl.empty⟩⟩
  |1,_=>exact⟨[_],_,rfl,⟨rfl,(by decide:1≤aB)⟩,[_],_,rfl,⟨rfl,(by decide:3≤aB)⟩,[_],_,rfl,⟨_,_,rfl,h.c⟩,[_],[_],rfl,⟨none,0,rfl,Sl.empty⟩,⟨none,0,rfl,Sl.empty⟩⟩
  |2,_=>exact⟨[_],_,rfl,⟨rfl,(by decide:1≤aB)⟩,[_],_,rfl,⟨rfl,(by decide:3≤aB)⟩,[_],_,rfl,⟨_,_,rfl,h.t⟩,[_],[_],rfl,⟨_,_,rfl,h.u⟩,⟨_,_,rfl,h.p⟩⟩)).any
def AP(w:World)(e:Ending)(w':World):Prop:=∃sa sc la lc,e= .returned (.tuple #[.slice sa 1 sc, .slice la 3 lc])∧Sign (fun _=>True) w' sa sc aX∧LibL (fun _=>True) w' la lc skiL∧Below w.heap.size w w'
theorem Hr(w:World):Calls Tryz.prog 12 #[] w (AP w):=by
 obtain⟨hA,g,p⟩:=Hp w
 have a:=hA.below (an (skW w) skS)
 have l:=(yT (skW w)).below (an _ (skL w.heap.size))
 have h:=yS a
 have i:=(yS hA).below (an _ skS)
 have m:=yT ((skW w).alloc (skL w.heap.size))
 have f:(skW w).heap.size=w.heap.size+1+1+1+1+1+1+1+1:=p
 have n:((skW w).alloc skS).heap.size=w.heap.size+1+1+1+1+1+1+1+1+1:=by rw[World.size_alloc,f]
 have o:((skW w).alloc (skL w.heap.size)).heap.size=w.heap.size+1+1+1+1+1+1+1+1+1:=by rw[World.size_alloc,f]
 rw[f]at l i
 rw[n]at h
 rw[o]at m
 have b:=Below.drew (aa g (dT (skW w) skS (skL w.heap.size)))
 have c:=Below.drew (aa g (dT (skW w) (skL w.heap.size) skS))
 have j:=Lib.hid (And.intro (l.drew (Drew.mk _ 1)) (And.intro (h.drew (Drew.mk _ 1)) b))
 have k:=Lib.hid (And.intro (m.drew (Drew.mk _ 1)) (And.intro (i.drew (Drew.mk _ 1)) c))
 clear hA g p a l h i m f n o b c
 go_enter Tryz.func12,Tryz.ntmps12
 go_wp2_with fail
 go_region
 all_goals go_wp2_with fail
 all_goals go_ret2
 ·exact⟨_,_,_,_,rfl,j.out.1,j.out.2.1,j.out.2.2⟩
 exact⟨_,_,_,_,rfl,k.out.1,k.out.2.1,k.out.2.2⟩
theorem HU{l1 l2:List ByteArray}{k:Nat}(h1:k<l1.length)(h2:k<l2.length)(h:l1[k]≠l2[k]):l1≠l2:=fun e=>by subst e;exact h rfl
theorem HV{l1 l2:List ByteArray}{k:Nat}(h1:k<l1.length)(h2:k<l2.length)(ht:l1.take k=l2.take k)(h:l1[k]=l2[k]):l1.take (k+1)=l2.take (k+1):=by
 rw[List.take_succ_eq_append_getElem h1,List.take_succ_eq_append_getElem h2,ht,h]
theorem po{S1 S2:Nat→Prop}(a1 a2:Option Addr)(c1 c2:Nat)(l1 l2:List ByteArray)(w:World)(h1:Sl strE S1 w a1 c1 l1)(h2:Sl strE S2 w a2 c2 l2):
  Calls Tryz.prog 16 #[.slice a1 l1.length c1, .slice a2 l2.length c2] w fun e w'=>e= .returned (.bool (decide (l1=l2)))∧Drew w w':=by
 have C:=h1.le
 have D:=h2.le
 by_cases j:l1.length=l2.length
 ·have o:=Lib.hid j
  have l:=Lib.hid h1
  have m:=Lib.hid h2
  clear h1 h2
  go_enter Tryz.func16,Tryz.ntmps16
  go_wp2
  clear j
  go_loopw [5] (fun i wr=>∃k:Nat,k≤l1.length∧i= .int .i64 k∧l1.take k=l2.take k∧Drew w wr) (fun i _=>l1.length-(intOf i).toNat)
  case atStart=>exact⟨0,by omega,rfl,rfl, .refl _⟩
  case round=>
   obtain⟨k,q,rfl,p,n,rfl⟩:=hrel
   have h:=Lib.hid p
   clear p
   have g:=o.out
   by_cases f:k<l1.length
   ·have c:k<l2.length:=by omega
    obtain⟨z,E,rfl,-,u,-⟩:=l.out.str k f
    obtain⟨A,F,rfl,-,v,-⟩:=m.out.str k c
    clear g
    obtain⟨x,hx⟩:∃x,l1[k]=x:=⟨_,rfl⟩
    obtain⟨y,hy⟩:∃y,l2[k]=y:=⟨_,rfl⟩
    rw[hx]at u
    rw[hy]at v
    by_cases b:x=y
    ·have t:=fe b
     have a:=Lib.hid (HV f c h.out (by rw[hx,hy];exact b))
     clear hx hy b
     go_wp2_with fail
     go_quiet (fail)
     all_goals go_wp2_with fail
     all_goals exact⟨⟨k+1,by omega,by go_num,a.out, .mk _ _⟩,by simp[intOf];omega⟩
    have t:=eM b
    have a:=Lib.hid (HU f c (by rw[hx,hy];exact b))
    clear hx hy b
    go_wp2_with fail
    go_quiet (fail)
    all_goals go_wp2_with fail
    all_goals go_ret
    all_goals exact⟨aF (decide_eq_false a.out).symm, .mk2 _ _ _⟩
   have r:¬k<l2.length:=by omega
   have s:((k:Int)<(l1.length:Int))=False:=eq_false (by omega)
   have a:=Lib.hid (show l1=l2 by
    have:=h.out
    rw[List.take_of_length_le (by omega),List.take_of_length_le (by omega)]at this
    exact this)
   clear g f q
   go_wp2_with fail
   go_ret
   exact⟨aF (decide_eq_true a.out).symm, .mk _ _⟩
 clear h1 h2
 have B:=ku j
 go_enter Tryz.func16,Tryz.ntmps16
 go_wp2_with fail
 go_ret
 exact⟨aF (decide_eq_false (fun e=>j (by rw[e]))).symm, .refl _⟩
theorem yW(x:ByteArray):eL skiL x=false:=by
 cases h:eL skiL x with
 |false=>rfl
 |true=>
  unfold eL at h
  rw[Bool.and_eq_true,List.any_eq_true]at h
  obtain⟨⟨y,hy,b⟩,a⟩:=h
  have:=Hu y hy x (memB_iff.1 b)
  cases ha:aG skiL x<;>rw[ha]at a this<;>simp_all
theorem Hx:iF aX skiL true=(true,0):=by
 have a:fJ (eL skiL)=true:=by unfold fJ;simp only[decide_eq_true_eq];exact yW
 have b:fJ (jB aX skiL)=true:=by
  unfold fJ
  simp only[decide_eq_true_eq]
  intro x
  unfold jB
  rw[yW,Bool.false_or]
  cases h:fh skiL (fun i=> !bY aX skiL i) x with
  |false=>rfl
  |true=>
   obtain⟨i,c,a,-⟩:=chB_iff.1 h
   rw[yV i c]at a
   cases a
 unfold iF
 rw[rV,a,b]
 rfl
theorem NamesRet.is{f:ByteArray→Bool}{er:Int}{w:World}{e:Ending}{w':World}{M:List ByteArray}(h:NamesRet f er w e w')(hM:AscN M)(hf:∀x,f x=true↔x∈M):
  ∃a c,e= .returned (.tuple #[.slice a M.length c, .int .i64 er])∧Sl strE (fun b=>w.heap.size≤b) w' a c M∧Below w.heap.size w w':=by
 obtain⟨v,L,rfl,g,i,j,k⟩:=h
 have e:L=M:=i.uniq hM (fun x=>(j x).trans (hf x))
 subst e
 obtain⟨a,c,rfl,hs⟩:=OwnS.strs g
 exact⟨a,c,rfl,hs,k⟩
theorem By(w:World):Calls Tryz.prog 4 #[] w fun e w'=>e= .returned (.bool true)∧Below w.heap.size w w':=by
 have v0:=Lib.hid (Hr w)
 go_enter Tryz.func4,Tryz.ntmps4
 go_wp2_with fail
 refine v0.out.mono ?_
 rintro e w1 ⟨Y,Z,V,X,rfl,hS,T,H⟩
 have v1:=AQ (b:=true) Y V Z X aX skiL w1 hS T (by decide) (fun B W xb _ hD=>BZ hD (fun x _=>Hw x))
 rw[Hx]at v1
 have ac:=Lib.hid v1
 have F:=Lib.hid hS
 have D:=Lib.hid T
 have I:=Lib.hid H
 clear v1 hS T H
 go_wp2_with fail
 refine ac.out.mono ?_
 rintro e w2 ⟨rfl,c⟩
 have v2:=AB Y V Z X aX skiL nI (by decide) w2 (F.out.below c) (D.out.below c) (by decide)
 have a:=aa I.out c
 have e2:gB aX skiL nI=(fun x=>gJ skiL (fun _=>true) nI x&&(aG skiL x).isSome,0):=by
  have:aG skiL nI=some 2:=by decide
  unfold gB;rw[rV,this];rfl
 rw[e2]at v2
 have ag:=Lib.hid v2
 have J:=Lib.hid c
 have U:=Lib.hid a
 clear v2 c a e2
 go_wp2_with fail
 refine ag.out.mono ?_
 rintro e r h3
 obtain⟨a3,c3,rfl,v,n⟩:=h3.is Hs Hv
 have f:=aa J.out n
 have a:=aa U.out n
 have hT:=Ints.new r skI 3 (by decide) (by unfold aE;decide)
 have g:=an r skT
 have G:Ints (fun b=>b=r.heap.size) (r.alloc skT) (some ⟨r.heap.size,0,none⟩) 3 skI:=hT
 have v3:=Aj Y V (some ⟨r.heap.size,0,none⟩) Z X 3 aX skiL nK skI (by decide) (r.alloc skT) ((F.out.below f).below g) ((D.out.below f).below g) G (by decide)
 have e3:fB aX skiL nK skI=(fh skiL (fun k=>bY aX skiL k&& !bY aX skiL2 k),0):=by
  have u:aG skiL nK=some 0:=by decide
  have R:dc aX skI=true:=by decide+kernel
  have h4:dP skiL 0 skI=skiL2:=rfl
  unfold fB
  rw[rV,R,u]
  show(fh skiL (fun k=>bY aX skiL k&& !bY aX (dP skiL 0 skI) k),(0:Int))=_
  rw[h4]
 rw[e3]at v3
 have al:=Lib.hid v3
 have y:=Lib.hid (v.below g)
 have K:=Lib.hid (aa a g)
 clear h3 n v f a hT g G v3 e3
 go_wp2_with fail
 refine al.out.mono ?_
 rintro e s h5
 obtain⟨a5,c5,rfl,z,o⟩:=h5.is (List.pairwise_singleton _ _) Ht
 have j:=y.out.below o
 have a:=aa K.out o
 have P:=(Sl.new (E:=strE) (S:=fun _=>False) s [[.string nK],[.string nS]] [nK,nS] 9 rfl (by decide) (fun i u R=>by
  match i,u with
  |0,_=>exact⟨rfl,(by decide:1≤aB)⟩
  |1,_=>exact⟨rfl,(by decide:1≤aB)⟩))
 have h:=an s skU
 have l:Sl strE (fun b=>False∨b=s.heap.size) (s.alloc skU) (some ⟨s.heap.size,0,none⟩) 2 [nK,nS]:=P
 have v5:=po a3 (some ⟨s.heap.size,0,none⟩) c3 2 [nK,nS] [nK,nS] (s.alloc skU) (j.below h) l
 have ao:=Lib.hid v5
 have A:=Lib.hid (z.below h)
 have L:=Lib.hid (aa a h)
 clear h5 o z j a P l h v5
 go_wp2_with fail
 refine ao.out.mono ?_
 rintro e t ⟨rfl,q⟩
 have C:=A.out.below (q.below _)
 have a:=aa L.out (q.below _)
 have Q:=(Sl.new (E:=strE) (S:=fun _=>False) t [[.string nI]] [nI] 9 rfl (by decide) (fun i u R=>by
  match i,u with
  |0,_=>exact⟨rfl,(by decide:1≤aB)⟩))
 have p:=an t (.cells #[.string nI] 9)
 have m:Sl strE (fun b=>False∨b=t.heap.size) (t.alloc (.cells #[.string nI] 9)) (some ⟨t.heap.size,0,none⟩) 1 [nI]:=Q
 have v7:=po a5 (some ⟨t.heap.size,0,none⟩) c5 1 [nI] [nI] (t.alloc (.cells #[.string nI] 9)) (C.below p) m
 have aq:=Lib.hid v7
 have M:=Lib.hid (aa a p)
 clear q C a Q m p v7
 go_wp2_with fail
 refine aq.out.mono ?_
 rintro e w9 ⟨rfl,N⟩
 have O:=Lib.hid (aa M.out (N.below _))
 clear N
 go_wp2_with fail
 go_ret
 exact⟨rfl,O.out⟩
theorem AL{S1 S2:Nat→Prop}(a1 a2:Option Addr)(c1 c2:Nat)(l1 l2:List Stp)(w:World)(h1:Steps S1 w a1 c1 l1)(h2:Steps S2 w a2 c2 l2):
  Calls Tryz.prog 79 #[.slice a1 l1.length c1, .slice a2 l2.length c2] w fun e w'=>e= .returned (.bool (decide (l1=l2)))∧Drew w w':=by
 have R:=h1.le
 have S:=h2.le
 by_cases r:l1.length=l2.length
 ·have f:=Lib.hid r
  go_enter Tryz.func79,Tryz.ntmps79
  go_wp2
  clear r
  go_loopw [5] (fun i wr=>∃k:Nat,k≤l1.length∧i= .int .i64 k∧l1.take k=l2.take k∧Drew w wr) (fun i _=>l1.length-(intOf i).toNat)
  case atStart=>exact⟨0,by omega,rfl,rfl, .refl _⟩
  case round=>
   obtain⟨k,Q,rfl,E,n,rfl⟩:=hrel
   have m:=Lib.hid E
   clear E
   have g:=f.out
   by_cases j:k<l1.length
   ·have b:k<l2.length:=by omega
    obtain⟨N,T,rfl,-,F,G,H,-⟩:=h1.stp k j
    obtain⟨O,U,rfl,-,I,J,K,-⟩:=h2.stp k b
    obtain⟨x,hx⟩:∃x,l1[k]=x:=⟨_,rfl⟩
    obtain⟨y,hy⟩:∃y,l2[k]=y:=⟨_,rfl⟩
    rw[hx]at F G H
    rw[hy]at I J K
    obtain⟨t,u,v⟩:=x
    obtain⟨z,A,B⟩:=y
    simp only at F G H I J K
    have l:=fun W=>Ib t u v z A B W
    obtain⟨s,c⟩:∃s,(!(t==z&&(u==A&&v==B)))=s:=⟨_,rfl⟩
    rw[c]at l
    have a:=Lib.hid c
    clear c
    have L:=fun W=>Ia (.tmp 20) (.tmp 24) #[.int .i64 t, .int .i64 u, .int .i64 v] #[.int .i64 z, .int .i64 A, .int .i64 B] W
    have o:=Lib.hid hx
    have p:=Lib.hid hy
    clear h1 h2 g hx hy
    cases s with
    |true=>
     go_wp2
     go_quiet (fail)
     all_goals go_wp2
     go_ret
     refine⟨aF (decide_eq_false (fun e=> ?_)).symm, .mk2 _ _ _⟩
     have C:=o.out
     have D:=p.out
     have q:=a.out
     simp only[e]at C
     rw[C]at D
     cases D
     simp at q
    |false=>
     go_wp2
     go_quiet (fail)
     all_goals go_wp2
     refine⟨⟨k+1,by omega,by go_num,?_, .mk _ _⟩,by simp[intOf];omega⟩
     have q:=a.out
     simp only[Bool.not_eq_false',Bool.and_eq_true,beq_iff_eq]at q
     obtain⟨rfl,rfl,rfl⟩:=q
     rw[List.take_succ_eq_append_getElem j,List.take_succ_eq_append_getElem b,m.out,o.out,p.out]
   clear g
   have M:¬k<l2.length:=by have:=f.out;omega
   go_wp2
   go_ret
   exact⟨aF (decide_eq_true (by have h:=m.out;rwa[List.take_of_length_le (by omega),List.take_of_length_le (by omega)]at h)).symm, .mk _ _⟩
 go_enter Tryz.func79,Tryz.ntmps79
 have P:=ku r
 go_wp2
 go_ret
 exact⟨aF (decide_eq_false (fun e=>r (by rw[e]))).symm, .refl _⟩
noncomputable instance entDec:DecidableEq Ent:=fun a b=>Classical.propDecidable (a=b)
theorem CM{x y:Ent}:x=y↔af x=af y∧aC x=aC y∧az x=az y∧ae x=ae y∧ai x=ai y:=by
 obtain⟨a,b,c,d,e⟩:=x
 obtain⟨f,g,h,i,j⟩:=y
 simp[af,aC,az,ae,ai,Prod.ext_iff]
theorem AK{S1 S2:Nat→Prop}(x y:Ent)(a1 a2 a3 b1 b2 b3:Option Addr)(c1 c2 c3 d1 d2 d3:Nat)(w:World)(hI:Ints S1 w a1 c1 (az x))(hU:Sl strE S1 w a2 c2 (ae x))(hP:Steps S1 w a3 c3 (ai x))
  (kI:Ints S2 w b1 d1 (az y)) (kU:Sl strE S2 w b2 d2 (ae y)) (kP:Steps S2 w b3 d3 (ai y)):
  Calls Tryz.prog 35 #[entV (af x) (aC x) (az x).length (ae x).length (ai x).length a1 a2 a3 c1 c2 c3,entV (af y) (aC y) (az y).length (ae y).length (ai y).length b1 b2 b3 d1 d2 d3] w fun e w'=>e= .returned (.bool (decide (x=y)))∧Below w.heap.size w w':=by
 obtain⟨W,c⟩:∃W,(w.alloc (.cells #[.string (af x), .string (aC x), .slice a1 (az x).length c1, .slice a2 (ae x).length c2, .slice a3 (ai x).length c3] 46)).alloc (.cells #[.string (af y), .string (aC y), .slice b1 (az y).length d1, .slice b2 (ae y).length d2, .slice b3 (ai y).length d3] 46)=W:=⟨_,rfl⟩
 have s:Below w.heap.size w W:=by rw[←c];exact aa (an w _) (an _ _)
 have P:W.cell? ⟨w.heap.size,0,none⟩=some (.string (af x)):=by rw[←c];clear c;go_simp
 have Q:W.cell? ⟨w.heap.size,1,none⟩=some (.string (aC x)):=by rw[←c];clear c;go_simp
 have R:W.cell? ⟨w.heap.size,2,none⟩=some (.slice a1 (az x).length c1):=by rw[←c];clear c;go_simp
 have G:W.cell? ⟨w.heap.size,3,none⟩=some (.slice a2 (ae x).length c2):=by rw[←c];clear c;go_simp
 have J:W.cell? ⟨w.heap.size,4,none⟩=some (.slice a3 (ai x).length c3):=by rw[←c];clear c;go_simp
 have S:W.cell? ⟨w.heap.size+1,0,none⟩=some (.string (af y)):=by rw[←c];clear c;go_simp
 have T:W.cell? ⟨w.heap.size+1,1,none⟩=some (.string (aC y)):=by rw[←c];clear c;go_simp
 have U:W.cell? ⟨w.heap.size+1,2,none⟩=some (.slice b1 (az y).length d1):=by rw[←c];clear c;go_simp
 have H:W.cell? ⟨w.heap.size+1,3,none⟩=some (.slice b2 (ae y).length d2):=by rw[←c];clear c;go_simp
 have K:W.cell? ⟨w.heap.size+1,4,none⟩=some (.slice b3 (ai y).length d3):=by rw[←c];clear c;go_simp
 have u:=AM a1 b1 c1 d1 (az x) (az y) W (hI.below s) (kI.below s)
 have V:=fun j (f:Below W.heap.size W j)=>po a2 b2 c2 d2 (ae x) (ae y) j ((hU.below s).below f) ((kU.below s).below f)
 have X:=fun j (f:Below W.heap.size W j)=>AL a3 b3 c3 d3 (ai x) (ai y) j ((hP.below s).below f) ((kP.below s).below f)
 have hx:=CM (x:=x) (y:=y)
 obtain⟨g,hg⟩:∃g,decide (x=y)=g:=⟨_,rfl⟩
 rw[hg]
 have m:=Lib.hid s
 have v:=Lib.hid hg
 have C:=Lib.hid hx
 have l:=Lib.hid V
 have L:=Lib.hid X
 clear hI hU hP kI kU kP s hg hx V X
 have N:=C.out
 have O:¬x=y→g=false:=fun h=>by rw[←v.out,decide_eq_false h]
 have D:x=y→g=true:=fun h=>by rw[←v.out,decide_eq_true h]
 generalize af x=nx at*
 generalize af y=ny at*
 generalize aC x=bx at*
 generalize aC y=I at*
 have k:=Lib.hid N
 have o:=Lib.hid O
 have E:=Lib.hid D
 clear N O D C v
 by_cases q:nx=ny
 ·have t1:=fe q
  by_cases f:bx=I
  ·have t2:=fe f
   by_cases hs:az x=az y
   ·rw[decide_eq_true hs]at u
    have r:=Lib.hid u
    clear u
    by_cases A:ae x=ae y
    ·have l:=Lib.hid (fun j f=>(by have:=l.out j f;rw[decide_eq_true A]at this;exact this:Calls Tryz.prog 16 #[.slice a2 (ae x).length c2, .slice b2 (ae y).length d2] j fun e w'=>e= .returned (.bool true)∧Drew j w'))
     have a:=Lib.hid (show decide (ai x=ai y)=g from by
      by_cases F:ai x=ai y
      ·rw[decide_eq_true F];exact(E.out (k.out.2 ⟨q,f,hs,A,F⟩)).symm
      rw[decide_eq_false F];exact(o.out (fun h=>F (k.out.1 h).2.2.2.2)).symm)
     clear q f hs A
     dsimp only[entV]
     go_enter Tryz.func35,Tryz.ntmps35
     go_wp2_with fail
     try rw[c]
     go_wp2_with fail
     refine r.out.mono ?_
     rintro e B ⟨rfl,hd⟩
     have b:=hd.below W.heap.size
     have z3:=cell_later b G
     have z4:=cell_later b J
     have Y:=cell_later b H
     have Z:=cell_later b K
     have z:=Lib.hid (l.out B b)
     have n:=Lib.hid b
     clear hd b P Q R G J S T U H K
     go_wp2_with fail
     refine z.out.mono ?_
     rintro e w2 ⟨rfl,hd⟩
     have p:=hd.below B.heap.size
     have au:=cell_later p z4
     have aq:=cell_later p Z
     have t:=Lib.hid (aa n.out p)
     have M:=Lib.hid (L.out w2 t.out)
     clear hd p z3 z4 Y Z
     go_wp2_with fail
     refine M.out.mono ?_
     rintro e w3 ⟨rfl,hd⟩
     have i:=Lib.hid (aa m.out (aa t.out (hd.below w2.heap.size)))
     clear hd
     go_wp2_with fail
     go_ret
     exact⟨aF a.out,i.out⟩
    have l:=Lib.hid (fun j f=>(by have:=l.out j f;rw[decide_eq_false A]at this;exact this:Calls Tryz.prog 16 #[.slice a2 (ae x).length c2, .slice b2 (ae y).length d2] j fun e w'=>e= .returned (.bool false)∧Drew j w'))
    have a:=Lib.hid (o.out (fun h=>A (k.out.1 h).2.2.2.1))
    clear q f hs A
    dsimp only[entV]
    go_enter Tryz.func35,Tryz.ntmps35
    go_wp2_with fail
    try rw[c]
    go_wp2_with fail
    refine r.out.mono ?_
    rintro e B ⟨rfl,hd⟩
    have b:=hd.below W.heap.size
    have z3:=cell_later b G
    have Y:=cell_later b H
    have z:=Lib.hid (l.out B b)
    have n:=Lib.hid b
    clear hd b P Q R G J S T U H K
    go_wp2_with fail
    refine z.out.mono ?_
    rintro e w2 ⟨rfl,hd⟩
    have i:=Lib.hid (aa m.out (aa n.out (hd.below B.heap.size)))
    clear hd
    go_wp2_with fail
    go_ret
    exact⟨aF a.out.symm,i.out⟩
   rw[decide_eq_false hs]at u
   have r:=Lib.hid u
   have a:=Lib.hid (o.out (fun h=>hs (k.out.1 h).2.2.1))
   clear u q f hs
   dsimp only[entV]
   go_enter Tryz.func35,Tryz.ntmps35
   go_wp2_with fail
   try rw[c]
   go_wp2_with fail
   refine r.out.mono ?_
   rintro e B ⟨rfl,hd⟩
   have i:=Lib.hid (aa m.out (hd.below W.heap.size))
   clear hd
   go_wp2_with fail
   go_ret
   exact⟨aF a.out.symm,i.out⟩
  have t2:=eM f
  have a:=Lib.hid (o.out (fun h=>f (k.out.1 h).2.1))
  clear q f u
  dsimp only[entV]
  go_enter Tryz.func35,Tryz.ntmps35
  go_wp2_with fail
  try rw[c]
  go_wp2_with fail
  go_ret
  exact⟨aF a.out.symm,m.out⟩
 have t1:=eM q
 have a:=Lib.hid (o.out (fun h=>q (k.out.1 h).1))
 clear q u
 dsimp only[entV]
 go_enter Tryz.func35,Tryz.ntmps35
 go_wp2_with fail
 try rw[c]
 go_wp2_with fail
 go_ret
 exact⟨aF a.out.symm,m.out⟩
end Go.Proofs.YtlejmeegkpdabaaGreatDoor
