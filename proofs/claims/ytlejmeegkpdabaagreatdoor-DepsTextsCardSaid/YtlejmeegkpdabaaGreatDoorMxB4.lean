/- The proof of a statement, some of its texts joined in build order: part B4. -/
import Derived.Test.YtlejmeegkpdabaaGreatDoorMxB3
import Derived.Test.YtlejmeegkpdabaaGreatDoorMxK13
set_option maxHeartbeats 8000000
set_option maxRecDepth 20000
namespace Go.Proofs.YtlejmeegkpdabaaGreatDoor
open Go Go.RowKit Go.Maps
theorem Ca(v:Int)(w:World)(h0:0≤v)(h1:v≤1000000):Calls Tryz.prog 259 #[.int .i64 v] w fun e w'=>e= .returned (.int .i64 (-v-1))∧w=w':=by
 have a:IntKind.i64.wrap (-v)=-v:=IntWalk.i64_in _ (by omega)
 have b:IntKind.i64.wrap (-v-1)=-v-1:=IntWalk.i64_in _ (by omega)
 go_enter Tryz.func259,Tryz.ntmps259
 go_wp2_with fail
 go_ret
 exact⟨rfl,rfl⟩
def Fg(t:List Int)(w:World)(out i:Value)(wr:World):Prop:=
 ∃k:Nat,i= .int .i64 k∧k≤t.length∧IMap Tryz.prog 3 3 wr w.heap.size (aD (t.take k)).length (dY t k)∧OwnI wr (w.heap.size+1) out ((t.take k).map (bO (aD t)))∧Below w.heap.size w wr
theorem q6{w:World}{base:Nat}{v:Value}{l:List Int}(ho:OwnI w base v l)(x:Int)(hx:aE x)(hl:l.length≤10000000)(hb:base≤w.heap.size):
  ∃v' w',RowKit.Hid ((Builtin.append_ #[42,42] 42 #[v, .slice (some ⟨w.heap.size,0,none⟩) 1 1]).run Tryz.prog (w.alloc (.cells #[.int .i64 x] 3))= .ok v' w')∧RowKit.Hid (OwnI w' base v' (l++[x]))∧RowKit.Hid (w.grownBy w' v.ownBlock):=by
 obtain⟨v',w',a,b,hg,-⟩:=ho.push (P:=Tryz.prog) (t:=42) (ty:=42) Tryz.underlying42 gW rfl (vs:=[.int .i64 x]) (x:=x) ⟨rfl,hx⟩ (by omega) (by unfold aB;omega) hb
 exact⟨v',w',Lib.hid a,Lib.hid b,Lib.hid hg⟩
theorem Fn{S:Nat→Prop}(a:Option Addr)(c:Nat)(t:List Int)(w:World)(h:Ints S w a c t)(hl:t.length≤dI):
  Calls Tryz.prog 254 #[.slice a t.length c] w fun e w'=>∃v,e= .returned (.tuple #[v, .bool (decide ((aD t).length≤12))])∧OwnI w' w.heap.size v (cz t)∧Below w.heap.size w w':=by
 have m:=h.le
 have a2:= @run_makeMap Tryz.prog
 have a1:=Lib.hid hl
 have a0:t.length≤1000000:=hl
 go_enter Tryz.func254,Tryz.ntmps254
 go_wp2_with fail
 go_loopw [5,13] (fun out i wr=>Fg t w out i wr) (fun _ i _=>t.length-(intOf i).toNat)
 case atStart=>exact⟨0,rfl,Nat.zero_le _,by rw[xm];exact IMap.made w, .nil _ _ _ _ _,an _ _⟩
 case round=>
  obtain⟨k,rfl,hk,D,R,T⟩:=hrel
  have Y:((t.take k).map (bO (aD t))).length≤10000000:=by rw[List.length_map,List.length_take];omega
  have ax:=D.lt
  by_cases K:k<t.length
  ·obtain⟨b,o,rfl,-,q,I⟩:=(h.below T).int k K
   have g:(t.take (k+1)).map (bO (aD t))=(t.take k).map (bO (aD t))++[bO (aD t) t[k]]:=by rw[List.take_succ_eq_append_getElem K,List.map_append];rfl
   have E:∀q,u5.ownBlock=some q→w.heap.size<q:=fun q hq=>by have:=(OwnL.lt R q hq).1;omega
   obtain⟨x,hx⟩:∃x,t[k]=x:=⟨_,rfl⟩
   rw[hx]at q I g
   have L:=Lib.hid hx
   clear hx
   have r:∀{W W':World} {n f},IMap Tryz.prog 3 3 W w.heap.size n f→W.grownBy W' u5.ownBlock→IMap Tryz.prog 3 3 W' w.heap.size n f:=fun D hg=>D.same (hg.block _ D.lt (fun e=>by have:=E _ e.symm;omega))
   by_cases h0:0≤x
   ·obtain⟨s,B⟩:=nX K (.inl (by rw[L.out];exact h0))
    rw[iT h0]at g
    obtain⟨v',w',F,Q,hg⟩:=q6 R x I Y (by omega)
    have p:=F.out
    have G:=Lib.hid g
    have P:=Lib.hid (r D hg.out)
    have M:=Lib.hid (T.grown hg.out T.size (fun j e=>by have:=E _ e;omega))
    have aj:=Lib.hid s
    have C:=Lib.hid B
    have a4:¬x<0:=by omega
    clear D R s B h hg g r E
    go_wp2_with (at_builtin;refine bo rfl _ _ _ rfl rfl rfl p ?_)
    clear p
    go_roundw
    case rel=>exact⟨k+1,by go_num,by omega,by rw[aj.out,C.out];exact P.out,by rw[G.out];exact Q.out,M.out⟩
    case measure=>simp[intOf];omega
   have ac:x<0:=by omega
   have u:=D.look_ok (tm:=159) Tryz.underlying159 Tryz.underlying3 Tryz.underlying3 (kg wr) x I
   have J:=pO (t:=t) I hl
   by_cases hv:x∈aD (t.take k)
   ·have A:=nU hv
    have l:=D.look (tm:=159) Tryz.underlying159 Tryz.underlying3 Tryz.underlying3 (kg wr) x I
    rw[A]at u l
    simp only[Option.getD_some,Option.isSome_some]at u l
    obtain⟨s,B⟩:=nX K (.inr (by rw[L.out];exact hv))
    obtain⟨y,hy⟩:∃y,bO (aD t) x=y:=⟨_,rfl⟩
    rw[hy]at u l J g
    obtain⟨v',w',F,Q,hg⟩:=q6 R y J Y (by omega)
    have p:=F.out
    have G:=Lib.hid g
    have P:=Lib.hid (r D hg.out)
    have M:=Lib.hid (T.grown hg.out T.size (fun j e=>by have:=E _ e;omega))
    have aj:=Lib.hid s
    have C:=Lib.hid B
    clear D R s B h hg g r E A hv hy
    go_wp2_with (at_builtin;refine bo rfl _ _ _ rfl rfl rfl p ?_)
    clear p
    go_roundw
    case rel=>exact⟨k+1,by go_num,by omega,by rw[aj.out,C.out];exact P.out,by rw[G.out];exact Q.out,M.out⟩
    case measure=>simp[intOf];omega
   obtain⟨s,B⟩:=xl K (by rw[L.out];exact ac) (by rw[L.out];exact hv)
   rw[L.out]at s
   have H:dY t k x=none:=by unfold dY;rw[if_neg hv]
   have ad:x∈aD (t.take (k+1)):=by rw[mx K,L.out,cS,if_pos ⟨ac,hv⟩];simp
   have A:=nU ad
   obtain⟨y,hy⟩:∃y,bO (aD t) x=y:=⟨_,rfl⟩
   obtain⟨n,hn⟩:∃n,(aD (t.take k)).length=n:=⟨_,rfl⟩
   have a3:n≤t.length:=by have:=mw (t.take k);simp at this;omega
   rw[hy]at A J g
   rw[hn]at s B D
   have Z:y=-(n:Int)-1:=by
    have h1:=A
    rw[s]at h1
    simp at h1;omega
   rw[H]at u
   simp only[Option.getD_none,Option.isSome_none]at u
   have ab:=D.len (tm:=159) Tryz.underlying159 3
   obtain⟨w2,aP,X,V⟩:=D.store (tm:=159) Tryz.underlying159 Tryz.underlying3 Tryz.underlying3 (by unfold maxLen;omega) x I y J H
   rw[Z]at aP
   have av:(fun z=>if z=x then some y else dY t k z)=dY t (k+1):=by rw[s,Z]
   rw[av]at X
   have l:=X.look (tm:=159) Tryz.underlying159 Tryz.underlying3 Tryz.underlying3 (kg w2) x I
   rw[A]at l
   simp only[Option.getD_some]at l
   rw[Z]at l g J
   have aL:=OwnL.grown R V (fun q hq e=>by cases e;have:=E _ hq;omega) (fun b hb _=>hb.elim)
   have ag:=T.grown V T.size (fun j e=>by cases e;exact Nat.le_refl _)
   obtain⟨v',w',F,Q,hg⟩:=q6 aL (-(n:Int)-1) J Y (Nat.le_trans (show w.heap.size+1≤wr.heap.size by omega) V.size)
   have p:=F.out
   have N:=fun W=>Ca (n:Int) W (by omega) (by omega)
   have G:=Lib.hid g
   have P:=Lib.hid (r X hg.out)
   have M:=Lib.hid (ag.grown hg.out ag.size (fun j e=>by have:=E _ e;omega))
   have C:=Lib.hid B
   have U:=Lib.hid N
   clear D R s B h hg g r E A hv hy X aL ag av H ad Z V hn N
   go_wp2_with (first|(go_at_call 259;refine(U.out _).mono ?_;rintro e w9 ⟨rfl,rfl⟩)|(at_builtin;refine bo rfl _ _ _ rfl rfl rfl p ?_))
   clear p
   go_roundw
   case rel=>exact⟨k+1,by go_num,by omega,by rw[C.out];exact P.out,by rw[G.out];exact Q.out,M.out⟩
   case measure=>simp[intOf];omega
  have O:t.take k=t:=List.take_of_length_le (by omega)
  rw[O]at D R
  have ab:=D.len (tm:=159) Tryz.underlying159 3
  have aN:=Lib.hid (OwnL.baseMono (base':=w.heap.size) R (by omega))
  obtain⟨n,hn⟩:∃n,(aD t).length=n:=⟨_,rfl⟩
  rw[hn]at ab
  have ay:=Lib.hid hn
  clear D R h hn O ax Y
  by_cases aq:n≤12
  ·have au:decide ((n:Int)≤12)=true:=by simp;omega
   go_wp2_with fail
   go_ret2
   exact⟨_,by rw[ay.out,decide_eq_true aq];rfl,aN.out,T⟩
  have au:decide ((n:Int)≤12)=false:=by simp;omega
  go_wp2_with fail
  go_ret2
  exact⟨_,by rw[ay.out,decide_eq_false aq];rfl,aN.out,T⟩
structure FB (K B0:Nat) (w w':World):Prop where
 os:w'.os=w.os
 tape:w'.tape=w.tape
 output:w'.output=w.output
 size:w.heap.size≤w'.heap.size
 block:∀b,b<K→b≠B0→w'.heap[b]?=w.heap[b]?
section
variable {K B0:Nat}{w w1 w2:World}
theorem FB.refl(K B0:Nat)(w:World):FB K B0 w w:=⟨rfl,rfl,rfl,Nat.le_refl _,fun _ _ _=>rfl⟩
theorem FB.trans(h:FB K B0 w w1)(k:FB K B0 w1 w2):FB K B0 w w2:=⟨k.os.trans h.os,k.tape.trans h.tape,k.output.trans h.output,Nat.le_trans h.size k.size,fun b c a=>(k.block b c a).trans (h.block b c a)⟩
theorem FB.below(h:FB K B0 w w1){C:Nat}(h1:C≤K)(h2:C≤B0):Below C w w1:=⟨h.os,h.tape,h.output,h.size,fun b a=>h.block b (by omega) (by omega)⟩
theorem FB.cell(h:FB K B0 w w1){b off:Nat}{v:Value}(hb:b<K)(hne:b≠B0)(hc:w.cell? ⟨b,off,none⟩=some v):w1.cell? ⟨b,off,none⟩=some v:=(World.cell?_of_block (w:=w) (h.block b hb hne)).trans hc
end
structure FulW (w0 w:World) (xb mb nb:Nat) (a1:Option Addr) (c1:Nat) (s:Sg) (B:Bd) (xx wb ob K:Nat) (o:List Int):Prop where
 S:SolvW w0 w xb mb nb a1 c1 s B
 cx:w.cell? ⟨xx,0,none⟩=some (.pointer (some ⟨xb,0,none⟩))
 cw:w.cell? ⟨wb,0,none⟩=some (.func (.func 258) #[] #[.pointer (some ⟨xx,0,none⟩), .pointer (some ⟨wb,0,none⟩), .pointer (some ⟨ob,0,none⟩)])
 lts:xb<K∧mb<K∧xx<K∧wb<K∧ob<K
 nes:xb≠ob∧mb≠ob∧xx≠ob∧wb≠ob
 low:w0.heap.size≤ob
 box:∃v,Boxed w ob 42 v∧OwnI w K v o
 size:K≤w.heap.size
section
variable {w0 w w1:World}{xb mb nb:Nat}{a1:Option Addr}{c1:Nat}{s:Sg}{B:Bd}{xx wb ob K:Nat}{o o':List Int}
theorem FulW.turn(h:FulW w0 w xb mb nb a1 c1 s B xx wb ob K o)(hf:FB K ob w w1)(hb:∃v,Boxed w1 ob 42 v∧OwnI w1 K v o'):FulW w0 w1 xb mb nb a1 c1 s B xx wb ob K o':=by
 obtain⟨a,j,k,l,m⟩:=h.lts
 obtain⟨b,n,p,q⟩:=h.nes
 have hS:=h.S
 refine⟨⟨hf.cell a b hS.k0,hf.cell a b hS.k1,?_,hS.bx,hS.bm,hS.ne,hS.sg,hS.bel.trans (hf.below (Nat.le_trans h.low (Nat.le_of_lt m)) h.low),hS.wf⟩,hf.cell k p h.cx,hf.cell l q h.cw,h.lts,h.nes,h.low,hb,Nat.le_trans h.size hf.size⟩
 obtain⟨f,c,g,i⟩:=hS.map
 exact⟨f,c.same (hf.block mb j n),g,i⟩
theorem FulW.push(h:FulW w0 w xb mb nb a1 c1 s B xx wb ob K o)(x:Int)(hx:aE x)(hl:o.length≤1000):
  ∃v w2 a' cap,RowKit.Hid (w.cell? ⟨ob,0,none⟩=some v)∧RowKit.Hid ((Builtin.append_ #[42,42] 42 #[v, .slice (some ⟨w.heap.size,0,none⟩) 1 1]).run Tryz.prog (w.alloc (.cells #[.int .i64 x] 3))= .ok (.slice a' (o.length+1) cap) w2)∧
   RowKit.Hid (w2.cell? ⟨ob,0,none⟩=some v)∧RowKit.Hid (w2.frozen? ⟨ob,0,none⟩=false)∧RowKit.Hid (FB K ob w (w2.setCell ⟨ob,0,none⟩ (.slice a' (o.length+1) cap)))∧
   RowKit.Hid (FulW w0 (w2.setCell ⟨ob,0,none⟩ (.slice a' (o.length+1) cap)) xb mb nb a1 c1 s B xx wb ob K (o++[x]))∧RowKit.Hid ((w2.setCell ⟨ob,0,none⟩ (.slice a' (o.length+1) cap)).cell? ⟨ob,0,none⟩=some (.slice a' (o.length+1) cap)):=by
 obtain⟨v,y,m⟩:=h.box
 obtain⟨v',w2,g,f,hg,-⟩:=m.push (P:=Tryz.prog) (t:=42) (ty:=42) Tryz.underlying42 gW rfl (vs:=[.int .i64 x]) (x:=x) ⟨rfl,hx⟩ (by omega) (by unfold aB;omega) h.size
 obtain⟨a',cap,rfl,-⟩:=f.sl
 rw[List.length_append,List.length_singleton]at g f
 have C:=h.lts.2.2.2.2
 have j:∀{u:Value} {W:World} {l},OwnI W K u l→u.ownBlock≠some ob:=fun m e=>by have:=(OwnL.lt m _ e).1;omega
 have i:Boxed w2 ob 42 v:=y.kept hg (fun e=>j m e.symm)
 have c:w2.grownBy (w2.setCell ⟨ob,0,none⟩ (.slice a' (o.length+1) cap)) (some ob):=grownBy_setCell' _ _ _
 have q:=OwnL.grown f c (fun k z e=>by cases e;exact j f z) (fun b p _=>p.elim)
 have n:Boxed (w2.setCell ⟨ob,0,none⟩ (.slice a' (o.length+1) cap)) ob 42 (.slice a' (o.length+1) cap):=i.set _
 have a:Below K w w2:=(Below.refl K w).grown hg h.size (fun k e=>(OwnL.lt m k e).1)
 have r:FB K ob w (w2.setCell ⟨ob,0,none⟩ (.slice a' (o.length+1) cap)):=
  ⟨c.os.trans a.os,c.tape.trans a.tape,c.output.trans a.output,Nat.le_trans a.size c.size,fun b p A=>(c.block b (Nat.lt_of_lt_of_le p (Nat.le_trans h.size a.size)) (fun e=>A (by cases e;rfl))).trans (a.block b p)⟩
 exact⟨v,w2,a',cap,Lib.hid y.cell,Lib.hid g,Lib.hid i.cell,Lib.hid i.frozen,Lib.hid r,Lib.hid (h.turn r ⟨_,n,q⟩),Lib.hid n.cell⟩
end
def C5(w0:World)(xb mb nb:Nat)(a1:Option Addr)(c1:Nat)(s:Sg)(B:Bd)(θ:Int→List Int)(xx wb ob K:Nat)(o t:List Int)(w:World)(e:Ending)(w':World):Prop:=
 ∃r o',e= .returned (.bool r)∧FB K ob w w'∧FulW w0 w' xb mb nb a1 c1 s B xx wb ob K o'∧(r=true→o'=o++ap θ t∧o'.length≤60)∧(r=false→60<(o++ap θ t).length)
def uO(w0:World)(xb mb nb:Nat)(a1:Option Addr)(c1:Nat)(s:Sg)(B:Bd)(θ:Int→List Int)(xx wb ob K:Nat)(o t:List Int)(w:World)(jv:Value)(wr:World):Prop:=
 ∃(j:Nat),jv= .int .i64 j∧j≤t.length∧FB K ob w wr∧FulW w0 wr xb mb nb a1 c1 s B xx wb ob K (o++ap θ (t.take j))∧(o++ap θ (t.take j)).length≤60
theorem wL(a b:List Int):(a++b).length=a.length+b.length:=List.length_append
theorem A2{θ:Int→List Int}{t:List Int}{j:Nat}(h:j<t.length):ap θ (t.take (j+1))=ap θ (t.take j)++ap θ [t[j]]∧(ap θ (t.take j)++ap θ [t[j]]).length≤(ap θ t).length:=by
 have e:ap θ (t.take (j+1))=ap θ (t.take j)++ap θ [t[j]]:=by rw[List.take_succ_eq_append_getElem h,fx]
 refine⟨e,?_⟩
 rw[←e]
 have:ap θ t=ap θ (t.take (j+1))++ap θ (t.drop (j+1)):=by rw[←fx,List.take_append_drop]
 rw[this,List.length_append];omega
theorem C4{w0:World}{xb mb nb:Nat}{a1:Option Addr}{c1:Nat}{s:Sg}{B:Bd}{θ:Int→List Int}{ρ:Int→Nat}(hSl:Slv s B θ ρ)(xx wb ob KK:Nat):
  ∀(K:Nat) (t:List Int) (a:Option Addr) (c:Nat) (o:List Int) (w:World),(∀m∈t,m<0→ρ m<K)→T0 w0 a c t→FulW w0 w xb mb nb a1 c1 s B xx wb ob KK o→o.length≤60→
   Calls Tryz.prog 258 #[.slice a t.length c, .pointer (some ⟨xx,0,none⟩), .pointer (some ⟨wb,0,none⟩), .pointer (some ⟨ob,0,none⟩)] w (C5 w0 xb mb nb a1 c1 s B θ xx wb ob KK o t w):=by
 intro K
 induction K using Nat.strongRecOn with
 |_ K ih=>
  intro t a c o w hK hT hF U
  have bp:=Lib.hid ih
  have a9:=Lib.hid hK
  have bb:=Lib.hid hT
  have a5:=Lib.hid hF
  have bn:=Lib.hid U
  have m2:=hT.le
  clear ih hK hT hF U
  go_enter Tryz.func258,Tryz.ntmps258
  go_wp2_with fail
  go_loopw [12] (fun jv wr=>uO w0 xb mb nb a1 c1 s B θ xx wb ob KK o t w jv wr) (fun jv _=>t.length-(intOf jv).toNat)
  case atStart=>exact⟨0,rfl,Nat.zero_le _, .refl _ _ _,by rw[List.take_zero,ki,List.append_nil];exact a5.out,by rw[List.take_zero,ki,List.append_nil];exact bn.out⟩
  case round=>
   obtain⟨j,rfl,hj,hf,F,i⟩:=hrel
   by_cases ac:j<t.length
   ·obtain⟨b,b6,rfl,-,q,hr⟩:=(bb.out.below F.S.bel).int j ac
    obtain⟨hcut,aP⟩:=A2 (θ:=θ) ac
    have G:=a9.out t[j] (List.getElem_mem ac)
    obtain⟨x,hx⟩:∃x,t[j]=x:=⟨_,rfl⟩
    rw[hx]at q hr hcut aP G
    obtain⟨oj,J⟩:∃u,o++ap θ (t.take j)=u:=⟨_,rfl⟩
    have A:o++ap θ (t.take (j+1))=oj++ap θ [x]:=by rw[hcut,←List.append_assoc,J]
    have Q:(oj++ap θ [x]).length≤(o++ap θ t).length:=by rw[←J,List.append_assoc,wL o,wL o];omega
    rw[J]at F i
    have k1:=F.S.k1
    have cx:=F.cx
    have cw:=F.cw
    have D:=Lib.hid hf
    have k:=Lib.hid F
    have P:=Lib.hid A
    have R:=Lib.hid Q
    have g:=Lib.hid i
    clear hf F hcut aP A Q J hx i
    cases M:B x with
    |some u=>
     have aU:=hSl.wf x u M
     have aW:=aU.2
     obtain⟨a3,c3,bm,aL⟩:=k.out.S.map.look_some x hr M
     have cu:=bp.out (ρ x) (G aW) u a3 c3 oj wr (fun m hm h0=>hSl.rk x u M m hm h0) aL k.out g.out
     have n:ap θ [x]=ap θ u:=by rw[cZ aW,hSl.bnd x u M]
     have X:=Lib.hid n
     have a2:=Lib.hid cu
     clear n cu aL aU M G
     go_wp2_with fail
     (with_reducible refine a2.out.mono ?_)
     rintro e w3 ⟨r,o',rfl,I,y,aj,ad⟩
     cases r with
     |true=>
      obtain⟨e3,l3⟩:=aj rfl
      have l:o'=o++ap θ (t.take (j+1)):=by rw[P.out,X.out];exact e3
      rw[l]at y l3
      have z:=Lib.hid y
      have C:=Lib.hid (D.out.trans I)
      have bt:=Lib.hid l3
      clear I y aj ad l e3 l3 cx cw k1
      go_wp2_with fail
      go_roundw
      case rel=>exact⟨j+1,by go_num,by omega,C.out,z.out,bt.out⟩
      case measure=>simp[intOf];omega
     |false=>
      have hn:=ad rfl
      have E:60<(o++ap θ t).length:=by have:=R.out;rw[X.out]at this;omega
      have z:=Lib.hid y
      have C:=Lib.hid (D.out.trans I)
      have bf:=Lib.hid E
      clear I y aj ad hn E cx cw k1
      go_wp2_with fail
      go_ret
      exact⟨false,_,rfl,C.out,z.out,(fun h=>by cases h),fun _=>bf.out⟩
    |none=>
     have bm:=k.out.S.map.look_none x hr M
     have n:ap θ [x]=[x]:=by
      by_cases h0:x<0
      ·rw[cZ h0,hSl.free x h0 M]
      rw[bM h0,ki]
     obtain⟨v,w2,a',Y,cv,W,ao,aR,ax,aN,aq⟩:=k.out.push x hr (by have:=g.out;omega)
     have b1:=cv.out
     have f:=W.out
     have bv:=ao.out
     have bP:=aR.out
     have au:=aq.out
     have l:oj++[x]=o++ap θ (t.take (j+1)):=by rw[P.out,n]
     have p:=aN.out
     rw[l]at p
     have T:oj.length+1=(o++ap θ (t.take (j+1))).length:=by rw[←l,List.length_append,List.length_singleton]
     have ab:=R.out
     rw[n,List.length_append,List.length_singleton]at ab
     have O:=Lib.hid p
     have N:=Lib.hid (D.out.trans ax.out)
     have Z:=Lib.hid T
     have aT:=Lib.hid ab
     clear n M G aN ax l p T ab cv W ao aR aq cw
     obtain⟨L,H⟩:∃L,oj.length=L:=⟨_,rfl⟩
     rw[H]at f au
     have b2:=Lib.hid H
     by_cases a4:L+1≤60
     ·have hd:decide ((60:Int)<((L+1:Nat):Int))=false:=by simp;omega
      have V:uO w0 xb mb nb a1 c1 s B θ xx wb ob KK o t w (.int .i64 ((j+1:Nat):Int)) (w2.setCell ⟨ob,0,none⟩ (.slice a' (L+1) Y)):=⟨j+1,rfl,by omega,by rw[←H];exact N.out,by rw[←H];exact O.out,by rw[←Z.out,H];exact a4⟩
      have ag:=Lib.hid V
      clear V H
      go_wp2_with (at_builtin;refine bo rfl _ _ _ rfl rfl rfl f ?_)
      all_goals
       go_roundw
       case rel=>exact ag.out
       case measure=>simp[intOf];omega
     have hd:decide ((60:Int)<((L+1:Nat):Int))=true:=by simp;omega
     have aO:=Lib.hid (show FulW w0 (w2.setCell ⟨ob,0,none⟩ (.slice a' (L+1) Y)) xb mb nb a1 c1 s B xx wb ob KK (o++ap θ (t.take (j+1)))by rw[←H];exact O.out)
     have ay:=Lib.hid (show FB KK ob w (w2.setCell ⟨ob,0,none⟩ (.slice a' (L+1) Y))by rw[←H];exact N.out)
     have bl:=Lib.hid (show 60<(o++ap θ t).length by have:=aT.out;omega)
     clear H
     go_wp2_with (at_builtin;refine bo rfl _ _ _ rfl rfl rfl f ?_)
     all_goals
      go_ret
      exact⟨false,_,rfl,ay.out,aO.out,(fun h=>by cases h),fun _=>bl.out⟩
   obtain rfl:j=t.length:=by omega
   rw[List.take_length]at F i
   have k:=Lib.hid F
   have g:=Lib.hid i
   have D:=Lib.hid hf
   clear F i hf
   go_wp2_with fail
   go_ret
   exact⟨true,_,rfl,D.out,k.out,fun _=>⟨rfl,g.out⟩,fun h=>by cases h⟩
theorem C3{w0 w W:World}{xb mb nb:Nat}{a1:Option Addr}{c1:Nat}{s:Sg}{B:Bd}(hS:SolvW w0 w xb mb nb a1 c1 s B)(t1 t3:TypeId)
  (hW:((w.alloc (.cells #[.pointer (some ⟨xb,0,none⟩)] t1)).alloc (.cells #[.slice none 0 0] 42)).alloc (.cells #[.func (.func 258) #[] #[.pointer (some ⟨w.heap.size,0,none⟩), .pointer (some ⟨w.heap.size+1+1,0,none⟩), .pointer (some ⟨w.heap.size+1,0,none⟩)]] t3)=W):
  FulW w0 W xb mb nb a1 c1 s B w.heap.size (w.heap.size+1+1) (w.heap.size+1) (w.heap.size+1+1+1) []∧Below w.heap.size w W:=by
 have a:Below w.heap.size w W:=by rw[←hW];exact jy _ _ _ _
 have b:W.cell? ⟨w.heap.size,0,none⟩=some (.pointer (some ⟨xb,0,none⟩)):=by rw[←hW];clear hW;go_simp
 have c:W.cell? ⟨w.heap.size+1+1,0,none⟩=some (.func (.func 258) #[] #[.pointer (some ⟨w.heap.size,0,none⟩), .pointer (some ⟨w.heap.size+1+1,0,none⟩), .pointer (some ⟨w.heap.size+1,0,none⟩)]):=by rw[←hW];clear hW;go_simp
 have g:Boxed W (w.heap.size+1) 42 (.slice none 0 0):=by
  rw[←hW]
  have:=(Boxed.new (w.alloc (.cells #[.pointer (some ⟨xb,0,none⟩)] t1)) 42 (.slice none 0 0)).alloc (.cells #[.func (.func 258) #[] #[.pointer (some ⟨w.heap.size,0,none⟩), .pointer (some ⟨w.heap.size+1+1,0,none⟩), .pointer (some ⟨w.heap.size+1,0,none⟩)]] t3)
  rw[World.size_alloc]at this
  exact this
 have hx:=hS.lt
 have h:=hS.map.lt
 have i:=hS.bel.size
 have f:W.heap.size=w.heap.size+1+1+1:=by rw[←hW];simp
 exact⟨⟨hS.below a,b,c,⟨by omega,by omega,by omega,by omega,by omega⟩,⟨by omega,by omega,by omega,by omega⟩,by omega,⟨_,g, .nil _ _ _ _ _⟩,by omega⟩,a⟩
theorem C6{w0 w:World}{xb mb nb:Nat}{a1:Option Addr}{c1:Nat}{s:Sg}{B:Bd}{θ:Int→List Int}{ρ:Int→Nat}(hS:SolvW w0 w xb mb nb a1 c1 s B)(hSl:Slv s B θ ρ){a:Option Addr}{c:Nat}{t:List Int}(ht:T0 w0 a c t):
  Calls Tryz.prog 253 #[.pointer (some ⟨xb,0,none⟩), .slice a t.length c] w fun e w'=>∃v r o',e= .returned (.tuple #[v, .bool r])∧OwnI w' w.heap.size v o'∧Below w.heap.size w w'∧(r=true→o'=ap θ t∧o'.length≤60)∧(r=false→60<(ap θ t).length):=by
 obtain⟨K,y⟩:=rE ρ t
 have k:=Lib.hid hS
 have F:=ht.le
 have key:=fun E D A x W=>C4 (w0:=w0) (xb:=xb) (mb:=mb) (nb:=nb) (a1:=a1) (c1:=c1) hSl E D A x K t a c [] W y ht
 have i:=Lib.hid key
 clear key hS
 go_enter Tryz.func253,Tryz.ntmps253
 go_wp2_with fail
 obtain⟨p,o⟩:=C3 k.out _ _ rfl
 (with_reducible refine(i.out _ _ _ _ _ p (by decide)).mono ?_)
 rintro e G ⟨r,o',rfl,h,g,f,b⟩
 rw[List.nil_append]at b
 simp only[List.nil_append]at f
 obtain⟨v,u,q⟩:=g.box
 have z:=u.cell
 have m:=Lib.hid (OwnL.baseMono (base':=w.heap.size) q (by omega))
 have j:=Lib.hid (o.trans (h.below (C:=w.heap.size) (by omega) (by omega)))
 have n:=Lib.hid f
 have l:=Lib.hid b
 clear p o h g f b u q
 go_wp2_with fail
 go_ret2
 exact⟨v,r,o',rfl,m.out,j.out,n.out,l.out⟩
theorem EO{w0 w:World}{xb mb nb:Nat}{a1:Option Addr}{c1:Nat}{s:Sg}{B:Bd}{θ:Int→List Int}{ρ:Int→Nat}(hS:SolvW w0 w xb mb nb a1 c1 s B)(hSl:Slv s B θ ρ){a:Option Addr}{c:Nat}{t:List Int}(ht:T0 w0 a c t):
  Calls Tryz.prog 250 #[.pointer (some ⟨xb,0,none⟩), .slice a t.length c] w (retE (eK θ t) w):=by
 have I:=ht.le
 have y:=C6 hS hSl ht
 have m:=Lib.hid y
 clear y hS hSl ht
 go_enter Tryz.func250,Tryz.ntmps250
 go_wp2_with fail
 refine m.out.mono ?_
 rintro e J ⟨v,r,o,rfl,k,i,ht,u⟩
 clear m
 cases r with
 |false=>
  have E:=u rfl
  have j:eK θ t=([],4):=by unfold eK;exact if_neg (fun h=>by omega)
  have f:=Lib.hid j
  clear ht u k E j
  go_wp2_with fail
  go_ret2
  exact⟨_,by rw[f.out];rfl,by rw[f.out];exact .nil _ _ _ _ _,i⟩
 |true=>
  obtain⟨A,n⟩:=ht rfl
  obtain⟨C,D,rfl,p⟩:=OwnI.ints k
  have z:=Fn C D _ _ p (by unfold dI;omega)
  have g:=Lib.hid z
  have j:eK θ t=if(aD o).length≤12 then(cz o,0)else([],4):=by
   unfold eK
   rw[←A]
   by_cases b:(aD o).length≤12
   ·rw[if_pos b,if_pos ⟨n,b⟩]
   rw[if_neg b,if_neg (fun h=>b h.2)]
  have F:=p.le
  clear ht u k n p z A
  by_cases b:(aD o).length≤12
  ·rw[if_pos b]at j
   have f:=Lib.hid j
   clear j
   have hd:decide ((aD o).length≤12)=true:=by simpa using b
   rw[hd]at g
   clear hd b
   go_wp2_with fail
   refine g.out.mono ?_
   rintro e w2 ⟨v,rfl,k,l⟩
   obtain⟨G,H,rfl,q⟩:=OwnI.ints k
   have x:=Lib.hid (OwnL.baseMono (base':=w.heap.size) k i.size)
   clear k q g
   go_wp2_with fail
   go_ret2
   exact⟨_,by rw[f.out];rfl,by rw[f.out];exact x.out,aa i l⟩
  rw[if_neg b]at j
  have f:=Lib.hid j
  clear j
  have hd:decide ((aD o).length≤12)=false:=by simpa using b
  rw[hd]at g
  clear hd b
  go_wp2_with fail
  refine g.out.mono ?_
  rintro e w2 ⟨v,rfl,k,l⟩
  clear k g
  go_wp2_with fail
  go_ret2
  exact⟨_,by rw[f.out];rfl,by rw[f.out];exact .nil _ _ _ _ _,aa i l⟩
theorem retE.below{r:List Int×Int}{w w1:World}{e:Ending}{w':World}(h:retE r w1 e w')(hb:Below w.heap.size w w1):retE r w e w':=by
 obtain⟨v,a,b,c⟩:=h
 exact⟨v,a,OwnL.baseMono b hb.size,aa hb c⟩
end Go.Proofs.YtlejmeegkpdabaaGreatDoor
