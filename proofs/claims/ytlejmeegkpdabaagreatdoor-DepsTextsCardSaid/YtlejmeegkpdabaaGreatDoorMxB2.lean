/- The proof of a statement, some of its texts joined in build order: part B2. -/
import Derived.Test.YtlejmeegkpdabaaGreatDoorMxB1
import Derived.Lib.AppendZeros
import Derived.Deep.LoopGhost
set_option maxHeartbeats 4000000
set_option maxRecDepth 20000
namespace Go.Proofs.YtlejmeegkpdabaaGreatDoor
open Go Go.RowKit Go.Maps
def IQ(t:List Int)(w:World)(out i:Value)(wr:World):Prop:=
 ∃k:Nat,i= .int .i64 k∧k≤t.length∧OwnI wr w.heap.size out ((aD (t.take k)).map dF)∧Below w.heap.size w wr
theorem AW{S:Nat→Prop}(a:Option Addr)(c:Nat)(t:List Int)(w:World)(h:Ints S w a c t)(hl:t.length≤dI)(ht:su t):
  Calls Tryz.prog 167 #[.slice a t.length c] w (kA w (ig t)):=by
 have m:=h.le
 go_enter Tryz.func167,Tryz.ntmps167
 go_wp2_with fail
 go_loopw [3,4] (fun out i wr=>IQ t w out i wr) (fun _ i _=>t.length-(intOf i).toNat)
 case atStart=>exact⟨0,rfl,Nat.zero_le _, .nil _ _ _ _ _, .refl _ _⟩
 case round=>
  obtain⟨k,rfl,hk,z,B⟩:=hrel
  obtain⟨L,s⟩:∃L,(aD (t.take k)).map dF=L:=⟨_,rfl⟩
  rw[s]at z
  obtain⟨T,U,rfl,G⟩:=z.ints
  by_cases C:k<t.length
  ·obtain⟨b,o,rfl,-,q,Q⟩:=h.int k C
   have X:b<w.heap.size:=World.block_lt_of_cell? w _ q
   have Y:=(B.cell (p:=⟨b,o+k,none⟩) X).trans q
   have R:=ht t[k] (List.getElem_mem C)
   have g:=mx C
   have r:=EW (l:=aD (t.take k)) (x:=t[k])
   clear q ht h
   obtain⟨x,hx⟩:∃x,t[k]=x:=⟨_,rfl⟩
   rw[hx]at Y Q g R r
   clear hx
   have V:L.length≤t.length:=by rw[←s,List.length_map];have:=mw (t.take k);simp at this;omega
   rw[s]at r
   by_cases h0:0≤x
   ·have hs:(aD (t.take (k+1))).map dF=L:=by rw[g,cS,if_neg (by omega),s]
    have y:=Lib.hid hs
    have u:=Lib.hid z
    clear hs z g r s G
    go_wp2_with fail
    go_roundw
    case rel=>exact⟨k+1,by go_num,by omega,by rw[y.out];exact u.out,B⟩
    case measure=>simp[intOf];omega
   have I:x<0:=by omega
   have A:=fun W (M:Ints (fun b=>w.heap.size≤b) W T U L)=>Au T U L (dF x) W M
   by_cases E:x∈aD (t.take k)
   ·have hs:(aD (t.take (k+1))).map dF=L:=by rw[g,cS,if_neg (fun e=>e.2 E),s]
    have f:=A wr G
    rw[decide_eq_true (r.2 E)]at f
    unfold dF at f
    have y:=Lib.hid hs
    have u:=Lib.hid z
    have n:=Lib.hid f
    clear hs z g r s G A E f
    go_wp2_with (go_at_call 205;refine n.out.mono ?_;rintro e Z ⟨rfl,rfl⟩)
    go_roundw
    case rel=>exact⟨k+1,by go_num,by omega,by rw[y.out];exact u.out,B⟩
    case measure=>simp[intOf];omega
   have hs:(aD (t.take (k+1))).map dF=L++[dF x]:=by rw[g,cS,if_pos ⟨I,E⟩,List.map_append,s];rfl
   have f:=A wr G
   rw[decide_eq_false (fun e=>E (r.1 e))]at f
   obtain⟨v',w',v,J,hg,O⟩:=z.push (P:=Tryz.prog) (t:=41) (ty:=41) Tryz.underlying41 gW rfl (vs:=[.int .i64 (dF x)]) (x:=dF x) ⟨rfl,by unfold dF aE;omega⟩ (by unfold dI at hl;omega) (by unfold dI at hl;unfold aB;omega) B.size
   have F:=B.grown hg B.size (fun j e=>(z.lt j e).1)
   unfold dF at f v
   have y:=Lib.hid hs
   have u:=Lib.hid J
   have n:=Lib.hid f
   have D:=Lib.hid v
   have K:=Lib.hid F
   clear hs z g r s G A E f v J F hg O
   go_wp2_with (first|(go_at_call 205;refine n.out.mono ?_;rintro e Z ⟨rfl,rfl⟩)|(at_builtin;refine bo rfl _ _ _ rfl rfl rfl D.out ?_))
   go_roundw
   case rel=>exact⟨k+1,by go_num,by omega,by rw[y.out];exact u.out,K.out⟩
   case measure=>simp[intOf];omega
  have H:L=ig t:=by rw[←s,ig,List.take_of_length_le (by omega)]
  have N:=Lib.hid H
  clear H s h ht
  go_wp2_with fail
  go_ret
  exact⟨_,rfl,by rw[←N.out];exact z,B⟩
theorem OwnL.drewN{α:Type}{E:Enc α}{S:Nat→Prop}{w:World}{base:Nat}{e:TypeId}{v:Value}{l:List α}(h:OwnL E S w base e v l)(n:Nat):OwnL E S (w.drewN n) base e v l:=h.kept (fun _ _=>rfl) (fun _ _ _=>rfl)
theorem ut(w:World)(n:Nat)(a:Addr)(u:Value):(w.drewN n).setCell a u=(w.setCell a u).drewN n:=rfl
def GH(t:List Int)(w:World)(B g cap:Nat)(i:Value)(wr:World):Prop:=
 ∃k:Nat,i= .int .i64 k∧k≤t.length∧OwnI wr B (.slice (some ⟨g,0,none⟩) t.length cap) (dz (bO (aD t)) t k)∧Below B w wr
def GI(t:List Int)(w:World)(B g cap k:Nat)(x:Int)(j:Value)(wr:World):Prop:=
 ∃i:Nat,j= .int .i64 i∧i≤(aD t).length∧OwnI wr B (.slice (some ⟨g,0,none⟩) t.length cap) ((dz (bO (aD t)) t k).set k (gi t i x))∧Below B w wr
theorem AH{S:Nat→Prop}(a:Option Addr)(c:Nat)(t:List Int)(w:World)(h:Ints S w a c t)(hl:t.length≤dI)(ht:su t)(hne:t≠ []):
  Calls Tryz.prog 118 #[.slice a t.length c] w (kA w (cz t)):=by
 have m:=h.le
 have a9:=mw t
 obtain⟨V,X,ag,aL⟩:∃V,ig t=V∧V.length=(aD t).length∧∀j (Z:j<V.length),∃y,V[j]=dF y∧(aD t)[j]?=some y∧-1000000≤y∧y<0:=
  ⟨_,rfl,by simp[ig],fun j Z=>by
   have ab:j<(aD t).length:=by simpa[ig]using Z
   have:=mem_varsC.1 (List.getElem_mem ab)
   exact⟨_,IU Z,by simp[ab],(ht _ this.1).1,this.2⟩⟩
 have cv:=AW a c t _ h hl ht
 rw[X]at cv
 have ax:=Lib.hid cv
 clear cv X
 go_enter Tryz.func118,Tryz.ntmps118
 go_wp2_with fail
 refine ax.out.mono ?_
 rintro e A ⟨v,rfl,aP,B⟩
 obtain⟨a2,c2,rfl,W⟩:=aP.ints
 obtain⟨v',w2,M,s,hg,-,-⟩:=(OwnL.made intE (fun _=>False) A A.heap.size 3 (Nat.le_refl _)).append_run (P:=Tryz.prog) (t:=42) (ty:=42) Tryz.underlying42 gW rfl ((h.below B).below (an A (.cells #[] 3))) (fun _ _ _ h=>h) (by unfold dI at hl;simp;omega) (by unfold dI at hl;unfold aB;simp;omega) (by simp)
 have D:Below A.heap.size A w2:=(an A (.cells #[] 3)).grown hg (by simp) (fun k e=>by simp[Value.ownBlock]at e;omega)
 rw[List.nil_append]at s
 obtain⟨g,N,rfl,a1,a3⟩:=s.form hne
 have T:=Lib.hid M
 have u:=Lib.hid ag
 have a5:V.length≤t.length:=by omega
 clear M hg ag
 go_wp2_with (at_builtin;refine bo rfl _ _ _ rfl rfl rfl T.out ?_)
 go_loopw [5,6] (fun i _ wr=>GH t A A.heap.size g N i wr) (fun i _ _=>t.length-(intOf i).toNat)
 case atStart=>exact⟨0,rfl,Nat.zero_le _,by rw[pZ];exact s,D⟩
 case round=>
  obtain⟨k,rfl,hk,s,D⟩:=hrel
  by_cases C:k<t.length
  ·obtain⟨b,o,rfl,-,q,ad⟩:=h.int k C
   have hb:b<w.heap.size:=World.block_lt_of_cell? w _ q
   have aN:b<A.heap.size:=Nat.lt_of_lt_of_le hb B.size
   have q1:=(B.cell (p:=⟨b,o+k,none⟩) hb).trans q
   have hdone:=nr C (f:=bO (aD t))
   have n:=CD C (f:=bO (aD t))
   have aj:=List.getElem_mem C
   obtain⟨x,hx⟩:∃x,t[k]=x:=⟨_,rfl⟩
   rw[hx]at q1 ad hdone n aj
   have a4:=pO (t:=t) ad hl
   have H:=Lib.hid hdone
   have F:=Lib.hid n
   clear hx q hdone n
   go_wp2_with fail
   go_loopw [6] (fun j wr=>GI t A A.heap.size g N k x j wr) (fun j _=>V.length-(intOf j).toNat)
   case atStart=>exact⟨0,rfl,Nat.zero_le _,by rw[E9,F.out];exact s,D⟩
   case round=>
    obtain⟨j,rfl,Z,s,D⟩:=hrel
    rw[←u.out]at Z
    by_cases O:j<V.length
    ·obtain⟨y,al,U,bf,bl⟩:=aL j O
     obtain⟨b2,o2,rfl,-,r,-⟩:=W.int j O
     have aO:b2<A.heap.size:=World.block_lt_of_cell? A _ r
     have r1:=(D.cell (p:=⟨b2,o2+j,none⟩) aO).trans r
     have p1:=(D.cell (p:=⟨b,o+k,none⟩) aN).trans q1
     rw[al]at r1
     have Q:j<(aD t).length:=by rw[←u.out];exact O
     have J:(aD t)[j]=y:=by rw[List.getElem?_eq_getElem Q]at U;exact Option.some.inj U
     obtain⟨z,hz⟩:∃z,dF y=z:=⟨_,rfl⟩
     have ao:y=-z-1:=by unfold dF at hz;omega
     have bm:0≤z∧z≤1000000:=by unfold dF at hz;omega
     rw[hz]at r1
     clear r al U hz
     have ba:IntKind.i64.wrap (-z)=-z:=IntWalk.i64_in _ (by omega)
     have bb:IntKind.i64.wrap (-z-1)=-z-1:=IntWalk.i64_in _ (by omega)
     by_cases I:x=y
     ·have l:=E7 Q
      rw[J,←I]at l
      have hb:(x==-z-1)=true:=by simp;omega
      have E:=s.cellInt (by simp[eZ]) k (by simp[eZ];exact C)
      obtain⟨R,Y⟩:=s.setInt (by simp[eZ]) k (-(j:Int)-1) (by unfold dI at hl;unfold aE;omega)
      have K:OwnI (wr.setCell ⟨g,k,none⟩ (.int .i64 (-(j:Int)-1))) A.heap.size (.slice (some ⟨g,0,none⟩) t.length N) ((dz (bO (aD t)) t k).set k (gi t (j+1) x)):=by
       rw[l];rw[List.set_set]at R;exact R
      have ay:=D.grown Y D.size (fun q e=>by cases e;omega)
      obtain⟨aq,L⟩:∃aq,((dz (bO (aD t)) t k).set k (gi t j x))[k]'(by simp[eZ];exact C)=aq:=⟨_,rfl⟩
      rw[L]at E
      obtain⟨aW,a0⟩:=E
      have ac:=Lib.hid K
      clear s I ao l L R K Y h W J
      go_wp2_with fail
      go_quiet (fail)
      all_goals go_wp2_with fail
      exact⟨⟨j+1,by go_num,by rw[←u.out];omega,by rw[ut];exact ac.out.drewN _,by rw[ut];exact fW ay _⟩,by simp[intOf];omega⟩
     have l:=E8 (x:=x) Q (by rw[J];exact I)
     have hb:(x==-z-1)=false:=by simp;omega
     rw[←l]at s
     have G:=Lib.hid s
     clear s I ao l h W J
     go_wp2_with fail
     go_quiet (fail)
     all_goals go_wp2_with fail
     exact⟨⟨j+1,by go_num,by rw[←u.out];omega,G.out.drewN _,fW D _⟩,by simp[intOf];omega⟩
    rw[E6 (by rw[←u.out];omega) aj,H.out]at s
    have G:=Lib.hid s
    clear s h W
    go_wp2_with fail
    go_roundw
    case rel=>exact⟨k+1,by go_num,by omega,G.out,D⟩
    case measure=>simp[intOf];omega
  rw[pY _ _ _ (by omega)]at s
  have:=s.baseMono (base':=w.heap.size) B.size
  have G:=Lib.hid this
  clear s h W this
  go_wp2_with fail
  go_ret
  exact⟨_,rfl,G.out,B.trans (D.mono B.size)⟩
theorem oh{s:Sg}{t:List Int}(h:aw s t=true):t.length≤dI:=by
 obtain⟨_,_,h,_⟩:=bj h;unfold dI;omega
theorem Ak{S1 S2:Nat→Prop}(a1 a2:Option Addr)(c1 c2:Nat)(s:Sg)(t:List Int)(w:World)(h1:Sign S1 w a1 c1 s)(h2:Ints S2 w a2 c2 t):
  Calls Tryz.prog 239 #[.slice a1 s.length c1, .slice a2 t.length c2] w fun e w'=>
   ∃v n,e= .returned (.tuple #[v, .int .i64 n])∧Below w.heap.size w w'∧(aw s t=false→v= .slice none 0 0∧n=1)∧(aw s t=true→n=0∧OwnI w' w.heap.size v (cz t)):=by
 have p:=h2.le
 have k:=fS a1 a2 c1 c2 s t w h1 h2
 obtain⟨x,hx⟩:∃x,aw s t=x:=⟨_,rfl⟩
 rw[hx]at k
 have c:=Lib.hid k
 clear k
 cases x with
 |false=>
  have b:=Lib.hid hx
  clear hx
  go_enter Tryz.func239,Tryz.ntmps239
  go_wp2_with (go_at_call 89;refine c.out.mono ?_;rintro e l ⟨rfl,a⟩)
  go_ret2
  exact⟨_,_,rfl,a,fun _=>⟨rfl,rfl⟩,fun h=>by rw[b.out]at h;cases h⟩
 |true=>
  have i:=oh hx
  have j:=om hx
  have c1:=fun W (m:Below w.heap.size w W)=>tN a2 c2 t W (h2.below m) i j
  have f:=Lib.hid c1
  have b:=Lib.hid hx
  clear hx c1
  go_enter Tryz.func239,Tryz.ntmps239
  go_wp2_with (first|(go_at_call 89;refine c.out.mono ?_;rintro e l ⟨rfl,a⟩)|(go_at_call 91;refine(f.out l a).mono ?_;rintro e w2 ⟨v,rfl,o,g⟩))
  go_ret2
  exact⟨_,_,rfl,a.trans (g.mono a.size),(fun h=>by rw[b.out]at h;cases h),fun _=>⟨rfl,o.baseMono a.size⟩⟩
def retE(r:List Int×Int)(w:World)(e:Ending)(w':World):Prop:=∃v,e= .returned (.tuple #[v, .int .i64 r.2])∧OwnI w' w.heap.size v r.1∧Below w.heap.size w w'
theorem aa{w w1 w2:World}(h:Below w.heap.size w w1)(hb:Below w1.heap.size w1 w2):Below w.heap.size w w2:=h.trans (hb.mono h.size)
def dc(s:Sg)(t:List Int):Bool:=aw s t&&decide (cz t=t)
theorem sU{S1 S2:Nat→Prop}(a1 a2:Option Addr)(c1 c2:Nat)(s:Sg)(t:List Int)(w:World)(h1:Sign S1 w a1 c1 s)(h2:Ints S2 w a2 c2 t):
  Calls Tryz.prog 44 #[.slice a1 s.length c1, .slice a2 t.length c2] w fun e w'=>e= .returned (.bool (dc s t))∧Below w.heap.size w w':=by
 have q:=h2.le
 have j:=fS a1 a2 c1 c2 s t w h1 h2
 obtain⟨x,hx⟩:∃x,aw s t=x:=⟨_,rfl⟩
 rw[hx]at j
 have f:=Lib.hid j
 clear j
 cases x with
 |false=>
  have hf:dc s t=false:=by unfold dc;rw[hx];rfl
  have b:=Lib.hid hf
  clear hx hf
  go_enter Tryz.func44,Tryz.ntmps44
  go_wp2_with (go_at_call 89;refine f.out.mono ?_;rintro e k ⟨rfl,a⟩)
  go_ret
  exact⟨aF b.out.symm,a⟩
 |true=>
  have hf:dc s t=decide (cz t=t):=by unfold dc;rw[hx];rfl
  have b:=Lib.hid hf
  have h:=oh hx
  have i:=om hx
  have c1:=fun W (o:Below w.heap.size w W)=>tN a2 c2 t W (h2.below o) h i
  have g:=Lib.hid c1
  clear hx c1 hf
  go_enter Tryz.func44,Tryz.ntmps44
  go_wp2_with (first|(go_at_call 89;refine f.out.mono ?_;rintro e k ⟨rfl,a⟩)|(go_at_call 91;refine(g.out k a).mono ?_;rintro e w2 ⟨v,rfl,p,c⟩;obtain⟨l,m,rfl,n⟩:=OwnI.ints p)|(go_at_call 90;refine(sS l a2 m c2 _ _ _ n (h2.below (aa a c))).mono ?_;rintro e u ⟨rfl,r,rfl⟩))
  go_ret
  exact⟨aF b.out.symm,fW (aa a c) _⟩
theorem xY{S1 S2:Nat→Prop}(a1 a2:Option Addr)(c1 c2:Nat)(s:Sg)(t:List Int)(w:World)(h1:Sign S1 w a1 c1 s)(h2:Ints S2 w a2 c2 t):
  Calls Tryz.prog 68 #[.slice a1 s.length c1, .slice a2 t.length c2] w fun e w'=>e= .returned (.bool (dc s t))∧Below w.heap.size w w':=by
 have r:=h2.le
 have k:=oy a1 a2 c1 c2 s t w h1 h2
 obtain⟨x,hx⟩:∃x,aw s t=x:=⟨_,rfl⟩
 rw[hx]at k
 have f:=Lib.hid k
 clear k
 cases x with
 |false=>
  have hf:dc s t=false:=by unfold dc;rw[hx];rfl
  have b:=Lib.hid hf
  clear hx hf
  go_enter Tryz.func68,Tryz.ntmps68
  go_wp2_with (go_at_call 80;refine f.out.mono ?_;rintro e l ⟨rfl,hd⟩)
  go_ret
  exact⟨aF b.out.symm,hd.below _⟩
 |true=>
  have hf:dc s t=decide (cz t=t):=by unfold dc;rw[hx];rfl
  have b:=Lib.hid hf
  have h:=oh hx
  have i:=om hx
  have j:=FM hx
  have c1:=fun W (p:Below w.heap.size w W)=>AH a2 c2 t W (h2.below p) h j i
  have g:=Lib.hid c1
  clear hx c1 hf
  go_enter Tryz.func68,Tryz.ntmps68
  go_wp2_with (first|(go_at_call 80;refine f.out.mono ?_;rintro e l ⟨rfl,hd⟩;have a:=hd.below w.heap.size)|(go_at_call 118;refine(g.out l a).mono ?_;rintro e w2 ⟨v,rfl,q,c⟩;obtain⟨m,n,rfl,o⟩:=OwnI.ints q)|(go_at_call 117;refine(AN m a2 n c2 _ _ _ o (h2.below (aa a c))).mono ?_;rintro e y ⟨rfl,u,rfl⟩))
  go_ret
  exact⟨aF b.out.symm,fW (aa a c) _⟩
theorem fY{w w1:World}(h:Drew w w1)(n:Nat):Drew w (w1.drewN n):=by obtain⟨m,rfl⟩:=h;exact .mk2 _ _ _
abbrev OwnTs (S:Nat→Prop) (w:World) (base:Nat) (v:Value) (l:List (List Int)):Prop:=OwnL (cI intE) S w base 42 v l
theorem wg:(Tryz.prog.info? 42).map (fun i=>(i.zero,i.size,i.bytes))=some (some (.slice none 0 0),1,24):=by kernel_rfl
theorem Ints.part{S:Nat→Prop}{w:World}{b off c:Nat}{l:List Int}(h:Ints S w (some ⟨b,off,none⟩) c l)(i j c':Nat)(hij:i≤j)(hj:j≤l.length)(h1:j-i≤c')(h2:c'≤c):
  Ints S w (some ⟨b,off+i,none⟩) c' ((l.drop i).take (j-i)):=by
 refine⟨by simp;omega,Nat.le_trans h2 h.max,fun e=>by simp at e,fun g=> ?_⟩
 have n:0<((l.drop i).take (j-i)).length:=by
  rcases Nat.eq_zero_or_pos ((l.drop i).take (j-i)).length with a|a
  ·exact(g (List.length_eq_zero_iff.1 a)).elim
  exact a
 simp at n
 obtain⟨x,y,m,o,f,p⟩:=h.dat (by intro e;subst e;simp at n)
 simp only[Option.some.injEq,Addr.mk.injEq,and_true]at m
 obtain⟨rfl,rfl⟩:=m
 refine⟨b,off+i,rfl,o,f,fun k r=> ?_⟩
 simp at r
 obtain⟨vs,t,u,v⟩:=p (i+k) (by omega)
 refine⟨vs,t,fun q s=> ?_,?_⟩
 ·have:=u q s
  rw[show off+i+k*intE.size+q=off+(i+k)*intE.size+q by simp[intE];omega]
  exact this
 have:((l.drop i).take (j-i))[k]'(by simp;omega)=l[i+k]'(by omega):=by simp
 rw[this];exact v
theorem AU{S:Nat→Prop}{w wr w1:World}{out:Value}{l:List (List Int)}(ho:OwnTs S wr w.heap.size out l)(hB:Below w.heap.size w wr)(hB1:Below wr.heap.size wr w1){a:Option Addr}{c:Nat}{u:List Int}(hu:Ints (bZ S out) w1 a c u)(hl:l.length+1≤1000000):
  ∃v' w',RowKit.Hid ((Builtin.append_ #[163,163] 163 #[out, .slice (some ⟨w1.heap.size,0,none⟩) 1 1]).run Tryz.prog (w1.alloc (.cells #[.slice a u.length c] 42))= .ok v' w')∧RowKit.Hid (OwnTs S w' w.heap.size v' (l++[u]))∧RowKit.Hid (Below w.heap.size w w'):=by
 have b:=hB.trans (hB1.mono hB.size)
 have f:=ho.call hB1
 obtain⟨v',w',g,h,hg,i⟩:=f.push (P:=Tryz.prog) (t:=163) (ty:=163) Tryz.underlying163 wg rfl (vs:=[.slice a u.length c]) (x:=u) ⟨_,_,rfl,hu⟩ (by omega) (by unfold aB;omega) b.size
 exact⟨v',w',Lib.hid g,Lib.hid h,Lib.hid (b.grown hg b.size (fun k e=>(f.lt k e).1))⟩
def Ba(S2:Nat→Prop)(s:Sg)(t:List Int)(m:Nat)(w:World)(out at_ i:Value)(wr:World):Prop:=
 ∃j p:Nat,i= .int .i64 j∧at_= .int .i64 p∧j≤m∧1≤p∧p≤t.length∧aJ s (m-j) (t.drop p)=some []∧(bd s t).take j++bG s (m-j) (t.drop p)=bd s t∧
  OwnTs (fun b=>S2 b∧b<w.heap.size) wr w.heap.size out ((bd s t).take j)∧Below w.heap.size w wr
def retTerms(S:Nat→Prop)(w:World)(l:List (List Int))(e:Ending)(w':World):Prop:=∃v,e= .returned v∧OwnTs S w' w.heap.size v l∧Below w.heap.size w w'
theorem Bg{S1 S2:Nat→Prop}(a1 a2:Option Addr)(c1 c2:Nat)(s:Sg)(t:List Int)(w:World)(h1:Sign S1 w a1 c1 s)(h2:Ints S2 w a2 c2 t)(hok:aw s t=true):
  Calls Tryz.prog 251 #[.slice a1 s.length c1, .slice a2 t.length c2] w (retTerms (fun b=>S2 b∧b<w.heap.size) w (bd s t)):=by
 have m2:=h2.le
 have mc:=h2.max
 unfold aB at mc
 obtain⟨n,r,ht,K,hs⟩:=gG hok
 obtain⟨M,bv,Y,u⟩:=bj hok
 have h0:0<t.length:=by omega
 obtain⟨b,o,rfl,-,q,-⟩:=h2.int 0 h0
 have a5:=h2.cap
 have al:t[0]=n:=by subst ht;rfl
 rw[al,Nat.add_zero]at q
 obtain⟨hA,aP⟩:=fU M K
 have ca:=pE a1 c1 s n w h1
 rw[hA]at ca
 obtain⟨m,hm⟩:∃m,ar s n=m:=⟨_,rfl⟩
 have c:bd s t=bG s m (t.drop 1):=by subst ht;rw[←hm];rfl
 have h:aJ s m (t.drop 1)=some []:=by subst ht;rw[←hm];exact hs
 have G:(bd s t).length=m:=by rw[c];exact(iG s m _ _ h).1
 rw[hm]at ca aP
 have ay:=Lib.hid ca
 have D:=Lib.hid c
 have N:=Lib.hid h
 have f:=Lib.hid G
 have ag:=Lib.hid M
 have ao:=Lib.hid Y
 have Z:RowKit.Hid (m≤t.length):=Lib.hid (by
  have h6:=iE s m _ _ h
  rw[List.length_drop,List.length_nil]at h6;omega)
 clear ca c h G hA hm hs K ht al u M hok Y
 go_enter Tryz.func251,Tryz.ntmps251
 go_wp2_with (go_at_call 173;refine ay.out.mono ?_;rintro e w' ⟨rfl,rfl⟩)
 go_loopw [5,6,14] (fun out at_ i wr=>Ba S2 s t m w out at_ i wr) (fun _ _ i _=>m-(intOf i).toNat)
 case atStart=>exact⟨0,1,rfl,rfl,Nat.zero_le _,Nat.le_refl _,h0,by simpa using N.out,by simpa using D.out.symm, .nil _ _ _ _ _, .refl _ _⟩
 case round=>
  obtain⟨j,p,rfl,rfl,hj,bx,bA,u,a,P,F⟩:=hrel
  by_cases bu:j<m
  ·obtain⟨k,X⟩:∃k,m-j=k+1:=⟨m-j-1,by omega⟩
   rw[X]at u a
   obtain⟨I,l,ad⟩:=kE u
   obtain⟨g1,g2,g3,g4⟩:=kp s t p I l
   obtain⟨e1,e2,e3⟩:=jl l
   have E:=xO l
   rw[List.length_drop]at E
   obtain⟨z,hz⟩:∃z,t.length-I.length=z:=⟨_,rfl⟩
   rw[hz]at g1 g2 g3 g4
   have y:(t.drop p).take (z-p)=bR s (t.drop p):=by
    unfold bR;rw[l];simp;congr 1;omega
   have A:=h2.part p z (z-p) (by omega) g4 (Nat.le_refl _) (by omega)
   rw[y]at A
   have g:(bR s (t.drop p)).length=z-p:=by omega
   have O:(bd s t).take (j+1)=(bd s t).take j++[bR s (t.drop p)]:=by
    have hl:=f.out
    rw[List.take_succ_eq_append_getElem (by omega)]
    congr 2
    have h3:(bd s t)[j]'(by omega)=((bd s t).take j++bG s (k+1) (t.drop p))[j]'(by rw[a];omega):=by simp only[a]
    rw[h3,List.getElem_append_right (by simp;omega)]
    simp[bG,Nat.min_eq_left (show j≤(bd s t).length by omega)]
   have v:(bd s t).take (j+1)++bG s (m-(j+1)) (t.drop z)=bd s t:=by
    rw[O,List.append_assoc,show m-(j+1)=k by omega,g2]
    rw[bG,l]at a
    simpa using a
   have H:aJ s (m-(j+1)) (t.drop z)=some []:=by rw[show m-(j+1)=k by omega,g2];exact ad
   have U:((bd s t).take j).length=j:=by rw[List.length_take,f.out];omega
   have bN:t.length≤60:=ao.out
   have bw:m≤60:=by have:=Z.out;omega
   have ec:=fun W aR aT=>uA (S1:=S1) (S2:=S2) (a1:=a1) (c1:=c1) (a2:=some ⟨b,o,none⟩) (c2:=c2) (t:=t) ag.out p W (Or.inr ⟨by omega,by omega⟩) aR aT
   have R:Sign S1 wr a1 c1 s:=h1.below F
   have S:Ints S2 wr (some ⟨b,o,none⟩) c2 t:=h2.below F
   have K:=ec wr R S
   unfold uz at K
   rw[g1]at K
   have bq:b<wr.heap.size:=by have:=World.block_lt_of_cell? w _ q;have:=F.size;simp at*;omega
   have bt:b<w.heap.size:=World.block_lt_of_cell? w _ q
   have B:Ints (fun k=>S2 k∧k<w.heap.size) w (some ⟨b,o+p,none⟩) (z-p) (bR s (t.drop p)):=A.lt
   have J:=Lib.hid v
   have aj:=Lib.hid H
   have aU:=Lib.hid K
   have bp:=Lib.hid F
   have aO:=Lib.hid g4
   have ab:∀Q,Below wr.heap.size wr Q→∃v' w',RowKit.Hid ((Builtin.append_ #[163,163] 163 #[u5, .slice (some ⟨Q.heap.size,0,none⟩) 1 1]).run Tryz.prog (Q.alloc (.cells #[.slice (some ⟨b,o+p,none⟩) (z-p) (z-p)] 42))= .ok v' w')∧RowKit.Hid (OwnTs (fun b=>S2 b∧b<w.heap.size) w' w.heap.size v' ((bd s t).take (j+1)))∧RowKit.Hid (Below w.heap.size w w'):=by
    intro Q C
    rw[O,←g]
    have hx:=(B.below (F.trans (C.mono F.size))).weak (S':=bZ (fun b=>S2 b∧b<w.heap.size) u5) (fun k X=>⟨X,fun e=>by have:=(P.lt k e.symm).1;have:=X.2;omega⟩)
    exact AU P F C (by rw[g];exact hx) (by rw[U];omega)
   have ac:=Lib.hid ab
   clear ab O v H P A B K g ec R S e1 e2 e3 E y g1 g2 l ad X hz a u U
   go_wp2_with (first
    |(go_at_call 134;refine aU.out.mono ?_;rintro e Q ⟨d,rfl,-,C⟩;obtain⟨v',w',L,aW,T⟩:=ac.out Q C)
    |(at_builtin;refine bo rfl _ _ _ rfl rfl rfl L.out ?_))
   go_roundw
   case rel=>exact⟨j+1,z,by go_num,rfl,by omega,by omega,aO.out,aj.out,J.out,aW.out,T.out⟩
   case measure=>simp[intOf];omega
  have V:j=m:=by omega
  subst V
  have x:(bd s t).take j=bd s t:=List.take_of_length_le (by rw[f.out];exact Nat.le_refl _)
  rw[x]at P
  have a0:=Lib.hid P
  clear P a u x
  go_wp2_with fail
  go_ret
  exact⟨_,rfl,a0.out,F⟩
theorem retTerms.weak{S S':Nat→Prop}{w:World}{l:List (List Int)}{e:Ending}{w':World}(h:retTerms S w l e w')(hS:∀b,S b→S' b):retTerms S' w l e w':=by
 obtain⟨v,rfl,⟨m,g,j,k⟩,a⟩:=h
 exact⟨v,rfl,⟨m,g,j,fun i c f=>(cI intE).mono (k i c f) (fun b _ a=>⟨hS b a.1,a.2⟩) (.refl _ _)⟩,a⟩
theorem Be{S1 S2:Nat→Prop}(a1 a2:Option Addr)(c1 c2:Nat)(s:Sg)(t:List Int)(w:World)(h1:Sign S1 w a1 c1 s)(h2:Ints S2 w a2 c2 t)(hok:aw s t=true):
  Calls Tryz.prog 251 #[.slice a1 s.length c1, .slice a2 t.length c2] w (retTerms (fun b=>b<w.heap.size) w (bd s t)):=
 (Bg a1 a2 c1 c2 s t w h1 h2 hok).mono fun _ _ h=>h.weak fun _ a=>a.2
theorem l6{s:Sg}(h:aH s=true)(n:Nat)(hn:n<s.length):0≤s[n].2∧s[n].2≤3:=by
 simp only[aH,Bool.and_eq_true]at h
 have:=List.all_eq_true.1 h.1.1.2 s[n] (List.getElem_mem hn)
 simp only[f9,Bool.and_eq_true,decide_eq_true_eq]at this
 omega
theorem kZ{s:Sg}{n:Nat}(hn:n<s.length)(h0:0≤s[n].2):(s[n].2:Int)=(dw s (n:Int):Nat):=by
 unfold dw
 rw[if_neg (by omega),Int.toNat_natCast,List.getD_eq_getElem?_getD,List.getElem?_eq_getElem hn]
 simp only[Option.getD_some]
 omega
theorem pC{s:Sg}{n:Int}(h:n<0):dw s n=0:=by unfold dw;rw[if_pos h]
def AZ(s:Sg)(t r:List Int)(w:World)(at_ op:Value)(wr:World):Prop:=
 ∃p k:Nat,at_= .int .i64 p∧op= .int .i64 k∧p≤t.length∧bH s k (t.drop p)=some r∧wr=w
theorem ti{S1 S2:Nat→Prop}(a1 a2:Option Addr)(c1 c2:Nat)(s:Sg)(t:List Int)(p:Nat)(r:List Int)(w:World)(h1:Sign S1 w a1 c1 s)(h2:Ints S2 w a2 c2 t)(hok:aH s=true)(hp:bH s 1 (t.drop p)=some r):
  Calls Tryz.prog 186 #[.slice a1 s.length c1, .slice a2 t.length c2, .int .i64 p] w fun e w'=>e= .returned (.int .i64 (t.length-r.length:Nat))∧w=w':=by
 have H:=h2.le
 have A:p≤t.length:=by obtain⟨h,_⟩:=jZ hp;omega
 have z:=Lib.hid hp
 have f:=Lib.hid hok
 clear hp hok
 go_enter Tryz.func186,Tryz.ntmps186
 go_wp2_with fail
 go_loopw [2,7] (fun at_ op wr=>AZ s t r w at_ op wr) (fun at_ _ _=>t.length-(intOf at_).toNat)
 case atStart=>exact⟨p,1,rfl,rfl,A,z.out,rfl⟩
 case round=>
  obtain⟨q,k,rfl,rfl,G,hs,rfl⟩:=hrel
  cases k with
  |zero=>
   rw[eG]at hs
   have u:(q:Int)=(t.length-r.length:Nat):=by
    have:(t.drop q).length=r.length:=by rw[Option.some.inj hs]
    rw[List.length_drop]at this;omega
   have B:=Lib.hid u
   clear hs u
   go_wp2_with fail
   go_ret
   exact⟨fd B.out,rfl⟩
  |succ k=>
   obtain⟨y,v,a⟩:=jZ hs
   have i:=rZ _ _ _ _ a
   rw[List.length_drop]at i
   obtain⟨b,o,rfl,-,D,-⟩:=h2.int q y
   by_cases c:t[q]<0
   ·rw[pC c]at a
    obtain⟨x,hx⟩:∃x,t[q]=x:=⟨_,rfl⟩
    rw[hx]at D c
    have g:=Lib.hid a
    clear a hs v hx
    go_wp2_with fail
    go_roundw
    case rel=>exact⟨q+1,k,by go_num,by go_num,by omega,g.out,rfl⟩
    case measure=>simp[intOf];omega
   obtain⟨n,hx⟩:=Int.eq_ofNat_of_zero_le (show(0:Int)≤t[q]by omega)
   have j:n<s.length:=by
    have:=of_decide_eq_true v
    omega
   rw[hx]at D a i
   obtain⟨F,I,rfl,-,-,E,-,-⟩:=h1.sym n j
   rw[kZ j (l6 f.out n j).1]at E
   have l:=(l6 f.out n j).2
   rw[kZ j (l6 f.out n j).1]at l
   obtain⟨m,C⟩:∃m,dw s (n:Int)=m:=⟨_,rfl⟩
   rw[C]at E a i l
   have g:=Lib.hid a
   clear a hs v hx C c
   go_wp2_with fail
   go_roundw
   case rel=>exact⟨q+1,k+m,by go_num,by go_num,by omega,g.out,rfl⟩
   case measure=>simp[intOf];omega
def GJ(s:Sg)(t r:List Int)(w:World)(at_ need:Value)(wr:World):Prop:=
 ∃p k:Nat,at_= .int .i64 p∧need= .int .i64 k∧p≤t.length∧aJ s k (t.drop p)=some r∧wr=w
theorem F6{S1 S2:Nat→Prop}(a1 a2:Option Addr)(c1 c2:Nat)(s:Sg)(t:List Int)(p:Nat)(r:List Int)(w:World)(h1:Sign S1 w a1 c1 s)(h2:Ints S2 w a2 c2 t)(hok:aH s=true)(hp:aJ s 1 (t.drop p)=some r):
  Calls Tryz.prog 204 #[.slice a1 s.length c1, .slice a2 t.length c2, .int .i64 p] w fun e w'=>e= .returned (.int .i64 (t.length-r.length:Nat))∧w=w':=by
 have E:=h2.le
 have y:p≤t.length:=by obtain⟨h,_⟩:=ic hp;omega
 have v:=Lib.hid hp
 have i:=Lib.hid hok
 clear hp hok
 go_enter Tryz.func204,Tryz.ntmps204
 go_wp2_with fail
 go_loopw [2,7] (fun at_ need wr=>GJ s t r w at_ need wr) (fun at_ _ _=>t.length-(intOf at_).toNat)
 case atStart=>exact⟨p,1,rfl,rfl,y,v.out,rfl⟩
 case round=>
  obtain⟨q,k,rfl,rfl,D,hs,rfl⟩:=hrel
  cases k with
  |zero=>
   rw[dQ]at hs
   have j:(q:Int)=(t.length-r.length:Nat):=by
    have:(t.drop q).length=r.length:=by rw[Option.some.inj hs]
    rw[List.length_drop]at this;omega
   have z:=Lib.hid j
   clear hs j
   go_wp2_with fail
   go_ret
   exact⟨fd z.out,rfl⟩
  |succ k=>
   obtain⟨u,n,a⟩:=ic hs
   have c:=iE _ _ _ _ a
   rw[List.length_drop]at c
   obtain⟨hA,g⟩:=fU i.out n
   obtain⟨b,o,rfl,-,C,-⟩:=h2.int q u
   have f:=rB a1 c1 s t[q] wr h1 n
   rw[hA]at f
   obtain⟨x,hx⟩:∃x,t[q]=x:=⟨_,rfl⟩
   obtain⟨m,B⟩:∃m,ar s x=m:=⟨_,rfl⟩
   rw[hx]at C f a g c
   rw[B]at f a g c
   have l:=Lib.hid f
   have A:=Lib.hid a
   clear f a hA hs n hx B
   go_wp2_with (go_at_call 121;refine l.out.mono ?_;rintro e w' ⟨rfl,rfl⟩)
   go_roundw
   case rel=>exact⟨q+1,k+m,by go_num,by go_num,by omega,A.out,rfl⟩
   case measure=>simp[intOf];omega
def A9(s:Sg)(t r P:List Int)(m:Nat)(w:World)(out k i:Value)(wr:World):Prop:=
 ∃j q:Nat,i= .int .i64 j∧k= .int .i64 q∧j≤m∧q≤t.length∧aJ s (m-j) (t.drop q)=some r∧P.take j++fk s t.length (m-j) (t.drop q)=P∧OwnI wr w.heap.size out (P.take j)∧Below w.heap.size w wr
theorem F5{S1 S2:Nat→Prop}(a1 a2:Option Addr)(c1 c2:Nat)(s:Sg)(t:List Int)(p:Nat)(r:List Int)(w:World)(h1:Sign S1 w a1 c1 s)(h2:Ints S2 w a2 c2 t)(hok:aH s=true)(hp:aJ s 1 (t.drop p)=some r)(hl:t.length≤60):
  Calls Tryz.prog 165 #[.slice a1 s.length c1, .slice a2 t.length c2, .int .i64 p] w (kA w (fk s t.length (ar s (t.getD p 0)) (t.drop (p+1)))):=by
 have m2:=h2.le
 obtain⟨T,hc,hs⟩:=ic (k:=0) hp
 obtain⟨b,o,rfl,-,q1,-⟩:=h2.int p T
 obtain⟨hA,M⟩:=fU hok hc
 have ay:b<w.heap.size:=World.block_lt_of_cell? w _ q1
 have K:=fun W hW=>rB (S:=S1) a1 c1 s t[p] W hW hc
 rw[hA]at K
 have Q:t.getD p 0=t[p]:=by simp[T]
 rw[Q]
 obtain⟨x,hx⟩:∃x,t[p]=x:=⟨_,rfl⟩
 obtain⟨m,hm⟩:∃m,ar s x=m:=⟨_,rfl⟩
 rw[hx]at q1 K hs M⊢
 rw[hm]at K hs M⊢
 rw[Nat.zero_add]at hs
 obtain⟨P,hP⟩:∃P,fk s t.length m (t.drop (p+1))=P:=⟨_,rfl⟩
 rw[hP]
 have O:P.length=m:=by rw[←hP,rz]
 have aj:=Lib.hid K
 have aO:=Lib.hid hs
 have aq:=Lib.hid hP
 have A:=Lib.hid O
 have V:=Lib.hid hok
 clear K hs hP hp hok hA hx hm hc Q O
 go_enter Tryz.func165,Tryz.ntmps165
 go_wp2_with fail
 go_loopw [7,8,9] (fun out k i wr=>A9 s t r P m w out k i wr) (fun _ _ i _=>m-(intOf i).toNat)
 case atStart=>exact⟨0,p+1,rfl,by go_num,Nat.zero_le _,by omega,by simpa using aO.out,by simpa using aq.out, .nil _ _ _ _ _, .refl _ _⟩
 case round=>
  obtain⟨j,q,rfl,rfl,hj,hq,y,a,J,n⟩:=hrel
  have ba:=(n.cell (p:=⟨b,o+p,none⟩) ay).trans q1
  have D:Sign S1 wr a1 c1 s:=h1.below n
  have L:Ints S2 wr (some ⟨b,o,none⟩) c2 t:=h2.below n
  have l:=aj.out wr D
  by_cases a9:j<m
  ·obtain⟨k,hk⟩:∃k,m-j=k+1:=⟨m-j-1,by omega⟩
   rw[hk]at y a
   obtain⟨h,v,X⟩:=kE y
   obtain⟨g1,g2,g3,g4⟩:=kp s t q h v
   obtain⟨z,hz⟩:∃z,t.length-h.length=z:=⟨_,rfl⟩
   have ce:=fun W au av=>F6 (S1:=S1) (S2:=S2) a1 (some ⟨b,o,none⟩) c1 c2 s t q h W au av V.out v
   rw[hz]at g2 g3 g4 ce
   have aN:=A.out
   have I:P.take (j+1)=P.take j++[(q:Int)]:=by
    rw[List.take_succ_eq_append_getElem (by omega)]
    congr 2
    have h3:P[j]'(by omega)=(P.take j++fk s t.length (k+1) (t.drop q))[j]'(by rw[a];omega):=by simp only[a]
    rw[h3,List.getElem_append_right (by simp;omega)]
    simp[fk,Nat.min_eq_left (show j≤P.length by omega)]
    omega
   have f:P.take (j+1)++fk s t.length (m-(j+1)) (t.drop z)=P:=by
    rw[I,List.append_assoc,show m-(j+1)=k by omega,g2]
    rw[fk,v]at a
    rw[show(t.length-(t.drop q).length:Nat)=q by rw[List.length_drop];omega]at a
    simpa using a
   have C:aJ s (m-(j+1)) (t.drop z)=some r:=by rw[show m-(j+1)=k by omega,g2];exact X
   have F:(P.take j).length=j:=by rw[List.length_take];omega
   obtain⟨v',w',B,U,hg,ax⟩:=J.push (P:=Tryz.prog) (t:=41) (ty:=41) Tryz.underlying41 gW rfl (vs:=[.int .i64 q]) (x:=(q:Int)) ⟨rfl,by unfold aE;omega⟩ (by rw[F];omega) (by rw[F];unfold aB;omega) n.size
   have u:=n.grown hg n.size (fun k e=>(J.lt k e).1)
   have c2:=ce w' (h1.below u) (h2.below u)
   have Z:=Lib.hid I
   have E:=Lib.hid f
   have Y:=Lib.hid C
   have G:=Lib.hid U
   have N:=Lib.hid u
   have H:=Lib.hid B
   have ad:=Lib.hid c2
   have c:=Lib.hid l
   have al:=Lib.hid g4
   clear I f C J U hg ax u B c2 l ce g1 g2 v X hk hz a y F aN D L n
   go_wp2_with (first
    |(go_at_call 121;refine c.out.mono ?_;rintro e w' ⟨rfl,rfl⟩)
    |(go_at_call 204;refine ad.out.mono ?_;rintro e w' ⟨rfl,rfl⟩)
    |(at_builtin;refine bo rfl _ _ _ rfl rfl rfl H.out ?_))
   go_roundw
   case rel=>exact⟨j+1,z,by go_num,rfl,by omega,al.out,Y.out,E.out,by rw[Z.out];exact G.out,N.out⟩
   case measure=>simp[intOf];omega
  have R:j=m:=by omega
  subst R
  have g:P.take j=P:=List.take_of_length_le (by rw[A.out];exact Nat.le_refl _)
  rw[g]at J
  have G:=Lib.hid J
  have c:=Lib.hid l
  have ao:=Lib.hid n
  clear J a y g l n D L
  go_wp2_with (go_at_call 121;refine c.out.mono ?_;rintro e w' ⟨rfl,rfl⟩)
  go_ret
  exact⟨_,rfl,G.out,ao.out⟩
theorem xV{P:Program}{f:FuncId}{args:Array Value}{w:World}{n:Nat}{v:Value}
  (h:Calls P f args (w.drewN n) fun e w'=>e= .returned v∧Drew (w.drewN n) w'):Calls P f args (w.drewN n) fun e w''=>e= .returned v∧∃m,w''=w.drewN m:=
 h.mono fun _ _ ⟨a,m,b⟩=>⟨a,n+m,by rw[b];simp⟩
theorem qh:∀{xs:List (List Value)} (_:∀x∈xs,x.length=1) (i:Nat) (u:Value),(xs.set i [u]).flatten=xs.flatten.set i u
 | [],_,_,_=>rfl
 |x::r,h,i,u=>by
  have hx:=h x (by simp)
  obtain⟨y,rfl⟩:=List.length_eq_one_iff.1 hx
  cases i with
  |zero=>rfl
  |succ i=>
   rw[List.set_cons_succ,List.flatten_cons,qh (fun z a=>h z (by simp[a])) i u];rfl
section
variable {S:Nat→Prop}{w:World}{base g n cap:Nat}{l:List (List Int)}
theorem OwnTs.ones{xs:List (List Value)}{T:Nat→Prop}(hl:xs.length=l.length)(hx:∀i (h1:i<xs.length) (h2:i<l.length),(cI intE).R T w xs[i] l[i]):∀x∈xs,x.length=1:=by
 intro x a
 obtain⟨i,b,rfl⟩:=List.getElem_of_mem a
 exact(cI intE).len (hx i b (by omega))
theorem OwnTs.cell(h:OwnTs S w base (.slice (some ⟨g,0,none⟩) n cap) l)(hn:n=l.length)(i:Nat)(hi:i<l.length):
  ∃a c,w.cell? ⟨g,i,none⟩=some (.slice a l[i].length c)∧Ints (bZ S (.slice (some ⟨g,0,none⟩) n cap)) w a c l[i]∧w.frozen? ⟨g,i,none⟩=false:=by
 subst hn
 obtain⟨p,j,o,hx⟩:=h
 have b:i<p.length:=by omega
 obtain⟨a,c,f,m⟩:=hx i b hi
 have k:=OwnTs.ones o hx
 refine⟨a,c,?_,m,j.frozenAt i⟩
 rw[j.cellAt i (by show i<l.length*1;omega)]
 have:=im k i b 0 (by rw[f];simp)
 rw[Nat.mul_one,Nat.add_zero]at this
 rw[this];simp[f]
theorem OwnTs.set(h:OwnTs S w base (.slice (some ⟨g,0,none⟩) n cap) l)(hn:n=l.length)(i:Nat){a:Option Addr}{c:Nat}{u:List Int}(hu:Ints (bZ S (.slice (some ⟨g,0,none⟩) n cap)) w a c u):
  OwnTs S (w.setCell ⟨g,i,none⟩ (.slice a u.length c)) base (.slice (some ⟨g,0,none⟩) n cap) (l.set i u)∧w.grownBy (w.setCell ⟨g,i,none⟩ (.slice a u.length c)) (some g):=by
 subst hn
 obtain⟨t,r,m,hx⟩:=h
 have f:=OwnTs.ones m hx
 obtain⟨s,o⟩:=r.stored i (.slice a u.length c)
 have hA:Agree (bZ S (.slice (some ⟨g,0,none⟩) l.length cap)) w (w.setCell ⟨g,i,none⟩ (.slice a u.length c)):= .of_grown o (fun b q e=>q.2 (by rw[e];rfl))
 refine⟨⟨t.set i [.slice a u.length c],by rw[List.length_set,qh f];exact s,by simp[m],fun j f p=> ?_⟩,o⟩
 by_cases k:i=j
 ·subst k
  simp only[List.getElem_set_self]
  exact(cI intE).mono (w:=w) (S:=bZ S (.slice (some ⟨g,0,none⟩) l.length cap)) ⟨a,c,rfl,hu⟩ (fun _ _ h=>h) hA
 rw[List.getElem_set_ne k,List.getElem_set_ne k]
 exact(cI intE).mono (hx j (by simpa using f) (by simpa using p)) (fun _ _ h=>h) hA
end
def ld(s:Sg)(t:List Int):List (List Int)×Int:=if aw s t then(bd s t,0)else([],1)
theorem tA{s:Sg}{t:List Int}(h:aw s t=true):ld s t=(bd s t,0):=by rw[ld,if_pos h]
theorem Bb{s:Sg}{t:List Int}(h:aw s t=false):ld s t=([],1):=by rw[ld,h];rfl
def rN(r:List (List Int)×Int)(w:World)(e:Ending)(w':World):Prop:=∃v,e= .returned (.tuple #[v, .int .i64 r.2])∧OwnTs (fun _=>True) w' w.heap.size v r.1∧Below w.heap.size w w'
def Ae(L:List (List Int))(w:World)(v i:Value)(wr:World):Prop:=∃k:Nat,i= .int .i64 k∧k≤L.length∧OwnTs (fun _=>True) wr w.heap.size v L∧Below w.heap.size w wr
theorem Af{S1 S2:Nat→Prop}(a1 a2:Option Addr)(c1 c2:Nat)(s:Sg)(t:List Int)(w:World)(h1:Sign S1 w a1 c1 s)(h2:Ints S2 w a2 c2 t):
  Calls Tryz.prog 247 #[.slice a1 s.length c1, .slice a2 t.length c2] w (rN (ld s t) w):=by
 have m2:=h2.le
 have T:=fS a1 a2 c1 c2 s t w h1 h2
 obtain⟨x,hx⟩:∃x,aw s t=x:=⟨_,rfl⟩
 rw[hx]at T
 have J:=Lib.hid T
 clear T
 cases x with
 |false=>
  rw[Bb hx]
  clear hx
  go_enter Tryz.func247,Tryz.ntmps247
  go_wp2_with (go_at_call 89;refine J.out.mono ?_;rintro e w1 ⟨rfl,m⟩)
  go_ret2
  exact⟨_,rfl, .nil _ _ _ _ _,m⟩
 |true=>
  rw[tA hx]
  have hl:=(bj hx).2.2.1
  have B:=fg hx
  have q:∀u∈bd s t,u.length≤dI:=fun u hu=>oh (B.2.2 u hu)
  have Q:(bd s t).length≤60:=by
   rw[B.1]
   obtain⟨n,r,rfl,hc,-⟩:=gG hx
   have:=(fU (bj hx).1 hc).2
   simp only[List.headD_cons];omega
  have K:=fun W (m:Below w.heap.size w W)=>Be a1 a2 c1 c2 s t W (h1.below m) (h2.below m) hx
  obtain⟨L,Z⟩:∃L,bd s t=L:=⟨_,rfl⟩
  rw[Z]at K q Q⊢
  have M:=Lib.hid K
  clear hx K B Z
  go_enter Tryz.func247,Tryz.ntmps247
  go_wp2_with (first|(go_at_call 89;refine J.out.mono ?_;rintro e w1 ⟨rfl,m⟩)|(go_at_call 251;refine(M.out w1 m).mono ?_;rintro e w2 ⟨v,rfl,H,F⟩;have E:=aa m F;have l:=(H.weak (S':=fun _=>True) (fun _ _ _=>trivial)).baseMono m.size;clear H;obtain⟨a,c,rfl,-⟩:=l.sl))
  go_loopw [18] (fun i wr=>Ae L w (.slice a L.length c) i wr) (fun i _=>L.length-(intOf i).toNat)
  case atStart=>exact⟨0,rfl,Nat.zero_le _,l,E⟩
  case round=>
   clear l E F
   obtain⟨k,rfl,hk,l,D⟩:=hrel
   by_cases h:k<L.length
   ·obtain⟨g,aj,hv,aq,R⟩:=l.form (by intro e;subst e;simp at h)
    simp only[Value.slice.injEq]at hv
    obtain⟨rfl,-,rfl⟩:=hv
    obtain⟨U,V,q1,Y,ao⟩:=l.cell rfl k h
    have X:=mC U V L[k] wr Y (q _ (List.getElem_mem h))
    have z:L.set k L[k]=L:=List.set_getElem_self h
    have y:∀w2 v',OwnI w2 wr.heap.size v' L[k]→Below wr.heap.size wr w2→w2.cell? ⟨g,k,none⟩=some (.slice U L[k].length V)∧w2.frozen? ⟨g,k,none⟩=false∧RowKit.Hid (OwnTs (fun _=>True) (w2.setCell ⟨g,k,none⟩ v') w.heap.size (.slice (some ⟨g,0,none⟩) L.length c) L)∧RowKit.Hid (Below w.heap.size w (w2.setCell ⟨g,k,none⟩ v')):=by
     intro w2 v' o f
     have I:=l.call f
     obtain⟨a3,c3,rfl,P⟩:=o.ints
     have C:=OwnTs.set I rfl k (P.weak (S':=bZ (fun _=>True) (.slice (some ⟨g,0,none⟩) L.length c)) (fun b m=>⟨trivial,fun e=>by simp[Value.ownBlock]at e;omega⟩))
     rw[z]at C
     obtain⟨-,-,-,-,G⟩:=OwnTs.cell I rfl k h
     exact⟨(f.cell (p:=⟨g,k,none⟩) R).trans q1,G,Lib.hid C.1,Lib.hid ((D.trans (f.mono D.size)).grown C.2 (by have:=D.size;have:=f.size;omega) (fun j e=>by simp at e;omega))⟩
    have N:=Lib.hid X
    have S:=Lib.hid y
    clear X y l Y z D
    go_wp2_with (go_at_call 135;refine N.out.mono ?_;rintro e w3 ⟨v',rfl,o,f⟩;obtain⟨a3,c3,rfl,-⟩:=o.ints;obtain⟨q2,G,A,O⟩:=S.out w3 _ o f)
    go_roundw
    case rel=>exact⟨k+1,by go_num,by omega,A.out,O.out⟩
    case measure=>simp[intOf];omega
   have A:=Lib.hid l
   clear l
   go_wp2_with fail
   go_ret2
   exact⟨_,rfl,A.out,D⟩
open Classical in
noncomputable def fb(s:Sg)(a b:List Int):Bool:=if∃η,bh s η∧ap η a=b then true else false
theorem Ec{s:Sg}{a b:List Int}{η:Int→List Int}(h:bh s η)(he:ap η a=b):fb s a b=true:=by
 unfold fb;exact if_pos ⟨η,h,he⟩
theorem wi{s:Sg}{a b:List Int}(h:∀η,bh s η→ap η a≠b):fb s a b=false:=by
 unfold fb;exact if_neg fun⟨η,c,f⟩=>h η c f
theorem instB_iff{s:Sg}{a b:List Int}:fb s a b=true↔∃η,bh s η∧ap η a=b:=by unfold fb;split<;>simp_all
structure MRel (s:Sg) (a b:List Int) (k i:Nat) (B:Bd):Prop where
 ka:k≤a.length
 ib:i≤b.length
 op:∃c,bH s c (a.drop k)=some []∧bH s c (b.drop i)=some []
 wf:∀n u,B n=some u→W1 s u
 fwd:∀η,(∀n u,B n=some u→η n=u)→ap η (a.take k)=b.take i
 bwd:∀η,bh s η→ap η a=b→∀n u,B n=some u→η n=u
section
variable {s:Sg}{a b:List Int}{k i:Nat}{B:Bd}
theorem MRel.start(ha:W1 s a)(hb:W1 s b):MRel s a b 0 0 (fun _=>none):=
 ⟨Nat.zero_le _,Nat.zero_le _,⟨1,by simpa using ha,by simpa using hb⟩,fun _ _ h=>(by cases h),fun _ _=>rfl,fun _ _ _ _ _ h=>(by cases h)⟩
theorem MRel.rest(h:MRel s a b k i B){η:Int→List Int}(hw:bh s η)(he:ap η a=b):ap η (a.drop k)=b.drop i:=by
 have f:=h.fwd η (h.bwd η hw he)
 have c:ap η (a.take k)++ap η (a.drop k)=b.take i++b.drop i:=by rw[←fx,List.take_append_drop,List.take_append_drop,he]
 rw[f]at c
 exact List.append_cancel_left c
theorem MRel.part(h:MRel s a b k i B)(hk:k<a.length):i<b.length∧∃r,bH s 1 (b.drop i)=some r∧cw s a[k]=true:=by
 obtain⟨c,f,g⟩:=h.op
 cases c with
 |zero=>rw[eG]at f;have:=congrArg List.length (Option.some.inj f);simp at this;omega
 |succ c=>
  obtain⟨m,j,-⟩:=r8 g
  exact⟨(jZ g).1,m,j,(jZ f).2.1⟩
theorem MRel.sym(h:MRel s a b k i B)(hk:k<a.length)(hi:i<b.length)(hp:¬a[k]<0)(he:b[i]=a[k]):MRel s a b (k+1) (i+1) B:=by
 obtain⟨c,f,l⟩:=h.op
 have n:a.take (k+1)=a.take k++[a[k]]:=List.take_succ_eq_append_getElem hk
 have o:b.take (i+1)=b.take i++[b[i]]:=List.take_succ_eq_append_getElem hi
 refine⟨hk,hi,?_,h.wf,fun η m=> ?_,h.bwd⟩
 ·cases c with
  |zero=>rw[eG]at f;have:=congrArg List.length (Option.some.inj f);simp at this;omega
  |succ c=>
   obtain⟨_,_,j⟩:=jZ f
   obtain⟨_,_,g⟩:=jZ l
   rw[he]at g
   exact⟨_,j,g⟩
 rw[n,o,fx,h.fwd η m,bM hp,ki,he]
theorem MRel.sym_no(h:MRel s a b k i B)(hk:k<a.length)(hi:i<b.length)(hp:¬a[k]<0)(he:b[i]≠a[k]):fb s a b=false:=by
 refine wi fun η hw c=> ?_
 have:=h.rest hw c
 rw[List.drop_eq_getElem_cons hk,List.drop_eq_getElem_cons hi,bM hp]at this
 exact he (List.cons.inj this).1.symm
theorem MRel.tail(h:MRel s a b k i B)(hk:k<a.length)(hn:a[k]<0){r:List Int}(hr:bH s 1 (b.drop i)=some r){η:Int→List Int}(hw:bh s η)(hq:ap η a=b):η a[k]=dM s (b.drop i):=by
 have c:=h.rest hw hq
 rw[List.drop_eq_getElem_cons hk,cY hn]at c
 obtain⟨f,g,-⟩:=ov hr
 rw[f]at c
 exact(W1.uniq (hw _ hn) g c).1
theorem xQ{r:List Int}(hi:i<b.length)(hr:bH s 1 (b.drop i)=some r):dM s (b.drop i)=(b.drop i).take (b.length-r.length-i)∧i≤b.length-r.length∧r=b.drop (b.length-r.length)∧b.take (b.length-r.length)=b.take i++dM s (b.drop i)∧W1 s (dM s (b.drop i))∧(dM s (b.drop i)).length=b.length-r.length-i∧i<b.length-r.length:=by
 obtain⟨h,j,k⟩:=ov hr
 have g:=FX hr
 have c:=rZ s 1 _ _ hr
 rw[List.length_drop]at g c
 have f:dM s (b.drop i)=(b.drop i).take (b.length-r.length-i):=by
  unfold dM;rw[hr,Option.getD_some,List.length_drop];congr 1;omega
 have a:i≤b.length-r.length:=by omega
 refine⟨f,a,?_,?_,j,by omega,by omega⟩
 ·have:(b.drop i).drop (b.length-r.length-i)=r:=by
   rw[congrArg (List.drop (b.length-r.length-i)) h,List.drop_append_of_le_length (by omega),List.drop_of_length_le (by omega),List.nil_append]
  rw[List.drop_drop,show i+(b.length-r.length-i)=b.length-r.length by omega]at this
  exact this.symm
 rw[f,←List.take_add];congr 1;omega
theorem MRel.var(h:MRel s a b k i B)(hk:k<a.length)(hn:a[k]<0){r:List Int}(hr:bH s 1 (b.drop i)=some r)(hB:B a[k]=none∨B a[k]=some (dM s (b.drop i))):
  MRel s a b (k+1) (b.length-r.length) (bg B a[k] (dM s (b.drop i))):=by
 have C:=(h.part hk).1
 obtain⟨-,F,w,x,y,-⟩:=xQ C hr
 have E:a.take (k+1)=a.take k++[a[k]]:=List.take_succ_eq_append_getElem hk
 have j:∀η:Int→List Int,(∀n u,bg B a[k] (dM s (b.drop i)) n=some u→η n=u)→(∀n u,B n=some u→η n=u)∧η a[k]=dM s (b.drop i):=fun η o=>by
  have t:=o a[k] _ (by unfold bg;rw[if_pos rfl])
  refine⟨fun n u f=> ?_,t⟩
  by_cases e:n=a[k]
  ·subst e
   rcases hB with g|g
   ·rw[g]at f;cases f
   rw[g]at f;rw[←Option.some.inj f];exact t
  exact o n u (by unfold bg;rw[if_neg e];exact f)
 refine⟨hk,by omega,?_,fun n u f=> ?_,fun η o=> ?_,fun η hw q n u f=> ?_⟩
 ·obtain⟨c,p,A⟩:=h.op
  cases c with
  |zero=>rw[eG]at p;have:=congrArg List.length (Option.some.inj p);simp at this;omega
  |succ c=>
   obtain⟨_,_,l⟩:=jZ p
   rw[pC hn,Nat.add_zero]at l
   obtain⟨m,v,D⟩:=r8 A
   rw[hr]at v
   cases v
   rw[←w]
   exact⟨c,l,D⟩
 ·unfold bg at f
  split at f
  ·cases f;exact y
  exact h.wf n u f
 ·obtain⟨l,z⟩:=j η o
  rw[E,fx,h.fwd η l,cZ hn,z,x]
 unfold bg at f
 split at f
 ·rename_i e;cases f;rw[e];exact h.tail hk hn hr hw q
 exact h.bwd η hw q n u f
theorem MRel.var_no(h:MRel s a b k i B)(hk:k<a.length)(hn:a[k]<0){r u:List Int}(hr:bH s 1 (b.drop i)=some r)(hB:B a[k]=some u)(hne:u≠dM s (b.drop i)):fb s a b=false:=by
 refine wi fun η hw c=>hne ?_
 rw[←h.bwd η hw c _ _ hB]
 exact h.tail hk hn hr hw c
theorem MRel.done(h:MRel s a b a.length i B):fb s a b=true:=by
 have k:i=b.length:=by
  obtain⟨c,f,g⟩:=h.op
  rw[List.drop_length]at f
  cases c with
  |zero=>rw[eG]at g;have:=congrArg List.length (Option.some.inj g);simp at this;have:=h.ib;omega
  |succ c=>rw[j0]at f;cases f
 have hf:=h.fwd (fun n=>(B n).getD [n]) (fun n u m=>by simp only[m,Option.getD_some])
 rw[List.take_length,k,List.take_length]at hf
 refine Ec (fun n l=> ?_) hf
 cases j:B n with
 |none=>exact W1.var l
 |some u=>exact h.wf n u j
end
theorem sJ(w:World):(zeroValue 42).run Tryz.prog w= .ok (.slice none 0 0) w:=by kernel_rfl
noncomputable abbrev KI:=Ed (P:=Tryz.prog) (tk:=3) Tryz.underlying3
def BdMap(w0 w:World)(mb:Nat)(n:Nat)(B:Bd):Prop:=
 ∃f,VMap KI w mb n f∧(∀x,B x=none→f x=none)∧∀x u,B x=some u→∃a c,f x=some (.slice a u.length c)∧Ints (fun b=>b<w0.heap.size) w0 a c u
theorem BdMap.made(w0 w:World):BdMap w0 (w.alloc (.map #[] 0)) w.heap.size 0 (fun _=>none):=
 ⟨_,VMap.made KI w,fun _ _=>rfl,fun _ _ h=>by cases h⟩
theorem BdMap.below{w0 w w':World}{mb n K:Nat}{B:Bd}(h:BdMap w0 w mb n B)(hb:Below K w w')(hm:mb<K):BdMap w0 w' mb n B:=by
 obtain⟨f,a,b,c⟩:=h
 exact⟨f,a.below hb hm,b,c⟩
theorem BdMap.lt{w0 w:World}{mb n:Nat}{B:Bd}(h:BdMap w0 w mb n B):mb<w.heap.size:=by obtain⟨f,a,-⟩:=h;exact a.lt
theorem BdMap.store{w0 w:World}{mb n:Nat}{B:Bd}(h:BdMap w0 w mb n B)(hn:n<maxLen)(x:Int)(hx:aE x){a:Option Addr}{c:Nat}{u:List Int}(hu:Ints (fun b=>b<w0.heap.size) w0 a c u):
  ∃w' n',RowKit.Hid ((Instr.mapUpdate 167 (.map (some mb)) (.int .i64 x) (.slice a u.length c)).run Tryz.prog w= .ok () w')∧RowKit.Hid (n'≤n+1)∧RowKit.Hid (BdMap w0 w' mb n' (bg B x u))∧RowKit.Hid (w.grownBy w' (some mb))∧RowKit.Hid ((B x).isSome=true→n'=n):=by
 obtain⟨f,j,k,g⟩:=h
 obtain⟨w',r,l,hg⟩:=j.store (tm:=167) (te:=42) Tryz.underlying167 hn x hx (.slice a u.length c)
 refine⟨w',_,Lib.hid r,Lib.hid ?_,Lib.hid ⟨_,l,fun y hy=> ?_,fun y v hy=> ?_⟩,Lib.hid hg,Lib.hid fun hs=> ?_⟩
 ·split<;>omega
 ·unfold bg at hy
  split at hy
  ·cases hy
  rename_i e;simp only[if_neg e];exact k y hy
 ·unfold bg at hy
  split at hy
  ·rename_i e;cases hy;simp only[if_pos e];exact⟨a,c,rfl,hu⟩
  rename_i e;simp only[if_neg e];exact g y v hy
 rw[if_pos]
 cases i:B x with
 |none=>rw[i]at hs;cases hs
 |some v=>obtain⟨m,o,q,-⟩:=g x v i;rw[q];rfl
theorem BdMap.look_none{w0 w:World}{mb n:Nat}{B:Bd}(h:BdMap w0 w mb n B)(x:Int)(hx:aE x)(hB:B x=none):
  (Instr.lookup 167 (.map (some mb)) (.int .i64 x) true).run Tryz.prog w= .ok (.tuple #[.slice none 0 0, .bool false]) w:=by
 obtain⟨f,a,b,c⟩:=h
 have:=a.look_ok (tm:=167) (te:=42) Tryz.underlying167 (sJ w) x hx
 rw[b x hB]at this;exact this
theorem BdMap.look_some{w0 w:World}{mb n:Nat}{B:Bd}(h:BdMap w0 w mb n B)(x:Int)(hx:aE x){u:List Int}(hB:B x=some u):
  ∃a c,(Instr.lookup 167 (.map (some mb)) (.int .i64 x) true).run Tryz.prog w= .ok (.tuple #[.slice a u.length c, .bool true]) w∧Ints (fun b=>b<w0.heap.size) w0 a c u:=by
 obtain⟨f,g,k,i⟩:=h
 obtain⟨a,c,q,j⟩:=i x u hB
 have:=g.look_ok (tm:=167) (te:=42) Tryz.underlying167 (sJ w) x hx
 rw[q]at this;exact⟨a,c,this,j⟩
theorem Drew.trans{a b c:World}(h:Drew a b)(h2:Drew b c):Drew a c:=by obtain⟨n,rfl⟩:=h2;exact fY h n
def D3(s:Sg)(L:List (List Int))(w:World)(e:Ending)(w':World):Prop:=∃n:Int,e= .returned (.int .i64 n)∧-1≤n∧decide (0≤n)= !(L.all (aw s))∧Below w.heap.size w w'
def fT(n:Int):Int:=if n<0 then n-12 else n
def dK(t:List Int):List Int:=t.map fT
theorem A3(t:List Int):dK t=ap (fun n=>[n-12]) t:=by
 induction t with
 |nil=>rfl
 |cons n r a=>
  show fT n::dK r=_
  by_cases h:n<0
  ·rw[cY h,fT,if_pos h,a];rfl
  rw[bM h,fT,if_neg h,a]
theorem kY{s:Sg}{t:List Int}(h:W1 s t):W1 s (dK t):=by
 rw[A3];exact h.ap (fun n a=>W1.var (by omega))
theorem tz(t:List Int):(dK t).length=t.length:=by unfold dK;rw[List.length_map]
theorem rn{s:Sg}{t:List Int}(h:aw s t=true):∀n∈t,n<0→-12≤n:=fun n a _=>(tX (bj h).1 (rX s 1 t (bj h).2.2.2 n a)).1
theorem l9{s:Sg}{t:List Int}(h:aw s t=true):Rg t:=fun n b a=>by have:=rn h n b a;omega
theorem kX{s:Sg}{t:List Int}(h:aw s t=true):Rg (dK t):=fun n b a=>by
 unfold dK at b
 obtain⟨m,f,rfl⟩:=List.mem_map.1 b
 unfold fT at a⊢
 split
 ·have:=rn h m f ‹_›;omega
 rename_i c;rw[if_neg c]at a;omega
theorem OwnTs.lit1{w:World}{a:Option Addr}{c:Nat}{u:List Int}{T:Nat→Prop}(h:Ints T w a c u):
  OwnTs (fun _=>True) (w.alloc (.cells #[.slice a u.length c] 42)) w.heap.size (.slice (some ⟨w.heap.size,0,none⟩) 1 1) [u]:=by
 have hr:=World.ownsRow_lit (base:=w.heap.size) (e:=42) (size:=1) w #[.slice a u.length c] 1 (Nat.le_refl _) (by unfold maxLen;omega) (by simp)
 refine⟨[[.slice a u.length c]],hr,rfl,fun i f g=> ?_⟩
 match i,f with
 |0,_=>exact⟨a,c,rfl,(h.lt.weak (S':=bZ (fun _=>True) (.slice (some ⟨w.heap.size,0,none⟩) 1 1)) (fun b j=>⟨trivial,fun e=>by simp[Value.ownBlock]at e;omega⟩)).below (an _ _)⟩
def mG(B:Bd)(p:List Int):Nat→List Int→Prop
 |0,t=>t=p∧∀n r,t=n::r→n<0→B n=none
 |k+1,t=>∃n r u,t=n::r∧n<0∧B n=some u∧mG B p k u
theorem Lkd.num{B:Bd}{t p:List Int}(h:Lkd B t p):∃k,mG B p k t:=by
 induction h with
 |stop h=>exact⟨0,rfl,h⟩
 |go c a _ f=>obtain⟨k,b⟩:=f;exact⟨k+1,_,_,_,rfl,c,a,b⟩
structure SolvW (w0 w:World) (xb mb n:Nat) (a1:Option Addr) (c1:Nat) (s:Sg) (B:Bd):Prop where
 k0:w.cell? ⟨xb,0,none⟩=some (.slice a1 s.length c1)
 k1:w.cell? ⟨xb,1,none⟩=some (.map (some mb))
 map:BdMap w0 w mb n B
 bx:w0.heap.size≤xb
 bm:w0.heap.size≤mb
 ne:xb≠mb
 sg:Sign (fun b=>b<w0.heap.size) w0 a1 c1 s
 bel:Below w0.heap.size w0 w
 wf:∀n u,B n=some u→W1 s u
theorem SolvW.lt{w0 w:World}{xb mb n:Nat}{a1:Option Addr}{c1:Nat}{s:Sg}{B:Bd}(h:SolvW w0 w xb mb n a1 c1 s B):xb<w.heap.size:=World.block_lt_of_cell? _ _ h.k0
theorem SolvW.below{w0 w w':World}{xb mb n:Nat}{a1:Option Addr}{c1:Nat}{s:Sg}{B:Bd}(h:SolvW w0 w xb mb n a1 c1 s B)(hb:Below w.heap.size w w'):SolvW w0 w' xb mb n a1 c1 s B:=
 ⟨cell_later hb h.k0,cell_later hb h.k1,h.map.below hb h.map.lt,h.bx,h.bm,h.ne,h.sg,aa h.bel hb,h.wf⟩
abbrev T0 (w0:World) (a:Option Addr) (c:Nat) (t:List Int):Prop:=Ints (fun b=>b<w0.heap.size) w0 a c t
def LkF(w0:World)(f:Int→Option Value)(B:Bd)(p:List Int)(a':Option Addr)(c':Nat):Nat→Option Addr→Nat→List Int→Prop
 |0,a,c,t=>(t=p∧a=a'∧c=c')∧∀n r,t=n::r→n<0→B n=none
 |k+1,_,_,t=>∃n r u a3 c3,t=n::r∧n<0∧B n=some u∧f n=some (.slice a3 u.length c3)∧T0 w0 a3 c3 u∧LkF w0 f B p a' c' k a3 c3 u
theorem LkF.ex{w0:World}{f:Int→Option Value}{B:Bd}{p:List Int}(h3:∀x u,B x=some u→∃a c,f x=some (.slice a u.length c)∧T0 w0 a c u):
  ∀(k:Nat) (t:List Int) (a:Option Addr) (c:Nat),T0 w0 a c t→mG B p k t→∃a' c',LkF w0 f B p a' c' k a c t∧T0 w0 a' c' p
 |0,t,a,c,hT,⟨h1,h2⟩=>⟨a,c,⟨⟨h1,rfl,rfl⟩,h2⟩,h1▸hT⟩
 |k+1,t,a,c,hT,⟨n,r,u,h1,h2,hB,h4⟩=>by
  obtain⟨a3,c3,g1,g2⟩:=h3 n u hB
  obtain⟨a',c',b,g⟩:=LkF.ex h3 k u a3 c3 g2 h4
  exact⟨a',c',⟨n,r,u,a3,c3,h1,h2,hB,g1,g2,b⟩,g⟩
def EL(w0 w:World)(s:Sg)(f:Int→Option Value)(B:Bd)(p:List Int)(a':Option Addr)(c':Nat)(k:Nat)(tv:Value)(wr:World):Prop:=
 ∃t a c,tv= .slice a (List.length t) c∧T0 w0 a c t∧W1 s t∧LkF w0 f B p a' c' k a c t∧Drew w wr
theorem wW{w0 w:World}{xb mb n:Nat}{a1:Option Addr}{c1:Nat}{s:Sg}{B:Bd}(hS0:SolvW w0 w xb mb n a1 c1 s B){a:Option Addr}{c:Nat}{t p:List Int}(ht:T0 w0 a c t)(hw:W1 s t)(hl:Lkd B t p):
  ∃a' c',T0 w0 a' c' p∧∀m,Calls Tryz.prog 255 #[.pointer (some ⟨xb,0,none⟩), .slice a t.length c] (w.drewN m) fun e w'=>e= .returned (.slice a' p.length c')∧Drew (w.drewN m) w':=by
 obtain⟨Z,G⟩:=hl.num
 obtain⟨f,y,W,X⟩:=hS0.map
 obtain⟨a',c',H,D⟩:=LkF.ex X Z t a c ht G
 refine⟨a',c',D,fun m=> ?_⟩
 have hS:=hS0.below ((Drew.mk w m).below w.heap.size)
 have y:=y.below ((Drew.mk w m).below w.heap.size) hS0.map.lt
 generalize w.drewN m=w at*
 have l:=Lib.hid hS
 have Q:=Lib.hid ht
 have S:=Lib.hid hw
 have O:=Lib.hid H
 have m2:=ht.le
 have M:=Lib.hid y
 have N:=Lib.hid W
 have P:=y.lt
 clear hS ht hw hl G H D y W X hS0
 go_enter Tryz.func255,Tryz.ntmps255
 go_wp2_with fail
 go_loopg [1] Z (fun k tv wr=>EL w0 w s f B p a' c' k tv wr)
 case atStart=>exact⟨t,a,c,rfl,Q.out,S.out,O.out, .refl _⟩
 case round=>
  obtain⟨T,a4,c4,rfl,i,j,F,hd⟩:=hrel
  have L:=aa l.out.bel (hd.below _)
  have J:=j.len
  obtain⟨b,o,rfl,-,q,hr⟩:=(i.below L).int 0 (by omega)
  rw[Nat.add_zero]at q
  have q2:=(l.out.below (hd.below _)).k1
  have h:=fun m=>(M.out.below (w':=wr.drewN m) ((fY hd m).below w.heap.size) P).look_ok (tm:=167) (te:=42) Tryz.underlying167 (sJ _)
  cases gk with
  |zero=>
   obtain⟨⟨rfl,rfl,rfl⟩,hstop⟩:=F
   obtain⟨x,hx⟩:∃x,T[0]=x:=⟨_,rfl⟩
   have v:x<0→B x=none:=fun K=>hstop x T.tail (by rw[←hx];cases T with|nil=>simp at J|cons _ _=>rfl) K
   rw[hx]at q hr
   by_cases K:x<0
   ·have hl:∀m,(Instr.lookup 167 (.map (some mb)) (.int .i64 x) true).run Tryz.prog (wr.drewN m)= .ok (.tuple #[.slice none 0 0, .bool false]) (wr.drewN m):=fun m=>by
     have:=h m x hr
     rw[N.out x (v K)]at this;exact this
    have g:=Lib.hid hd
    clear hstop v j hx L i hd h
    go_wp2_with fail
    go_quiet (fail)
    clear hl
    all_goals go_wp2_with fail
    all_goals go_ret
    exact⟨rfl,fY g.out _⟩
   have g:=Lib.hid hd
   clear hstop v j hx L i hd h
   go_wp2_with fail
   go_ret
   exact⟨rfl,g.out⟩
  |succ k=>
   obtain⟨x,r,u,U,V,he,K,z,E,A,F⟩:=F
   subst he
   have Y:=l.out.wf _ _ z
   simp only[List.getElem_cons_zero]at q hr
   have hl:∀m,(Instr.lookup 167 (.map (some mb)) (.int .i64 x) true).run Tryz.prog (wr.drewN m)= .ok (.tuple #[.slice U u.length V, .bool true]) (wr.drewN m):=fun m=>by
    have:=h m x hr
    rw[E]at this;exact this
   have g:=Lib.hid hd
   have I:=Lib.hid F
   have R:=Lib.hid Y
   have C:=Lib.hid A
   clear j L i hd F Y A z E h
   go_wp2_with fail
   go_quiet (fail)
   clear hl
   all_goals go_wp2_with fail
   go_roundg k
   case measure=>omega
   case rel=>exact⟨u,U,V,rfl,C.out,R.out,I.out,fY g.out _⟩
def Mets(B:Bd)(v:Int)(M M':Bd):Prop:=∀m,M m=none→(M' m).isSome=true→m≠v∧∀u,B m=some u→∀k∈u,k<0→(M' k).isSome=true
def Sub(M M':Bd):Prop:=∀m,(M m).isSome=true→(M' m).isSome=true
theorem Sub.refl(M:Bd):Sub M M:=fun _ h=>h
theorem Sub.trans{A B C:Bd}(h:Sub A B)(k:Sub B C):Sub A C:=fun m a=>k m (h m a)
theorem Sub.up{M:Bd}{x:Int}{q:List Int}:Sub M (bg M x q):=fun m a=>by
 unfold bg;split
 ·rfl
 exact a
theorem IC{M:Bd}{x:Int}{q:List Int}:(bg M x q) x=some q:=by unfold bg;rw[if_pos rfl]
theorem zR{M:Bd}{x m:Int}{q:List Int}(h:m≠x):(bg M x q) m=M m:=by unfold bg;rw[if_neg h]
theorem wm{α:Type}{o:Option α}(h:¬o.isSome=true):o=none:=by cases o<;>simp_all
theorem Mets.refl(B:Bd)(v:Int)(M:Bd):Mets B v M M:=fun m b a=>by rw[b]at a;cases a
theorem Mets.leaf{B M M1:Bd}{v x:Int}(h:Mets B v M M1)(hx:x≠v)(hB:B x=none):Mets B v M (bg M1 x []):=fun m i b=>by
 by_cases e:m=x
 ·subst e;exact⟨hx,fun u a=>by rw[hB]at a;cases a⟩
 rw[zR e]at b
 obtain⟨c,f⟩:=h m i b
 exact⟨c,fun u a k j g=>Sub.up _ (f u a k j g)⟩
theorem Mets.node{B M M1 M2:Bd}{v x:Int}{u:List Int}(h:Mets B v M M1)(hx:x≠v)(hB:B x=some u)(h2:Mets B v (bg M1 x []) M2)(hs:Sub (bg M1 x []) M2)(hu:∀k∈u,k<0→(M2 k).isSome=true):Mets B v M M2:=fun m f g=>by
 by_cases e:m=x
 ·subst e;exact⟨hx,fun c a=>by rw[hB]at a;cases a;exact hu⟩
 by_cases b:(M1 m).isSome=true
 ·obtain⟨l,n⟩:=h m f b
  exact⟨l,fun c a k j i=>hs k (Sub.up k (n c a k j i))⟩
 exact h2 m (by rw[zR e];exact wm b) g
theorem xf{s:Sg}{B:Bd}{θ:Int→List Int}{ρ:Int→Nat}(h:Slv s B θ ρ){v:Int}{M:Bd}(hm:Mets B v (fun _=>none) M):∀(K:Nat) (t:List Int),(∀n∈t,n<0→(M n).isSome=true)→(∀n∈t,n<0→ρ n<K)→v<0→v∉ap θ t
 |K,t,h1,h2,hv,hmem=>by
  rcases mem_ap.1 hmem with⟨-,e⟩|⟨n,hn,h0,hvn⟩
  ·exact e hv
  obtain⟨g1,g2⟩:=hm n rfl (h1 n hn h0)
  cases a:B n with
  |none=>rw[h.free n h0 a,List.mem_singleton]at hvn;exact g1 hvn.symm
  |some u=>
   rw[h.bnd n u a]at hvn
   cases K with
   |zero=>have:=h2 n hn h0;omega
   |succ K=>
    exact xf h hm K u (g2 u a) (fun m c b=>by have:=h.rk n u a m c b;have:=h2 n hn h0;omega) hv hvn
def MetW(w:World)(mm n:Nat)(M:Bd):Prop:=∃f,VMap KI w mm n f∧∀x,f x=(M x).map fun _=> .bool true
theorem MetW.made(w:World):MetW (w.alloc (.map #[] 0)) w.heap.size 0 (fun _=>none):=⟨_,VMap.made KI w,fun _=>rfl⟩
theorem MetW.lt{w:World}{mm n:Nat}{M:Bd}(h:MetW w mm n M):mm<w.heap.size:=by obtain⟨f,a,-⟩:=h;exact a.lt
theorem MetW.below{w w':World}{mm n K:Nat}{M:Bd}(h:MetW w mm n M)(hb:Below K w w')(hm:mm<K):MetW w' mm n M:=by
 obtain⟨f,a,b⟩:=h;exact⟨f,a.below hb hm,b⟩
theorem MetW.look{w:World}{mm n:Nat}{M:Bd}(h:MetW w mm n M)(x:Int)(hx:aE x):
  (Instr.lookup 284 (.map (some mm)) (.int .i64 x) false).run Tryz.prog w= .ok (.bool (M x).isSome) w:=by
 obtain⟨f,b,c⟩:=h
 have:=b.look (tm:=284) (te:=4) Tryz.underlying284 (kO w) x hx
 rw[c x]at this
 cases a:M x with
 |none=>rw[a]at this;exact this
 |some u=>rw[a]at this;exact this
theorem MetW.store{w:World}{mm n:Nat}{M:Bd}(h:MetW w mm n M)(hn:n<maxLen)(x:Int)(hx:aE x)(hM:M x=none):
  ∃w',RowKit.Hid ((Instr.mapUpdate 284 (.map (some mm)) (.int .i64 x) (.bool true)).run Tryz.prog w= .ok () w')∧RowKit.Hid (MetW w' mm (n+1) (bg M x []))∧RowKit.Hid (w.grownBy w' (some mm)):=by
 obtain⟨f,c,a⟩:=h
 obtain⟨w',r,b,hg⟩:=c.store (tm:=284) (te:=4) Tryz.underlying284 hn x hx (.bool true)
 rw[if_neg (by rw[a x,hM];simp)]at b
 refine⟨w',Lib.hid r,Lib.hid ⟨_,b,fun y=> ?_⟩,Lib.hid hg⟩
 unfold bg
 by_cases e:y=x
 ·rw[if_pos e,if_pos e];rfl
 rw[if_neg e,if_neg e];exact a y
theorem SolvW.grown{w0 w w':World}{xb mb n k:Nat}{a1:Option Addr}{c1:Nat}{s:Sg}{B:Bd}(h:SolvW w0 w xb mb n a1 c1 s B)(hg:w.grownBy w' (some k))(h1:k≠xb)(h2:k≠mb)(h3:w0.heap.size≤k):SolvW w0 w' xb mb n a1 c1 s B:=by
 have hx:w'.heap[xb]?=w.heap[xb]?:=hg.block xb h.lt (fun e=>h1 (by injection e with e;exact e.symm))
 obtain⟨f,b,c,g⟩:=h.map
 exact⟨(World.cell?_of_block (a:=⟨xb,0,none⟩) hx).trans h.k0,(World.cell?_of_block (a:=⟨xb,1,none⟩) hx).trans h.k1,⟨f,b.same (hg.block mb b.lt (fun e=>h2 (by injection e with e;exact e.symm))),c,g⟩,h.bx,h.bm,h.ne,h.sg,
  h.bel.grown hg h.bel.size (fun j e=>by injection e with e;omega),h.wf⟩
structure CapW (w:World) (vb tb xx wb xb mm:Nat) (v:Int):Prop where
 v:w.cell? ⟨vb,0,none⟩=some (.int .i64 v)
 t:w.cell? ⟨tb,0,none⟩=some (.map (some mm))
 x:w.cell? ⟨xx,0,none⟩=some (.pointer (some ⟨xb,0,none⟩))
 f:w.cell? ⟨wb,0,none⟩=some (.func (.func 260) #[] #[.pointer (some ⟨vb,0,none⟩), .pointer (some ⟨tb,0,none⟩), .pointer (some ⟨xx,0,none⟩), .pointer (some ⟨wb,0,none⟩)])
 n1:vb≠mm
 n2:tb≠mm
 n3:xx≠mm
 n4:wb≠mm
theorem CapW.grown{w w':World}{vb tb xx wb xb mm:Nat}{v:Int}(h:CapW w vb tb xx wb xb mm v)(hg:w.grownBy w' (some mm)):CapW w' vb tb xx wb xb mm v:=by
 have c:∀b o u,b≠mm→w.cell? ⟨b,o,none⟩=some u→w'.cell? ⟨b,o,none⟩=some u:=fun b o u i g=>
  (World.cell?_of_block (a:=⟨b,o,none⟩) (hg.block b (World.block_lt_of_cell? _ _ g) (fun e=>i (by injection e)))).trans g
 exact⟨c _ _ _ h.n1 h.v,c _ _ _ h.n2 h.t,c _ _ _ h.n3 h.x,c _ _ _ h.n4 h.f,h.n1,h.n2,h.n3,h.n4⟩
end Go.Proofs.YtlejmeegkpdabaaGreatDoor
