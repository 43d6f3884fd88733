/- The proof of a statement, some of its texts joined in build order: part B3. -/
import Derived.Test.YtlejmeegkpdabaaGreatDoorMxB2
import Derived.Test.YtlejmeegkpdabaaGreatDoorMxK4
set_option maxHeartbeats 8000000
set_option maxRecDepth 20000
namespace Go.Proofs.YtlejmeegkpdabaaGreatDoor
open Go Go.RowKit Go.Maps
def Cd(B:Bd)(θ:Int→List Int)(v:Int)(t:List Int)(mm:Nat)(M:Bd)(w:World)(e:Ending)(w':World):Prop:=
 ∃(M':Bd) (n':Nat) (r:Bool),e= .returned (.bool r)∧MetW w' mm n' M'∧n'+free M'≤24∧w.grownBy w' (some mm)∧Sub M M'∧(r=true→v∈ap θ t)∧
  (r=false→(∀n∈t,n<0→(M' n).isSome=true)∧Mets B v M M')
def Cc(B:Bd)(v:Int)(t:List Int)(mm:Nat)(M:Bd)(w:World)(jv:Value)(wr:World):Prop:=
 ∃(j n:Nat) (M':Bd),jv= .int .i64 j∧j≤t.length∧MetW wr mm n M'∧n+free M'≤24∧w.grownBy wr (some mm)∧Sub M M'∧(∀n∈t.take j,n<0→(M' n).isSome=true)∧Mets B v M M'
theorem zw{t:List Int}{j:Nat}{P:Int→Prop}(h:∀n∈t.take j,P n)(hj:j<t.length)(hp:P t[j]):∀n∈t.take (j+1),P n:=by
 intro n a
 rw[List.take_succ_eq_append_getElem hj,List.mem_append,List.mem_singleton]at a
 rcases a with e|e
 ·exact h n e
 rw[e];exact hp
theorem vk{w w1 w2:World}{o:Option Nat}(h:w.grownBy w1 o)(b:w1.grownBy w2 o):w.grownBy w2 o:=
 ⟨b.os.trans h.os,b.tape.trans h.tape,b.output.trans h.output,Nat.le_trans h.size b.size,fun x hx a=>(b.block x (Nat.lt_of_lt_of_le hx h.size) a).trans (h.block x hx a)⟩
theorem Cb{w0:World}{xb mb nb:Nat}{a1:Option Addr}{c1:Nat}{s:Sg}{B:Bd}{θ:Int→List Int}{ρ:Int→Nat}(hSl:Slv s B θ ρ)(hRg:eX B){v:Int}(hv:v<0)(hBv:B v=none)(vb tb xx wb mm:Nat)(hmx:mm≠xb)(hmb:mm≠mb)(hm0:w0.heap.size≤mm):
  ∀(K:Nat) (t:List Int) (a:Option Addr) (c n:Nat) (M:Bd) (w:World),(∀m∈t,m<0→ρ m<K)→Rg t→T0 w0 a c t→SolvW w0 w xb mb nb a1 c1 s B→CapW w vb tb xx wb xb mm v→MetW w mm n M→n+free M≤24→
   Calls Tryz.prog 260 #[.slice a t.length c, .pointer (some ⟨vb,0,none⟩), .pointer (some ⟨tb,0,none⟩), .pointer (some ⟨xx,0,none⟩), .pointer (some ⟨wb,0,none⟩)] w (Cd B θ v t mm M w):=by
 intro K
 induction K using Nat.strongRecOn with
 |_ K ih=>
  intro t a c n M w hK hR hT hS hC hM hn
  have bP:=Lib.hid ih
  have bl:=Lib.hid hK
  have bp:=Lib.hid hR
  have bt:=Lib.hid hT
  have aU:=Lib.hid hS
  have aP:=Lib.hid hC
  have bn:=Lib.hid hM
  have bv:=Lib.hid hn
  have m2:=hT.le
  clear ih hK hR hT hS hC hM hn
  go_enter Tryz.func260,Tryz.ntmps260
  go_wp2_with fail
  go_loopw [13] (fun jv wr=>Cc B v t mm M w jv wr) (fun jv _=>t.length-(intOf jv).toNat)
  case atStart=>exact⟨0,n,M,rfl,Nat.zero_le _,bn.out,bv.out,⟨rfl,rfl,rfl,Nat.le_refl _,fun _ _ _=>rfl⟩, .refl _,(fun _ h=>by cases h), .refl _ _ _⟩
  case round=>
   obtain⟨j,n1,O,rfl,hj,U,a4,hg,Z,N,V⟩:=hrel
   have W:=aU.out.grown hg hmx hmb hm0
   have D:=aP.out.grown hg
   by_cases X:j<t.length
   ·obtain⟨b,o,rfl,-,q,hr⟩:=(bt.out.below W.bel).int j X
    obtain⟨x,hx⟩:∃x,t[j]=x:=⟨_,rfl⟩
    have C:x∈t:=hx▸List.getElem_mem X
    have p:x<0→∀M2:Bd,Sub O M2→(M2 x).isSome=true→∀n∈t.take (j+1),n<0→(M2 n).isSome=true:=fun _ M2 bw bN=>zw (fun n hn h0=>bw n (N n hn h0)) X (by rw[hx];exact fun _=>bN)
    have a9:¬x<0→∀n∈t.take (j+1),n<0→(O n).isSome=true:=fun A=>zw N X (by rw[hx];exact fun h=>(A h).elim)
    rw[hx]at q hr
    have qv:=D.v
    have qt:=D.t
    have qx:=D.x
    have qf:=D.f
    have i:=Lib.hid U
    have I:=Lib.hid hg
    have g:=Lib.hid Z
    have r:=Lib.hid V
    have aj:=Lib.hid p
    have ba:=Lib.hid a9
    have b2:=Lib.hid W
    have bU:=Lib.hid D
    have k:=Lib.hid a4
    clear U hg Z V p a9 W D hx N
    by_cases F:x=v
    ·subst F
     have L:x∈ap θ t:=mem_ap.2 (.inr ⟨x,C,hv,by rw[hSl.free x hv hBv];simp⟩)
     have S:=Lib.hid L
     have cf:(x==x)=true:=by simp
     clear L C
     go_wp2_with fail
     go_ret
     exact⟨O,n1,true,rfl,i.out,k.out,I.out,g.out,fun _=>S.out,fun h=>by cases h⟩
    have b4:(x==v)=false:=by simpa using F
    by_cases A:x<0
    ·have a0:=i.out.look x hr
     by_cases y:(O x).isSome=true
     ·rw[y]at a0
      have p:=Lib.hid (aj.out A O (.refl _) y)
      clear C y
      go_wp2_with fail
      go_roundw
      case rel=>exact⟨j+1,n1,O,by go_num,by omega,i.out,k.out,I.out,g.out,p.out,r.out⟩
      case measure=>simp[intOf];omega
     have l:=wm y
     rw[l]at a0
     have bb:=bp.out x C A
     have aW:=nD (q:=[]) A bb l
     obtain⟨w2,bx,aT,bu⟩:=i.out.store (by have:=k.out;unfold maxLen;omega) x hr l
     have b3:=bx.out
     have J:=vk I.out bu.out
     have H:=aU.out.grown J hmx hmb hm0
     have P:=aP.out.grown J
     have p1:=H.k1
     have ch:=P.x
     have cg:=P.f
     have T:n1+1+free (bg O x [])≤24:=by have:=k.out;omega
     have p:=aj.out A (bg O x []) Sub.up (by rw[IC];rfl)
     have L:∀u,B x=some u→v∈ap θ u→v∈ap θ t:=fun u hu bA=>mem_ap.2 (.inr ⟨x,C,A,by rw[hSl.bnd x u hu];exact bA⟩)
     have bm:=bl.out x C A
     cases z:B x with
     |none=>
      have a2:=H.map.look_none x hr z
      have Q:=Lib.hid (r.out.leaf F z)
      have E:=Lib.hid p
      have R:=Lib.hid J
      have ad:=Lib.hid T
      clear J H P T L p l aW C F z y
      go_wp2_with fail
      go_roundw
      case rel=>exact⟨j+1,n1+1,_,by go_num,by omega,aT.out,ad.out,R.out,g.out.trans Sub.up,E.out,Q.out⟩
      case measure=>simp[intOf];omega
     |some u=>
      obtain⟨a3,c3,a2,aR⟩:=H.map.look_some x hr z
      have cw:=bP.out (ρ x) bm u a3 c3 (n1+1) (bg O x []) w2 (fun m hm h0=>hSl.rk x u z m hm h0) (hRg x u z).1 aR H P aT.out T
      have Q:=Lib.hid fun M3 h1 h2 h3=>r.out.node (M2:=M3) F z h1 h2 h3
      have S:=Lib.hid (L u z)
      have bf:=Lib.hid cw
      have E:=Lib.hid p
      have R:=Lib.hid J
      have ad:=Lib.hid T
      clear J H P T L p l aW C F z y cw aR
      go_wp2_with fail
      (with_reducible refine bf.out.mono ?_)
      rintro e w3 ⟨M3,n3,r3,rfl,al,au,aq,av,ax,ao⟩
      have ab:=Lib.hid al
      have ag:=Lib.hid au
      have ac:=Lib.hid (vk R.out aq)
      have G:=Lib.hid av
      cases r3 with
      |true=>
       have Y:=Lib.hid (S.out (ax rfl))
       clear al au aq av ax ao
       go_wp2_with fail
       go_ret
       exact⟨M3,n3,true,rfl,ab.out,ag.out,ac.out,(g.out.trans Sub.up).trans G.out,fun _=>Y.out,fun h=>by cases h⟩
      |false=>
       have Y:=Lib.hid (ao rfl)
       clear al au aq av ax ao
       go_wp2_with fail
       go_roundw
       case rel=>exact⟨j+1,n3,M3,by go_num,by omega,ab.out,ag.out,ac.out,(g.out.trans Sub.up).trans G.out,fun n hn h0=>G.out n (E.out n hn h0),Q.out M3 Y.out.2 G.out Y.out.1⟩
       case measure=>simp[intOf];omega
    have p:=Lib.hid (ba.out A)
    clear C F
    go_wp2_with fail
    go_roundw
    case rel=>exact⟨j+1,n1,O,by go_num,by omega,i.out,k.out,I.out,g.out,p.out,r.out⟩
    case measure=>simp[intOf];omega
   obtain rfl:j=t.length:=by omega
   rw[List.take_length]at N
   have a5:=Lib.hid N
   have i:=Lib.hid U
   have I:=Lib.hid hg
   have g:=Lib.hid Z
   have r:=Lib.hid V
   have k:=Lib.hid a4
   clear U hg Z V N W D
   go_wp2_with fail
   go_ret
   exact⟨O,n1,false,rfl,i.out,k.out,I.out,g.out,(fun h=>by cases h),fun _=>⟨a5.out,r.out⟩⟩
theorem BT(w W:World)(xb:Nat)(v:Int)(t1 t2 t3 t4:TypeId)
  (hW:((((w.alloc (.cells #[.pointer (some ⟨xb,0,none⟩)] t1)).alloc (.cells #[.int .i64 v] t2)).alloc (.map #[] 0)).alloc (.cells #[.map (some (w.heap.size+1+1))] t3)).alloc
   (.cells #[.func (.func 260) #[] #[.pointer (some ⟨w.heap.size+1,0,none⟩), .pointer (some ⟨w.heap.size+1+1+1,0,none⟩), .pointer (some ⟨w.heap.size,0,none⟩), .pointer (some ⟨w.heap.size+1+1+1+1,0,none⟩)]] t4)=W):
  CapW W (w.heap.size+1) (w.heap.size+1+1+1) w.heap.size (w.heap.size+1+1+1+1) xb (w.heap.size+1+1) v∧MetW W (w.heap.size+1+1) 0 (fun _=>none)∧Below w.heap.size w W:=by
 have b:W.cell? ⟨w.heap.size+1,0,none⟩=some (.int .i64 v):=by rw[←hW];clear hW;go_simp
 have c:W.cell? ⟨w.heap.size+1+1+1,0,none⟩=some (.map (some (w.heap.size+1+1))):=by rw[←hW];clear hW;go_simp
 have f:W.cell? ⟨w.heap.size,0,none⟩=some (.pointer (some ⟨xb,0,none⟩)):=by rw[←hW];clear hW;go_simp
 have g:W.cell? ⟨w.heap.size+1+1+1+1,0,none⟩=some (.func (.func 260) #[] #[.pointer (some ⟨w.heap.size+1,0,none⟩), .pointer (some ⟨w.heap.size+1+1+1,0,none⟩), .pointer (some ⟨w.heap.size,0,none⟩), .pointer (some ⟨w.heap.size+1+1+1+1,0,none⟩)]):=by rw[←hW];clear hW;go_simp
 refine⟨⟨b,c,f,g,by omega,by omega,by omega,by omega⟩,?_,?_⟩
 ·have h:=MetW.made ((w.alloc (.cells #[.pointer (some ⟨xb,0,none⟩)] t1)).alloc (.cells #[.int .i64 v] t2))
  have a:=h.below (dT _ (.cells #[.map (some (w.heap.size+1+1))] t3) (.cells #[.func (.func 260) #[] #[.pointer (some ⟨w.heap.size+1,0,none⟩), .pointer (some ⟨w.heap.size+1+1+1,0,none⟩), .pointer (some ⟨w.heap.size,0,none⟩), .pointer (some ⟨w.heap.size+1+1+1+1,0,none⟩)]] t4)) (by simp)
  rw[hW]at a
  simpa using a
 rw[←hW]
 exact(((((Below.refl _ w).alloc (by simp) _).alloc (by simp<;>omega) _).alloc (by simp<;>omega) _).alloc (by simp<;>omega) _).alloc (by simp<;>omega) _
theorem uN:free (fun _=>none)=24:=by decide
theorem rE(ρ:Int→Nat):∀t:List Int,∃K,∀m∈t,m<0→ρ m<K
 | []=>⟨0,fun _ h=>by cases h⟩
 |x::t=>by
  obtain⟨K,hK⟩:=rE ρ t
  refine⟨max K (ρ x+1),fun m b a=> ?_⟩
  rcases List.mem_cons.1 b with e|e
  ·subst e;omega
  have:=hK m e a;omega
theorem t7{w0 w:World}{xb mb nb:Nat}{a1:Option Addr}{c1:Nat}{s:Sg}{B:Bd}{θ:Int→List Int}{ρ:Int→Nat}(hS:SolvW w0 w xb mb nb a1 c1 s B)(hSl:Slv s B θ ρ)(hRg:eX B){v:Int}(hv:v<0)(hBv:B v=none){a:Option Addr}{c:Nat}{t:List Int}(ht:T0 w0 a c t)(hR:Rg t):
  Calls Tryz.prog 256 #[.pointer (some ⟨xb,0,none⟩), .int .i64 v, .slice a t.length c] w fun e w'=>∃r,e= .returned (.bool r)∧(r=true↔v∈ap θ t)∧Below w.heap.size w w':=by
 obtain⟨K,A⟩:=rE ρ t
 have F:= @run_makeMap Tryz.prog
 have G:=hS.lt
 have E:=hS.map.lt
 have S:=hS.bel.size
 have p:=Lib.hid hS
 have T:=ht.le
 have key:=fun N L Q P J y x u n M W=>Cb (w0:=w0) (xb:=xb) (mb:=mb) (nb:=nb) (a1:=a1) (c1:=c1) hSl hRg hv hBv N L Q P J y x u K t a c n M W A hR ht
 have m:=Lib.hid key
 clear key hS
 go_enter Tryz.func256,Tryz.ntmps256
 go_wp2_with fail
 obtain⟨z,C,o⟩:=BT w _ xb v _ _ _ _ rfl
 (with_reducible refine(m.out _ _ _ _ _ (by omega) (by omega) (by omega) 0 _ _ (p.out.below o) z C (by rw[uN];omega)).mono ?_)
 rintro e O ⟨R,U,D,rfl,-,-,k,-,l,i⟩
 have g:Below w.heap.size w O:=o.grown k o.size (fun j e=>by injection e with e;omega)
 have b:D=true↔v∈ap θ t:=⟨l,fun q=>by
  cases D with
  |true=>rfl
  |false=>obtain⟨H,I⟩:=i rfl;exact(xf hSl I K t H A hv q).elim⟩
 have f:=Lib.hid b
 have h:=Lib.hid g
 clear b g l i k z C o
 go_wp2_with fail
 go_ret
 exact⟨_,rfl,f.out,h.out⟩
theorem A6{s:Sg}(hok:aH s=true){n:Int}(h:n<s.length):dw s n≤3:=by
 by_cases b:n<0
 ·rw[pC b];omega
 obtain⟨m,rfl⟩:=Int.eq_ofNat_of_zero_le (show 0≤n by omega)
 have a:m<s.length:=by omega
 have c:=l6 hok m a
 have f:=kZ a c.1
 omega
theorem Bc{s:Sg}(hok:aH s=true){P:List Int}(h:W1 s P):(bc s P).length≤3:=by
 cases P with
 |nil=>exact(h.ne rfl).elim
 |cons n r=>rw[h.args.1];exact A6 hok h.args.2.2.2
theorem EC{α:Type}(L:List α):L=[]∨∃L0 e,L=L0++[e]:=by
 rcases List.eq_nil_or_concat L with rfl|⟨L0,e,rfl⟩
 ·exact .inl rfl
 exact .inr ⟨L0,e,by rw[List.concat_eq_append]⟩
theorem E3{s:Sg}(hok:aH s=true){a b:List Int}:∀(k:Nat) (B:Bd) (θ:Int→List Int) (ρ:Int→Nat) (L:Prs),St s a b k B θ ρ L→(∃θ',IsMgu s a b θ')∨∀η,bh s η→ap η a≠ap η b:=by
 intro k
 induction k with
 |zero=>
  intro B θ ρ L h
  have o:L=[]:=h.halts
  subst o
  exact .inl ⟨θ,B,ρ,h.slv,h.eq.done⟩
 |succ k j=>
  intro B θ ρ L h
  rcases EC L with rfl|⟨z,⟨x,y⟩,rfl⟩
  ·exact .inl ⟨θ,B,ρ,h.slv,h.eq.done⟩
  have g:∀t:List Int,∀n r,t=n::r→n<0→ρ n<ρ (t.headD 0)+1:=fun t n r e _=>by rw[e];simp
  obtain⟨p,u⟩:=Lkd.ex h.slv _ x (g x)
  obtain⟨q,v⟩:=Lkd.ex h.slv _ y (g y)
  have c:=h.nxt u v
  generalize (aK p q).1=P at c
  generalize (aK p q).2=Q at c
  by_cases i:P.headD 0<0
  ·by_cases f:Q.headD 0=P.headD 0
   ·exact j _ _ _ _ (c.same i f)
   by_cases l:P.headD 0∈ap θ Q
   ·exact .inr (c.occ i f l)
   obtain⟨θ',A,m⟩:=c.bind i f l
   exact j _ _ _ _ m
  by_cases f:Q.headD 0=P.headD 0
  ·exact j _ _ _ _ (c.args (by omega) f (Bc hok c.sP.w))
  exact .inr (c.clash (by omega) (fun e=>f e.symm))
theorem xg{s:Sg}(hok:aH s=true){a b:List Int}(ha:W1 s a)(hb:W1 s b)(ra:Rg a)(rb:Rg b){η:Int→List Int}(hw:bh s η)(he:ap η a=ap η b):∃θ,IsMgu s a b θ:=by
 obtain⟨k,c⟩:=St.start ha hb ra rb
 rcases E3 hok k _ _ _ _ c with h|h
 ·exact h
 exact(h η hw he).elim
theorem IB{s:Sg}(hok:aH s=true){a b:List Int}(ha:W1 s a)(hb:W1 s b)(ra:Rg a)(rb:Rg b):
  (∃θ,IsMgu s a b θ)∨((∀η,bh s η→ap η a≠ap η b)∧kf s a b=false∧∀t,iL s a b t=([],8)):=by
 by_cases h:∃η,bh s η∧ap η a=ap η b
 ·obtain⟨η,hw,f⟩:=h
  exact .inl (xg hok ha hb ra rb hw f)
 have c:∀η,bh s η→ap η a≠ap η b:=fun η hw f=>h ⟨η,hw,f⟩
 exact .inr ⟨c,Iz c,sB c⟩
theorem yY{s:Sg}:∀{k:Nat} {l r:List Int},(∀n∈l,n<0→-12≤n)→bH s k l=some r→aJ s k l=some r
 |0,l,r,_,h=>by rw[eG]at h;rw[dQ];exact h
 |k+1,[],r,_,h=>by simp[j0]at h
 |k+1,n::l,r,hr,h=>by
  rw[ft]at h
  split at h
  ·rename_i hc
   have hn:=hr n (by simp)
   have a:br s n=true:=by
    unfold cw at hc
    simp only[decide_eq_true_eq]at hc
    unfold br
    simp only[Bool.or_eq_true,decide_eq_true_eq]
    omega
   rw[eu,if_pos a,(tZ a).2]
   exact yY (fun m b=>hr m (by simp[b])) h
  cases h
theorem FL{s:Sg}{t:List Int}(hok:aH s=true)(h:W1 s t)(hl:t.length≤60)(hr:∀n∈t,n<0→-12≤n):aw s t=true:=oo hok (yY hr h) hl
theorem pR(t:List Int):cz t=ap (fun n=>[bO (aD t) n]) t:=by
 unfold cz
 generalize aD t=v
 induction t with
 |nil=>rfl
 |cons n r a=>
  rw[List.map_cons,a]
  by_cases h:n<0
  ·rw[cY h];rfl
  rw[bM h,iT (by omega)]
theorem BS{s:Sg}{t:List Int}(h:W1 s t):W1 s (cz t):=by
 rw[pR]
 exact h.ap (fun n a=>W1.var (nf a))
theorem BP(t:List Int):(cz t).length=t.length:=by unfold cz;rw[List.length_map]
theorem BN{s:Sg}(t:List Int):∃τ,bh s τ∧ap τ (cz t)=t:=by
 refine⟨fun n=>[if n<0 then(aD t).getD (-n-1).toNat (-1)else n],fun n c=> ?_,?_⟩
 ·refine W1.var ?_
  rw[if_pos c,List.getD_eq_getElem?_getD]
  cases h:(aD t)[(-n-1).toNat]? with
  |none=>simp
  |some x=>exact IS x (List.mem_of_getElem? h)
 rw[pR,iO]
 refine mQ (fun n c b=> ?_)
 have i:n∈aD t:=mem_varsC.2 ⟨c,b⟩
 have f:=jA (v:=aD t) b
 have a:=nf (v:=aD t) b
 rw[cZ a,if_pos a]
 have g:=List.idxOf_lt_length_of_mem i
 have:(-(bO (aD t) n)-1).toNat=(aD t).idxOf n:=by rw[f];omega
 rw[this,List.getD_eq_getElem?_getD,List.getElem?_eq_getElem g]
 simp
theorem BR{t:List Int}(h:(aD t).length≤12):∀n∈cz t,n<0→-12≤n:=by
 intro n b c
 unfold cz at b
 obtain⟨m,f,rfl⟩:=List.mem_map.1 b
 by_cases a:m<0
 ·have g:=List.idxOf_lt_length_of_mem (mem_varsC.2 ⟨f,a⟩)
  rw[jA a];omega
 rw[iT (by omega)]at c;omega
theorem EN{s:Sg}{θ:Int→List Int}{t:List Int}(hok:aH s=true)(hθ:bh s θ)(ht:W1 s t)(h:(eK θ t).2=0):
  aw s (eK θ t).1=true∧(eK θ t).1=cz (ap θ t):=by
 unfold eK at h⊢
 split
 ·rename_i a
  exact⟨FL hok (BS (ht.ap hθ)) (by rw[BP];exact a.1) (BR a.2),rfl⟩
 rename_i a;rw[if_neg a]at h;cases h
abbrev prE:Enc (List Int×List Int):=dC (cI intE) (cI intE)
abbrev OwnPr (S:Nat→Prop) (w:World) (base:Nat) (v:Value) (L:Prs):Prop:=OwnL prE S w base 280 v L
theorem D8:(Tryz.prog.info? 280).map (fun i=>(i.zero,i.size,i.bytes))=some (some (.agg #[.slice none 0 0, .slice none 0 0]),2,48):=by kernel_rfl
section
variable {S:Nat→Prop}{w:World}{base g n cap:Nat}{L:Prs}
theorem xT{xs:List (List Value)}{T:Nat→Prop}(hl:xs.length=L.length)(hx:∀i (h1:i<xs.length) (h2:i<L.length),prE.R T w xs[i] L[i]):∀x∈xs,x.length=2:=by
 intro x a
 obtain⟨i,b,rfl⟩:=List.getElem_of_mem a
 exact prE.len (hx i b (by omega))
theorem OwnPr.cell(h:OwnPr S w base (.slice (some ⟨g,0,none⟩) n cap) L)(hn:n=L.length)(i:Nat)(hi:i<L.length):
  ∃a c a' c',w.cell? ⟨g,i*2,none⟩=some (.slice a L[i].1.length c)∧w.cell? ⟨g,i*2+1,none⟩=some (.slice a' L[i].2.length c')∧Ints (bZ S (.slice (some ⟨g,0,none⟩) n cap)) w a c L[i].1∧Ints (bZ S (.slice (some ⟨g,0,none⟩) n cap)) w a' c' L[i].2:=by
 subst hn
 obtain⟨p,l,o,hx⟩:=h
 have b:i<p.length:=by omega
 have k:=xT o hx
 obtain⟨r,q,f,⟨a,c,rfl,m⟩,⟨a',c',rfl,j⟩⟩:=hx i b hi
 refine⟨a,c,a',c',?_,?_,m,j⟩
 ·rw[l.cellAt (i*2) (by show i*2<L.length*2;omega)]
  have:=im k i b 0 (by rw[f];simp)
  rw[Nat.add_zero]at this
  rw[this];simp[f]
 rw[l.cellAt (i*2+1) (by show i*2+1<L.length*2;omega)]
 have:=im k i b 1 (by rw[f];simp)
 rw[this];simp[f]
theorem OwnPr.take(h:OwnPr S w base (.slice (some ⟨g,0,none⟩) n cap) L)(hn:n=L.length){k:Nat}(hk:k≤n):OwnPr S w base (.slice (some ⟨g,0,none⟩) k cap) (L.take k):=by
 subst hn
 obtain⟨c,q,l,hx⟩:=h
 have p:=xT l hx
 have a:(L.take k).length=k:=by simp;omega
 have j:(c.take k).flatten=c.flatten.take (k*2):=by
  clear q hx l hk a
  induction c generalizing k with
  |nil=>simp
  |cons x r F=>
   have D:=p x (by simp)
   cases k with
   |zero=>simp
   |succ k=>rw[List.take_succ_cons,List.flatten_cons,List.flatten_cons,F (fun z E=>p z (by simp[E])),show(k+1)*2=x.length+k*2 by omega,List.take_length_add_append]
 refine⟨c.take k,?_,by simp[l],fun i B C=> ?_⟩
 ·rw[a,j]
  obtain⟨o,b⟩:=q
  have hs:prE.size=2:=rfl
  rw[hs]at o b⊢
  refine⟨by rw[List.length_take,o];omega,?_⟩
  rcases b with⟨b,-⟩|⟨H,m,f,s,t,u,G,v,y,A⟩
  ·cases b
  cases s
  refine .inr ⟨g,cap,f,rfl,t,u,by omega,v,y,?_⟩
  rw[←A,List.take_take,Nat.min_eq_left (by omega)]
 simp only[List.getElem_take]
 exact hx i (by simp at B;omega) (by simp at C;omega)
end
def dp(s:Sg)(t:List Int)(m:Nat):Nat:=1+((bc s t).take m).flatten.length
theorem Bf{s:Sg}{n:Int}{x:List Int}(h:W1 s (n::x)){m:Nat}(hm:m<dw s n)(hl:m<(bc s (n::x)).length):
  bH s 1 ((n::x).drop (dp s (n::x) m))=some ((n::x).drop (dp s (n::x) (m+1)))∧dp s (n::x) m<dp s (n::x) (m+1)∧dp s (n::x) (m+1)≤(n::x).length∧
   ((n::x).drop (dp s (n::x) m)).take (dp s (n::x) (m+1)-dp s (n::x) m)=(bc s (n::x))[m]:=by
 obtain⟨f,b,c,-⟩:=h.args
 obtain⟨A,hA⟩:∃A,bc s (n::x)=A:=⟨_,rfl⟩
 rw[hA]at f b c
 simp only[dp,hA]
 have hd:∀k,(n::x).drop (1+(A.take k).flatten.length)=(A.drop k).flatten:=fun k=>by
  rw[Nat.add_comm,List.drop_succ_cons,←b]
  conv=>lhs;rw[←List.take_append_drop k A]
  rw[List.flatten_append]
  have:((A.take k++A.drop k).take k)=A.take k:=by rw[List.take_append_drop]
  rw[this,List.drop_left]
 have i:(A.take (m+1)).flatten.length=(A.take m).flatten.length+(A[m]'(by omega)).length:=by
  rw[List.take_succ_eq_append_getElem (by omega),List.flatten_append,List.length_append];simp
 have a:(A.drop m).flatten=A[m]'(by omega)++(A.drop (m+1)).flatten:=by rw[List.drop_eq_getElem_cons (by omega),List.flatten_cons]
 have hw:=c _ (List.getElem_mem (by omega:m<A.length))
 have g:(A.take (m+1)).flatten.length≤x.length:=by
  rw[←b]
  conv=>rhs;rw[←List.take_append_drop (m+1) A]
  rw[List.flatten_append,List.length_append];omega
 have j:=hw.len
 refine⟨?_,by omega,by rw[List.length_cons];omega,?_⟩
 ·rw[hd,hd,a,oT s 1 _ _ _ hw];rfl
 rw[hd,i,a,show 1+((A.take m).flatten.length+(A[m]'(by omega)).length)-(1+(A.take m).flatten.length)=(A[m]'(by omega)).length by omega,List.take_left]
theorem tB{s:Sg}{t:List Int}(h:W1 s t){n:Int}(hn:t.headD 0=n):(bc s t).length=dw s n∧n<s.length∧∀m (hm:m<(bc s t).length),bH s 1 (t.drop (dp s t m))=some (t.drop (dp s t (m+1)))∧dp s t m<dp s t (m+1)∧dp s t (m+1)≤t.length∧
  (t.drop (dp s t m)).take (dp s t (m+1)-dp s t m)=(bc s t)[m]:=by
 cases t with
 |nil=>exact(h.ne rfl).elim
 |cons k x=>
  simp only[List.headD_cons]at hn
  subst hn
  exact⟨h.args.1,h.args.2.2.2,fun m hm=>Bf h (by rw[←h.args.1];exact hm) hm⟩
theorem ux{t:List Int}{k:Nat}(h:k≤t.length):t.length-(t.drop k).length=k:=by rw[List.length_drop];omega
theorem wK{S1 S2:Nat→Prop}(a1 a2:Option Addr)(c1 c2:Nat)(s:Sg)(t:List Int)(p:Nat)(r:List Int)(w:World)(h1:Sign S1 w a1 c1 s)(h2:Ints S2 w a2 c2 t)(hok:aH s=true)(hp:bH s 1 (t.drop p)=some r):
  Calls Tryz.prog 257 #[.agg #[.slice a1 s.length c1], .slice a2 t.length c2, .int .i64 p] w fun e w'=>e= .returned (.int .i64 (t.length-r.length:Nat))∧Below w.heap.size w w':=by
 have b:=fun W c=>ti a1 a2 c1 c2 s t p r W (h1.below (w':=W) c) (h2.below c) hok hp
 have a:=Lib.hid b
 clear b h1 h2 hp
 go_enter Tryz.func257,Tryz.ntmps257
 go_wp2_with fail
 refine(a.out _ (an _ _)).mono ?_
 rintro e f ⟨rfl,rfl⟩
 go_wp2_with fail
 go_ret
 exact⟨rfl,an _ _⟩
theorem OwnPr.lit1{w:World}{S:Nat→Prop}{a a':Option Addr}{c c':Nat}{t u:List Int}(h:Ints S w a c t)(h':Ints S w a' c' u):
  OwnPr S (w.alloc (.cells #[.slice a t.length c, .slice a' u.length c'] 280)) w.heap.size (.slice (some ⟨w.heap.size,0,none⟩) 1 1) [(t,u)]:=by
 have hr:=World.ownsRow_lit (base:=w.heap.size) (e:=280) (size:=2) w #[.slice a t.length c, .slice a' u.length c'] 1 (Nat.le_refl _) (by unfold maxLen;omega) (by simp)
 refine⟨[[.slice a t.length c, .slice a' u.length c']],hr,rfl,fun i g j=> ?_⟩
 obtain rfl:i=0:=by simp at g;omega
 have hA:=Agree.all (S:=S) (an w (.cells #[.slice a t.length c, .slice a' u.length c'] 280))
 have f:∀b,b<w.heap.size→S b→bZ S (.slice (some ⟨w.heap.size,0,none⟩) 1 1) b:=fun b k hs=>⟨hs,fun e=>by simp[Value.ownBlock]at e;omega⟩
 exact⟨[_],[_],rfl,⟨a,c,rfl,h.mono f hA⟩,⟨a',c',rfl,h'.mono f hA⟩⟩
theorem T0.back{w0 w:World}(hB:Below w0.heap.size w0 w){S:Nat→Prop}{a:Option Addr}{c:Nat}{t:List Int}(h:Ints S w a c t)(hS:∀b,S b→b<w0.heap.size):T0 w0 a c t:=
 h.mono (fun b _ f=>hS b f) (fun b f _=>(hB.block b (hS b f)).symm)
def oV(w0 wS:World)(xb mb:Nat)(a1:Option Addr)(c1:Nat)(s:Sg)(a b:List Int)(k:Nat)(lv:Value)(wr:World):Prop:=
 ∃B θ ρ n L,St s a b k B θ ρ L∧n+free B≤24∧SolvW w0 wr xb mb n a1 c1 s B∧OwnPr (fun b=>b<w0.heap.size) wr wS.heap.size lv L∧wS.heap.size≤wr.heap.size
def zf(w0:World)(xb mb:Nat)(a1:Option Addr)(c1:Nat)(s:Sg)(a b:List Int)(e:Ending)(w':World):Prop:=
 ∃r,e= .returned (.bool r)∧Below w0.heap.size w0 w'∧(r=false→∀η,bh s η→ap η a≠ap η b)∧
  (r=true→∃B θ ρ n,Slv s B θ ρ∧eX B∧(∀η,bh s η→(dJ B η↔ap η a=ap η b))∧SolvW w0 w' xb mb n a1 c1 s B∧∀n u,B n=some u→InfT a b u)
section
variable {P:Program}{Q:Exit→Act→World→Prop}{md:Region.Mode}{S:World→Prop}{l:List Oper}{listed:Array Bool}{fuel:Nat}{a:Act}{w:World}
end
theorem SolvW.keep{w0 w w':World}{xb mb n K:Nat}{a1:Option Addr}{c1:Nat}{s:Sg}{B:Bd}(h:SolvW w0 w xb mb n a1 c1 s B)(hb:Below K w w')(h1:xb<K)(h2:mb<K)(h3:w0.heap.size≤K):SolvW w0 w' xb mb n a1 c1 s B:=
 ⟨(World.cell?_of_block (a:=⟨xb,0,none⟩) (hb.block xb h1)).trans h.k0,(World.cell?_of_block (a:=⟨xb,1,none⟩) (hb.block xb h1)).trans h.k1,h.map.below hb h2,h.bx,h.bm,h.ne,h.sg,h.bel.trans (hb.mono h3),h.wf⟩
theorem SolvW.stored{w0 w w':World}{xb mb n n':Nat}{a1:Option Addr}{c1:Nat}{s:Sg}{B:Bd}{v:Int}{q:List Int}(h:SolvW w0 w xb mb n a1 c1 s B)(hg:w.grownBy w' (some mb))(hD:BdMap w0 w' mb n' (bg B v q))(hq:W1 s q):SolvW w0 w' xb mb n' a1 c1 s (bg B v q):=by
 have hx:w'.heap[xb]?=w.heap[xb]?:=hg.block xb h.lt (fun e=>h.ne (by injection e))
 refine⟨(World.cell?_of_block (a:=⟨xb,0,none⟩) hx).trans h.k0,(World.cell?_of_block (a:=⟨xb,1,none⟩) hx).trans h.k1,hD,h.bx,h.bm,h.ne,h.sg,h.bel.grown hg h.bel.size (fun j e=>by have:=h.bm;injection e with e;omega),fun m u b=> ?_⟩
 unfold bg at b
 split at b
 ·cases b;exact hq
 exact h.wf m u b
def D6(w0 wS:World)(xb mb n:Nat)(a1:Option Addr)(c1:Nat)(s:Sg)(B:Bd)(L0:Prs)(P Q:List Int)(N:Nat)(lv iv jv cv:Value)(wr:World):Prop:=
 ∃m:Nat,cv= .int .i64 m∧m≤N∧iv= .int .i64 (dp s P m:Nat)∧jv= .int .i64 (dp s Q m:Nat)∧OwnPr (fun b=>b<w0.heap.size) wr wS.heap.size lv (L0++((bc s P).zip (bc s Q)).take m)∧SolvW w0 wr xb mb n a1 c1 s B∧wS.heap.size≤wr.heap.size
theorem AG{S:Nat→Prop}{w:World}{base:Nat}{v:Value}{L:Prs}(ho:OwnPr S w base v L)(hS:∀b,S b→b<base)(hbs:base≤w.heap.size){a a':Option Addr}{c c':Nat}{t u:List Int}(h:Ints S w a c t)(h':Ints S w a' c' u)(hl:L.length+1≤100000000):
  ∃v' w',RowKit.Hid ((Builtin.append_ #[281,281] 281 #[v, .slice (some ⟨w.heap.size,0,none⟩) 1 1]).run Tryz.prog (w.alloc (.cells #[.slice a t.length c, .slice a' u.length c'] 280))= .ok v' w')∧RowKit.Hid (OwnPr S w' base v' (L++[(t,u)]))∧RowKit.Hid (Below base w w'):=by
 have hw:∀b,S b→bZ S v b:=fun b i=>⟨i,fun e=>by have:=(OwnL.lt ho b e.symm).1;have:=hS b i;omega⟩
 obtain⟨v',w',f,g,hg,-⟩:=OwnL.push (P:=Tryz.prog) (t:=281) (ty:=281) ho Tryz.underlying281 D8 rfl (vs:=[.slice a t.length c, .slice a' u.length c']) (x:=(t,u)) ⟨[_],[_],rfl,⟨a,c,rfl,h.weak hw⟩,⟨a',c',rfl,h'.weak hw⟩⟩ (by omega) (by unfold aB;omega) hbs
 exact⟨v',w',Lib.hid f,Lib.hid g,Lib.hid ((Below.refl base w).grown hg hbs (fun k e=>(OwnL.lt ho k e).1))⟩
theorem x9(ρ:Int→Nat)(t:List Int):∀n r,t=n::r→n<0→ρ n<ρ (t.headD 0)+1:=fun n r e _=>by rw[e];simp
theorem EB{α:Type}{L:List α}(h:0<L.length):∃L0 e,L=L0++[e]∧L0.length+1=L.length:=by
 rcases List.eq_nil_or_concat L with rfl|⟨L0,e,rfl⟩
 ·simp at h
 exact⟨L0,e,by rw[List.concat_eq_append],by simp⟩
theorem HF{w0 wS:World}{xb mb:Nat}{a1:Option Addr}{c1:Nat}{s:Sg}(hok:aH s=true)(hS:SolvW w0 wS xb mb 0 a1 c1 s (fun _=>none)){a2 a3:Option Addr}{c2 c3:Nat}{a b:List Int}(ta:T0 w0 a2 c2 a)(tb:T0 w0 a3 c3 b)
  (ha:W1 s a) (hb:W1 s b) (ra:Rg a) (rb:Rg b) (la:a.length≤1000) (lb:b.length≤1000):
  Calls Tryz.prog 252 #[.pointer (some ⟨xb,0,none⟩), .slice a2 a.length c2, .slice a3 b.length c3] wS (zf w0 xb mb a1 c1 s a b):=by
 obtain⟨k0,A⟩:=St.start ha hb ra rb
 have hf:=hS.lt
 have g6:=hS.map.lt
 have hz:=hS.bel.size
 have g3:=Lib.hid hS
 have f2:=Lib.hid A
 have bP:=Lib.hid hok
 have m2:=ta.le
 have m3:=tb.le
 have fo:=Lib.hid (OwnPr.lit1 (w:=wS) (ta.below hS.bel) (tb.below hS.bel))
 clear ha hb ra rb A hS hok ta tb
 go_enter Tryz.func252,Tryz.ntmps252
 go_wp2_with fail
 go_loopg [7] k0 (fun k lv wr=>oV w0 wS xb mb a1 c1 s a b k lv wr)
 case atStart=>exact⟨_,_,_,0,_,f2.out,by rw[uN];omega,g3.out.below (an _ _),fo.out,by simp⟩
 case round=>
  obtain⟨B,θ,ρ,n,L,A,hn,hS,ho,hd⟩:=hrel
  obtain⟨al,cl,C,ec⟩:=OwnL.sl ho
  by_cases hL:0<L.length
  ·obtain⟨g,cW,he,h4,h5⟩:=OwnL.form ho (by intro e;rw[e]at hL;simp at hL)
   subst he
   obtain⟨Z,⟨x,y⟩,du,g2⟩:=EB hL
   have fr:=A.len la lb
   obtain⟨ax,cx,ay,cy,qx,qy,b6,b7⟩:=OwnPr.cell ho rfl Z.length (by omega)
   have hi:L[Z.length]'(by omega)=(x,y):=by
    have:L[Z.length]?=some (x,y):=by rw[du];simp
    rw[List.getElem?_eq_getElem (by omega)]at this
    exact Option.some.inj this
   rw[hi]at qx qy b6 b7
   simp only at qx qy b6 b7
   have eb:=OwnPr.take ho rfl (k:=Z.length) (by omega)
   rw[du,List.take_left]at eb
   have tx:=T0.back hS.bel b6 (fun b hb=>hb.1)
   have ty:=T0.back hS.bel b7 (fun b hb=>hb.1)
   have hc:IntKind.i64.wrap (((L.length:Nat):Int)-1)=(Z.length:Nat):=by rw[show(((L.length:Nat):Int)-1)=(Z.length:Nat)by omega];exact IntWalk.i64_in _ (by omega)
   have fz:((Z.length:Nat):Int)<L.length:=by omega
   have hM:(0:Int)≤(Z.length:Nat):=by omega
   have e8:L.length≤cW:=by have:=ec.cap;simp at C;omega
   subst du
   obtain⟨U,rfl⟩:=A.pos
   obtain⟨hx,hy,-⟩:=A.item
   obtain⟨O,ci⟩:=Lkd.ex A.slv _ x (x9 ρ x)
   obtain⟨J,cj⟩:=Lkd.ex A.slv _ y (x9 ρ y)
   obtain⟨ap,cp,dx,c4⟩:=wW (hS.below (an wr (.cells #[.slice ax x.length cx, .slice ay y.length cy] 280))) tx hx.1 ci
   obtain⟨aq,cq,dy,c5⟩:=wW (hS.below (an wr (.cells #[.slice ax x.length cx, .slice ay y.length cy] 280))) ty hy cj
   obtain⟨lL,d5⟩:∃l,(Z++[(x,y)]).length=l:=⟨_,rfl⟩
   rw[d5]at hc fz e8 g2 hL fr
   simp only[d5]
   obtain⟨W1,ag⟩:∃W1,wr.alloc (.cells #[.slice ax x.length cx, .slice ay y.length cy] 280)=W1:=⟨_,rfl⟩
   have cd:Below wr.heap.size wr W1:=by rw[←ag];exact an _ _
   rw[ag]at c4 c5
   have u0:W1.cell? ⟨wr.heap.size,0,none⟩=some (.slice ax x.length cx):=by rw[←ag];clear ag;go_simp
   have u1:W1.cell? ⟨wr.heap.size,1,none⟩=some (.slice ay y.length cy):=by rw[←ag];clear ag;go_simp
   have ca:=hS.below cd
   have cL:=OwnL.call eb cd
   have cO:=Nat.le_trans hd cd.size
   have hN:=A.nxt ci cj
   obtain⟨sp,sq⟩:=A.seen ci cj
   have lp:=sp.w.len
   have lq:=sq.w.len
   obtain⟨bp,op,rfl,h2,qp,rp⟩:=(dx.below ca.bel).int 0 (by omega)
   obtain⟨bq,oq,rfl,h3,qq,rq⟩:=(dy.below ca.bel).int 0 (by omega)
   rw[Nat.add_zero]at qp qq
   have bU:O[0]=O.headD 0:=by cases O with|nil=>simp at lp|cons _ _=>rfl
   have bW:J[0]=J.headD 0:=by cases J with|nil=>simp at lq|cons _ _=>rfl
   rw[bU]at qp rp
   rw[bW]at qq rq
   have aT:aK O J=if J.headD 0<0 then(J,O)else(O,J):=rfl
   obtain⟨D,bU⟩:∃D,O.headD 0=D:=⟨_,rfl⟩
   obtain⟨E,bW⟩:∃E,J.headD 0=E:=⟨_,rfl⟩
   rw[bU]at qp rp
   rw[bW]at qq rq aT
   have b8:=Lib.hid hN
   have P:=Lib.hid aT
   have cm:=Lib.hid c4
   have cn:=Lib.hid c5
   have cr:=Lib.hid ca
   have cN:=Lib.hid cL
   have a0:=Lib.hid dx
   have a4:=Lib.hid dy
   have aN:=Lib.hid hn
   have cs:=Lib.hid ag
   have a5:=Lib.hid bU
   have a9:=Lib.hid bW
   have ba:=Lib.hid rp
   have bb:=Lib.hid rq
   clear c4 c5 A hS eb ho dx dy ci cj hn tx ty b6 b7 hi d5 hx hy C ec fr cd ca cL hN sp sq aT bU bW rp rq ag
   go_wp2_with fail
   rw[cs.out]
   clear cs qx qy
   go_quiet ((go_at_call 255;first|(with_reducible exact xV (cm.out _))|(with_reducible exact xV (cn.out _))))
   clear cm cn u0 u1
   obtain⟨W2,dB⟩:∃W2,W1.drewN nq=W2:=⟨_,rfl⟩
   have bn:Below W1.heap.size W1 W2:=by rw[←dB];exact(Drew.mk _ _).below _
   rw[dB]
   have u:=Lib.hid (cr.out.below bn)
   have I:=Lib.hid (OwnL.call cN.out bn)
   have qp:=cell_later bn qp
   have qq:=cell_later bn qq
   have X:=Nat.le_trans cO bn.size
   clear bn dB cr cN cO
   by_cases hq:E<0
   ·have c:=Lib.hid (show Nxt s a b U B θ ρ Z J O E D by
     have h:=b8.out
     rw[P.out,if_pos hq]at h
     simp only[a5.out,a9.out]at h
     exact h)
    have b5:=Lib.hid a4.out
    have ac:=Lib.hid a0.out
    have lP:=lq
    have lQ:=lp
    have er:=Lib.hid bb.out
    have hB:=Lib.hid ba.out
    have Q:(E<0∧D=E)∨(E<0∧D≠E)∨(0≤E∧D=E)∨(0≤E∧E≠D):=by omega
    have p:=Lib.hid Q
    clear b8 P a0 a4 ba bb a5 a9 Q
    go_wp2_with fail
    rcases p.out with⟨C,hw⟩|⟨C,hw⟩|⟨C,hw⟩|⟨C,hw⟩
    ·have V:=Lib.hid (c.out.same C hw)
     have hb:(D==E)=true:=by simpa using hw
     have bt:decide (E<0)=true:=by simpa using C
     clear p hw c
     go_quiet (fail)
     all_goals go_wp2_with fail
     go_roundg U
     case measure=>omega
     case rel=>exact⟨B,θ,ρ,n,Z,V.out,aN.out,u.out.below ((Drew.mk _ _).below _),OwnL.call I.out ((Drew.mk _ _).below _),X⟩
    ·have d1:=Lib.hid (c.out.bind C hw)
     have ea:=Lib.hid (c.out.occ C hw)
     have ab:B E=none:=by have:=(c.out.sP.v (by rw[c.out.hP];exact C)).2.1;rwa[c.out.hP]at this
     have bv:-24≤E:=by have:=(c.out.sP.v (by rw[c.out.hP];exact C)).2.2;rwa[c.out.hP]at this
     have g5:=nD (q:=O) C bv ab
     have cc:=fun W hb=>t7 (w:=W) (u.out.below hb) c.out.slv c.out.rg C ab ac.out c.out.sQ.r
     have c0:=Lib.hid cc
     have e2:=Lib.hid ab
     have bu:=Lib.hid c.out.sQ.w
     have hb:(D==E)=false:=by simpa using hw
     have bt:decide (E<0)=true:=by simpa using C
     clear p hw c cc ab
     go_quiet (fail)
     all_goals go_wp2_with fail
     obtain⟨W3,H⟩:∃W3,W2.drewN nq=W3:=⟨_,rfl⟩
     have F:Below W2.heap.size W2 W3:=by rw[←H];exact(Drew.mk _ _).below _
     rw[H]
     (with_reducible refine(c0.out W3 F).mono ?_)
     rintro e w4 ⟨r,rfl,hr,M⟩
     have z:=aa F M
     have o:=Lib.hid (u.out.below z)
     have b0:=Lib.hid hr
     cases r with
     |true=>
      clear hr F M H z
      go_wp2_with fail
      go_ret
      exact⟨false,rfl,o.out.bel,fun _=>ea.out (b0.out.1 (by simp)),fun h=>by cases h⟩
     |false=>
      have aO:=Lib.hid (OwnL.call I.out z)
      have em:=cell_later z qq
      have k1:=o.out.k1
      have b1:=Nat.le_trans X z.size
      clear hr F M H z
      go_wp2_with fail
      have au:E∉ap θ O:=fun h=>by have:=b0.out.2 h;cases this
      obtain⟨θ',ρ',av⟩:=d1.out au
      have aR:=Lib.hid av
      obtain⟨w5,n5,b3,d6,ds,R,-⟩:=(o.out.map.below (w':=w4.drew) (Below.drew (.refl w4.heap.size _)) o.out.map.lt).store (by have:=aN.out;unfold maxLen;omega) E er.out ac.out
      have Y:=b3.out
      clear av au
      have fn:0<J.length:=lP
      have ed:=o.out.lt
      have d2:bq<w4.drew.heap.size:=World.block_lt_of_cell? _ _ em
      have dn:bq≠mb:=by have:=o.out.bm;omega
      refine wp_region_held_drew (S:=(fun w'=>w'.cell? ⟨xb,1,none⟩=some (.map (some mb))∧w'.cell? ⟨bq,oq,none⟩=some (.int .i64 E))) (by kernel_rfl) ⟨k1,em⟩ (fun hS=> ?_)
      refine ak 0 116 (v:= ?_) hS ?_ ?_;rotate_left;·(intro t f;go_simp;try(with_reducible rfl))
      refine ak 1 117 (v:= ?_) hS ?_ ?_;rotate_left;·(intro t f;go_simp;try(with_reducible rfl))
      refine ak 2 118 (v:= ?_) hS ?_ ?_;rotate_left;·(intro t f;go_simp;try(with_reducible rfl))
      refine ak 3 119 (v:= ?_) hS ?_ ?_;rotate_left;·(intro t f;go_simp;try(with_reducible rfl))
      refine ak 4 120 (v:= ?_) hS ?_ ?_;rotate_left;·(intro t f;go_simp;try(with_reducible rfl))
      refine ak 5 121 (v:= ?_) hS ?_ ?_;rotate_left;·(intro t f;go_simp;try(with_reducible rfl))
      refine ak 6 122 (v:= ?_) hS ?_ ?_;rotate_left;·(intro t f;go_simp;try(with_reducible rfl))
      refine ak 7 123 (v:= ?_) hS ?_ ?_;rotate_left;·(intro t f;go_simp;try(with_reducible rfl))
      refine bI 8 rfl (by kernel_rfl) (fun K hK=> ?_)
      go_simp
      refine hK.out _ _ ⟨(World.cell?_of_block (R.out.block xb ed (fun e=>o.out.ne (by injection e)))).trans k1,(World.cell?_of_block (R.out.block bq d2 (fun e=>dn (by injection e)))).trans em⟩ ?_
      clear hS hK
      intro hS
      refine wpAnyH_done (by kernel_rfl) ?_ _
      have hrel:oV w0 wS xb mb a1 c1 s a b U (.slice (some ⟨g,0,none⟩) Z.length cW) w5:=
       ⟨_,θ',ρ',n5,Z,aR.out,by have:=aN.out;have:=d6.out;omega,(o.out.below (Below.drew (.refl w4.heap.size _))).stored R.out ds.out bu.out,
        OwnL.grown (OwnL.call aO.out (Below.drew (.refl w4.heap.size _))) R.out (fun j e e'=>by simp[Value.ownBlock]at e;injection e' with e';omega) (fun j hj _ e=>by have:=o.out.bm;have aL:j<w0.heap.size:=hj;injection e with e;omega),Nat.le_trans b1 R.out.size⟩
      have T:=Lib.hid hrel
      clear hrel hS Y
      go_wp2_with fail
      go_roundg U
      case measure=>omega
      case rel=>exact T.out
    ·omega
    have V:=Lib.hid (c.out.clash C hw)
    have hb:(E != D)=true:=by simpa using hw
    have bt:decide (E<0)=false:=by simp;omega
    clear p hw c
    go_quiet (fail)
    all_goals go_wp2_with fail
    all_goals go_quiet (fail)
    all_goals go_wp2_with fail
    all_goals go_ret
    all_goals exact⟨false,rfl,aa u.out.bel ((Drew.mk2 _ _ _).below _),fun _=>V.out,fun h=>by cases h⟩
   have c:=Lib.hid (show Nxt s a b U B θ ρ Z O J D E by
    have h:=b8.out
    rw[P.out,if_neg hq]at h
    simp only[a5.out,a9.out]at h
    exact h)
   have b5:=Lib.hid a0.out
   have ac:=Lib.hid a4.out
   have lP:=lp
   have lQ:=lq
   have er:=Lib.hid ba.out
   have hB:=Lib.hid bb.out
   have Q:(D<0∧E=D)∨(D<0∧E≠D)∨(0≤D∧E=D)∨(0≤D∧D≠E):=by omega
   have p:=Lib.hid Q
   clear b8 P a0 a4 ba bb a5 a9 Q
   go_wp2_with fail
   rcases p.out with⟨C,hw⟩|⟨C,hw⟩|⟨C,hw⟩|⟨C,hw⟩
   ·have V:=Lib.hid (c.out.same C hw)
    have hb:(E==D)=true:=by simpa using hw
    have bt:decide (D<0)=true:=by simpa using C
    clear p hw c
    go_quiet (fail)
    all_goals go_wp2_with fail
    go_roundg U
    case measure=>omega
    case rel=>exact⟨B,θ,ρ,n,Z,V.out,aN.out,u.out.below ((Drew.mk _ _).below _),OwnL.call I.out ((Drew.mk _ _).below _),X⟩
   ·have d1:=Lib.hid (c.out.bind C hw)
    have ea:=Lib.hid (c.out.occ C hw)
    have ab:B D=none:=by have:=(c.out.sP.v (by rw[c.out.hP];exact C)).2.1;rwa[c.out.hP]at this
    have bv:-24≤D:=by have:=(c.out.sP.v (by rw[c.out.hP];exact C)).2.2;rwa[c.out.hP]at this
    have g5:=nD (q:=J) C bv ab
    have cc:=fun W hb=>t7 (w:=W) (u.out.below hb) c.out.slv c.out.rg C ab ac.out c.out.sQ.r
    have c0:=Lib.hid cc
    have e2:=Lib.hid ab
    have bu:=Lib.hid c.out.sQ.w
    have hb:(E==D)=false:=by simpa using hw
    have bt:decide (D<0)=true:=by simpa using C
    clear p hw c cc ab
    go_quiet (fail)
    all_goals go_wp2_with fail
    obtain⟨W3,H⟩:∃W3,W2.drewN nq=W3:=⟨_,rfl⟩
    have F:Below W2.heap.size W2 W3:=by rw[←H];exact(Drew.mk _ _).below _
    rw[H]
    (with_reducible refine(c0.out W3 F).mono ?_)
    rintro e w4 ⟨r,rfl,hr,M⟩
    have z:=aa F M
    have o:=Lib.hid (u.out.below z)
    have b0:=Lib.hid hr
    cases r with
    |true=>
     clear hr F M H z
     go_wp2_with fail
     go_ret
     exact⟨false,rfl,o.out.bel,fun _=>ea.out (b0.out.1 (by simp)),fun h=>by cases h⟩
    |false=>
     have aO:=Lib.hid (OwnL.call I.out z)
     have cP:=cell_later z qp
     have k1:=o.out.k1
     have b1:=Nat.le_trans X z.size
     clear hr F M H z
     go_wp2_with fail
     have au:D∉ap θ J:=fun h=>by have:=b0.out.2 h;cases this
     obtain⟨θ',ρ',av⟩:=d1.out au
     have aR:=Lib.hid av
     obtain⟨w5,n5,b3,d6,ds,R,-⟩:=(o.out.map.below (w':=w4.drew) (Below.drew (.refl w4.heap.size _)) o.out.map.lt).store (by have:=aN.out;unfold maxLen;omega) D er.out ac.out
     have Y:=b3.out
     clear av au
     have fn:0<O.length:=lP
     have ed:=o.out.lt
     have d2:bp<w4.drew.heap.size:=World.block_lt_of_cell? _ _ cP
     have dn:bp≠mb:=by have:=o.out.bm;omega
     refine wp_region_held_drew (S:=(fun w'=>w'.cell? ⟨xb,1,none⟩=some (.map (some mb))∧w'.cell? ⟨bp,op,none⟩=some (.int .i64 D))) (by kernel_rfl) ⟨k1,cP⟩ (fun hS=> ?_)
     refine ak 0 116 (v:= ?_) hS ?_ ?_;rotate_left;·(intro t f;go_simp;try(with_reducible rfl))
     refine ak 1 117 (v:= ?_) hS ?_ ?_;rotate_left;·(intro t f;go_simp;try(with_reducible rfl))
     refine ak 2 118 (v:= ?_) hS ?_ ?_;rotate_left;·(intro t f;go_simp;try(with_reducible rfl))
     refine ak 3 119 (v:= ?_) hS ?_ ?_;rotate_left;·(intro t f;go_simp;try(with_reducible rfl))
     refine ak 4 120 (v:= ?_) hS ?_ ?_;rotate_left;·(intro t f;go_simp;try(with_reducible rfl))
     refine ak 5 121 (v:= ?_) hS ?_ ?_;rotate_left;·(intro t f;go_simp;try(with_reducible rfl))
     refine ak 6 122 (v:= ?_) hS ?_ ?_;rotate_left;·(intro t f;go_simp;try(with_reducible rfl))
     refine ak 7 123 (v:= ?_) hS ?_ ?_;rotate_left;·(intro t f;go_simp;try(with_reducible rfl))
     refine bI 8 rfl (by kernel_rfl) (fun K hK=> ?_)
     go_simp
     refine hK.out _ _ ⟨(World.cell?_of_block (R.out.block xb ed (fun e=>o.out.ne (by injection e)))).trans k1,(World.cell?_of_block (R.out.block bp d2 (fun e=>dn (by injection e)))).trans cP⟩ ?_
     clear hS hK
     intro hS
     refine wpAnyH_done (by kernel_rfl) ?_ _
     have hrel:oV w0 wS xb mb a1 c1 s a b U (.slice (some ⟨g,0,none⟩) Z.length cW) w5:=
      ⟨_,θ',ρ',n5,Z,aR.out,by have:=aN.out;have:=d6.out;omega,(o.out.below (Below.drew (.refl w4.heap.size _))).stored R.out ds.out bu.out,
       OwnL.grown (OwnL.call aO.out (Below.drew (.refl w4.heap.size _))) R.out (fun j e e'=>by simp[Value.ownBlock]at e;injection e' with e';omega) (fun j hj _ e=>by have:=o.out.bm;have aL:j<w0.heap.size:=hj;injection e with e;omega),Nat.le_trans b1 R.out.size⟩
     have T:=Lib.hid hrel
     clear hrel hS Y
     go_wp2_with fail
     go_roundg U
     case measure=>omega
     case rel=>exact T.out
   ·have V:=c.out.args C hw
    have hP:=c.out.hP
    have hQ:=c.out.hQ
    have wP:=c.out.sP.w
    have wQ:=c.out.sQ.w
    rw[hw]at hQ
    obtain⟨ce,f0,cu⟩:=tB wP hP
    obtain⟨cf,-,cB⟩:=tB wQ hQ
    obtain⟨m0,fV⟩:=Int.eq_ofNat_of_zero_le C
    have cg:m0<s.length:=by omega
    obtain⟨bs,os,has,-,-,qs,-,-⟩:=(u.out.sg.below u.out.bel).sym m0 cg
    have cb:=l6 bP.out m0 cg
    rw[kZ cg cb.1]at qs
    have ct:=cb.2
    rw[kZ cg cb.1]at ct
    rw[fV]at ce cf
    obtain⟨N,hN⟩:∃N,dw s (m0:Int)=N:=⟨_,rfl⟩
    rw[hN]at qs ct ce cf
    have cJ:=Lib.hid (V (by omega))
    have dO:=Lib.hid cu
    have d0:=Lib.hid cB
    have aj:=Lib.hid ce
    have ao:=Lib.hid cf
    have hb:(D != E)=false:=by simpa using hw.symm
    have bt:decide (D<0)=false:=by simp;omega
    have hJ:¬D<0:=by omega
    have k0:=u.out.k0
    rw[has]at k0
    have hG:=Lib.hid has
    have hH:O.length≤cp:=b5.out.cap
    have hI:J.length≤cq:=ac.out.cap
    subst fV
    clear p hw c V hP hQ wP wQ f0 cb cu cB ce cf hN has
    go_quiet (fail)
    all_goals go_wp2_with fail
    go_quiet (fail)
    all_goals go_wp2_with fail
    go_quiet (fail)
    all_goals go_wp2_with fail
    rename_i f8 gb
    obtain⟨W3,H⟩:∃W3,((W2.drewN f8).drewN gb).drewN nq=W3:=⟨_,rfl⟩
    have F:Below W2.heap.size W2 W3:=by rw[←H];exact(fY (Drew.mk2 W2 f8 gb) nq).below _
    rw[H]
    have e4:=Lib.hid (u.out.below F)
    have f1:=Lib.hid (OwnL.call I.out F)
    have f3:=Nat.le_trans X F.size
    have h1:Z.length+N≤10000000:=by
     have h:=cJ.out.len la lb
     rw[List.length_append,List.length_zip,aj.out,ao.out,Nat.min_self]at h;exact h
    clear F H u I X qp qq qs k0
    go_loopw [7,11,12,58] (fun lv iv jv cv wr=>D6 w0 wS xb mb n a1 c1 s B Z O J N lv iv jv cv wr) (fun _ _ _ cv _=>N-(intOf cv).toNat)
    case atStart=>exact⟨0,rfl,Nat.zero_le _,rfl,rfl,by rw[List.take_zero,List.append_nil];exact f1.out,e4.out,f3⟩
    case round=>
     obtain⟨m,rfl,hm,rfl,rfl,bS,G,b2⟩:=hrel
     by_cases bN:m<N
     ·obtain⟨e0,gU,c6,c7⟩:=dO.out m (by rw[aj.out];exact bN)
      obtain⟨e1,g0,c9,db⟩:=d0.out m (by rw[ao.out];exact bN)
      have ee:((bc s O).zip (bc s J)).length=N:=by rw[List.length_zip,aj.out,ao.out,Nat.min_self]
      have f5:((bc s O).zip (bc s J)).take (m+1)=((bc s O).zip (bc s J)).take m++[((bc s O)[m]'(by rw[aj.out];exact bN),(bc s J)[m]'(by rw[ao.out];exact bN))]:=by
       rw[List.take_succ_eq_append_getElem (by rw[ee];exact bN),List.getElem_zip]
      have aU:=fun W (hb:Below wr.heap.size wr W)=>wK a1 (some ⟨bp,op,none⟩) c1 cp s O (dp s O m) _ W (G.sg.below (aa G.bel hb)) (b5.out.below (aa G.bel hb)) bP.out e0
      have aW:=fun W (hb:Below wr.heap.size wr W)=>wK a1 (some ⟨bq,oq,none⟩) c1 cq s J (dp s J m) _ W (G.sg.below (aa G.bel hb)) (ac.out.below (aa G.bel hb)) bP.out e1
      rw[ux c6]at aU
      rw[ux c9]at aW
      obtain⟨i,hi⟩:∃i,dp s O m=i:=⟨_,rfl⟩
      obtain⟨i',bA⟩:∃i,dp s O (m+1)=i:=⟨_,rfl⟩
      obtain⟨j,hj⟩:∃i,dp s J m=i:=⟨_,rfl⟩
      obtain⟨j',aL⟩:∃i,dp s J (m+1)=i:=⟨_,rfl⟩
      rw[hi,bA]at gU c7
      rw[hj,aL]at g0 db
      rw[bA]at c6
      rw[aL]at c9
      rw[hi,bA]at aU
      rw[hj,aL]at aW
      have pP:=Ints.part b5.out i i' (i'-i) (by omega) c6 (Nat.le_refl _) (by omega)
      have pQ:=Ints.part ac.out j j' (j'-j) (by omega) c9 (Nat.le_refl _) (by omega)
      have eP:((O.drop i).take (i'-i)).length=i'-i:=by simp;omega
      have eQ:((J.drop j).take (j'-j)).length=j'-j:=by simp;omega
      rw[c7]at pP eP
      rw[db]at pQ eQ
      rw[hi,hj]
      have k0:=G.k0
      have aP:=fun W (hb:Below wr.heap.size wr W)=>AG (OwnL.call bS hb) (fun b g4=>Nat.lt_of_lt_of_le g4 hz) (Nat.le_trans b2 hb.size) (pP.below (aa G.bel hb)) (pQ.below (aa G.bel hb)) (by rw[List.length_append,List.length_take,ee];omega)
      rw[eP,eQ]at aP
      have ch:=Lib.hid aP
      have f6:=Lib.hid f5
      have e9:=Lib.hid bA
      have fa:=Lib.hid aL
      have e6:=Lib.hid G
      have cT:=Lib.hid aU
      have cU:=Lib.hid aW
      have ib:¬i'=i:=by omega
      have ih:¬j'=j:=by omega
      have h7:i≤i':=by omega
      have h9:j≤j':=by omega
      have h6:i'≤cp:=by omega
      have h8:j'≤cq:=by omega
      clear aP f5 hi bA hj aL G aU aW pP pQ eP eQ e0 c7 e1 db bS ee
      go_wp2_with fail
      refine wp_region_held_drew (S:=(fun w'=>w'.cell? ⟨xb,0,none⟩=some (.slice a1 s.length c1)∧Below wr.heap.size wr w')) (by kernel_rfl) ⟨k0,Below.drew (.refl _ _)⟩ (fun hS=> ?_)
      refine ak 0 60 (v:= ?_) hS ?_ ?_;rotate_left;·(intro t f;go_simp;try(with_reducible rfl))
      refine ak 1 61 (v:= ?_) hS ?_ ?_;rotate_left;·(intro t f;go_simp;try(with_reducible rfl))
      refine ak 2 62 (v:= ?_) hS ?_ ?_;rotate_left;·(intro t f;go_simp;try(with_reducible rfl))
      refine ak 3 63 (v:= ?_) hS ?_ ?_;rotate_left;·(intro t f;go_simp;try(with_reducible rfl))
      refine ak 4 64 (v:= ?_) hS ?_ ?_;rotate_left;·(intro t f;go_simp;try(with_reducible rfl))
      refine ak 5 65 (v:= ?_) hS ?_ ?_;rotate_left;·(intro t f;go_simp;try(with_reducible rfl))
      refine ak 7 67 (v:= ?_) hS ?_ ?_;rotate_left;·(intro t f;go_simp;try(with_reducible rfl))
      refine ak 8 68 (v:= ?_) hS ?_ ?_;rotate_left;·(intro t f;go_simp;try(with_reducible rfl))
      refine ak 9 69 (v:= ?_) hS ?_ ?_;rotate_left;·(intro t f;go_simp;try(with_reducible rfl))
      refine ak 10 70 (v:= ?_) hS ?_ ?_;rotate_left;·(intro t f;go_simp;try(with_reducible rfl))
      refine ak 11 71 (v:= ?_) hS ?_ ?_;rotate_left;·(intro t f;go_simp;try(with_reducible rfl))
      refine ak 12 72 (v:= ?_) hS ?_ ?_;rotate_left;·(intro t f;go_simp;try(with_reducible rfl))
      refine bI 6 rfl (by kernel_rfl) (fun K hK=> ?_)
      go_simp
      (with_reducible refine(cT.out _ hS.2).mono ?_)
      rintro e w8 ⟨rfl,bw⟩
      refine hK.out _ _ ⟨cell_later bw hS.1,aa hS.2 bw⟩ ?_
      clear hS hK
      intro hS
      refine bI 13 rfl (by kernel_rfl) (fun K hK=> ?_)
      go_simp
      (with_reducible refine(cU.out _ hS.2).mono ?_)
      rintro e w8 ⟨rfl,bw⟩
      refine hK.out _ _ ⟨cell_later bw hS.1,aa hS.2 bw⟩ ?_
      clear hS hK
      intro hS
      refine ak 14 13 (v:= ?_) hS ?_ ?_;rotate_left;·(intro t f;go_simp;try(with_reducible rfl))
      refine ak 15 14 (v:= ?_) hS ?_ ?_;rotate_left;·(intro t f;go_simp;try(with_reducible rfl))
      refine wpAnyH_done (by kernel_rfl) ?_ _
      obtain⟨-,M⟩:=hS
      obtain⟨v5,w5,b3,g7,e7⟩:=ch.out w8.drew M.drew
      have Y:=b3.out
      have e5:=Lib.hid ((e6.out.below M.drew).keep e7.out hf g6 hz)
      have f4:=Nat.le_trans (Nat.le_trans b2 M.drew.size) e7.out.size
      clear M
      go_wp2_with fail
      refine wp_region_held_drew (S:=(fun _=>True)) (by kernel_rfl) trivial (fun hS=> ?_)
      refine ak 0 74 (v:= ?_) hS ?_ ?_;rotate_left;·(intro t f;go_simp;try(with_reducible rfl))
      refine ak 1 75 (v:= ?_) hS ?_ ?_;rotate_left;·(intro t f;go_simp;try(with_reducible rfl))
      refine ak 2 76 (v:= ?_) hS ?_ ?_;rotate_left;·(intro t f;go_simp;try(with_reducible rfl))
      refine ak 3 77 (v:= ?_) hS ?_ ?_;rotate_left;·(intro t f;go_simp;try(with_reducible rfl))
      refine ak 4 78 (v:= ?_) hS ?_ ?_;rotate_left;·(intro t f;go_simp;try(with_reducible rfl))
      refine ak 5 79 (v:= ?_) hS ?_ ?_;rotate_left;·(intro t f;go_simp;try(with_reducible rfl))
      refine ak 6 80 (v:= ?_) hS ?_ ?_;rotate_left;·(intro t f;go_simp;try(with_reducible rfl))
      refine ak 7 81 (v:= ?_) hS ?_ ?_;rotate_left;·(intro t f;go_simp;try(with_reducible rfl))
      refine ak 8 82 (v:= ?_) hS ?_ ?_;rotate_left;·(intro t f;go_simp;try(with_reducible rfl))
      refine ak 9 83 (v:= ?_) hS ?_ ?_;rotate_left;·(intro t f;go_simp;try(with_reducible rfl))
      refine ak 10 84 (v:= ?_) hS ?_ ?_;rotate_left;·(intro t f;go_simp;try(with_reducible rfl))
      refine ak 11 85 (v:= ?_) hS ?_ ?_;rotate_left;·(intro t f;go_simp;try(with_reducible rfl))
      refine bI 12 rfl (by kernel_rfl) (fun K hK=> ?_)
      go_simp
      refine hK.out _ _ trivial ?_
      clear hS hK
      intro hS
      refine bI 13 rfl (by kernel_rfl) (fun K hK=> ?_)
      rw[if_pos (by kernel_rfl)]
      refine gj (vs:=u7) (vx:= .slice (some ⟨w8.heap.size,0,none⟩) 1 1) (v':=v5) (w':=w5) (.tmp 74) (.tmp 86) 281 rfl rfl rfl Y ?_
      refine hK.out _ _ trivial ?_
      clear hS hK
      intro hS
      refine ak 14 7 (v:= ?_) hS ?_ ?_;rotate_left;·(intro t f;go_simp;try(with_reducible rfl))
      refine wpAnyH_done (by kernel_rfl) ?_ _
      clear Y hS
      go_wp2_with fail
      go_roundw
      case rel=>exact⟨m+1,by go_num,by omega,by rw[e9.out],by rw[fa.out],by rw[f6.out,←List.append_assoc];exact g7.out,e5.out,f4⟩
      case measure=>simp[intOf];omega
     obtain rfl:m=N:=by omega
     have bx:((bc s O).zip (bc s J)).take m=(bc s O).zip (bc s J):=List.take_of_length_le (by rw[List.length_zip,aj.out,ao.out];omega)
     rw[bx]at bS
     have hrel:oV w0 wS xb mb a1 c1 s a b U u7 wr:=⟨B,θ,ρ,n,_,cJ.out,aN.out,G,bS,b2⟩
     have T:=Lib.hid hrel
     clear hrel bS G bx
     go_wp2_with fail
     go_roundg U
     case measure=>omega
     case rel=>exact T.out
   have V:=Lib.hid (c.out.clash C hw)
   have hb:(D != E)=true:=by simpa using hw
   have bt:decide (D<0)=false:=by simp;omega
   clear p hw c
   go_quiet (fail)
   all_goals go_wp2_with fail
   all_goals go_quiet (fail)
   all_goals go_wp2_with fail
   all_goals go_ret
   all_goals exact⟨false,rfl,aa u.out.bel ((Drew.mk2 _ _ _).below _),fun _=>V.out,fun h=>by cases h⟩
  have g1:L=[]:=by cases L with|nil=>rfl|cons _ _=>simp at hL
  subst g1
  have cF:zf w0 xb mb a1 c1 s a b (.returned (.bool true)) wr:=⟨true,rfl,hS.bel,(fun h=>by cases h),fun _=>⟨B,θ,ρ,n,A.slv,A.rg,A.eq.done,hS,A.infB⟩⟩
  have d3:=Lib.hid cF
  subst C
  clear A hS ho cF ec hL
  go_wp2_with fail
  go_ret
  exact d3.out
def A1(t:List Int)(w:World)(B0 g cap:Nat)(i:Value)(wr:World):Prop:=
 ∃k:Nat,i= .int .i64 k∧k≤t.length∧OwnI wr B0 (.slice (some ⟨g,0,none⟩) t.length cap) (dz fT t k)∧Below w.heap.size w wr
theorem A4{S:Nat→Prop}(a:Option Addr)(c:Nat)(t:List Int)(w:World)(h:Ints S w a c t)(hl:t.length≤dI)(hne:t≠ [])(hr:∀x∈t,x<0→-12≤x):
  Calls Tryz.prog 249 #[.slice a t.length c] w (kA w (dK t)):=by
 have m:=h.le
 have M:=mC a c t w h hl
 have B:=Lib.hid M
 have J:=Lib.hid hr
 clear M hr
 go_enter Tryz.func249,Tryz.ntmps249
 go_wp2_with fail
 refine B.out.mono ?_
 rintro e U ⟨v,rfl,r,z⟩
 obtain⟨g,G,rfl,Q,R⟩:=r.form hne
 clear B
 go_wp2_with fail
 go_loopw [10] (fun i wr=>A1 t w w.heap.size g G i wr) (fun i _=>t.length-(intOf i).toNat)
 case atStart=>exact⟨0,rfl,Nat.zero_le _,by rw[pZ];exact r,z⟩
 case round=>
  obtain⟨k,rfl,T,r,z⟩:=hrel
  by_cases p:k<t.length
  ·obtain⟨b,o,rfl,-,q,K⟩:=(h.below z).int k p
   have u:=J.out t[k] (List.getElem_mem p)
   have n:=nr p (f:=fT)
   have l:=uq p (f:=fT)
   have y:=uo p (f:=fT)
   obtain⟨D,P⟩:=r.cellInt (by rw[eZ]) k (by rw[eZ];exact p)
   rw[y]at D
   obtain⟨x,hx⟩:∃x,t[k]=x:=⟨_,rfl⟩
   rw[hx]at q K n l D u
   clear y hx
   by_cases H:x<0
   ·have O:=u H
    have C:fT x=x-12:=by unfold fT;exact if_pos H
    rw[C]at n
    have N:IntKind.i64.wrap (x-12)=x-12:=IntWalk.i64_in _ (by omega)
    obtain⟨A,E⟩:=r.setInt (by rw[eZ]) k (x-12) (by unfold aE;omega)
    rw[n]at A
    have s:=Lib.hid A
    have I:=Lib.hid (z.grown E z.size (fun j e=>by cases e;omega))
    clear r A n l E C u
    go_wp2_with fail
    go_roundw
    case rel=>exact⟨k+1,by go_num,by omega,s.out,I.out⟩
    case measure=>simp[intOf];omega
   have F:=l (by unfold fT;exact if_neg H)
   have s:=Lib.hid r
   have L:=Lib.hid F
   clear r n l F u
   go_wp2_with fail
   go_roundw
   case rel=>exact⟨k+1,by go_num,by omega,by rw[←L.out];exact s.out,z⟩
   case measure=>simp[intOf];omega
  rw[pY _ _ _ (by omega)]at r
  have s:=Lib.hid r
  clear r
  go_wp2_with fail
  go_ret
  exact⟨_,rfl,s.out,z⟩
def HG(w:World)(a1:Option Addr)(c1:Nat)(s:Sg)(a b:List Int)(e:Ending)(w':World):Prop:=
 ∃xb mb r,e= .returned (.tuple #[.pointer (some ⟨xb,0,none⟩), .bool r])∧Below w.heap.size w w'∧(r=false→∀η,bh s η→ap η a≠ap η b)∧
  (r=true→∃B θ ρ n,Slv s B θ ρ∧eX B∧IsMgu s a b θ∧SolvW w w' xb mb n a1 c1 s B)
theorem HH{S1 S2 S3:Nat→Prop}(a1 a2 a3:Option Addr)(c1 c2 c3:Nat)(s:Sg)(a b:List Int)(w:World)(h1:Sign S1 w a1 c1 s)(h2:Ints S2 w a2 c2 a)(h3:Ints S3 w a3 c3 b)(hok:aH s=true)
  (ha:W1 s a) (hb:W1 s b) (ra:Rg a) (rb:Rg b) (la:a.length≤1000) (lb:b.length≤1000):
  Calls Tryz.prog 248 #[.slice a1 s.length c1, .slice a2 a.length c2, .slice a3 b.length c3] w (HG w a1 c1 s a b):=by
 have E:= @run_makeMap Tryz.prog
 have g:Sign (fun b=>b<w.heap.size) w a1 c1 s:=h1.lt.weak (fun _ h=>h.2)
 have i:T0 w a2 c2 a:=h2.lt.weak (fun _ h=>h.2)
 have j:T0 w a3 c3 b:=h3.lt.weak (fun _ h=>h.2)
 have F:=h2.le
 have G:=h3.le
 obtain⟨W,c⟩:∃W,(w.alloc (.map #[] 0)).alloc (.cells #[.slice a1 s.length c1, .map (some w.heap.size)] 278)=W:=⟨_,rfl⟩
 have k:Below w.heap.size w W:=by rw[←c];exact dT _ _ _
 have y:W.cell? ⟨w.heap.size+1,0,none⟩=some (.slice a1 s.length c1):=by rw[←c];clear c;go_simp
 have z:W.cell? ⟨w.heap.size+1,1,none⟩=some (.map (some w.heap.size)):=by rw[←c];clear c;go_simp
 have f:BdMap w W w.heap.size 0 (fun _=>none):=by
  rw[←c];exact(BdMap.made w w).below (an _ _) (by simp)
 have hS:SolvW w W (w.heap.size+1) w.heap.size 0 a1 c1 s (fun _=>none):=⟨y,z,f,Nat.le_succ _,Nat.le_refl _,by omega,g,k,fun _ _ h=>by cases h⟩
 have t:=HF hok hS i j ha hb ra rb la lb
 have l:=Lib.hid t
 have o:=Lib.hid c
 clear t hS f y z k c h1 h2 h3 g i j
 go_enter Tryz.func248,Tryz.ntmps248
 go_wp2_with fail
 rw[o.out]
 refine l.out.mono ?_
 rintro e H ⟨r,rfl,v,hf,x⟩
 have m:=Lib.hid v
 have p:=Lib.hid hf
 have q:=Lib.hid x
 clear v hf x
 go_wp2_with fail
 go_ret2
 exact⟨_,_,r,rfl,m.out,p.out,fun h=>by obtain⟨B,θ,ρ,n,u,A,C,D,-⟩:=q.out h;exact⟨B,θ,ρ,n,u,A,⟨B,ρ,u,C⟩,D⟩⟩
end Go.Proofs.YtlejmeegkpdabaaGreatDoor
