/- The proof of a statement, some of its texts joined in build order: part Z1. -/
import Derived.Test.YtlejmeegkpdabaaGreatDoorMxY2
import Derived.Test.YtlejmeegkpdabaaGreatDoorMxK3
namespace Go.Proofs.YtlejmeegkpdabaaGreatDoor
open Go
theorem fs{w:List UInt8}{r:Toks}(h:w≠ [32]):c8 (w::r)=w::r:=by rw[c8,if_neg h]
theorem mj(r:Toks):c8 ([32]::r)=c8 r:=by rw[c8,if_pos rfl]
theorem q9{s:Sg}(h:aH s=true){n:Int}(h0:0≤n)(h1:n<s.length)(c:UInt8)(hc:cR c=false):aM s n≠ [c]:=fun e=>by
 have:=(jN h h0 h1).1
 rw[e,List.all_cons,hc,Bool.false_and]at this
 cases this
theorem Fh{s:Sg}(h:aH s=true){n:Int}(h0:0≤n)(h1:n<s.length):iw s (aM s n)=some n.toNat:=by
 unfold iw
 rw[List.find?_range_eq_some]
 refine⟨by simp;congr 1;omega,by simp;omega,fun j b=> ?_⟩
 simp only[Bool.not_eq_true',decide_eq_false_iff_not]
 intro a
 have:=q8 h (i:=j) (j:=n.toNat) (by omega) (by omega) (by rw[a];congr 1;omega)
 omega
theorem Fi{s:Sg}(h:aH s=true){v:Nat}(hv:v<12):iw s (120::Lib.decDigits v)=none:=by
 unfold iw
 rw[List.find?_eq_none]
 intro i c b
 rw[decide_eq_true_eq]at b
 have a:=(jN h (n:=(i:Int)) (by omega) (by have:=List.mem_range.1 c;omega)).1
 rw[b,gS hv,uk v hv]at a
 cases a
theorem Cx:∀v,v<12→Lib.atoiAll (fX v)= .ok (v:Int):=by decide+kernel
theorem CA:∀v,v<12→(120::fX v:List UInt8)≠ [32]∧(120::fX v:List UInt8)≠ [40]∧(120::fX v:List UInt8)≠ [91]:=by decide
theorem Bp{s:Sg}(h:aH s=true){n:Int}(h0:0≤n)(h1:n<s.length){T:List Int}(hT:T.length≤60):gN s (aM s n) T=some (ar s n,T++[n]):=by
 unfold gN mW
 rw[if_neg (by omega),Fh h h0 h1]
 simp only[Option.map_some,Int.toNat_of_nonneg h0]
theorem Bq{s:Sg}(h:aH s=true){v:Nat}(hv:v<12){T:List Int}(hT:T.length≤60):gN s (120::Lib.decDigits v) T=some (0,T++[-(v:Int)-1]):=by
 unfold gN mW
 rw[if_neg (by omega),Fi h hv]
 have e:o9 (120::Lib.decDigits v)=some (-(v:Int)-1):=by
  unfold o9 mr
  rw[List.head?_cons,if_pos rfl,List.tail_cons,gS hv]
  unfold lf
  rw[Cx v hv]
  simp only[Option.bind_some]
  rw[if_pos (by omega)]
 simp only[e,Option.map_some]
 rw[iP (by omega)]
theorem qW{g:Nat→RdX→Option RdX}{A:List (List Int)}{S:Nat→Toks}{b:Nat}(hs:∀k (hk:k<A.length) (T:List Int),T.length+A[k].length≤60→b≤T.length→g k (S k,T)=some (S (k+1),T++A[k])):
  ∀k,k≤A.length→∀T:List Int,T.length+A.flatten.length≤60→b≤T.length→dh g k (S 0,T)=some (S k,T++(A.take k).flatten)
 |0,_,T,_,_=>by rw[dh];simp
 |k+1,hk,T,hT,hb=>by
  have hk':k<A.length:=by omega
  have a:=congrArg List.length (congrArg List.flatten (List.take_append_drop k A))
  rw[List.drop_eq_getElem_cons hk',List.flatten_append,List.flatten_cons,List.length_append,List.length_append]at a
  rw[dh,qW hs k (by omega) T hT hb,Option.bind_some,hs k hk' _ (by rw[List.length_append];omega) (by rw[List.length_append];omega),List.take_succ_eq_append_getElem hk',List.flatten_append,List.append_assoc]
  simp
def kS(s:Sg)(k f:Nat)(t:List Int):Prop:=∀(R:Toks) (T:List Int),T.length+t.length≤60→62≤f+T.length→dq k s f (tk k s t++R,T)=some (R,T++t)
theorem yg{s:Sg}{k f:Nat}(L:Toks)(T:List Int):dq k s f ([32]::L,T)=dq k s f (L,T):=by
 unfold dq
 cases f with
 |zero=>
  split
  ·rfl
  split
  ·rfl
  rfl
 |succ f=>
  split
  ·rw[fj,fj];simp only[mj]
  split
  ·rw[da,da];simp only[mj]
  rw[dG,dG];simp only[mj]
theorem yh{s:Sg}{k f:Nat}{A:List (List Int)}(hA:∀a∈A,kS s k f a)(R:Toks){T:List Int}(hT:T.length+A.flatten.length≤60)(hf:62≤f+T.length):dh (fun _=>dq k s f) A.length (dD [[32]] (A.map (tk k s))++R,T)=some (R,T++A.flatten):=by
 have:=qW (g:=fun _=>dq k s f) (A:=A) (S:=fun j=>dD [[32]] ((A.map (tk k s)).drop j)++R) (b:=62-f) (fun j h m l n=>by
  have c:j<(A.map (tk k s)).length:=by rw[List.length_map];exact h
  rw[List.drop_eq_getElem_cons c,List.getElem_map]
  have e:dD [[32]] (tk k s A[j]::(A.map (tk k s)).drop (j+1))++R=[32]::(tk k s A[j]++(dD [[32]] ((A.map (tk k s)).drop (j+1))++R)):=by
   rw[dD];simp[List.append_assoc]
  rw[e,yg]
  exact hA _ (List.getElem_mem h) _ _ l (by omega)) A.length (Nat.le_refl _) T hT (by omega)
 rw[List.take_length]at this
 have i:(A.map (tk k s)).drop A.length=[]:=by rw[List.drop_eq_nil_iff,List.length_map];exact Nat.le_refl _
 simp only[i,List.drop_zero]at this
 exact this
theorem FJ{s:Sg}{t:List Int}(h:aw s t=true):t=t.headD 0::(bd s t).flatten∧(bd s t).flatten.length+1=t.length:=by
 obtain⟨b,a,c⟩:=fg h
 refine⟨a,?_⟩
 have:=congrArg List.length a
 rw[List.length_cons]at this;omega
theorem yb{s:Sg}{k:Nat}(hk:k=1∨k=2∨k=3):∀(F:Nat) {t:List Int},aw s t=true→t.length≤F→∀f,kS s k f t
 |0,t,h,hF=>by have:=(bj h).2.1;omega
 |F+1,t,h,hF=>by
  intro f R T hT hf
  have m:=(bj h).1
  obtain⟨n,x,v,Y,hs⟩:=gG h
  obtain⟨q,-,g3⟩:=fg h
  obtain⟨G,X⟩:=FJ h
  have C:t.headD 0=n:=by rw[v];rfl
  have h1:=(bj h).2.1
  obtain⟨f,rfl⟩:∃f',f=f'+1:=⟨f-1,by omega⟩
  have w:T.length≤60:=by omega
  have y:∀(c:UInt8) (L:Toks) (U:List Int),c≠32→iU c ([c]::L,U)=some (L,U):=fun c L U B=>by
   unfold iU
   rw[fs (fun e=>B (by injection e))]
   simp[bQ]
  by_cases hn:n<0
  ·have e:=ot h (by rw[C];exact hn)
   rw[C]at e
   have Q:(-n-1).toNat<12:=by simp[br]at Y;omega
   obtain⟨p,z,E⟩:=CA _ Q
   rw[←gS Q]at p z E
   have ha:=Bq m Q w
   have P:-((-n-1).toNat:Int)-1=n:=by omega
   rw[P]at ha
   rw[e,zA hn,List.singleton_append]
   rcases hk with rfl|rfl|rfl
   ·rw[dq,if_pos rfl,fj]
    simp only[fs p,bQ,ha,Option.bind_some,dh]
   ·rw[dq,if_neg (by decide),if_pos rfl,da]
    simp only[fs p,bQ,if_neg z,ha,Option.bind_some,dh,Nat.lt_irrefl,if_false]
   rw[dq,if_neg (by decide),if_neg (by decide),dG]
   simp only[fs p,bQ,if_neg E,ha,Option.bind_some,dh]
  have u:n<s.length:=by simp[br]at Y;omega
  have H:0≤n:=by omega
  have p:=q9 m H u 32 (by decide)
  have z:=q9 m H u 40 (by decide)
  have E:=q9 m H u 91 (by decide)
  have ha:=Bp m H u w
  have hA:∀a∈bd s t,kS s k f a:=fun a hm=>yb hk F (g3 _ hm) (by have:=gC hm;omega) f
  rw[zB h (by rw[C];omega),C]
  rw[C]at q G
  obtain⟨A,M⟩:∃A,bd s t=A:=⟨_,rfl⟩
  rw[M]at hA q G X⊢
  have i:T++[n]++A.flatten=T++t:=by rw[G,List.append_assoc];rfl
  have ax:(T++[n]).length=T.length+1:=by simp
  unfold o6
  rcases hk with rfl|rfl|rfl
  ·rw[if_pos rfl]
   have v:=yh hA R (T:=T++[n]) (by omega) (by omega)
   rw[i]at v
   simp only[dq,if_true]at v⊢
   rw[fj,List.cons_append]
   simp only[fs p,bQ,ha,Option.bind_some]
   rw[←q]
   exact v
  ·rw[if_neg (by decide),if_pos rfl]
   rw[show dq 2 s (f+1)=da s (f+1)from rfl]
   have D:∀L U,da s f ([32]::L,U)=da s f (L,U):=fun L U=>yg (k:=2) L U
   by_cases r:n=0
   ·rw[if_pos r]
    have h2:A.length=2:=by rw[q,r,mS m]
    match A,h2 with
    | [a,b],_=>
     have ay:a.length+b.length+1=t.length:=by simpa using X
     have ra:=hA a (by simp)
     have rb:=hA b (by simp)
     simp only[kS,show dq 2 s f=da s f from rfl]at ra rb
     have e1:=ra ([32]::[45]::[62]::[32]::(tk 2 s b++([41]::R))) (T++[0]) (by simp;omega) (by simp;omega)
     have I:=rb ([41]::R) (T++[0]++a) (by simp;omega) (by simp;omega)
     have ea:[40]::([a,b].map (tk 2 s)).getD 0 []++([32]::[45]::[62]::[32]::(([a,b].map (tk 2 s)).getD 1 []++[[41]]))++R=[40]::(tk 2 s a++([32]::[45]::[62]::[32]::(tk 2 s b++([41]::R)))):=by
      simp[List.append_assoc]
     have K:[40]::(([a,b].map (tk 2 s)).getD 0 []++([32]::[45]::[62]::[32]::(([a,b].map (tk 2 s)).getD 1 []++[[41]])))++R=[40]::(tk 2 s a++([32]::[45]::[62]::[32]::(tk 2 s b++([41]::R)))):=ea
     rw[K,da]
     simp only[fs (show([40]:List UInt8)≠ [32]by decide),bQ,if_true]
     rw[if_neg (by omega),e1,Option.bind_some]
     unfold pF
     simp only[mj,fs (show([45]:List UInt8)≠ [32]by decide),bQ,if_true,D]
     rw[I,Option.bind_some,y 41 R _ (by decide)]
     have:T++[0]++a++b=T++t:=by rw[G,r];simp[List.append_assoc]
     rw[this]
   rw[if_neg r]
   cases A with
   |nil=>
    have o:ar s n=0:=by simpa using q.symm
    simp only[List.map_nil,List.singleton_append]
    rw[da]
    simp only[fs p,bQ,if_neg z,ha,Option.bind_some,o,dh,Nat.lt_irrefl,if_false]
    rw[←i];simp
   |cons a A=>
    simp only[List.map_cons]
    have o:0<ar s n:=by rw[←q];simp
    have l:=qW (g:=gv (da s f)) (A:=a::A) (S:=fun j=>match j with|0=>[40]::(tk 2 s a++(dD [[44],[32]] (A.map (tk 2 s))++([41]::R)))|j+1=>dD [[44],[32]] ((A.map (tk 2 s)).drop j)++([41]::R)) (b:=62-f) (fun j Z W q1 q2=>by
     have V:=hA _ (List.getElem_mem Z)
     simp only[kS,show dq 2 s f=da s f from rfl]at V
     cases j with
     |zero=>
      unfold gv iD
      simp only[fs (show([40]:List UInt8)≠ [32]by decide),bQ,if_true]
      have:=V (dD [[44],[32]] (A.map (tk 2 s))++([41]::R)) W q1 (by omega)
      simpa using this
     |succ j=>
      have N:j<A.length:=by simpa using Z
      have O:j<(A.map (tk 2 s)).length:=by rw[List.length_map];exact N
      have e:dD [[44],[32]] ((A.map (tk 2 s)).drop j)++([41]::R)=[44]::[32]::(tk 2 s A[j]++(dD [[44],[32]] ((A.map (tk 2 s)).drop (j+1))++([41]::R))):=by
       rw[List.drop_eq_getElem_cons O,List.getElem_map,dD];simp[List.append_assoc]
      simp only[e]
      unfold gv iD
      simp only[fs (show([44]:List UInt8)≠ [32]by decide),bQ,Nat.succ_ne_zero,if_false,if_true,D]
      have:=V (dD [[44],[32]] ((A.map (tk 2 s)).drop (j+1))++([41]::R)) W q1 (by omega)
      simpa using this) (a::A).length (Nat.le_refl _) (T++[n]) (by omega) (by omega)
    rw[List.take_length,i]at l
    have I:(A.map (tk 2 s)).drop A.length=[]:=by rw[List.drop_eq_nil_iff,List.length_map];exact Nat.le_refl _
    simp only[List.length_cons,I,dD,List.nil_append]at l
    have J:aM s n::[40]::(tk 2 s a++(dD [[44],[32]] (A.map (tk 2 s))++[[41]]))++R=aM s n::[40]::(tk 2 s a++(dD [[44],[32]] (A.map (tk 2 s))++([41]::R))):=by simp[List.append_assoc]
    rw[J,da]
    simp only[fs p,bQ,if_neg z,ha,Option.bind_some,o,if_true]
    rw[←q,List.length_cons,l,Option.bind_some,y 41 R _ (by decide)]
  rw[if_neg (by decide),if_neg (by decide)]
  rw[show dq 3 s (f+1)=dG s (f+1)from rfl]
  cases A with
  |nil=>
   have o:ar s n=0:=by simpa using q.symm
   simp only[List.map_nil,List.singleton_append]
   rw[dG]
   simp only[fs p,bQ,if_neg E,ha,Option.bind_some,o,dh]
   rw[←i];simp
  |cons a A=>
   have v:=yh hA ([93]::R) (T:=T++[n]) (by omega) (by omega)
   rw[i,show(fun _:Nat=>dq 3 s f)=(fun _=>dG s f)from rfl]at v
   simp only[List.map_cons]at v⊢
   have J:[91]::aM s n::(dD [[32]] (tk 3 s a::A.map (tk 3 s))++[[93]])++R=[91]::aM s n::(dD [[32]] (tk 3 s a::A.map (tk 3 s))++([93]::R)):=by simp[List.append_assoc]
   rw[J,dG]
   simp only[fs (show([91]:List UInt8)≠ [32]by decide),bQ,if_true,ha,Option.bind_some]
   rw[←q,v,Option.bind_some,y 93 R _ (by decide)]
theorem Gp{s:Sg}{k:Nat}(hk:k=1∨k=2∨k=3){t:List Int}(h:aw s t=true):dq k s 62 (cA (txt k s t) [],[])=some ([],t):=by
 have a:=zE (k:=k) t.length h (Nat.le_refl _) [] G4
 rw[List.append_nil]at a
 have b:=yb hk t.length h (Nat.le_refl _) 62 [] [] (by have:=(bj h).2.2.1;simpa using this) (by simp)
 rw[a]
 exact b
def Asc(l:List UInt8):Prop:=∀c∈l,c.toNat<128
theorem Asc.append{a b:List UInt8}(ha:Asc a)(hb:Asc b):Asc (a++b):=fun c f=>by
 rcases List.mem_append.1 f with h|h
 ·exact ha c h
 exact hb c h
theorem Asc.cons{x:UInt8}{b:List UInt8}(ha:x.toNat<128)(hb:Asc b):Asc (x::b):=fun c a=>by
 rcases List.mem_cons.1 a with h|h
 ·rw[h];exact ha
 exact hb c h
theorem Asc.nil:Asc []:=fun c a=>absurd a (by simp)
theorem Eh:∀c:UInt8,cR c=true→c.toNat<128:=fun c h=>by
 unfold cR at h
 simp only[Bool.or_eq_true,Bool.and_eq_true,decide_eq_true_eq]at h
 omega
theorem Asc.tail{sep:List UInt8}(hs:Asc sep):∀(A:List (List UInt8)),(∀a∈A,Asc a)→Asc (Lib.joinTail sep A)
 | [],_=>by unfold Lib.joinTail;exact .nil
 |x::A,h=>by
  unfold Lib.joinTail
  exact(hs.append (h x (by simp))).append (Asc.tail hs A (fun a ha=>h a (by simp[ha])))
theorem Asc.join{sep:List UInt8}(hs:Asc sep):∀(A:List (List UInt8)),(∀a∈A,Asc a)→Asc (Lib.join A sep)
 | [],_=>by unfold Lib.join;exact .nil
 |x::A,h=>by
  rw[Lib.join_cons]
  exact(h x (by simp)).append (Asc.tail hs A (fun a ha=>h a (by simp[ha])))
theorem Cw:∀v,v<12→∀c∈fX v,c.toNat<128:=by decide
theorem zQ{s:Sg}{k:Nat}:∀(f:Nat) {t:List Int},aw s t=true→t.length≤f→Asc (txt k s t)
 |0,t,h,hf=>by have:=(bj h).2.1;omega
 |f+1,t,h,hf=>by
  have r:=(bj h).1
  obtain⟨n,x,C,j,hs⟩:=gG h
  obtain⟨E,z,A⟩:=fg h
  have l:t.headD 0=n:=by rw[C];rfl
  by_cases v:n<0
  ·have e:=ot h (by rw[l];exact v)
   rw[l]at e
   rw[e,kc v]
   have y:(-n-1).toNat<12:=by simp[br]at j;omega
   rw[gS y]
   exact .cons (by decide) (Cw _ y)
  have q:n<s.length:=by simp[br]at j;omega
  obtain⟨D,F,-⟩:=jN r (n:=n) (by omega) q
  have i:Asc (aM s n):=fun c j=>Eh c (List.all_eq_true.1 D c j)
  have hA:∀a∈(bd s t).map (txt k s),Asc a:=fun a ha=>by
   obtain⟨u,w,rfl⟩:=List.mem_map.1 ha
   have B:=gC w
   have:1+(bd s t).flatten.length=t.length:=by
    have:=congrArg List.length z
    rw[List.length_cons]at this;omega
   exact zQ f (A _ w) (by omega)
  rw[ke h (by rw[l];omega),l]
  have b:Asc [32]:= .cons (by decide) .nil
  have m:Asc [44,32]:= .cons (by decide) (.cons (by decide) .nil)
  have p:Asc [32,45,62,32]:= .cons (by decide) (.cons (by decide) (.cons (by decide) (.cons (by decide) .nil)))
  have g:Asc [41]:= .cons (by decide) .nil
  have o:Asc [93]:= .cons (by decide) .nil
  unfold bJ
  split
  ·exact i.append (Asc.tail b _ hA)
  split
  ·split
   ·exact .cons (by decide) ((Asc.join p _ hA).append g)
   split
   ·exact i
   exact i.append (.cons (by decide) ((Asc.join m _ hA).append g))
  split
  ·exact i
  exact .cons (by decide) ((i.append (Asc.tail b _ hA)).append o)
def cG(s:Sg)(k:Nat)(b:List UInt8):List Int×Int:=
 match cQ s k b [] []with
 |some t=>if aw s t=true∧txt k s t=b then(t,0)else([],2)
 |none=>([],2)
def cC(s:Sg)(k:Int)(b:List UInt8):List Int×Int:=
 if aH s=true then(if(decide (1≤k)&&decide (k≤3))=true then(if b.length≤65536 then cG s k.toNat b else([],3))else([],7))else([],1)
theorem lk{s:Sg}{k:Nat}{b:List UInt8}{t:List Int}(h:aw s t=true)(hb:txt k s t=b):cG s k b=(t,0):=by
 subst hb
 unfold cG
 rw[DR h]
 simp[h]
theorem nC{s:Sg}{k:Nat}{b:List UInt8}(h:∀t,aw s t=true→txt k s t=b→False):cG s k b=([],2):=by
 unfold cG
 split
 ·rename_i t _
  rw[if_neg (fun e=>h t e.1 e.2)]
 rfl
theorem CW{s:Sg}{k:Nat}{b:List UInt8}:(∃t,aw s t=true∧txt k s t=b∧cG s k b=(t,0))∨cG s k b=([],2):=by
 by_cases h:∃t,aw s t=true∧txt k s t=b
 ·obtain⟨t,a,c⟩:=h
  exact .inl ⟨t,a,c,lk a c⟩
 exact .inr (nC fun t a c=>h ⟨t,a,c⟩)
theorem qe{s:Sg}{k:Nat}(hk:k=1∨k=2∨k=3){b:List UInt8}{L:Toks}(hL:(∀c∈b,c.toNat<128)→L=cA b []):
  (dq k s 62 (L,[])=none→cG s k b=([],2))∧(∀L' T,dq k s 62 (L,[])=some (L',T)→(aw s T=true→txt k s T≠b→cG s k b=([],2))∧(aw s T=false→cG s k b=([],2))):=by
 have key:∀t,aw s t=true→txt k s t=b→dq k s 62 (L,[])=some ([],t):=fun t a f=>by
  rw[hL (by rw[←f];exact zQ t.length a (Nat.le_refl _)),←f]
  exact Gp hk a
 refine⟨fun h=>nC fun t a f=> ?_,fun L' T hs=>⟨fun g i=>nC fun t a f=> ?_,fun g=>nC fun t a f=> ?_⟩⟩
 ·rw[key t a f]at h;cases h
 ·have:=key t a f
  rw[hs]at this
  have e:T=t:=congrArg Prod.snd (Option.some.inj this)
  subst e;exact i f
 have:=key t a f
 rw[hs]at this
 have e:T=t:=congrArg Prod.snd (Option.some.inj this)
 subst e;rw[a]at g;cases g
def jg(s:Sg)(j:Nat)(w:List UInt8):Option Nat:=(List.range j).find? (fun i:Nat=>decide (aM s (i:Int)=w))
theorem xn{s:Sg}(h:aH s=true){j:Nat}(hj:j<s.length):jg s j (aM s (j:Int))=none:=by
 unfold jg
 rw[List.find?_eq_none]
 intro i b a
 rw[decide_eq_true_eq]at a
 have:=List.mem_range.1 b
 have:=q8 h (by omega) hj a
 omega
theorem Fl{s:Sg}(h:aH s=true){j:Nat}(hj:j<s.length)(w:List UInt8):jg s (j+1) w=if w=aM s (j:Int)then some j else jg s j w:=by
 have e:jg s (j+1) w=(jg s j w).or (if w=aM s (j:Int)then some j else none):=by
  unfold jg
  rw[List.range_succ,List.find?_append]
  congr 1
  by_cases hw:w=aM s (j:Int)
  ·subst hw;simp
  rw[if_neg hw,List.find?_cons_of_neg (by simpa using fun e=>hw e.symm)];rfl
 rw[e]
 by_cases hw:w=aM s (j:Int)
 ·rw[if_pos hw,if_pos hw,hw,xn h hj];rfl
 rw[if_neg hw,if_neg hw];simp
abbrev Ent:=ByteArray×ByteArray×List Int×List ByteArray×List Stp
def af(x:Ent):ByteArray:=x.1
def aC(x:Ent):ByteArray:=x.2.1
def az(x:Ent):List Int:=x.2.2.1
def ae(x:Ent):List ByteArray:=x.2.2.2.1
def ai(x:Ent):List Stp:=x.2.2.2.2
def fI(i:Nat)(c:UInt8):Bool:=(decide (97≤c.toNat)&&decide (c.toNat≤122))||(decide (i≠0)&&(decide (c.toNat=95)||(decide (48≤c.toNat)&&decide (c.toNat≤57))))
def gZ(s:ByteArray)(k:Nat):Bool:=(List.range k).all (fun i=>fI i (s.data.toList.getD i 0))
def a6(s:ByteArray):Bool:=gZ s s.size&&(decide (1≤s.size)&&decide (s.size≤16))
theorem xv(s:ByteArray)(k:Nat):gZ s (k+1)=(gZ s k&&fI k (s.data.toList.getD k 0)):=by
 unfold gZ
 rw[List.range_succ,List.all_append,List.all_cons,List.all_nil,Bool.and_true]
theorem xu{s:ByteArray}{k:Nat}(hk:k<s.size)(h:fI k (s.data.toList.getD k 0)=false):a6 s=false:=by
 have:gZ s s.size=false:=by
  unfold gZ
  rw[List.all_eq_false]
  exact⟨k,List.mem_range.2 hk,by rw[h];simp⟩
 unfold a6
 rw[this];rfl
theorem jM{s:ByteArray}(h:a6 s=true):1≤s.size∧s.size≤16:=by
 unfold a6 at h
 simp only[Bool.and_eq_true,decide_eq_true_eq]at h
 exact h.2
def bC(l:List ByteArray)(x:ByteArray):Bool:=l.any (fun y=>decide (y=x))
theorem memB_iff{l:List ByteArray}{x:ByteArray}:bC l x=true↔x∈l:=by
 unfold bC
 rw[List.any_eq_true]
 exact⟨fun⟨y,hy,e⟩=>by rw[decide_eq_true_eq]at e;rw[←e];exact hy,fun h=>⟨x,h,by simp⟩⟩
def eI:List ByteArray→List ByteArray→Nat
 |_,[]=>0
 |met,x::r=>(if bC met x=true then 0 else 1)+eI (met++[x]) r
theorem tT:∀(r met:List ByteArray),eI met r≤r.length
 | [],_=>Nat.le_refl _
 |x::r,met=>by
  rw[eI,List.length_cons]
  have:=tT r (met++[x])
  split<;>omega
theorem tU:∀(r met:List ByteArray),met.Nodup→(eI met r=r.length↔(met++r).Nodup)
 | [],met,h=>by simp[eI,h]
 |x::r,met,h=>by
  have hl:=tT r (met++[x])
  rw[eI,List.length_cons]
  by_cases hx:x∈met
  ·rw[if_pos (memB_iff.2 hx)]
   constructor
   ·intro e;omega
   intro e
   rw[List.nodup_append]at e
   exact(e.2.2 x hx x (by simp) rfl).elim
  rw[if_neg (fun h=>hx (memB_iff.1 h))]
  have g:(met++[x]).Nodup:=by
   rw[List.nodup_append]
   exact⟨h,by simp,fun a ha b c e=>hx (by rw[List.mem_singleton]at c;rw[←c,←e];exact ha)⟩
  have f:=tU r (met++[x]) g
  rw[List.append_assoc,List.singleton_append]at f
  rw[←f]
  omega
theorem tW:∀(r met:List ByteArray) (x:ByteArray),eI met (r++[x])=eI met r+(if bC (met++r) x=true then 0 else 1)
 | [],met,x=>by simp[eI]
 |y::r,met,x=>by
  rw[List.cons_append,eI,eI,tW r (met++[y]) x,List.append_assoc,List.singleton_append]
  omega
def cE(s:Sg)(x:Ent):Bool:=
 (a6 (af x)&&(a6 (aC x)&&dc s (az x)))&&((decide ((ae x).length≤12)&&(decide (ae x).Nodup&&(ae x).all a6))&&((decide (ae x=[])&&decide (ai x=[]))||bk (ae x).length (ai x)))
def bz(s:Sg)(l:List Ent):Bool:=aH s&&(decide (l.length≤60)&&(l.all (cE s)&&decide (l.map af).Nodup))
def aG(l:List Ent)(n:ByteArray):Option Nat:=l.findIdx? (fun x=>decide (af x=n))
theorem gx{l:List Ent}{n:ByteArray}{i:Nat}(h:aG l n=some i):∃hi:i<l.length,af l[i]=n:=by
 unfold aG at h
 rw[List.findIdx?_eq_some_iff_getElem]at h
 obtain⟨hi,a,-⟩:=h
 exact⟨hi,by simpa using a⟩
theorem pH{l:List Ent}{n:ByteArray}(h:aG l n=none):∀x∈l,af x≠n:=by
 unfold aG at h
 rw[List.findIdx?_eq_none_iff]at h
 intro x hx e
 have:=h x hx
 rw[e]at this
 simp at this
theorem Bk{l:List Ent}(hd:(l.map af).Nodup){i:Nat}(hi:i<l.length):aG l (af l[i])=some i:=by
 cases h:aG l (af l[i])with
 |none=>exact(pH h _ (List.getElem_mem hi) rfl).elim
 |some j=>
  obtain⟨a,e⟩:=gx h
  have:=(List.getElem_inj (xs:=l.map af) (i:=j) (j:=i) (h₀:=by rw[List.length_map];exact a) (h₁:=by rw[List.length_map];exact hi) hd).1 (by rw[List.getElem_map,List.getElem_map];exact e)
  rw[this]
def bB(l:List Ent)(n:ByteArray):List ByteArray:=match aG l n with|some i=>ae (l.getD i default)|none=>[]
inductive Rch (us:ByteArray→List ByteArray) (may:ByteArray→Prop):ByteArray→ByteArray→Prop
 |one {n u:ByteArray}:u∈us n→may u→Rch us may n u
 |more {n m u:ByteArray}:Rch us may n m→u∈us m→may u→Rch us may n u
theorem Rch.may{us:ByteArray→List ByteArray}{may:ByteArray→Prop}{n u:ByteArray}(h:Rch us may n u):may u:=by cases h<;>assumption
theorem Rch.trans{us:ByteArray→List ByteArray}{may:ByteArray→Prop}{n m u:ByteArray}(h:Rch us may n m)(k:Rch us may m u):Rch us may n u:=by
 induction k with
 |one a b=>exact h.more a b
 |more _ a b c=>exact c.more a b
theorem Rch.closed{us:ByteArray→List ByteArray}{may:ByteArray→Prop}{n:ByteArray}{S:ByteArray→Prop}(h0:∀u∈us n,may u→S u)(h1:∀m,S m→∀u∈us m,may u→S u){u:ByteArray}(h:Rch us may n u):S u:=by
 induction h with
 |one a b=>exact h0 _ a b
 |more _ a b c=>exact h1 _ c _ a b
theorem tE{α:Type}{lt:α→α→Prop}(irr:∀x,¬lt x x)(tr:∀x y z,lt x y→lt y z→lt x z):∀{l m:List α},l.Pairwise lt→m.Pairwise lt→(∀x,x∈l↔x∈m)→l=m
 | [],[],_,_,_=>rfl
 | [],y::m,_,_,h=>by have:=(h y).2 (by simp);cases this
 |x::l,[],_,_,h=>by have:=(h x).1 (by simp);cases this
 |x::l,y::m,b,c,h=>by
  rw[List.pairwise_cons]at b c
  have g:x=y:=by
   rcases List.mem_cons.1 ((h x).1 (by simp))with e|e
   ·exact e
   rcases List.mem_cons.1 ((h y).2 (by simp))with f|f
   ·exact f.symm
   exact(irr x (tr x y x (b.1 y f) (c.1 x e))).elim
  subst g
  congr 1
  refine tE irr tr b.2 c.2 (fun z=> ?_)
  constructor
  ·intro a
   rcases List.mem_cons.1 ((h z).1 (by simp[a]))with e|e
   ·subst e;exact(irr z (b.1 z a)).elim
   exact e
  intro a
  rcases List.mem_cons.1 ((h z).2 (by simp[a]))with e|e
  ·subst e;exact(irr z (c.1 z a)).elim
  exact e
def eD(x y:ByteArray):Prop:=x.data.toList<y.data.toList
theorem lS(x:ByteArray):¬eD x x:=List.lt_irrefl _
theorem qX(x y z:ByteArray)(h:eD x y)(k:eD y z):eD x z:=List.lt_trans h k
def AscN(l:List ByteArray):Prop:=l.Pairwise eD
theorem AscN.uniq{l m:List ByteArray}(hl:AscN l)(hm:AscN m)(h:∀x,x∈l↔x∈m):l=m:=tE lS qX hl hm h
theorem AscN.nodup{l:List ByteArray}(h:AscN l):l.Nodup:=List.Pairwise.imp (S:=fun a b=>a≠b) (fun {a b} (c:eD a b) (e:a=b)=>lS b (by rw[e]at c;exact c)) h
theorem tD{l:List (List UInt8)}(hn:l.Nodup):((l.mergeSort fun x y=>decide (x≤y)).map (fun x=>(⟨x.toArray⟩:ByteArray))).Pairwise eD:=by
 rw[List.pairwise_map]
 have hs:(l.mergeSort fun x y=>decide (x≤y)).Pairwise (fun x y=>decide (x≤y)=true):=List.pairwise_mergeSort (fun a b c g i=>by
   rw[decide_eq_true_eq]at*
   exact List.le_trans g i) (fun a b=>by
   rcases List.le_total a b with h|h<;>simp[h]) l
 have j:(l.mergeSort fun x y=>decide (x≤y)).Nodup:=(List.mergeSort_perm l _).nodup_iff.2 hn
 refine(hs.and j).imp (fun {a b} h=> ?_)
 obtain⟨g,i⟩:=h
 rw[decide_eq_true_eq]at g
 show a<b
 by_cases f:a<b
 ·exact f
 exact(i (List.le_antisymm g (List.not_lt.1 f))).elim
theorem mem_sort{l:List (List UInt8)}{x:ByteArray}:x∈(l.mergeSort fun x y=>decide (x≤y)).map (fun x=>(⟨x.toArray⟩:ByteArray))↔x.data.toList∈l:=by
 rw[List.mem_map]
 constructor
 ·rintro⟨y,hy,rfl⟩;exact(List.mergeSort_perm l _).mem_iff.1 hy
 intro h;exact⟨x.data.toList,(List.mergeSort_perm l _).mem_iff.2 h,by simp⟩
theorem wy(m:UInt8):∀L:List (List UInt8),Lib.join L [m]=aS m L
 | []=>rfl
 | [w]=>Lib.join_one _ _
 |w::v::ws=>by
  have ih:=wy m (v::ws)
  rw[Lib.join_cons,show aS m (w::v::ws)=w++m::aS m (v::ws)from rfl,←ih,Lib.join_cons]
  unfold Lib.joinTail
  rw[List.map_cons,List.flatten_cons]
  simp
theorem jO{α:Type}[DecidableEq α]:∀{l m:List α},l.Nodup→(∀x∈l,x∈m)→l.length≤m.length
 | [],_,_,_=>Nat.zero_le _
 |x::l,m,hn,hs=>by
  rw[List.nodup_cons]at hn
  have hx:x∈m:=hs x (by simp)
  have:=jO (l:=l) (m:=m.erase x) hn.2 (fun y hy=>(List.mem_erase_of_ne (fun e=>hn.1 (by rw[←e];exact hy))).2 (hs y (by simp[hy])))
  rw[List.length_erase_of_mem hx]at this
  have:=List.length_pos_of_mem hx
  rw[List.length_cons]
  omega
def gq(l:List Ent):List ByteArray:=l.flatMap ae
theorem IL{l:List Ent}{n u:ByteArray}(h:u∈bB l n):u∈gq l:=by
 unfold bB at h
 cases e:aG l n with
 |none=>rw[e]at h;cases h
 |some i=>
  rw[e]at h
  obtain⟨a,-⟩:=gx e
  simp only[List.getD_eq_getElem?_getD,List.getElem?_eq_getElem a,Option.getD_some]at h
  exact List.mem_flatMap.2 ⟨l[i],List.getElem_mem a,h⟩
theorem CX{l:List Ent}{m:Nat}(h:∀x∈l,(ae x).length≤m):(gq l).length≤l.length*m:=by
 induction l with
 |nil=>simp[gq]
 |cons x r b=>
  have a:=b (fun y hy=>h y (by simp[hy]))
  have c:=h x (by simp)
  unfold gq at a⊢
  rw[List.flatMap_cons,List.length_append,List.length_cons,Nat.succ_mul]
  omega
theorem tn{s:Sg}{l:List Ent}(h:bz s l=true):(gq l).length≤720:=by
 unfold bz at h
 simp only[Bool.and_eq_true,decide_eq_true_eq,List.all_eq_true]at h
 obtain⟨-,a,ha,-⟩:=h
 have:=CX (l:=l) (m:=12) (fun x hx=>by
  have:=ha x hx
  unfold cE at this
  simp only[Bool.and_eq_true,decide_eq_true_eq]at this
  exact this.2.1.1)
 omega
structure WkAt (us:ByteArray→List ByteArray) (may:ByteArray→Bool) (U:List ByteArray) (n:ByteArray) (k:Nat) (D D':List ByteArray):Prop where
 sub:∀u∈D,u∈D'
 nd:D'.Nodup
 U:∀u∈D',u∈U
 rch:∀u∈D',u∉D→Rch us (fun x=>may x=true) n u
 cls0:∀u∈(us n).take k,may u=true→u∈D'
 cls1:∀m∈D',m∉D→∀u∈us m,may u=true→u∈D'
section
variable {us:ByteArray→List ByteArray}{may:ByteArray→Bool}{U D D1 D2:List ByteArray}{n:ByteArray}{k:Nat}
theorem WkAt.start(hn:D.Nodup)(hU:∀u∈D,u∈U):WkAt us may U n 0 D D:=⟨fun _ h=>h,hn,hU,fun _ h a=>(a h).elim,fun u h=>by simp at h,fun _ h a=>(a h).elim⟩
theorem mo{l:List ByteArray}{k:Nat}(hk:k<l.length){u:ByteArray}(h:u∈l.take (k+1)):u∈l.take k∨u=l[k]:=by
 rw[List.take_succ_eq_append_getElem hk,List.mem_append,List.mem_singleton]at h
 exact h
theorem WkAt.skip(h:WkAt us may U n k D D1)(hk:k<(us n).length)(hs:(us n)[k]∈D1∨may (us n)[k]=false):WkAt us may U n (k+1) D D1:=
 ⟨h.sub,h.nd,h.U,h.rch,(fun u f b=>by
  rcases mo hk f with c|rfl
  ·exact h.cls0 u c b
  rcases hs with a|a
  ·exact a
  rw[a]at b;cases b),h.cls1⟩
theorem WkAt.put(h:WkAt us may U n k D D1)(hk:k<(us n).length)(hno:(us n)[k]'hk∉D1)(hin:(us n)[k]'hk∈U):(D1++[(us n)[k]'hk]).Nodup∧(∀u∈D1++[(us n)[k]'hk],u∈U)∧D1.length+1≤U.length:=by
 have i:(D1++[(us n)[k]'hk]).Nodup:=by
  rw[List.nodup_append]
  exact⟨h.nd,by simp,fun a ha b g e=>hno (by rw[List.mem_singleton]at g;rw[←g,←e];exact ha)⟩
 have f:∀u∈D1++[(us n)[k]'hk],u∈U:=fun u j=>by
  rcases List.mem_append.1 j with c|c
  ·exact h.U u c
  rw[List.mem_singleton]at c;rw[c];exact hin
 have:=jO i f
 rw[List.length_append]at this
 exact⟨i,f,by simpa using this⟩
theorem WkAt.deep(h:WkAt us may U n k D D1)(hk:k<(us n).length)(_:(us n)[k]∉D1)(hm:may (us n)[k]=true)
  (h2:WkAt us may U (us n)[k] (us (us n)[k]).length (D1++[(us n)[k]]) D2):WkAt us may U n (k+1) D D2:=by
 have c:∀u∈D1,u∈D2:=fun u a=>h2.sub u (List.mem_append_left _ a)
 have hx:(us n)[k]∈D2:=h2.sub _ (by simp)
 have j:Rch us (fun x=>may x=true) n (us n)[k]:= .one (List.getElem_mem hk) hm
 refine⟨fun u a=>c u (h.sub u a),h2.nd,h2.U,fun u a hd=> ?_,fun u a b=> ?_,fun m i hd u a b=> ?_⟩
 ·by_cases f:u∈D1
  ·exact h.rch u f hd
  by_cases g:u=(us n)[k]
  ·rw[g];exact j
  exact j.trans (h2.rch u a (fun e=>by rcases List.mem_append.1 e with e|e;exact f e;exact g (List.mem_singleton.1 e)))
 ·rcases mo hk a with e|rfl
  ·exact c u (h.cls0 u e b)
  exact hx
 by_cases f:m∈D1
 ·exact c u (h.cls1 m f hd u a b)
 by_cases g:m=(us n)[k]
 ·rw[g]at a
  exact h2.cls0 u (by rw[List.take_length];exact a) b
 exact h2.cls1 m i (fun e=>by rcases List.mem_append.1 e with e|e;exact f e;exact g (List.mem_singleton.1 e)) u a b
theorem WkAt.all(h:WkAt us may U n (us n).length [] D1)(u:ByteArray):u∈D1↔Rch us (fun x=>may x=true) n u:=by
 constructor
 ·intro a;exact h.rch u a (by simp)
 intro hr
 refine Rch.closed (S:=fun x=>x∈D1) (fun u a b=>h.cls0 u (by rw[List.take_length];exact a) b) (fun m b u a c=>h.cls1 m b (by simp) u a c) hr
end
open Classical in
noncomputable def gJ(l:List Ent)(may:ByteArray→Bool)(n u:ByteArray):Bool:=decide (Rch (bB l) (fun x=>may x=true) n u)
theorem rchB_iff{l:List Ent}{may:ByteArray→Bool}{n u:ByteArray}:gJ l may n u=true↔Rch (bB l) (fun x=>may x=true) n u:=by unfold gJ;simp
theorem WkAt.test{l:List Ent}{may:ByteArray→Bool}{U D1:List ByteArray}{n:ByteArray}(h:WkAt (bB l) may U n (bB l n).length [] D1):bC D1=gJ l may n:=by
 funext u
 rw[Bool.eq_iff_iff,memB_iff,rchB_iff]
 exact h.all u
theorem pL{x y:ByteArray}(h:x.data.toList=y.data.toList):x=y:=ByteArray.ext (Array.toList_inj.1 h)
theorem wX(x y:ByteArray):eD x y∨x=y∨eD y x:=by
 unfold eD
 by_cases a:x.data.toList<y.data.toList
 ·exact .inl a
 by_cases b:y.data.toList<x.data.toList
 ·exact .inr (.inr b)
 exact .inr (.inl (pL (List.le_antisymm (List.not_lt.1 b) (List.not_lt.1 a))))
def gD(x y:ByteArray):Bool:=decide (x.data.toList<y.data.toList)
theorem ltB_iff{x y:ByteArray}:gD x y=true↔eD x y:=by unfold gD eD;simp
def lx(first n:ByteArray):Bool:= !gD n first
def io(first:ByteArray)(out:List ByteArray)(n:ByteArray):Bool:=decide (n=first)||(gD first n&& !bC out n)
def zZ(first:ByteArray)(out:List ByteArray)(name n:ByteArray):Bool:= !decide (n=name)&&io first out n
noncomputable def gX(l:List Ent)(x:ByteArray):Bool:=gJ l (lx x) x x
noncomputable def il(l:List Ent)(first:ByteArray)(out:List ByteArray)(u:ByteArray):Bool:= !decide (u=first)&&(io first out u&&gJ l (zZ first out u) u first)
inductive CircS (l:List Ent) (first:ByteArray):List ByteArray→ByteArray→List ByteArray→Prop
 |stop {out:List ByteArray} {now:ByteArray}:first∈bB l now→CircS l first out now out
 |step {out C:List ByteArray} {now nx:ByteArray}:first∉bB l now→nx∈bB l now→il l first out nx=true→(∀u∈bB l now,il l first out u=true→u=nx∨eD nx u)→
   CircS l first (out++[nx]) nx C→CircS l first out now C
theorem CircS.det{l:List Ent}{first:ByteArray}{out C C':List ByteArray}{now:ByteArray}(h:CircS l first out now C)(k:CircS l first out now C'):C=C':=by
 induction h generalizing C' with
 |stop b=>cases k with
  |stop=>rfl
  |step c=>exact(c b).elim
 |step b c g i _ m=>cases k with
  |stop j=>exact(b j).elim
  |step s n o p q=>
   rename_i r _ f
   have e:r=f:=by
    rcases p _ c g with e|e
    ·exact e
    rcases i _ n o with a|a
    ·exact a.symm
    exact(lS _ (qX _ _ _ e a)).elim
   subst e
   exact m q
def CircR(l:List Ent):Option (List ByteArray)→Prop
 |none=>∀x∈l.map af,gX l x=false
 |some C=>∃first∈l.map af,gX l first=true∧(∀x∈l.map af,eD x first→gX l x=false)∧CircS l first [first] first C
theorem CircR.det{l:List Ent}{c c':Option (List ByteArray)}(h:CircR l c)(k:CircR l c'):c=c':=by
 cases c with
 |none=>cases c' with
  |none=>rfl
  |some C=>
   obtain⟨f,b,a,-⟩:=k
   rw[h f b]at a
   cases a
 |some C=>
  obtain⟨f,b,a,j,m⟩:=h
  cases c' with
  |none=>rw[k f b]at a;cases a
  |some q=>
   obtain⟨g,n,i,o,p⟩:=k
   have e:f=g:=by
    rcases wX f g with e|e|e
    ·rw[o f b e]at a;cases a
    ·exact e
    rw[j g n e]at i;cases i
   subst e
   rw[m.det p]
theorem Rch.mono{us:ByteArray→List ByteArray}{may may':ByteArray→Prop}{u x:ByteArray}(hm:∀n,may n→may' n)(h:Rch us may u x):Rch us may' u x:=by
 induction h with
 |one a b=>exact .one a (hm _ b)
 |more _ a b c=>exact c.more a (hm _ b)
theorem Rch.head{us:ByteArray→List ByteArray}{may:ByteArray→Prop}{n x:ByteArray}(h:Rch us may n x):∃u∈us n,may u∧(u=x∨Rch us may u x):=by
 induction h with
 |one a b=>exact⟨_,a,b, .inl rfl⟩
 |more _ a b g=>
  obtain⟨u,f,c,hr⟩:=g
  rcases hr with rfl|hr
  ·exact⟨u,f,c, .inr (.one a b)⟩
  exact⟨u,f,c, .inr (hr.more a b)⟩
theorem BL{l:List Ent}{first:ByteArray}{out:List ByteArray}{u:ByteArray}(h:il l first out u=true):Rch (bB l) (fun x=>io first (out++[u]) x=true) u first:=by
 unfold il at h
 rw[Bool.and_eq_true,Bool.and_eq_true,rchB_iff]at h
 refine h.2.2.mono fun n a=> ?_
 unfold zZ io bC at a
 unfold io bC
 simp only[Bool.and_eq_true,Bool.or_eq_true,Bool.not_eq_true',decide_eq_true_eq,decide_eq_false_iff_not,List.any_append,List.any_cons,List.any_nil,Bool.or_false,Bool.or_eq_false_iff]at a⊢
 rcases a.2 with e|e
 ·exact .inl e
 exact .inr ⟨e.1,e.2,fun b=>a.1 b.symm⟩
theorem EM{l:List Ent}{x:ByteArray}(h:gX l x=true):Rch (bB l) (fun n=>io x [x] n=true) x x:=by
 unfold gX at h
 rw[rchB_iff]at h
 refine h.mono fun n a=> ?_
 unfold lx at a
 unfold io bC
 simp only[Bool.not_eq_true',List.any_cons,List.any_nil,Bool.or_false,Bool.or_eq_true,decide_eq_true_eq,Bool.and_eq_true,decide_eq_false_iff_not]at a⊢
 rcases wX n x with e|e|e
 ·rw[ltB_iff.2 e]at a;cases a
 ·exact .inl e
 by_cases b:n=x
 ·exact .inl b
 exact .inr ⟨ltB_iff.2 e,fun h=>b h.symm⟩
def fF(l:List Ent)(us:List ByteArray):Bool:=us.all (fun u=>(aG l u).isSome)
def ek(l:List Ent)(us:List ByteArray):List (List Int):=us.map (fun u=>az (l.getD ((aG l u).getD 0) default))
noncomputable def fu(s:Sg)(l:List Ent)(i:Nat):Option (List Int):=
 if ai (l.getD i default)=[]then some (az (l.getD i default))
 else if fF l (ae (l.getD i default))=true then(if(fO s (ek l (ae (l.getD i default))) (ai (l.getD i default))).2=0 then some (fO s (ek l (ae (l.getD i default))) (ai (l.getD i default))).1 else none)
 else none
noncomputable def bY(s:Sg)(l:List Ent)(i:Nat):Bool:=match fu s l i with
 |some t=>aw s t&&aw s (az (l.getD i default))&&fb s t (az (l.getD i default))
 |none=>false
theorem jD{l:List Ent}{i:Nat}(hi:i<l.length):l.getD i default=l[i]:=by simp[List.getElem?_eq_getElem hi]
theorem D5{l:List Ent}{us:List ByteArray}{k:Nat}(hk:k<us.length):fF l (us.take (k+1))=(fF l (us.take k)&&(aG l us[k]).isSome):=by
 unfold fF
 rw[List.take_succ_eq_append_getElem hk,List.all_append];simp
theorem D4{l:List Ent}{us:List ByteArray}{k:Nat}(hk:k<us.length)(h:aG l us[k]=none):fF l us=false:=by
 unfold fF
 rw[List.all_eq_false]
 exact⟨us[k],List.getElem_mem hk,by rw[h];simp⟩
theorem De{l:List Ent}{us:List ByteArray}{k i:Nat}(hk:k<us.length)(h:aG l us[k]=some i)(hi:i<l.length):ek l (us.take (k+1))=ek l (us.take k)++[az l[i]]:=by
 unfold ek
 rw[List.take_succ_eq_append_getElem hk,List.map_append,List.map_cons,List.map_nil,h,Option.getD_some,jD hi]
theorem uX(l:List Ent)(us:List ByteArray):(ek l us).length=us.length:=by unfold ek;rw[List.length_map]
def fh(l:List Ent)(pd:Nat→Bool)(x:ByteArray):Bool:=(List.range l.length).any (fun i=>pd i&&decide (af (l.getD i default)=x))
def ey(l:List Ent)(pd:Nat→Bool)(k:Nat):List ByteArray:=((List.range k).filter pd).map (fun i=>af (l.getD i default))
theorem tQ{l:List Ent}{pd:Nat→Bool}{k:Nat}(hk:k<l.length):ey l pd (k+1)=if pd k=true then ey l pd k++[af l[k]]else ey l pd k:=by
 unfold ey
 rw[List.range_succ,List.filter_append,List.map_append]
 by_cases h:pd k=true
 ·rw[if_pos h,List.filter_cons_of_pos h];simp[List.getElem?_eq_getElem hk]
 rw[if_neg h,List.filter_cons_of_neg h];simp
theorem tP(l:List Ent)(pd:Nat→Bool)(k:Nat):(ey l pd k).length≤k:=by
 unfold ey
 rw[List.length_map]
 exact Nat.le_trans (List.length_filter_le _ _) (by simp)
theorem BV{l:List Ent}{pd:Nat→Bool}{x:ByteArray}:x∈ey l pd l.length↔fh l pd x=true:=by
 unfold ey fh
 rw[List.mem_map,List.any_eq_true]
 constructor
 ·rintro⟨i,a,rfl⟩
  rw[List.mem_filter]at a
  exact⟨i,a.1,by simp[a.2]⟩
 rintro⟨i,a,h⟩
 rw[Bool.and_eq_true,decide_eq_true_eq]at h
 exact⟨i,List.mem_filter.2 ⟨a,h.1⟩,h.2⟩
theorem chB_iff{l:List Ent}{pd:Nat→Bool}{x:ByteArray}:fh l pd x=true↔∃i,∃hi:i<l.length,pd i=true∧af l[i]=x:=by
 unfold fh
 rw[List.any_eq_true]
 constructor
 ·rintro⟨i,hi,h⟩
  rw[List.mem_range]at hi
  rw[Bool.and_eq_true,decide_eq_true_eq,jD hi]at h
  exact⟨i,hi,h⟩
 rintro⟨i,hi,h⟩
 exact⟨i,List.mem_range.2 hi,by rw[jD hi];simp[h]⟩
theorem BW{l:List Ent}{pd:Nat→Bool}(hd:(l.map af).Nodup):(ey l pd l.length).Nodup:=by
 unfold ey
 have e:((List.range l.length).map (fun i=>af (l.getD i default)))=l.map af:=by
  apply List.ext_getElem
  ·simp
  intro i a b
  simp at a
  simp[List.getElem?_eq_getElem a]
 have:List.Sublist (((List.range l.length).filter pd).map (fun i=>af (l.getD i default))) (l.map af):=by
  rw[←e]
  exact List.filter_sublist.map _
 exact this.nodup hd
theorem wO{i:Nat}{x:Stp}(h:aY 60 i x=true)(hi:i≤60):(10:UInt8)∉dA x:=by
 rcases jq h hi with⟨a,ha,rfl⟩|⟨a,b,ha,c,rfl⟩
 ·have f:(10:UInt8)∉dg a:=(ew ⟨a,ha⟩).2.2.2.2.2.2
  rw[lN ha];simp[dU,f]
 have f:(10:UInt8)∉dg a:=(ew ⟨a,ha⟩).2.2.2.2.2.2
 have g:(10:UInt8)∉dg b:=(ew ⟨b,c⟩).2.2.2.2.2.2
 rw[lO ha c];simp[dL,f,g]
theorem CY{p:List Stp}:∀{i:Nat},a8 60 i p=true→i+p.length≤60→(p.flatMap bD).length≤13*p.length:=by
 induction p with
 |nil=>intro i _ _;simp
 |cons x p g=>
  intro i ok f
  rw[a8,Bool.and_eq_true]at ok
  rw[List.length_cons]at f
  have j:=g ok.2 (by omega)
  have h:(bD x).length≤13:=by
   unfold bD
   rcases jq ok.1 (by omega)with⟨a,ha,rfl⟩|⟨a,b,ha,c,rfl⟩
   ·have:(dg a).length≤2:=(ew ⟨a,ha⟩).2.2.1
    rw[lN ha];simp[dU];omega
   have:(dg a).length≤2:=(ew ⟨a,ha⟩).2.2.1
   have:(dg b).length≤2:=(ew ⟨b,c⟩).2.2.1
   rw[lO ha c];simp[dL];omega
  rw[List.flatMap_cons,List.length_append,List.length_cons];omega
theorem ir(m:UInt8)(w v:List UInt8)(ws:List (List UInt8)):aS m (w::v::ws)=w++m::aS m (v::ws):=rfl
def bE(l:List Ent)(q:Nat):ByteArray:=af (l.getD q default)
def ie(l:List Ent)(q:Nat):List ByteArray:=ae (l.getD q default)
theorem xp{l:List Ent}{i:Nat}(h:i<l.length):bE l i=af l[i]:=by unfold bE;rw[jD h]
theorem pG{l:List Ent}(hd:(l.map af).Nodup){i:Nat}(h:i<l.length):aG l (bE l i)=some i:=by rw[xp h];exact Bk hd h
theorem sE{l:List Ent}(hd:(l.map af).Nodup){i:Nat}(h:i<l.length):bB l (bE l i)=ie l i:=by unfold bB;rw[pG hd h];rfl
theorem xq{l:List Ent}{u:ByteArray}{n:Nat}(h:aG l u=some n):n<l.length∧bE l n=u:=by
 obtain⟨a,b⟩:=gx h
 exact⟨a,by rw[xp a];exact b⟩
def sO(l:List Ent)(free:ByteArray→Prop)(n u:ByteArray):Prop:=u∈bB l n∨∃m,Rch (bB l) free n m∧u∈bB l m
def jS(l:List Ent)(sh:List Bool)(x:ByteArray):Bool:=match aG l x with|some k=> !sh.getD k false|none=>false
structure CitS (l:List Ent) (sh:List Bool) (i k j:Nat) (Q:List Nat) (M:List Bool):Prop where
 len:M.length=l.length
 hd:∃T,Q=i::T
 nd:Q.tail.Nodup
 lt:∀q∈Q,q<l.length
 tl:∀q∈Q.tail,M.getD q false=true
 snd:∀n,M.getD n false=true→sO l (fun x=>jS l sh x=true) (bE l i) (bE l n)
 qs:∀q∈Q.tail,Rch (bB l) (fun x=>jS l sh x=true) (bE l i) (bE l q)
 out:∀n,M.getD n false=true→sh.getD n false=false→n∈Q.tail
 done:∀t,t<k→∀u∈ie l (Q.getD t 0),∀n,aG l u=some n→M.getD n false=true
 part:∀u∈(ie l (Q.getD k 0)).take j,∀n,aG l u=some n→M.getD n false=true
section
variable {l:List Ent}{sh:List Bool}{i k j n:Nat}{Q:List Nat}{M:List Bool}
theorem uU(m n:Nat):(List.replicate m false).getD n false=false:=by
 rw[List.getD_eq_getElem?_getD,List.getElem?_replicate];split<;>rfl
theorem CitS.start(hi:i<l.length):CitS l sh i 0 0 [i] (List.replicate l.length false):=
 ⟨by simp,⟨[],rfl⟩,by simp,(fun q a=>by rw[List.mem_singleton]at a;rw[a];exact hi),(fun q a=>by simp at a),(fun n b=>by rw[uU]at b;cases b),(fun q a=>by simp at a),
  (fun n b=>by rw[uU]at b;cases b),(fun t f=>by omega),(fun u c=>by simp at c)⟩
theorem CitS.size(h:CitS l sh i k j Q M):Q.length≤l.length+1:=by
 obtain⟨T,rfl⟩:=h.hd
 have a:=h.nd
 have b:=h.lt
 simp only[List.tail_cons]at a
 have:T.length≤(List.range l.length).length:=jO a (fun x hx=>List.mem_range.2 (b x (by simp[hx])))
 rw[List.length_range]at this
 simp;omega
theorem CitS.skip(h:CitS l sh i k j Q M){u:ByteArray}(hu:(ie l (Q.getD k 0))[j]?=some u)(hs:∀n,aG l u=some n→M.getD n false=true):CitS l sh i k (j+1) Q M:=
 ⟨h.len,h.hd,h.nd,h.lt,h.tl,h.snd,h.qs,h.out,h.done,(fun v f n b=>by
   obtain⟨c,e⟩:=List.getElem?_eq_some_iff.1 hu
   rcases mo c f with a|a
   ·exact h.part v a n b
   rw[a,e]at b;exact hs n b)⟩
theorem CitS.next(h:CitS l sh i k (ie l (Q.getD k 0)).length Q M):CitS l sh i (k+1) 0 Q M:=
 ⟨h.len,h.hd,h.nd,h.lt,h.tl,h.snd,h.qs,h.out,(fun t c u a n b=>by
   by_cases e:t=k
   ·subst e;exact h.part u (by rw[List.take_length];exact a) n b
   exact h.done t (by omega) u a n b),(fun u a=>by simp at a)⟩
theorem fH{M:List Bool}{n m:Nat}(hn:n<M.length):(M.set n true).getD m false=true↔m=n∨M.getD m false=true:=by
 rw[List.getD_eq_getElem?_getD,List.getD_eq_getElem?_getD,List.getElem?_set]
 by_cases e:n=m
 ·subst e;rw[if_pos rfl,if_pos hn];simp
 rw[if_neg e]
 constructor
 ·exact fun h=> .inr h
 rintro(h|h)
 ·exact(e h.symm).elim
 exact h
theorem tS(hdn:(l.map af).Nodup)(h:CitS l sh i k j Q M)(hk:k<Q.length){u:ByteArray}(hu:u∈ie l (Q.getD k 0)):
  sO l (fun x=>jS l sh x=true) (bE l i) u∧(jS l sh u=true→Rch (bB l) (fun x=>jS l sh x=true) (bE l i) u):=by
 obtain⟨T,rfl⟩:=h.hd
 cases k with
 |zero=>
  have f:i<l.length:=h.lt i (by simp)
  have a:u∈bB l (bE l i):=by rw[sE hdn f];exact hu
  exact⟨.inl a,fun h=> .one a h⟩
 |succ k=>
  have b:k<T.length:=by simpa using hk
  have e:(i::T).getD (k+1) 0=T[k]:=by simp[List.getElem?_eq_getElem b]
  rw[e]at hu
  have c:=h.qs T[k] (by simp)
  have a:u∈bB l (bE l T[k]):=by rw[sE hdn (h.lt T[k] (by simp))];exact hu
  exact⟨.inr ⟨_,c,a⟩,fun h=>c.more a h⟩
theorem uW{Q:List Nat}{t m:Nat}(h:t<Q.length):(Q++[m]).getD t 0=Q.getD t 0:=by
 rw[List.getD_eq_getElem?_getD,List.getD_eq_getElem?_getD,List.getElem?_append_left h]
theorem CitS.mark(hdn:(l.map af).Nodup)(h:CitS l sh i k j Q M)(hk:k<Q.length){u:ByteArray}(hu:(ie l (Q.getD k 0))[j]?=some u)(hat:aG l u=some n)(hs:sh.getD n false=true):CitS l sh i k (j+1) Q (M.set n true):=by
 obtain⟨p,e⟩:=List.getElem?_eq_some_iff.1 hu
 obtain⟨w,r⟩:=xq hat
 have a:n<M.length:=by rw[h.len];exact w
 have s:=tS hdn h hk (u:=u) (by rw[←e];exact List.getElem_mem p)
 refine⟨by rw[List.length_set];exact h.len,h.hd,h.nd,h.lt,(fun q x=>(fH a).2 (.inr (h.tl q x))),(fun m b=> ?_),h.qs,(fun m b f=> ?_),(fun t y v o m b=>(fH a).2 (.inr (h.done t y v o m b))),(fun v o m b=> ?_)⟩
 ·rcases(fH a).1 b with c|c
  ·rw[c,r];exact s.1
  exact h.snd m c
 ·rcases(fH a).1 b with c|c
  ·rw[c,hs]at f;cases f
  exact h.out m c f
 rcases mo p o with g|g
 ·exact(fH a).2 (.inr (h.part v g m b))
 rw[g,e,hat]at b
 exact(fH a).2 (.inl (by injection b with b;exact b.symm))
theorem CitS.push(hdn:(l.map af).Nodup)(h:CitS l sh i k j Q M)(hk:k<Q.length){u:ByteArray}(hu:(ie l (Q.getD k 0))[j]?=some u)(hat:aG l u=some n)(hM:M.getD n false=false)(hs:sh.getD n false=false):CitS l sh i k (j+1) (Q++[n]) (M.set n true):=by
 obtain⟨C,e⟩:=List.getElem?_eq_some_iff.1 hu
 obtain⟨D,y⟩:=xq hat
 have f:n<M.length:=by rw[h.len];exact D
 have B:=tS hdn h hk (u:=u) (by rw[←e];exact List.getElem_mem C)
 have w:jS l sh u=true:=by unfold jS;rw[hat];simp only;rw[hs];rfl
 obtain⟨T,z⟩:=h.hd
 have o:(Q++[n]).tail=Q.tail++[n]:=by rw[z];simp
 refine⟨by rw[List.length_set];exact h.len,⟨T++[n],by rw[z];rfl⟩,?_,(fun q r=> ?_),(fun q r=> ?_),(fun m g=> ?_),(fun q r=> ?_),(fun m g x=> ?_),(fun t E v s m g=> ?_),(fun v s m g=> ?_)⟩
 ·rw[o,List.nodup_append]
  exact⟨h.nd,by simp,fun a ha b A e=>by rw[List.mem_singleton]at A;have:=h.tl a ha;rw[e,A,hM]at this;cases this⟩
 ·rcases List.mem_append.1 r with c|c
  ·exact h.lt q c
  rw[List.mem_singleton]at c;rw[c];exact D
 ·rw[o]at r
  rcases List.mem_append.1 r with c|c
  ·exact(fH f).2 (.inr (h.tl q c))
  rw[List.mem_singleton]at c;exact(fH f).2 (.inl c)
 ·rcases(fH f).1 g with p|p
  ·rw[p,y];exact B.1
  exact h.snd m p
 ·rw[o]at r
  rcases List.mem_append.1 r with c|c
  ·exact h.qs q c
  rw[List.mem_singleton]at c;rw[c,y];exact B.2 w
 ·rw[o]
  rcases(fH f).1 g with p|p
  ·rw[p];simp
  exact List.mem_append_left _ (h.out m p x)
 ·rw[uW (by omega)]at s
  exact(fH f).2 (.inr (h.done t E v s m g))
 rw[uW hk]at s
 rcases mo C s with c|c
 ·exact(fH f).2 (.inr (h.part v c m g))
 rw[c,e,hat]at g
 exact(fH f).2 (.inl (by injection g with g;exact g.symm))
end
theorem jj{s:Sg}{l:List Ent}(h:bz s l=true):aH s=true∧l.length≤60∧(∀x∈l,cE s x=true)∧(l.map af).Nodup:=by
 unfold bz at h
 simp only[Bool.and_eq_true,decide_eq_true_eq,List.all_eq_true]at h
 exact⟨h.1,h.2.1,h.2.2.1,h.2.2.2⟩
def bL(x:ByteArray):List UInt8:=x.data.toList
def gF(l:List UInt8):ByteArray:=⟨l.toArray⟩
theorem fK(x:ByteArray):gF (bL x)=x:=by unfold bL gF;simp
theorem mY{x y:ByteArray}(h:bL x=bL y):x=y:=by rw[←fK x,h,fK]
def d7:List UInt8:=[101,110,116,114,121]
def dZ:List UInt8:=[98,121]
def eT:List UInt8:=[115,97,121,115]
def eh:List UInt8:=[117,115,101,115]
def iZ(s:Sg)(x:Ent):List (List UInt8):=[d7,bL (af x),dZ,bL (aC x),eT,60::(txt 1 s (az x)++[62]),eh]++(ae x).map bL
def aZ(s:Sg)(x:Ent):List UInt8:=aS 32 (iZ s x)
def b9(s:Sg)(x:Ent):Bool:=(a6 (af x)&&(a6 (aC x)&&dc s (az x)))&&(decide ((ae x).length≤12)&&(decide (ae x).Nodup&&(ae x).all a6))
theorem ji{s:Sg}{x:Ent}(h:b9 s x=true):a6 (af x)=true∧a6 (aC x)=true∧dc s (az x)=true∧aw s (az x)=true∧(ae x).length≤12∧(ae x).Nodup∧∀u∈ae x,a6 u=true:=by
 unfold b9 at h
 simp only[Bool.and_eq_true,decide_eq_true_eq,List.all_eq_true]at h
 refine⟨h.1.1,h.1.2.1,h.1.2.2,?_,h.2.1,h.2.2.1,h.2.2.2⟩
 have:=h.1.2.2
 unfold dc at this
 rw[Bool.and_eq_true]at this
 exact this.1
theorem g8(s:Sg)(x:Ent):cE s x=(b9 s x&&((decide (ae x=[])&&decide (ai x=[]))||bk (ae x).length (ai x))):=by
 unfold cE b9
 cases a6 (af x)<;>cases a6 (aC x)<;>cases dc s (az x)<;>simp[Bool.and_assoc]
def fi(c:UInt8):Bool:=(decide (48≤c.toNat)&&decide (c.toNat≤57))||(decide (97≤c.toNat)&&decide (c.toNat≤122))||(decide (65≤c.toNat)&&decide (c.toNat≤90))||decide (c.toNat=95)
theorem Fq{i:Nat}{c:UInt8}(h:fI i c=true):fi c=true:=by
 unfold fI at h
 unfold fi
 simp only[Bool.or_eq_true,Bool.and_eq_true,decide_eq_true_eq]at h⊢
 omega
theorem q7{x:ByteArray}(h:a6 x=true):∀c∈bL x,fi c=true:=by
 intro c b
 obtain⟨i,a,rfl⟩:=List.getElem_of_mem b
 unfold a6 gZ at h
 simp only[Bool.and_eq_true,List.all_eq_true]at h
 have hs:(bL x).length=x.size:=Array.length_toList
 have:=h.1 i (List.mem_range.2 (by rw[←hs];exact a))
 rw[List.getD_eq_getElem?_getD,show x.data.toList[i]?=some (bL x)[i]from List.getElem?_eq_getElem a]at this
 exact Fq this
theorem FY{c m:UInt8}(h:fi c=true)(hm:fi m=false):c≠m:=fun e=>by rw[e,hm]at h;cases h
theorem nY{x:ByteArray}(h:a6 x=true){m:UInt8}(hm:fi m=false):m∉bL x:=fun a=>FY (q7 h m a) hm rfl
def kG(c:UInt8):Bool:=fi c||decide (c=32)
theorem Ei{c:UInt8}(h:cR c=true):fi c=true:=by
 unfold cR at h
 unfold fi
 simp only[Bool.or_eq_true,Bool.and_eq_true,decide_eq_true_eq]at h⊢
 omega
theorem Cz:∀v,v<12→∀c∈fX v,fi c=true:=by decide
theorem zv{P:UInt8→Prop}(h32:P 32):∀(A:List (List UInt8)),(∀a∈A,∀c∈a,P c)→∀c∈Lib.joinTail [32] A,P c
 | [],_,c,hc=>by simp[Lib.joinTail]at hc
 |a::A,h,c,hc=>by
  rw[show Lib.joinTail [32] (a::A)=[32]++(a++Lib.joinTail [32] A)by simp[Lib.joinTail]]at hc
  rcases List.mem_append.1 hc with e|e
  ·rw[List.mem_singleton.1 e];exact h32
  rcases List.mem_append.1 e with e|e
  ·exact h a (by simp) c e
  exact zv h32 A (fun b hb=>h b (by simp[hb])) c e
theorem zP{s:Sg}:∀(f:Nat) {t:List Int},aw s t=true→t.length≤f→∀c∈txt 1 s t,kG c=true
 |0,t,h,hf=>by have:=(bj h).2.1;omega
 |f+1,t,h,hf=>by
  have j:=(bj h).1
  obtain⟨n,x,v,k,hs⟩:=gG h
  obtain⟨y,p,q⟩:=fg h
  have g:t.headD 0=n:=by rw[v];rfl
  by_cases l:n<0
  ·have e:=ot h (by rw[g];exact l)
   rw[g]at e
   rw[e,kc l]
   have o:(-n-1).toNat<12:=by simp[br]at k;omega
   rw[gS o]
   intro c b
   unfold kG
   rcases List.mem_cons.1 b with e|e
   ·rw[e];decide
   rw[Cz _ o c e];rfl
  have i:n<s.length:=by simp[br]at k;omega
  obtain⟨w,z,-⟩:=jN j (n:=n) (by omega) i
  have hA:∀a∈(bd s t).map (txt 1 s),∀c∈a,kG c=true:=fun a ha=>by
   obtain⟨u,m,rfl⟩:=List.mem_map.1 ha
   have r:=gC m
   have:1+(bd s t).flatten.length=t.length:=by
    have:=congrArg List.length p
    rw[List.length_cons]at this;omega
   exact zP f (q _ m) (by omega)
  rw[ke h (by rw[g];omega),g]
  unfold bJ
  rw[if_pos rfl]
  intro c b
  rcases List.mem_append.1 b with e|e
  ·unfold kG;rw[Ei (List.all_eq_true.1 w c e)];rfl
  exact zv (P:=fun c=>kG c=true) (by decide) _ hA c e
theorem sy{s:Sg}{t:List Int}(h:aw s t=true){m:UInt8}(hm:kG m=false):m∉txt 1 s t:=fun a=>by
 have:=zP t.length h (Nat.le_refl _) m a
 rw[hm]at this;cases this
theorem yj{s:Sg}{t:List Int}(h:aw s t=true):cC s 1 (txt 1 s t)=(t,0):=by
 have a:=(bj h).1
 have b:=iK (k:=1) t.length h (Nat.le_refl _)
 have c:=(bj h).2.2.1
 unfold cC
 rw[if_pos a,if_pos (by decide),if_pos (by omega)]
 exact lk h rfl
theorem GB{s:Sg}{b:List UInt8}{t:List Int}(h:cC s 1 b=(t,0)):aw s t=true∧txt 1 s t=b:=by
 unfold cC at h
 split at h
 ·split at h
  ·split at h
   ·rcases CW (s:=s) (k:=1) (b:=b)with⟨u,c,f,a⟩|a
    ·rw[show(1:Int).toNat=1 from rfl,a]at h
     injection h with h _
     rw[←h];exact⟨c,f⟩
    rw[show(1:Int).toNat=1 from rfl,a]at h
    injection h with _ h;cases h
   injection h with _ h;cases h
  injection h with _ h;cases h
 injection h with _ h;cases h
end Go.Proofs.YtlejmeegkpdabaaGreatDoor
