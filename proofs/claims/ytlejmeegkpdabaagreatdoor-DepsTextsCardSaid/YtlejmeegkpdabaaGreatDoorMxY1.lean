/- The proof of a statement, some of its texts joined in build order: part Y1. -/
import Derived.Lib.Join
import Derived.Lib.ItoaNum
import Derived.Lib.AtoiAll
import Derived.Test.YtlejmeegkpdabaaGreatDoorMxK17
import Derived.Test.YtlejmeegkpdabaaGreatDoorMxB2
import Derived.Test.YtlejmeegkpdabaaGreatDoorMxK4
import Derived.Deep.Cut
set_option maxHeartbeats 4000000
set_option maxRecDepth 20000
namespace Go.Proofs.YtlejmeegkpdabaaGreatDoor
open Go Go.RowKit Go.Maps
def aM(s:Sg)(n:Int):List UInt8:=(s.getD n.toNat default).1.data.toList
def bJ(k:Nat)(s:Sg)(n:Int)(L:List (List UInt8)):List UInt8:=
 if k=1 then aM s n++Lib.joinTail [32] L
 else if k=2 then
  if n=0 then 40::(Lib.join L [32,45,62,32]++[41])
  else if L=[]then aM s n else aM s n++(40::(Lib.join L [44,32]++[41]))
 else if L=[]then aM s n else 91::(aM s n++Lib.joinTail [32] L++[93])
def tx(k:Nat)(s:Sg):Nat→List Int→List UInt8
 |0,_=>[]
 |_+1,[]=>[]
 |f+1,n::r=>if n<0 then 120::Lib.decDigits (-n-1).toNat else bJ k s n ((bG s (ar s n) r).map (tx k s f))
theorem zO{k:Nat}{s:Sg}:∀(f f':Nat) (u:List Int),aJ s 1 u=some []→u.length≤f→u.length≤f'→tx k s f u=tx k s f' u
 |0,_,u,h,h1,_=>by have:=iE s 1 u [] h;simp at this;omega
 |_,0,u,h,_,b=>by have:=iE s 1 u [] h;simp at this;omega
 |f+1,f'+1,[],h,_,_=>by simp[jY]at h
 |f+1,f'+1,n::r,h,h1,b=>by
  rw[tx,tx]
  split
  ·rfl
  rw[eu]at h
  split at h
  ·rw[Nat.zero_add]at h
   obtain⟨j,a,g⟩:=iG s (ar s n) r [] h
   rw[List.append_nil]at a
   congr 1
   apply List.map_congr_left
   intro u c
   have i:=gC c
   rw[a]at i
   simp only[List.length_cons]at h1 b
   exact zO f f' u (g u c).1 (by omega) (by omega)
  cases h
def txt(k:Nat)(s:Sg)(t:List Int):List UInt8:=tx k s t.length t
theorem kc{k:Nat}{s:Sg}{n:Int}(h:n<0):txt k s [n]=120::Lib.decDigits (-n-1).toNat:=by unfold txt;rw[List.length_singleton,tx,if_pos h]
theorem ke{k:Nat}{s:Sg}{t:List Int}(h:aw s t=true)(hn:0≤t.headD 0):txt k s t=bJ k s (t.headD 0) ((bd s t).map (txt k s)):=by
 obtain⟨n,r,rfl,i,hs⟩:=gG h
 simp only[List.headD_cons]at hn⊢
 unfold txt
 rw[List.length_cons,tx,if_neg (by omega)]
 congr 1
 obtain⟨g,a,f⟩:=iG s (ar s n) r [] hs
 rw[List.append_nil]at a
 apply List.map_congr_left
 intro u c
 have b:=gC c
 rw[a]at b
 exact zO _ _ u (f u c).1 b (Nat.le_refl _)
theorem lJ(sep:List UInt8):∀L:List (List UInt8),(Lib.joinTail sep L).length=(L.map (fun x=>x.length+sep.length)).sum
 | []=>rfl
 |x::r=>by
  have ih:=lJ sep r
  unfold Lib.joinTail at*
  rw[List.map_cons,List.flatten_cons,List.length_append,ih,List.map_cons,List.sum_cons,List.length_append];omega
theorem qP(sep:List UInt8)(L:List (List UInt8)):(Lib.join L sep).length≤(L.map (fun x=>x.length+sep.length)).sum:=by
 cases L with
 |nil=>simp[Lib.join_nil]
 |cons x r=>
  rw[Lib.join_cons,List.length_append,lJ,List.map_cons,List.sum_cons];omega
theorem sk{L:List (List UInt8)}{c:Nat}:∀{M:List (List Int)} (_:L.length=M.length) (_:∀i (h1:i<L.length) (h2:i<M.length),L[i].length≤24*M[i].length),(L.map (fun x=>x.length+c)).sum≤24*M.flatten.length+c*M.length:=by
 induction L with
 |nil=>intro M h _;simp
 |cons x r f=>
  intro M h a
  cases M with
  |nil=>simp at h
  |cons y M=>
   have b:=a 0 (by simp) (by simp)
   have:=f (M:=M) (by simpa using h) (fun i h1 h2=>by have:=a (i+1) (by simp;omega) (by simp;omega);simpa using this)
   simp only[List.map_cons,List.sum_cons,List.flatten_cons,List.length_append,List.length_cons]at*
   simp at b
   rw[Nat.mul_succ];omega
theorem od{s:Sg}(h:aH s=true)(n:Int):(aM s n).length≤8:=by
 unfold aM
 by_cases b:n.toNat<s.length
 ·rw[List.getD_eq_getElem?_getD,List.getElem?_eq_getElem b,Option.getD_some]
  unfold aH at h
  simp only[Bool.and_eq_true,List.all_eq_true]at h
  have a:=h.1.1.2 s[n.toNat] (List.getElem_mem b)
  unfold f9 fc at a
  simp at a
  simpa using a.1.1.2
 rw[List.getD_eq_getElem?_getD,List.getElem?_eq_none (by omega)];decide
theorem t6{k:Nat}{s:Sg}(h:aH s=true)(n:Int)(L:List (List UInt8)):(bJ k s n L).length≤10+(L.map (fun x=>x.length+4)).sum:=by
 have g:=od h n
 have a:∀c,c≤4→(L.map (fun x=>x.length+c)).sum≤(L.map (fun x=>x.length+4)).sum:=by
  intro c f
  induction L with
  |nil=>simp
  |cons x r i=>simp only[List.map_cons,List.sum_cons];omega
 unfold bJ
 split
 ·rw[List.length_append,lJ];have:=a 1 (by omega);simp only[List.length_singleton];omega
 split
 ·split
  ·have b:(Lib.join L [32,45,62,32]).length≤(L.map (fun x=>x.length+4)).sum:=qP _ L
   simp only[List.length_cons,List.length_append,List.length_nil]
   omega
  split
  ·omega
  have b:(Lib.join L [44,32]).length≤(L.map (fun x=>x.length+2)).sum:=qP _ L
  have:=a 2 (by omega)
  simp only[List.length_cons,List.length_append,List.length_nil]
  omega
 split
 ·omega
 have b:(Lib.joinTail [32] L).length=(L.map (fun x=>x.length+1)).sum:=lJ _ L
 have:=a 1 (by omega)
 simp only[List.length_cons,List.length_append,List.length_nil]
 omega
theorem lj{v:Nat}(h:v<100):(Lib.decDigits v).length≤2:=by
 rw[Lib.decDigits]
 split
 ·simp
 rw[Lib.decDigits,dif_pos (by omega)];simp
theorem iK{k:Nat}{s:Sg}:∀(f:Nat) {t:List Int},aw s t=true→t.length≤f→(txt k s t).length≤24*t.length
 |0,t,h,hf=>by have:=(bj h).2.1;omega
 |f+1,t,h,hf=>by
  obtain⟨n,r,m,b,hs⟩:=gG h
  obtain⟨o,p,q⟩:=fg h
  by_cases l:n<0
  ·have a:ar s n=0:=iP l
   rw[a,dQ]at hs
   simp only[Option.some.injEq]at hs
   subst hs
   subst m
   rw[kc l]
   have:=lj (v:=(-n-1).toNat) (by simp[br]at b;omega)
   simp only[List.length_cons,List.length_nil];omega
  have g:t.headD 0=n:=by rw[m];rfl
  rw[ke h (by rw[g];omega)]
  have w:=t6 (k:=k) (bj h).1 (t.headD 0) ((bd s t).map (txt k s))
  have z:1+(bd s t).flatten.length=t.length:=by
   have:=congrArg List.length p
   rw[List.length_cons]at this;omega
  have x:=sk (L:=(bd s t).map (txt k s)) (c:=4) (M:=bd s t) (by simp) (fun i y u=>by
   rw[List.getElem_map]
   have j:=List.getElem_mem u
   have:=gC j
   exact iK f (q _ j) (by omega))
  have ha:(bd s t).length≤3:=by
   rw[o,g];exact(fU (bj h).1 b).2
  omega
def dd(c:UInt8):Bool:=cR c||(decide (48≤c.toNat)&&decide (c.toNat≤57))
def eC(s:Sg)(w:List UInt8):Option Int:=
 match(List.range s.length).find? (fun i:Nat=>decide (aM s (i:Int)=w))with
 |some i=>some (i:Int)
 |none=>((List.range 12).find? (fun v=>decide (w=120::Lib.decDigits v))).map (fun v=>-(v:Int)-1)
def dk(s:Sg)(w:List UInt8)(o:List Int):Option (List Int):=if w=[]then some o else(eC s w).map (fun n=>o++[n])
def cQ(s:Sg)(k:Nat):List UInt8→List UInt8→List Int→Option (List Int)
 | [],w,o=>match dk s w o with
  |none=>none
  |some o=>if 60<o.length then none else some o
 |c::r,w,o=>
  if dd c=true then(if 8<w.length+1 then none else cQ s k r (w++[c]) o)
  else match dk s w o with
   |none=>none
   |some o2=>
    if 60<(if k=2∧c=40∧w=[]then o2++[0]else o2).length then none else cQ s k r [] (if k=2∧c=40∧w=[]then o2++[0]else o2)
theorem qG{s:Sg}{k:Nat}:∀(x w:List UInt8) (o:List Int) (r:List UInt8),x.all dd=true→w.length+x.length≤8→cQ s k (x++r) w o=cQ s k r (w++x) o
 | [],w,o,r,_,_=>by rw[List.append_nil];rfl
 |c::x,w,o,r,h,hl=>by
  rw[List.all_cons,Bool.and_eq_true]at h
  rw[List.length_cons]at hl
  rw[List.cons_append,cQ,if_pos h.1,if_neg (by omega),qG x (w++[c]) o r h.2 (by rw[List.length_append,List.length_singleton];omega),List.append_assoc]
  rfl
theorem jH{s:Sg}{k:Nat}{c:UInt8}{r w:List UInt8}{o o2:List Int}(hc:dd c=false)(hf:dk s w o=some o2)(hl:o2.length≤60)(h40:k=2∧c=40→w≠ []):cQ s k (c::r) w o=cQ s k r [] o2:=by
 have a:¬(k=2∧c=40∧w=[]):=fun h=>h40 ⟨h.1,h.2.1⟩ h.2.2
 rw[cQ,if_neg (by rw[hc];decide),hf]
 simp only[if_neg a]
 rw[if_neg (by omega)]
theorem DS{s:Sg}{r:List UInt8}{o:List Int}(hl:o.length+1≤60):cQ s 2 (40::r) [] o=cQ s 2 r [] (o++[0]):=by
 have hf:dk s [] o=some o:=by unfold dk;rw[if_pos rfl]
 rw[cQ,if_neg (by decide),hf]
 simp only[true_and,if_true]
 rw[if_neg (by rw[List.length_append,List.length_singleton];omega)]
theorem ll(s:Sg)(o:List Int):dk s [] o=some o:=by unfold dk;rw[if_pos rfl]
theorem jN{s:Sg}(h:aH s=true){n:Int}(h0:0≤n)(h1:n<s.length):(aM s n).all cR=true∧1≤(aM s n).length∧(aM s n).length≤8:=by
 unfold aM
 have b:n.toNat<s.length:=by omega
 rw[List.getD_eq_getElem?_getD,List.getElem?_eq_getElem b,Option.getD_some]
 unfold aH at h
 simp only[Bool.and_eq_true,List.all_eq_true]at h
 have a:=h.1.1.2 s[n.toNat] (List.getElem_mem b)
 unfold f9 fc at a
 simp only[Bool.and_eq_true,decide_eq_true_eq]at a
 exact⟨a.1.2,a.1.1.1,a.1.1.2⟩
theorem q8{s:Sg}(h:aH s=true){i j:Nat}(hi:i<s.length)(hj:j<s.length)(he:aM s (i:Int)=aM s (j:Int)):i=j:=by
 unfold aM at he
 rw[Int.toNat_natCast,Int.toNat_natCast,List.getD_eq_getElem?_getD,List.getElem?_eq_getElem hi,List.getD_eq_getElem?_getD,List.getElem?_eq_getElem hj,Option.getD_some,Option.getD_some]at he
 have b:s[i].1=s[j].1:=by
  apply ByteArray.ext
  apply Array.ext'
  exact he
 unfold aH at h
 simp only[Bool.and_eq_true,decide_eq_true_eq]at h
 have f:=h.1.2
 have c:=List.pairwise_iff_getElem.1 f
 rcases Nat.lt_trichotomy i j with a|a|a
 ·exact(c i j (by simpa using hi) (by simpa using hj) a (by simp[b])).elim
 ·exact a
 exact(c j i (by simpa using hj) (by simpa using hi) a (by simp[b])).elim
theorem wk{x:List UInt8}(h:x.all cR=true):x.all dd=true:=by
 rw[List.all_eq_true]at*
 intro c a
 unfold dd
 rw[h c a,Bool.true_or]
theorem DK{s:Sg}(h:aH s=true){n:Int}(h0:0≤n)(h1:n<s.length):eC s (aM s n)=some n:=by
 have hf:(List.range s.length).find? (fun i:Nat=>decide (aM s (i:Int)=aM s n))=some n.toNat:=by
  rw[List.find?_range_eq_some]
  refine⟨by simp;congr 1;omega,by simp;omega,fun j b=> ?_⟩
  simp only[Bool.not_eq_true',decide_eq_false_iff_not]
  intro a
  have:=q8 h (i:=j) (j:=n.toNat) (by omega) (by omega) (by rw[a];congr 1;omega)
  omega
 unfold eC
 rw[hf]
 simp;omega
def fX(v:Nat):List UInt8:=if v<10 then [UInt8.ofNat (48+v)]else [49,UInt8.ofNat (38+v)]
theorem gS{v:Nat}(h:v<12):Lib.decDigits v=fX v:=by
 unfold fX
 by_cases a:v<10
 ·rw[if_pos a,Lib.decDigits_one a]
 rw[if_neg a,Lib.decDigits_two a (by omega)]
 have:v=10∨v=11:=by omega
 rcases this with rfl|rfl<;>rfl
theorem Cy:∀v,v<12→∀j,j<v→fX j≠fX v:=by decide
theorem uk:∀v,v<12→(120::fX v).all cR=false:=by decide
theorem ul:∀v,v<12→(120::fX v).all dd=true:=by decide
theorem DN{s:Sg}(h:aH s=true){v:Nat}(hv:v<12):eC s (120::Lib.decDigits v)=some (-(v:Int)-1):=by
 have g:(List.range s.length).find? (fun i:Nat=>decide (aM s (i:Int)=120::Lib.decDigits v))=none:=by
  rw[List.find?_eq_none]
  intro i c b
  rw[decide_eq_true_eq]at b
  have a:=(jN h (n:=(i:Int)) (by omega) (by have:=List.mem_range.1 c;omega)).1
  rw[b,gS hv,uk v hv]at a
  cases a
 have hf:(List.range 12).find? (fun u=>decide (120::Lib.decDigits v=120::Lib.decDigits u))=some v:=by
  rw[List.find?_range_eq_some]
  refine⟨by simp,by simp;omega,fun j f=> ?_⟩
  simp only[Bool.not_eq_true',decide_eq_false_iff_not,List.cons.injEq,true_and]
  rw[gS hv,gS (by omega)]
  exact fun e=>Cy v hv j f e.symm
 unfold eC
 rw[g,hf]
 rfl
theorem vR{s:Sg}{k:Nat}:∀(sep:List UInt8) (w:List UInt8) (o O:List Int) (r:List UInt8),sep≠ []→(∀c∈sep,dd c=false∧c≠40)→dk s w o=some O→O.length≤60→cQ s k (sep++r) w o=cQ s k r [] O
 | [],_,_,_,_,h,_,_,_=>(h rfl).elim
 | [c],w,o,O,r,_,h,hf,hl=>by
  have hc:=h c (by simp)
  exact jH hc.1 hf hl (fun e=>absurd e.2 hc.2)
 |c::d::sep,w,o,O,r,_,h,hf,hl=>by
  have hc:=h c (by simp)
  rw[List.cons_append,jH hc.1 hf hl (fun e=>absurd e.2 hc.2)]
  exact vR (d::sep) [] O O r (by simp) (fun x hx=>h x (List.mem_cons_of_mem _ hx)) (ll s O) hl
theorem mS{s:Sg}(h:aH s=true):ar s 0=2:=by
 have a:=og h
 unfold aH at h
 simp only[Bool.and_eq_true,decide_eq_true_eq]at h
 unfold ar dv
 rw[if_neg (by omega),if_pos ⟨by omega,by omega⟩]
 have:=h.2
 rw[Int.toNat_zero]
 rw[this];rfl
def mD(s:Sg)(k:Nat)(t:List Int):Prop:=∀(o:List Int) (r:List UInt8),o.length+t.length≤60→∃w o',cQ s k (txt k s t++r) [] o=cQ s k r w o'∧dk s w o'=some (o++t)
theorem nL{s:Sg}{k:Nat}{sep:List UInt8}(hs:sep≠ [])(hc:∀c∈sep,dd c=false∧c≠40):∀(A:List (List Int)),(∀a∈A,mD s k a)→∀(w:List UInt8) (o O:List Int) (r:List UInt8),dk s w o=some O→O.length+A.flatten.length≤60→
  ∃w' o',cQ s k (Lib.joinTail sep (A.map (txt k s))++r) w o=cQ s k r w' o'∧dk s w' o'=some (O++A.flatten)
 | [],_,w,o,O,r,hf,_=>⟨w,o,rfl,by simpa using hf⟩
 |a::A,hA,w,o,O,r,hf,hl=>by
  rw[List.flatten_cons,List.length_append]at hl
  obtain⟨w1,o1,e1,f1⟩:=hA a (by simp) O (Lib.joinTail sep (A.map (txt k s))++r) (by omega)
  obtain⟨w2,g,b,f⟩:=nL hs hc A (fun x hx=>hA x (by simp[hx])) w1 o1 (O++a) r f1 (by rw[List.length_append];omega)
  refine⟨w2,g,?_,by rw[f,List.flatten_cons,List.append_assoc]⟩
  have:Lib.joinTail sep ((a::A).map (txt k s))++r=sep++(txt k s a++(Lib.joinTail sep (A.map (txt k s))++r)):=by
   simp[Lib.joinTail,List.append_assoc]
  rw[this,vR sep w o O _ hs hc hf (by omega),e1,b]
theorem vM{s:Sg}{k:Nat}{sep:List UInt8}(hs:sep≠ [])(hc:∀c∈sep,dd c=false∧c≠40){A:List (List Int)}(hne:A≠ [])(hA:∀a∈A,mD s k a)(O:List Int)(r:List UInt8)(hl:O.length+A.flatten.length≤60):
  ∃w' o',cQ s k (Lib.join (A.map (txt k s)) sep++r) [] O=cQ s k r w' o'∧dk s w' o'=some (O++A.flatten):=by
 cases A with
 |nil=>exact(hne rfl).elim
 |cons a A=>
  rw[List.flatten_cons,List.length_append]at hl
  obtain⟨l,i,b,g⟩:=hA a (by simp) O (Lib.joinTail sep (A.map (txt k s))++r) (by omega)
  obtain⟨w2,j,f,h⟩:=nL hs hc A (fun x hx=>hA x (by simp[hx])) l i (O++a) r g (by rw[List.length_append];omega)
  refine⟨w2,j,?_,by rw[h,List.flatten_cons,List.append_assoc]⟩
  rw[List.map_cons,Lib.join_cons,List.append_assoc,b,f]
theorem vU{s:Sg}{k:Nat}:∀(f:Nat) {t:List Int},aw s t=true→t.length≤f→mD s k t
 |0,t,h,hf=>by have:=(bj h).2.1;omega
 |f+1,t,h,hf=>by
  intro o r S
  obtain⟨n,x,O,M,hs⟩:=gG h
  obtain⟨E,H,P⟩:=fg h
  have p:=(bj h).1
  by_cases N:n<0
  ·have u:ar s n=0:=iP N
   rw[u,dQ]at hs
   simp only[Option.some.injEq]at hs
   subst hs
   subst O
   rw[kc N]
   have L:(-n-1).toNat<12:=by simp[br]at M;omega
   refine⟨120::Lib.decDigits (-n-1).toNat,o,?_,?_⟩
   ·rw[qG _ [] o r (by rw[gS L];exact ul _ L) (by have:=lj (v:=(-n-1).toNat) (by omega);rw[List.length_nil,List.length_cons];omega),List.nil_append]
   unfold dk
   rw[if_neg (by simp),DN p L,Option.map_some]
   congr 2
   simp;omega
  have y:t.headD 0=n:=by rw[O];rfl
  have B:n<s.length:=by simp[br]at M;omega
  have hA:∀a∈bd s t,mD s k a:=fun a ha=>by
   have Q:=gC ha
   have:1+(bd s t).flatten.length=t.length:=by
    have:=congrArg List.length H
    rw[List.length_cons]at this;omega
   exact vU f (P _ ha) (by omega)
  rw[ke h (by rw[y];omega),y]
  obtain⟨R,F,T⟩:=jN p (n:=n) (by omega) B
  have K:(bd s t).flatten.length+1=t.length:=by
   have:=congrArg List.length H
   rw[List.length_cons]at this;omega
  have D:t=n::(bd s t).flatten:=by rw[←y];exact H
  obtain⟨A,I⟩:∃A,bd s t=A:=⟨_,rfl⟩
  rw[I]at hA K D E⊢
  have i:∀r,cQ s k (aM s n++r) [] o=cQ s k r (aM s n) o:=fun r=>by rw[qG _ [] o r (wk R) (by rw[List.length_nil];omega),List.nil_append]
  have j:dk s (aM s n) o=some (o++[n]):=by
   unfold dk
   rw[if_neg (fun e=>by rw[e]at F;simp at F),DK p (by omega) B,Option.map_some]
  have b:o++[n]++A.flatten=o++t:=by rw[D,List.append_assoc];rfl
  have C:∀c∈ [(32:UInt8)],dd c=false∧c≠40:=by decide
  have u:∀c∈ [(32:UInt8),45,62,32],dd c=false∧c≠40:=by decide
  have J:∀c∈ [(44:UInt8),32],dd c=false∧c≠40:=by decide
  unfold bJ
  by_cases z:k=1
  ·rw[if_pos z,List.append_assoc,i]
   obtain⟨w',G,e,q⟩:=nL (by simp) C A hA (aM s n) o _ r j (by rw[List.length_append,List.length_singleton];omega)
   exact⟨w',G,e,by rw[q,b]⟩
  rw[if_neg z]
  by_cases l:k=2
  ·rw[if_pos l]
   by_cases m:n=0
   ·rw[if_pos m]
    have w:A≠ []:=fun e=>by
     have:ar s 0=0:=by rw[e]at E;rw[m]at y;rw[y]at E;simpa using E.symm
     rw[mS p]at this
     cases this
    subst l
    obtain⟨w',G,e,q⟩:=vM (by simp) u w hA (o++[0]) (41::r) (by rw[List.length_append,List.length_singleton];omega)
    refine⟨[],o++t,?_,ll _ _⟩
    rw[List.cons_append,DS (by omega),List.append_assoc,List.singleton_append,e]
    refine jH (by decide) (o2:=o++t) ?_ (by rw[List.length_append];omega) (fun e=>by simp at e)
    rw[q,←b,m]
   rw[if_neg m]
   by_cases g:A.map (txt k s)=[]
   ·rw[if_pos g,i]
    have:A=[]:=by simpa using g
    refine⟨_,_,rfl,?_⟩
    rw[j,←b,this];simp
   rw[if_neg g]
   have w:A≠ []:=fun e=>g (by rw[e];rfl)
   obtain⟨w',G,e,q⟩:=vM (by simp) J w hA (o++[n]) (41::r) (by rw[List.length_append,List.length_singleton];omega)
   refine⟨[],o++t,?_,ll _ _⟩
   rw[List.append_assoc,i,List.cons_append,jH (by decide) j (by rw[List.length_append,List.length_singleton];omega) (fun _ e=>by rw[e]at F;simp at F),List.append_assoc,List.singleton_append,e]
   refine jH (by decide) (o2:=o++t) ?_ (by rw[List.length_append];omega) (fun e=>by simp at e)
   rw[q,←b]
  rw[if_neg l]
  by_cases g:A.map (txt k s)=[]
  ·rw[if_pos g,i]
   have:A=[]:=by simpa using g
   refine⟨_,_,rfl,?_⟩
   rw[j,←b,this];simp
  rw[if_neg g]
  obtain⟨w',G,e,q⟩:=nL (by simp) C A hA (aM s n) o _ (93::r) j (by rw[List.length_append,List.length_singleton];omega)
  refine⟨[],o++t,?_,ll _ _⟩
  rw[List.cons_append,jH (by decide) (ll s o) (by omega) (fun e=>absurd e.1 l),List.append_assoc,List.append_assoc,i,List.singleton_append,e]
  refine jH (by decide) (o2:=o++t) ?_ (by rw[List.length_append];omega) (fun e=>absurd e.1 l)
  rw[q,b]
theorem DR{s:Sg}{k:Nat}{t:List Int}(h:aw s t=true):cQ s k (txt k s t) [] []=some t:=by
 have a:=(bj h).2.2.1
 obtain⟨w,o,e,f⟩:=vU (k:=k) t.length h (Nat.le_refl _) [] [] (by simpa using a)
 rw[List.append_nil]at e
 rw[e,cQ,f]
 simp only[List.nil_append]
 rw[if_neg (by omega)]
abbrev Toks:=List (List UInt8)
def c8:Toks→Toks
 | []=>[]
 |w::r=>if w=[32]then c8 r else w::r
def bQ:Toks→List UInt8×Toks
 | []=>([],[])
 |w::r=>(w,r)
def mr(w:List UInt8):List UInt8:=if w.head?=some 120 then w.tail else w
def lf(l:List UInt8):Option Int:=match Lib.atoiAll l with| .ok v=>some v|_=>none
def iw(s:Sg)(w:List UInt8):Option Nat:=(List.range s.length).find? (fun i:Nat=>decide (aM s (i:Int)=w))
def o9(w:List UInt8):Option Int:=(lf (mr w)).bind (fun v=>if 0≤v∧v≤11 then some (-v-1)else none)
def mW(s:Sg)(w:List UInt8):Option Int:=
 match iw s w with
 |some i=>some (i:Int)
 |none=>o9 w
def gN(s:Sg)(w:List UInt8)(T:List Int):Option (Nat×List Int):=if 60<T.length then none else(mW s w).map (fun n=>(ar s n,T++[n]))
abbrev RdX:=Toks×List Int
def dh(g:Nat→RdX→Option RdX):Nat→RdX→Option RdX
 |0,x=>some x
 |k+1,x=>(dh g k x).bind (g k)
def fj(s:Sg):Nat→RdX→Option RdX
 |0,_=>none
 |f+1,x=>(gN s (bQ (c8 x.1)).1 x.2).bind (fun a=>dh (fun _=>fj s f) a.1 ((bQ (c8 x.1)).2,a.2))
def iU(c:UInt8)(x:RdX):Option RdX:=if(bQ (c8 x.1)).1=[c]then some ((bQ (c8 x.1)).2,x.2)else none
def dG(s:Sg):Nat→RdX→Option RdX
 |0,_=>none
 |f+1,x=>
  if(bQ (c8 x.1)).1=[91]then(gN s (bQ (bQ (c8 x.1)).2).1 x.2).bind (fun a=>(dh (fun _=>dG s f) a.1 ((bQ (bQ (c8 x.1)).2).2,a.2)).bind (iU 93))
  else(gN s (bQ (c8 x.1)).1 x.2).bind (fun a=>dh (fun _=>dG s f) a.1 ((bQ (c8 x.1)).2,a.2))
def iD(k:Nat):UInt8:=if k=0 then 40 else 44
def gv(g:RdX→Option RdX)(k:Nat)(x:RdX):Option RdX:=if(bQ (c8 x.1)).1=[iD k]then g ((bQ (c8 x.1)).2,x.2)else none
def pF(g:RdX→Option RdX)(x:RdX):Option RdX:=
 if(bQ (c8 x.1)).1=[45]then(if(bQ (bQ (c8 x.1)).2).1=[62]then g ((bQ (bQ (c8 x.1)).2).2,x.2)else none)else none
def da(s:Sg):Nat→RdX→Option RdX
 |0,_=>none
 |f+1,x=>
  if(bQ (c8 x.1)).1=[40]then
   (if 60<x.2.length+1 then none else(da s f ((bQ (c8 x.1)).2,x.2++[0])).bind (fun y=>(pF (da s f) y).bind (iU 41)))
  else(gN s (bQ (c8 x.1)).1 x.2).bind (fun a=>(dh (gv (da s f)) a.1 ((bQ (c8 x.1)).2,a.2)).bind (fun y=>if 0<a.1 then iU 41 y else some y))
def dq(k:Nat)(s:Sg):Nat→RdX→Option RdX:=if k=1 then fj s else if k=2 then da s else dG s
def jt(w:List UInt8):Toks:=if w=[]then []else [w]
def cA:List UInt8→List UInt8→Toks
 | [],w=>jt w
 |c::r,w=>if dd c=true then cA r (w++[c])else jt w++[c]::cA r []
def dD(sep:Toks):List Toks→Toks
 | []=>[]
 |x::r=>sep++(x++dD sep r)
def o6(k:Nat)(s:Sg)(n:Int)(L:List Toks):Toks:=
 if k=1 then aM s n::dD [[32]] L
 else if k=2 then
  if n=0 then [40]::(L.getD 0 []++([32]::[45]::[62]::[32]::(L.getD 1 []++[[41]])))
  else match L with
   | []=>[aM s n]
   |x::r=>aM s n::[40]::(x++(dD [[44],[32]] r++[[41]]))
 else match L with
  | []=>[aM s n]
  |_=>[91]::aM s n::(dD [[32]] L++[[93]])
def js(k:Nat)(s:Sg):Nat→List Int→Toks
 |0,_=>[]
 |_+1,[]=>[]
 |f+1,n::r=>if n<0 then [120::Lib.decDigits (-n-1).toNat]else o6 k s n ((bG s (ar s n) r).map (js k s f))
theorem zz{k:Nat}{s:Sg}:∀(f f':Nat) (u:List Int),aJ s 1 u=some []→u.length≤f→u.length≤f'→js k s f u=js k s f' u
 |0,_,u,h,h1,_=>by have:=iE s 1 u [] h;simp at this;omega
 |_,0,u,h,_,b=>by have:=iE s 1 u [] h;simp at this;omega
 |f+1,f'+1,[],h,_,_=>by simp[jY]at h
 |f+1,f'+1,n::r,h,h1,b=>by
  rw[js,js]
  split
  ·rfl
  rw[eu]at h
  split at h
  ·rw[Nat.zero_add]at h
   obtain⟨j,a,g⟩:=iG s (ar s n) r [] h
   rw[List.append_nil]at a
   congr 1
   apply List.map_congr_left
   intro u c
   have i:=gC c
   rw[a]at i
   simp only[List.length_cons]at h1 b
   exact zz f f' u (g u c).1 (by omega) (by omega)
  cases h
def tk(k:Nat)(s:Sg)(t:List Int):Toks:=js k s t.length t
theorem zA{k:Nat}{s:Sg}{n:Int}(h:n<0):tk k s [n]=[120::Lib.decDigits (-n-1).toNat]:=by unfold tk;rw[List.length_singleton,js,if_pos h]
theorem zB{k:Nat}{s:Sg}{t:List Int}(h:aw s t=true)(hn:0≤t.headD 0):tk k s t=o6 k s (t.headD 0) ((bd s t).map (tk k s)):=by
 obtain⟨n,r,rfl,i,hs⟩:=gG h
 simp only[List.headD_cons]at hn⊢
 unfold tk
 rw[List.length_cons,js,if_neg (by omega)]
 congr 1
 obtain⟨g,a,f⟩:=iG s (ar s n) r [] hs
 rw[List.append_nil]at a
 apply List.map_congr_left
 intro u c
 have b:=gC c
 rw[a]at b
 exact zz _ _ u (f u c).1 b (Nat.le_refl _)
def gm(r:List UInt8):Prop:=∀c x,r=c::x→dd c=false
theorem G4:gm []:=fun _ _ h=>by cases h
theorem jX{c:UInt8}{r:List UInt8}(h:dd c=false):gm (c::r):=fun b x e=>by injection e with a f;rw[←a];exact h
theorem zF:∀(x w r:List UInt8),x.all dd=true→cA (x++r) w=cA r (w++x)
 | [],w,r,_=>by rw[List.append_nil];rfl
 |c::x,w,r,h=>by
  rw[List.all_cons,Bool.and_eq_true]at h
  rw[List.cons_append,cA,if_pos h.1,zF x (w++[c]) r h.2,List.append_assoc]
  rfl
theorem Ir{w r:List UInt8}(hw:w≠ [])(hr:gm r):cA r w=w::cA r []:=by
 cases r with
 |nil=>rw[cA,cA];unfold jt;rw[if_neg hw,if_pos rfl]
 |cons c x=>
  have a:=hr c x rfl
  rw[cA,cA,if_neg (by rw[a];decide),if_neg (by rw[a];decide)]
  unfold jt
  rw[if_neg hw,if_pos rfl]
  rfl
theorem kJ{x r:List UInt8}(hx:x.all dd=true)(hne:x≠ [])(hr:gm r):cA (x++r) []=x::cA r []:=by
 rw[zF x [] r hx,List.nil_append,Ir hne hr]
theorem fQ{c:UInt8}{r:List UInt8}(hc:dd c=false):cA (c::r) []=[c]::cA r []:=by
 rw[cA,if_neg (by rw[hc];decide)]
 unfold jt
 rw[if_pos rfl]
 rfl
theorem ot{s:Sg}{t:List Int}(h:aw s t=true)(hn:t.headD 0<0):t=[t.headD 0]:=by
 obtain⟨a,b,f⟩:=fg h
 have c:ar s (t.headD 0)=0:=iP hn
 rw[c]at a
 rw[List.length_eq_zero_iff.1 a]at b
 simpa using b
def pr(s:Sg)(k:Nat)(t:List Int):Prop:=∀r,gm r→cA (txt k s t++r) []=tk k s t++cA r []
theorem o7{s:Sg}{k:Nat}{sep:List UInt8}{sp:Toks}(h1:∀r,cA (sep++r) []=sp++cA r [])(h2:∀r,gm (sep++r)):∀(A:List (List Int)),(∀a∈A,pr s k a)→∀r,gm r→cA (Lib.joinTail sep (A.map (txt k s))++r) []=dD sp (A.map (tk k s))++cA r []∧gm (Lib.joinTail sep (A.map (txt k s))++r)
 | [],_,r,hr=>by
  have e:Lib.joinTail sep (([]:List (List Int)).map (txt k s))=[]:=rfl
  rw[e];exact⟨rfl,hr⟩
 |a::A,h,r,hr=>by
  obtain⟨f,g⟩:=o7 h1 h2 A (fun b c=>h b (by simp[c])) r hr
  have e:Lib.joinTail sep ((a::A).map (txt k s))++r=sep++(txt k s a++(Lib.joinTail sep (A.map (txt k s))++r)):=by
   unfold Lib.joinTail
   simp[List.append_assoc]
  rw[e]
  refine⟨?_,h2 _⟩
  rw[h1,h a (by simp) _ g,f]
  simp only[List.map_cons,dD,List.append_assoc]
theorem zE{s:Sg}{k:Nat}:∀(f:Nat) {t:List Int},aw s t=true→t.length≤f→pr s k t
 |0,t,h,hf=>by have:=(bj h).2.1;omega
 |f+1,t,h,hf=>by
  intro r hr
  have o:=(bj h).1
  obtain⟨n,x,N,G,hs⟩:=gG h
  obtain⟨y,J,K⟩:=fg h
  have m:t.headD 0=n:=by rw[N];rfl
  by_cases C:n<0
  ·have e:=ot h (by rw[m];exact C)
   rw[m]at e
   rw[e,kc C,zA C]
   have H:(-n-1).toNat<12:=by simp[br]at G;omega
   rw[kJ (by rw[gS H];exact ul _ H) (by simp) hr]
   rfl
  have D:n<s.length:=by simp[br]at G;omega
  obtain⟨O,I,-⟩:=jN o (n:=n) (by omega) D
  have g:aM s n≠ []:=fun e=>by rw[e]at I;simp at I
  have u:=wk O
  have hA:∀a∈bd s t,pr s k a:=fun a ha=>by
   have M:=gC ha
   have:1+(bd s t).flatten.length=t.length:=by
    have:=congrArg List.length J
    rw[List.length_cons]at this;omega
   exact zE f (K _ ha) (by omega)
  rw[ke h (by rw[m];omega),zB h (by rw[m];omega),m]
  rw[m]at y
  obtain⟨A,z⟩:∃A,bd s t=A:=⟨_,rfl⟩
  rw[z]at hA y⊢
  have v:∀r,cA ([32]++r) []=[[32]]++cA r []:=fun r=>fQ (by decide)
  have w:∀r,gm (([32]:List UInt8)++r):=fun r=>jX (by decide)
  have E:∀r,cA ([44,32]++r) []=[[44],[32]]++cA r []:=fun r=>by
   rw[show([44,32]:List UInt8)++r=44::(32::r)from rfl,fQ (by decide),fQ (by decide)];rfl
  have F:∀r,gm (([44,32]:List UInt8)++r):=fun r=>jX (by decide)
  unfold bJ o6
  by_cases i:k=1
  ·rw[if_pos i,if_pos i,List.append_assoc]
   obtain⟨p,q⟩:=o7 v w A hA r hr
   rw[kJ u g q,p]
   rfl
  rw[if_neg i,if_neg i]
  by_cases j:k=2
  ·rw[if_pos j,if_pos j]
   by_cases c:n=0
   ·rw[if_pos c,if_pos c]
    have L:A.length=2:=by rw[y,c,mS o]
    match A,L with
    | [a,b],_=>
     have ha:=hA a (by simp)
     have B:=hA b (by simp)
     have e:(40::(Lib.join ([a,b].map (txt k s)) [32,45,62,32]++[41]))++r=40::(txt k s a++(32::45::62::32::(txt k s b++(41::r)))):=by
      simp[Lib.join,List.append_assoc]
     rw[e,fQ (by decide),ha _ (jX (by decide)),fQ (by decide),fQ (by decide),fQ (by decide),fQ (by decide),B _ (jX (by decide)),fQ (by decide)]
     simp[List.append_assoc]
   rw[if_neg c,if_neg c]
   cases A with
   |nil=>
    rw[if_pos (by rfl)]
    rw[kJ u g hr];rfl
   |cons a A=>
    rw[if_neg (by simp)]
    have l:gm (41::r):=jX (by decide)
    obtain⟨p,q⟩:=o7 E F A (fun b B=>hA b (by simp[B])) (41::r) l
    have e:aM s n++(40::(Lib.join ((a::A).map (txt k s)) [44,32]++[41]))++r=aM s n++(40::(txt k s a++(Lib.joinTail [44,32] (A.map (txt k s))++(41::r)))):=by
     rw[List.map_cons,Lib.join_cons]
     simp[List.append_assoc]
    rw[e,kJ u g (jX (by decide)),fQ (by decide),hA a (by simp) _ q,p,fQ (by decide)]
    simp[List.append_assoc]
  rw[if_neg j,if_neg j]
  cases A with
  |nil=>
   rw[if_pos (by rfl)]
   rw[kJ u g hr];rfl
  |cons a A=>
   rw[if_neg (by simp)]
   have l:gm (93::r):=jX (by decide)
   obtain⟨p,q⟩:=o7 v w (a::A) hA (93::r) l
   have e:91::(aM s n++Lib.joinTail [32] ((a::A).map (txt k s))++[93])++r=91::(aM s n++(Lib.joinTail [32] ((a::A).map (txt k s))++(93::r))):=by
    simp[List.append_assoc]
   rw[e,fQ (by decide),kJ u g q,p,fQ (by decide)]
   simp[List.append_assoc]
def ah(l:List UInt8):ByteArray:=⟨l.toArray⟩
theorem zD(l:List UInt8):(ah l).data.toList=l:=rfl
theorem zC(b:ByteArray):ah b.data.toList=b:=rfl
theorem dl(l m:List UInt8):ah l++ah m=ah (l++m):=by
 apply ByteArray.ext
 rw[ByteArray.data_append]
 simp[ah]
theorem sw(A:List (List UInt8)):(A.map ah).map (·.data.toList)=A:=by
 rw[List.map_map]
 exact(List.map_congr_left (fun _ _=>rfl)).trans (List.map_id _)
abbrev OwnSt3 (w:World) (base:Nat) (v:Value) (l:List ByteArray):Prop:=OwnL strE (fun _=>False) w base 9 v l
theorem qI:(Tryz.prog.info? 9).map (fun i=>(i.zero,i.size,i.bytes))=some (some (.string ByteArray.empty),1,16):=by kernel_rfl
theorem OwnSt3.one(w:World)(x:ByteArray)(hx:x.size≤aB):OwnSt3 (w.alloc (.cells #[.string x] 9)) w.heap.size (.slice (some ⟨w.heap.size,0,none⟩) 1 1) [x]:=
 ⟨[[.string x]],⟨by simp[strE], .inr ⟨w.heap.size,1,#[.string x],rfl,Nat.le_refl _,heap_alloc_new w _,Nat.le_refl _,by decide,rfl,by simp[strE]⟩⟩,rfl,fun i a b=>by
  have:i=0:=by simp at a;omega
  subst this
  exact⟨rfl,hx⟩⟩
structure TArgs (S:Nat→Prop) (w:World) (a:Option Addr) (c:Nat) (A:List (List UInt8)):Prop where
 sl:Sl strE S w a c (A.map ah)
 ln:A.length≤3
 sz:(A.map (fun x=>x.length+4)).sum≤10000
theorem ww{sep:List UInt8}(h:sep.length≤4)(A:List (List UInt8)):(Lib.joinTail sep A).length≤(A.map (fun x=>x.length+4)).sum:=by
 rw[lJ]
 induction A with
 |nil=>simp
 |cons x r a=>simp only[List.map_cons,List.sum_cons];omega
theorem nO{sep:List UInt8}(h:sep.length≤4)(A:List (List UInt8)):(Lib.join A sep).length≤(A.map (fun x=>x.length+4)).sum:=by
 refine Nat.le_trans (qP sep A) ?_
 induction A with
 |nil=>simp
 |cons x r a=>simp only[List.map_cons,List.sum_cons];omega
theorem lZ{s:Sg}{n:Nat}(hn:n<s.length):s[n].1=ah (aM s (n:Int)):=by
 unfold aM
 rw[Int.toNat_natCast,List.getD_eq_getElem?_getD,List.getElem?_eq_getElem hn];rfl
theorem ry{S1 S2:Nat→Prop}(a1 a2:Option Addr)(c1 c2:Nat)(s:Sg)(n:Nat)(hn:n<s.length)(A:List (List UInt8))(w:World)(hok:aH s=true)(h1:Sign S1 w a1 c1 s)(h2:TArgs S2 w a2 c2 A):
  Calls Tryz.prog 145 #[.slice a1 s.length c1, .int .i64 n, .slice a2 A.length c2] w fun e w'=>e= .returned (.string (ah (bJ 1 s n A)))∧Below w.heap.size w w':=by
 have K:=h1.le
 obtain⟨b,o,rfl,-,F,L,-⟩:=h1.sym n hn
 rw[lZ hn]at F
 have C:=od hok (n:Int)
 obtain⟨N,z⟩:∃N,aM s (n:Int)=N:=⟨_,rfl⟩
 rw[z]at F C
 have D:(ah N).size=N.length:=by simp[ah,ByteArray.size]
 obtain⟨W1,m⟩:∃W1,w.alloc (.cells #[.string (ah N)] 9)=W1:=⟨_,rfl⟩
 have c:Below w.heap.size w W1:=by rw[←m];exact an w _
 have E:OwnSt3 W1 w.heap.size (.slice (some ⟨w.heap.size,0,none⟩) 1 1) [ah N]:=by rw[←m];exact OwnSt3.one w _ (by rw[D];unfold aB;omega)
 have I:=h2.ln
 obtain⟨v',w',a,p,hg,-⟩:=E.append_run (P:=Tryz.prog) (t:=37) (ty:=37) Tryz.underlying37 qI rfl (h2.sl.below c) (fun _ _ _ h=>h) (by rw[List.length_map,List.length_singleton];omega) (by rw[List.length_map,List.length_singleton];unfold aB;omega) c.size
 have j:Below w.heap.size w w':=c.grown hg c.size (fun k e=>by simp[Value.ownBlock]at e;omega)
 obtain⟨G,H,rfl,i⟩:=OwnL.sl p
 have q:([ah N]++A.map ah).map (·.data.toList)=N::A:=by rw[List.map_append,sw];rfl
 have f:Lib.join (N::A) [32]=bJ 1 s n A:=by
  rw[Lib.join_cons];unfold bJ;rw[if_pos rfl,z]
 have y:([ah N]++A.map ah).length≤4:=by rw[List.length_append,List.length_map,List.length_singleton];omega
 obtain⟨r,l⟩:∃r,[ah N]++A.map ah=r:=⟨_,rfl⟩
 rw[l]at q i a y
 have u:=sX G H r ⟨#[32]⟩ w' i (by omega) (by
  rw[q]
  have h1:=nO (sep:=[32]) (by decide) (N::A)
  have h2:=h2.sz
  rw[List.map_cons,List.sum_cons]at h1
  show(Lib.join (N::A) [32]).length≤_
  omega)
 rw[q,show(⟨#[32]⟩:ByteArray).data.toList=[32]from rfl,f]at u
 rw[List.length_map]at a
 have g:=Lib.hid a
 have v:=Lib.hid u
 have x:=Lib.hid j
 have J:=h2.sl.le
 rw[List.length_map]at J
 clear h1 h2 E a p hg j i q u f z c l
 go_enter Tryz.func145,Tryz.ntmps145
 go_wp2_with (first
  |(go_at_call 54;(with_reducible refine v.out.mono ?_);rintro e w2 ⟨rfl,B⟩)
  |(at_builtin;refine bo rfl _ _ _ rfl rfl rfl g.out ?_))
 go_ret
 exact⟨rfl,aa x.out B⟩
theorem Er{W4 w1 w2:World}{p:Addr}{v:Value}(h:Below W4.heap.size W4 w1∧w1.cell? p=some v)(hb:Below w1.heap.size w1 w2):Below W4.heap.size W4 w2∧w2.cell? p=some v:=⟨aa h.1 hb,cell_later hb h.2⟩
theorem tC{S1 S2:Nat→Prop}(a1 a2:Option Addr)(c1 c2:Nat)(s:Sg)(n:Nat)(hn:n<s.length)(A:List (List UInt8))(w:World)(hok:aH s=true)(h1:Sign S1 w a1 c1 s)(h2:TArgs S2 w a2 c2 A):
  Calls Tryz.prog 147 #[.slice a1 s.length c1, .int .i64 n, .slice a2 A.length c2] w fun e w'=>e= .returned (.string (ah (bJ 2 s n A)))∧Below w.heap.size w w':=by
 have I:=h1.le
 have E:=h2.sl.le
 have C:=h2.ln
 rw[List.length_map]at E
 obtain⟨b,o,rfl,-,l,y,-⟩:=h1.sym n hn
 rw[lZ hn]at l
 have j:=fun W (r:Below w.heap.size w W) (m:ByteArray) (hs:m.data.toList.length≤4)=>sX a2 c2 (A.map ah) m W (h2.sl.below r) (by rw[List.length_map];omega) (by
  rw[sw]
  have:=nO hs A
  have H:=h2.sz
  omega)
 simp only[List.length_map,sw]at j
 by_cases z:n=0
 ·subst z
  have c:((⟨#[40]⟩:ByteArray)++⟨(Lib.join A [32,45,62,32]).toArray⟩)++⟨#[41]⟩=ah (bJ 2 s ((0:Nat):Int) A):=by
   have:bJ 2 s ((0:Nat):Int) A=[40]++Lib.join A [32,45,62,32]++[41]:=rfl
   rw[this,←dl,←dl];rfl
  have a:Calls Tryz.prog 54 #[.slice a2 A.length c2, .string ⟨#[32,45,62,32]⟩] w fun e w'=>e= .returned (.string ⟨(Lib.join A [32,45,62,32]).toArray⟩)∧Below w.heap.size w w':=j w (.refl _ _) ⟨#[32,45,62,32]⟩ (by decide)
  have h:(⟨(Lib.join A [32,45,62,32]).toArray⟩:ByteArray).size≤10000:=Nat.le_trans (nO (by decide) A) h2.sz
  obtain⟨J,k⟩:∃J:ByteArray,(⟨(Lib.join A [32,45,62,32]).toArray⟩:ByteArray)=J:=⟨_,rfl⟩
  rw[k]at c a h
  have F:(9223372036854775807<1+J.size)=False:=eq_false (by omega)
  have G:(9223372036854775807<1+J.size+1)=False:=eq_false (by omega)
  have f:=Lib.hid c
  have g:=Lib.hid a
  clear h1 h2 j c l y a k
  go_enter Tryz.func147,Tryz.ntmps147
  go_wp2_with (go_at_call 54;(with_reducible refine g.out.mono ?_);rintro e w2 ⟨rfl,t⟩)
  go_ret
  exact⟨congrArg (fun b=>Ending.returned (.string b)) f.out,t⟩
 have D:(((n:Nat):Int)==0)=false:=by simp;omega
 by_cases hA:A=[]
 ·subst hA
  have c:aM s (n:Int)=bJ 2 s n []:=by
   unfold bJ
   rw[if_neg (by decide),if_pos rfl,if_neg (by omega),if_pos rfl]
  have f:=Lib.hid c
  clear h1 h2 j c
  go_enter Tryz.func147,Tryz.ntmps147
  go_wp2_with fail
  go_ret
  rw[←f.out]
  exact⟨rfl, .refl _ _⟩
 have B:((A.length:Int)==0)=false:=by
  cases A with
  |nil=>exact(hA rfl).elim
  |cons _ _=>simp;omega
 have c:((ah (aM s (n:Int))++(⟨#[40]⟩:ByteArray))++⟨(Lib.join A [44,32]).toArray⟩)++⟨#[41]⟩=ah (bJ 2 s n A):=by
  have:bJ 2 s n A=aM s n++[40]++Lib.join A [44,32]++[41]:=by
   unfold bJ
   rw[if_neg (by decide),if_pos rfl,if_neg (by omega),if_neg hA]
   simp
  rw[this,←dl,←dl,←dl];rfl
 have a:∀W,Below w.heap.size w W→Calls Tryz.prog 54 #[.slice a2 A.length c2, .string ⟨#[44,32]⟩] W fun e w'=>e= .returned (.string ⟨(Lib.join A [44,32]).toArray⟩)∧Below W.heap.size W w':=fun W r=>j W r ⟨#[44,32]⟩ (by decide)
 have h:(⟨(Lib.join A [44,32]).toArray⟩:ByteArray).size≤10000:=Nat.le_trans (nO (by decide) A) h2.sz
 obtain⟨J,k⟩:∃J:ByteArray,(⟨(Lib.join A [44,32]).toArray⟩:ByteArray)=J:=⟨_,rfl⟩
 rw[k]at c h
 simp only[k]at a
 have q:(ah (aM s (n:Int))).size≤8:=by
  have:=od hok (n:Int)
  simpa[ah,ByteArray.size]using this
 obtain⟨N,x⟩:∃N,ah (aM s (n:Int))=N:=⟨_,rfl⟩
 rw[x]at l c q
 have F:(9223372036854775807<N.size+1)=False:=eq_false (by omega)
 have G:(9223372036854775807<N.size+1+J.size)=False:=eq_false (by omega)
 have K:(9223372036854775807<N.size+1+J.size+1)=False:=eq_false (by omega)
 have f:=Lib.hid c
 have g:=Lib.hid a
 have i:Below w.heap.size w w.drew:=Below.drew (.refl w.heap.size _)
 have v:Below w.heap.size w w.drew∧w.drew.cell? ⟨b,o+n*2,none⟩=some (.string N):=⟨i,cell_later i l⟩
 clear h1 h2 j c y x i a k
 go_enter Tryz.func147,Tryz.ntmps147
 go_wp2_with fail
 clear l
 go_region_held3 (fun w'=>Below w.heap.size w w'∧w'.cell? ⟨b,o+n*2,none⟩=some (.string N))
  ((first|exact v|exact Er ‹_› u))
  ((go_at_call 54;(with_reducible refine(g.out _ ?_).mono ?_);exact(And.left ‹_›);rintro e w2 ⟨rfl,u⟩))
 have p:=And.left (‹Below w.heap.size w w2∧_›)
 go_wp2_with fail
 go_ret
 exact⟨congrArg (fun b=>Ending.returned (.string b)) f.out,p⟩
theorem tK{S1 S2:Nat→Prop}(a1 a2:Option Addr)(c1 c2:Nat)(s:Sg)(n:Nat)(hn:n<s.length)(A:List (List UInt8))(w:World)(hok:aH s=true)(h1:Sign S1 w a1 c1 s)(h2:TArgs S2 w a2 c2 A):
  Calls Tryz.prog 149 #[.slice a1 s.length c1, .int .i64 n, .slice a2 A.length c2] w fun e w'=>e= .returned (.string (ah (bJ 3 s n A)))∧Below w.heap.size w w':=by
 have u:=h1.le
 have p:=h2.sl.le
 rw[List.length_map]at p
 have f:=ry a1 a2 c1 c2 s n hn A w hok h1 h2
 obtain⟨b,o,rfl,-,j,q,-⟩:=h1.sym n hn
 rw[lZ hn]at j
 by_cases hA:A=[]
 ·subst hA
  have c:aM s (n:Int)=bJ 3 s n []:=by
   unfold bJ
   rw[if_neg (by decide),if_neg (by decide),if_pos rfl]
  have a:=Lib.hid c
  clear h1 h2 f c
  go_enter Tryz.func149,Tryz.ntmps149
  go_wp2_with fail
  go_ret
  rw[←a.out]
  exact⟨rfl, .refl _ _⟩
 have l:((A.length:Int)==0)=false:=by
  cases A with
  |nil=>exact(hA rfl).elim
  |cons _ _=>simp;omega
 have c:((⟨#[91]⟩:ByteArray)++ah (bJ 1 s n A))++⟨#[93]⟩=ah (bJ 3 s n A):=by
  have:bJ 3 s n A=[91]++bJ 1 s n A++[93]:=by
   unfold bJ
   rw[if_neg (by decide),if_neg (by decide),if_neg hA,if_pos rfl]
   simp
  rw[this,←dl,←dl];rfl
 have h:(ah (bJ 1 s n A)).size≤10010:=by
  have r:=t6 (k:=1) hok (n:Int) A
  have t:=h2.sz
  show(bJ 1 s n A).length≤_
  omega
 obtain⟨J,m⟩:∃J:ByteArray,ah (bJ 1 s n A)=J:=⟨_,rfl⟩
 rw[m]at c f h
 have v:(9223372036854775807<1+J.size)=False:=eq_false (by omega)
 have x:(9223372036854775807<1+J.size+1)=False:=eq_false (by omega)
 have a:=Lib.hid c
 have g:=Lib.hid f
 clear h1 h2 f c j q
 go_enter Tryz.func149,Tryz.ntmps149
 go_wp2_with (go_at_call 145;(with_reducible refine g.out.mono ?_);rintro e w2 ⟨rfl,i⟩)
 go_ret
 exact⟨congrArg (fun b=>Ending.returned (.string b)) a.out,i⟩
theorem kr(w:World)(row:Option Nat):w.grownBy w row:=⟨rfl,rfl,rfl,Nat.le_refl _,fun _ _ _=>rfl⟩
theorem gV{a w w':World}{row:Option Nat}(h:a.grownBy w row)(k:w.grownBy w' row):a.grownBy w' row:=
 ⟨k.os.trans h.os,k.tape.trans h.tape,k.output.trans h.output,Nat.le_trans h.size k.size,fun i b hr=>(k.block i (Nat.lt_of_lt_of_le b h.size) hr).trans (h.block i b hr)⟩
theorem qk{w w':World}{row:Option Nat}(hb:Below w.heap.size w w'):w.grownBy w' row:=⟨hb.os,hb.tape,hb.output,hb.size,fun i a _=>hb.block i a⟩
theorem uP{W w1 w':World}{row r:Option Nat}(h:W.grownBy w1 row)(hg:w1.grownBy w' r)(hr:∀j,r=some j→W.heap.size≤j):W.grownBy w' row:=
 ⟨hg.os.trans h.os,hg.tape.trans h.tape,hg.output.trans h.output,Nat.le_trans h.size hg.size,fun i a b=>(hg.block i (Nat.lt_of_lt_of_le a h.size) (fun e=>by have:=hr i e.symm;omega)).trans (h.block i a b)⟩
theorem ga{W w':World}{b:Nat}(h:W.grownBy w' (some b)){p:Addr}{v:Value}(hp:W.cell? p=some v)(hne:p.block≠b):w'.cell? p=some v:=
 (World.cell?_of_block (h.block _ (World.block_lt_of_cell? _ _ hp) (fun e=>hne (by injection e with e)))).trans hp
def AtBox(w:World)(ba p:Nat):Prop:=w.heap[ba]?=some (.cells #[.int .i64 (p:Int)] 3 (0,0))
theorem AtBox.cell{w:World}{ba p:Nat}(h:AtBox w ba p):w.cell? ⟨ba,0,none⟩=some (.int .i64 (p:Int)):=by simp[World.cell?,show w.heap[ba]?=_ from h]
theorem AtBox.frozen{w:World}{ba p:Nat}(h:AtBox w ba p):w.frozen? ⟨ba,0,none⟩=false:=by simp[World.frozen?,show w.heap[ba]?=_ from h]
theorem AtBox.lt{w:World}{ba p:Nat}(h:AtBox w ba p):ba<w.heap.size:=(Array.getElem?_eq_some_iff.1 h).1
theorem AtBox.set{w:World}{ba p:Nat}(h:AtBox w ba p)(q:Nat):AtBox (w.setCell ⟨ba,0,none⟩ (.int .i64 (q:Int))) ba q:=by
 unfold AtBox
 simp[World.setCell,Array.getElem?_modify,show w.heap[ba]?=_ from h]
theorem AtBox.below{w w':World}{ba p:Nat}(h:AtBox w ba p)(hb:Below w.heap.size w w'):AtBox w' ba p:=(hb.block ba h.lt).trans h
theorem AtBox.kept{w w':World}{ba p:Nat}{r:Option Nat}(h:AtBox w ba p)(hg:w.grownBy w' r)(hr:r≠some ba):AtBox w' ba p:=(hg.block ba h.lt (fun e=>hr e.symm)).trans h
theorem uQ(w:World)(b:Nat)(v:Value):w.grownBy (w.setCell ⟨b,0,none⟩ v) (some b):=
 ⟨rfl,rfl,rfl,by simp[World.setCell],fun k _ a=>Below.heap_setCell _ _ _ _ (fun e=>a (by simp[e]))⟩
abbrev wrV (bt ba bs bw bx:Nat):Value:= .func (.func 144) #[] #[.pointer (some ⟨bt,0,none⟩), .pointer (some ⟨ba,0,none⟩), .pointer (some ⟨bs,0,none⟩), .pointer (some ⟨bw,0,none⟩), .pointer (some ⟨bx,0,none⟩)]
structure WBox (wI:World) (bt ba bs bw bx F:Nat) (a1 a2:Option Addr) (c1 c2:Nat) (s:Sg) (t:List Int):Prop where
 ct:wI.cell? ⟨bt,0,none⟩=some (.slice a2 t.length c2)
 cs:wI.cell? ⟨bs,0,none⟩=some (.slice a1 s.length c1)
 cw:wI.cell? ⟨bw,0,none⟩=some (wrV bt ba bs bw bx)
 cx:wI.cell? ⟨bx,0,none⟩=some (.func (.func F) #[] #[])
 nt:bt≠ba
 ns:bs≠ba
 nw:bw≠ba
 nx:bx≠ba
 sg:Sign (fun b=>b≠ba) wI a1 c1 s
 tm:Ints (fun b=>b≠ba) wI a2 c2 t
def I2(k:Nat)(W:World)(ba p:Nat)(s:Sg)(u:List Int)(e:Ending)(w':World):Prop:=e= .returned (.string (ah (txt k s u)))∧W.grownBy w' (some ba)∧AtBox w' ba (p+u.length)
def mM(k:Nat)(wI:World)(bt ba bs bw bx:Nat)(s:Sg)(p:Nat)(u:List Int):Prop:=
 ∀W,wI.grownBy W (some ba)→AtBox W ba p→Calls Tryz.prog 144 #[.pointer (some ⟨bt,0,none⟩), .pointer (some ⟨ba,0,none⟩), .pointer (some ⟨bs,0,none⟩), .pointer (some ⟨bw,0,none⟩), .pointer (some ⟨bx,0,none⟩)] W (I2 k W ba p s u)
theorem I5{k:Nat}{wI:World}{bt ba bs bw bx F:Nat}{a1 a2:Option Addr}{c1 c2:Nat}{s:Sg}{t:List Int}(hb:WBox wI bt ba bs bw bx F a1 a2 c1 c2 s t)(hl:t.length≤60){p:Nat}(hp:p<t.length)(hc:br s t[p]=true)(hn:t[p]<0):
  mM k wI bt ba bs bw bx s p [t[p]]:=by
 intro W hg hA
 have h:Agree (fun b=>b≠ba) wI W:= .of_grown hg (fun b hb e=>hb (by cases e;rfl))
 obtain⟨M,P,rfl,D,L,-⟩:=(hb.tm.same h).int p hp
 have R:=ga hg hb.ct hb.nt
 have Q:=hA.cell
 have N:=hA.frozen
 obtain⟨x,hx⟩:∃x,t[p]=x:=⟨_,rfl⟩
 rw[hx]at L hc hn⊢
 have y:-12≤x:=by
  simp only[br,Bool.or_eq_true,decide_eq_true_eq]at hc
  omega
 obtain⟨n,B⟩:∃n:Nat,x=-(n:Int)-1:=⟨(-x-1).toNat,by omega⟩
 have q:txt k s [x]=120::Lib.decDigits n:=by rw[kc hn,show(-x-1).toNat=n by omega]
 have l:=lj (v:=n) (by omega)
 have c:(⟨#[120]⟩:ByteArray)++⟨(Lib.decDigits n).toArray⟩=ah (txt k s [x]):=by rw[q];exact dl [120] (Lib.decDigits n)
 have u:=fun W=>AA n (by omega) W
 have A:(⟨(Lib.decDigits n).toArray⟩:ByteArray).size≤2:=l
 obtain⟨J,z⟩:∃J:ByteArray,(⟨(Lib.decDigits n).toArray⟩:ByteArray)=J:=⟨_,rfl⟩
 rw[z]at c A
 simp only[z]at u
 have S:(9223372036854775807<1+J.size)=False:=eq_false (by omega)
 subst B
 have G:IntKind.i64.wrap ((p:Int)+1)=(p:Int)+1:=by rw[IntWalk.i64_in _ (by omega)]
 have C:((p+1:Nat):Int)=(p:Int)+1:=by omega
 have H:IntKind.i64.wrap (-(-(n:Int)-1))=(n:Int)+1:=by rw[IntWalk.i64_in _ (by omega)];omega
 have I:IntKind.i64.wrap ((n:Int)+1-1)=(n:Int):=by rw[IntWalk.i64_in _ (by omega)];omega
 have K:wrap64 (n:Int)=(n:Int):=by unfold wrap64;omega
 have E:decide (-(n:Int)-1<0)=true:=by simp;omega
 have O:=hb.tm.le
 obtain⟨r,a⟩:∃r,W.setCell ⟨ba,0,none⟩ (.int .i64 ((p:Int)+1))=r:=⟨_,rfl⟩
 have f:AtBox r ba (p+1):=by rw[←a,←C];exact hA.set (p+1)
 have m:W.grownBy r (some ba):=by rw[←a];exact uQ _ _ _
 have j:=Lib.hid c
 have w:=Lib.hid u
 have g:=Lib.hid f
 have o:=Lib.hid m
 have i:=Lib.hid a
 clear hb hg hA h hc hn q c l u z f m a hx y C
 go_enter Tryz.func144,Tryz.ntmps144
 go_upto_region 3 with fail
 rw[i.out]
 go_wp2_with (go_at_call 107;(with_reducible refine(w.out _).mono ?_);rintro e w2 ⟨rfl,rfl⟩)
 go_ret
 exact⟨congrArg (fun b=>Ending.returned (.string b)) j.out,o.out,g.out⟩
theorem zi{s:Sg}:∀{k m:Nat} {l l':List Int} (_:aJ s k l=some l') (_:k<m),(bG s m l)[k]?=some (bR s l')
 |_,0,_,_,_,hm=>by omega
 |0,m+1,l,l',h,_=>by
  rw[dQ]at h
  cases h
  simp[bG]
 |k+1,m+1,l,l',h,hm=>by
  obtain⟨x,h1,h2⟩:=kE h
  rw[bG,h1]
  simpa using zi h2 (show k<m by omega)
theorem rx{s:Sg}{t r:List Int}{p:Nat}(h:aJ s 1 (t.drop p)=some r)(hp:p≤t.length):r=t.drop (p+(bR s (t.drop p)).length)∧p+(bR s (t.drop p)).length≤t.length∧1≤(bR s (t.drop p)).length:=by
 obtain⟨a,-,b⟩:=jl h
 obtain⟨u,c⟩:∃u,bR s (t.drop p)=u:=⟨_,rfl⟩
 rw[c]at a b⊢
 refine⟨?_,?_,b⟩
 ·rw[←List.drop_drop,a,List.drop_append_of_le_length (Nat.le_refl _),List.drop_length,List.nil_append]
 have:=congrArg List.length a
 rw[List.length_drop,List.length_append]at this
 omega
theorem HC{s:Sg}{k m:Nat}{l l' r:List Int}(h:aJ s k l=some l')(ht:aJ s m l=some r)(hk:k<m):∃l2,aJ s 1 l'=some l2∧aJ s (k+1) l=some l2:=by
 rw[show m=k+(m-k)by omega,oR,h,Option.bind_some,show m-k=(m-k-1)+1 by omega]at ht
 obtain⟨l2,a,-⟩:=kE ht
 exact⟨l2,a,by rw[oR,h,Option.bind_some,a]⟩
def Ab(k:Nat)(s:Sg)(t:List Int)(p m ba:Nat)(W2:World)(out i:Value)(wr:World):Prop:=
 ∃(j p':Nat) (A:List (List UInt8)),i= .int .i64 j∧j≤m∧A=((bG s m (t.drop (p+1))).take j).map (txt k s)∧aJ s j (t.drop (p+1))=some (t.drop p')∧p+1≤p'∧p'≤t.length∧OwnSt3 wr W2.heap.size out (A.map ah)∧W2.grownBy wr (some ba)∧AtBox wr ba p'
theorem I4{k:Nat}{wI:World}{bt ba bs bw bx F:Nat}{a1 a2:Option Addr}{c1 c2:Nat}{s:Sg}{t:List Int}(hb:WBox wI bt ba bs bw bx F a1 a2 c1 c2 s t)(hok:aH s=true)(hl:t.length≤60)
  (eF:∀args W,(callFunc F args).run Tryz.prog W= .ok (.enter F args) W)
  (cF:∀(S1 S2:Nat→Prop) (b1 b2:Option Addr) (d1 d2 n:Nat) (A:List (List UInt8)) (W:World),n<s.length→Sign S1 W b1 d1 s→TArgs S2 W b2 d2 A→Calls Tryz.prog F #[.slice b1 s.length d1, .int .i64 n, .slice b2 A.length d2] W fun e w'=>e= .returned (.string (ah (bJ k s n A)))∧Below W.heap.size W w')
  {p:Nat} {r:List Int} (hsk:aJ s 1 (t.drop p)=some r) (hp:p<t.length) (hn:¬t[p]<0)
  (hrec:∀p' r',p<p'→aJ s 1 (t.drop p')=some r'→mM k wI bt ba bs bw bx s p' (bR s (t.drop p'))):mM k wI bt ba bs bw bx s p (bR s (t.drop p)):=by
 intro W hg hA
 have a3:Agree (fun b=>b≠ba) wI W:= .of_grown hg (fun b hb e=>hb (by cases e;rfl))
 obtain⟨b2,o2,rfl,cf,q2,-⟩:=(hb.tm.same a3).int p hp
 obtain⟨cj,hc,E⟩:=ic (k:=0) hsk
 rw[Nat.zero_add]at E
 obtain⟨Q,-,-,-⟩:=xP hsk
 rw[List.getD_eq_getElem?_getD,List.getElem?_eq_getElem hp,Option.getD_some]at Q
 obtain⟨aU,cn,aW⟩:=rx hsk (by omega)
 have N:=jl hsk
 obtain⟨u,hu⟩:∃u,bR s (t.drop p)=u:=⟨_,rfl⟩
 rw[hu]at Q aU cn aW N⊢
 have g:aw s u=true:=oo hok N.2.1 (by omega)
 have a:u.headD 0=t[p]:=by
  have H:=N.1
  rw[List.drop_eq_getElem_cons hp]at H
  cases bU:u with
  |nil=>rw[bU]at aW;simp at aW
  |cons y z=>rw[bU,List.cons_append]at H;rw[List.headD_cons];exact(List.cons.inj H).1.symm
 obtain⟨x,hx⟩:∃x,t[p]=x:=⟨_,rfl⟩
 rw[hx]at q2 hn hc E Q a
 obtain⟨n,rfl⟩:∃n:Nat,x=(n:Int):=⟨x.toNat,by omega⟩
 have ax:n<s.length:=by
  simp only[br,Bool.or_eq_true,decide_eq_true_eq]at hc
  omega
 have bb:=(fU hok hc).2
 have U:=(fU hok hc).1
 have B:s[n].2=((ar s (n:Int):Nat):Int):=by
  rw[←U]
  unfold dv
  rw[if_neg (by omega),if_pos ⟨by omega,by omega⟩,Int.toNat_natCast,List.getD_eq_getElem?_getD,List.getElem?_eq_getElem ax];rfl
 obtain⟨m,hm⟩:∃m,ar s (n:Int)=m:=⟨_,rfl⟩
 rw[hm]at E Q bb B
 have bN:txt k s u=bJ k s (n:Int) ((bG s m (t.drop (p+1))).map (txt k s)):=by
  rw[ke g (by rw[a];omega),a,Q]
 have bv:(((bG s m (t.drop (p+1))).map (txt k s)).map (fun x=>x.length+4)).sum≤10000:=by
  obtain⟨f1,f2,f3⟩:=fg g
  rw[Q]at f1 f2 f3
  have cg:=congrArg List.length f2
  rw[List.length_cons]at cg
  have h2:=sk (L:=(bG s m (t.drop (p+1))).map (txt k s)) (c:=4) (M:=bG s m (t.drop (p+1))) (by simp) (fun i h3 h4=>by
   rw[List.getElem_map]
   exact iK _ (f3 _ (List.getElem_mem h4)) (Nat.le_refl _))
  have:(bG s m (t.drop (p+1))).length=m:=by rw[f1,a,hm]
  omega
 have ac:(bG s m (t.drop (p+1))).length=m:=by
  obtain⟨f1,-,-⟩:=fg g
  rw[Q]at f1;rw[f1,a,hm]
 have qt:=ga hg hb.ct hb.nt
 have qa:=hA.cell
 have fa:=hA.frozen
 have m2:=hb.tm.le
 have c7:IntKind.i64.wrap ((p:Int)+1)=(p:Int)+1:=by rw[IntWalk.i64_in _ (by omega)]
 have e1:((p+1:Nat):Int)=(p:Int)+1:=by omega
 have c4:decide ((n:Int)<0)=false:=by simp
 obtain⟨G,o⟩:∃G,W.setCell ⟨ba,0,none⟩ (.int .i64 ((p:Int)+1))=G:=⟨_,rfl⟩
 have l:AtBox G ba (p+1):=by rw[←o,←e1];exact hA.set (p+1)
 have au:W.grownBy G (some ba):=by rw[←o];exact uQ _ _ _
 have K:=gV hg au
 have S:Agree (fun b=>b≠ba) wI G:= .of_grown K (fun b hb e=>hb (by cases e;rfl))
 have ds:=ga K hb.cs hb.ns
 obtain⟨bS,oS,rfl,c3,-,r1,-⟩:=(hb.sg.same S).sym n ax
 rw[B]at r1
 have cB:ba<G.heap.size:=l.lt
 have bl:∀w',wI.grownBy w' (some ba)→w'.cell? ⟨bx,0,none⟩=some (.func (.func F) #[] #[])∧w'.cell? ⟨bs,0,none⟩=some (.slice (some ⟨bS,oS,none⟩) s.length c1)∧w'.cell? ⟨bw,0,none⟩=some (wrV bt ba bs bw bx)∧Sign (fun b=>b≠ba) w' (some ⟨bS,oS,none⟩) c1 s:=fun w' h=>
  ⟨ga h hb.cx hb.nx,ga h hb.cs hb.ns,ga h hb.cw hb.nw,hb.sg.same (.of_grown h (fun b hb e=>hb (by cases e;rfl)))⟩
 have V:=Lib.hid bl
 have T:=Lib.hid K
 have Y:=Lib.hid au
 have R:=Lib.hid l
 have a5:=Lib.hid o
 have aO:=Lib.hid hrec
 have ad:=Lib.hid E
 have bA:=Lib.hid bv
 have D:=Lib.hid ac
 have bP:=Lib.hid bN
 have cp:=Lib.hid aU
 have cH:=Lib.hid hsk
 have b6:=Lib.hid cF
 have ca:=Lib.hid eF
 have m3:=hb.sg.le
 clear hb hg hA a3 hc hn hrec E Q N g a hx hm bN bv ac B U l au K S bl o hu aU hsk cF eF e1 cj
 go_enter Tryz.func144,Tryz.ntmps144
 go_upto_region 3 with fail
 rw[a5.out]
 clear qt qa fa q2 cf
 go_wp2_with fail
 go_loopw [7,26] (fun out i wr=>Ab k s t p m ba G out i wr) (fun _ i _=>m-(intOf i).toNat)
 case atStart=>exact⟨0,p+1,[],rfl,Nat.zero_le _,rfl,dQ _ _,Nat.le_refl _,hp, .nil _ _ _ _ _,kr _ _,R.out⟩
 case round=>
  obtain⟨j,p',A,rfl,hj,hA,hs,c6,cl,ho,hg,q⟩:=hrel
  have w:=gV T.out hg
  have cd:A.length=j:=by rw[hA,List.length_map,List.length_take,D.out];omega
  have ay:=OwnL.lt ho
  by_cases av:j<m
  ·obtain⟨l2,n1,n2⟩:=HC hs ad.out av
   have f:=aO.out p' l2 (by omega) n1
   obtain⟨y1,y2,y3⟩:=rx n1 cl
   rw[y1]at n2
   have aq:=zi hs av
   have aN:=jl n1
   obtain⟨v,hv⟩:∃v,bR s (t.drop p')=v:=⟨_,rfl⟩
   rw[hv]at f y2 y3 n2 aq aN
   have ag:aw s v=true:=oo hok aN.2.1 (by omega)
   have cm:=iK (k:=k) v.length ag (Nat.le_refl _)
   have l:A++[txt k s v]=((bG s m (t.drop (p+1))).take (j+1)).map (txt k s):=by
    rw[List.take_add_one,aq,List.map_append,←hA];rfl
   have qw:=(V.out wr w).2.2.1
   have ao:Calls _ _ _ _ fun e w'=>e= .returned (.string (ah (txt k s v)))∧wr.grownBy w' (some ba)∧AtBox w' ba (p'+v.length):=f wr w q
   obtain⟨X,hX⟩:∃X,txt k s v=X:=⟨_,rfl⟩
   have a9:(ah X).size≤aB:=by
    rw[←hX]
    show(txt k s v).length≤aB
    unfold aB;omega
   have C:∀I,wr.grownBy I (some ba)→AtBox I ba (p'+v.length)→∃v' w',RowKit.Hid ((Builtin.append_ #[37,37] 37 #[_, .slice (some ⟨I.heap.size,0,none⟩) 1 1]).run Tryz.prog (I.alloc (.cells #[.string (ah X)] 9))= .ok v' w')∧RowKit.Hid (Ab k s t p m ba G v' (.int .i64 ((j+1:Nat):Int)) w'):=fun I H h2=>by
    have bp:OwnSt3 I G.heap.size _ (A.map ah):=OwnL.grown ho H (fun k hk e=>by
     injection e with e
     have:=(ay k hk).1
     omega) (fun _ h=>h.elim)
    have o:G.heap.size≤I.heap.size:=Nat.le_trans hg.size H.size
    obtain⟨v',w',f1,f2,f3,-⟩:=bp.push (P:=Tryz.prog) (t:=37) (ty:=37) Tryz.underlying37 qI rfl (vs:=[.string (ah X)]) (x:=ah X) ⟨rfl,a9⟩ (by rw[List.length_map];omega) (by rw[List.length_map];unfold aB;omega) o
    have Z:=OwnL.lt bp
    refine⟨v',w',Lib.hid f1,Lib.hid ⟨j+1,p'+v.length,A++[X],rfl,av,by rw[←hX];exact l,n2,by omega,y2,by rw[List.map_append];exact f2,uP (gV hg H) f3 (fun i e=>(Z i e).1),h2.kept f3 (fun e=> ?_)⟩⟩
    have:=(Z ba e).1
    omega
   rw[hX]at ao
   have hc:=Lib.hid ao
   have O:=Lib.hid C
   clear ao hA hs ho hg q w ay n1 n2 f aq aN ag cm l a9 C hv
   go_wp2_with (first
    |(go_at_call 144;(with_reducible refine hc.out.mono ?_);rintro e I ⟨rfl,ch,cb⟩;obtain⟨v',w',aR,aP⟩:=O.out I ch cb)
    |(at_builtin;refine bo rfl _ _ _ rfl rfl rfl aR.out ?_))
   go_roundw
   case rel=>exact aP.out
   case measure=>simp[intOf];omega
  have bm:j=m:=by omega
  subst bm
  have J:A=(bG s j (t.drop (p+1))).map (txt k s):=by rw[hA,List.take_of_length_le (by rw[D.out];exact Nat.le_refl _)]
  have bq:p'=p+u.length:=by
   have H:=Option.some.inj (hs.symm.trans ad.out)
   rw[cp.out]at H
   have h2:=congrArg List.length H
   rw[List.length_drop,List.length_drop]at h2
   omega
  obtain⟨aL,cL,ab,aT⟩:=OwnL.sl ho
  rw[List.length_map]at ab
  subst ab
  obtain⟨qx,qs,-,bu⟩:=V.out wr w
  have hT:TArgs _ wr aL cL A:=⟨aT,by omega,by rw[J];exact bA.out⟩
  have cc:=b6.out _ _ _ aL c1 cL n A wr ax bu hT
  rw[J,←bP.out,←J]at cc
  rw[bq]at q
  have cU:=ca.out
  have b8:=Lib.hid cc
  have ci:=Lib.hid (gV Y.out hg)
  have a4:=Lib.hid q
  have mA:=aT.le
  rw[List.length_map]at mA
  clear hA J hs ho hg q w ay aT hT cc bu bq R T Y cd
  go_wp2_with fail
  (with_reducible refine b8.out.mono ?_)
  rintro e I ⟨rfl,bf⟩
  go_wp2_with fail
  go_ret
  exact⟨rfl,gV ci.out (qk bf),a4.out.below bf⟩
end Go.Proofs.YtlejmeegkpdabaaGreatDoor
