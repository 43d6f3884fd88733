/- The proof of a statement, some of its texts joined in build order: part Q. -/
import Derived.Test.YtlejmeegkpdabaaGreatDoorMxP
set_option maxHeartbeats 1000000
namespace Go.Proofs.YtlejmeegkpdabaaGreatDoor
open Go Go.RowKit Go.Maps Go.Shelf
inductive LstR (l:List Ent) (p:Nat→Bool) (k:Nat):Int→Prop
 |no:(∀j,j<k→p j=false)→LstR l p k (-1)
 |yes (q:Nat):q<k→p q=true→(∀j,j<k→p j=true→¬eD (bE l j) (bE l q))→LstR l p k (q:Int)
section
variable {l:List Ent}{p:Nat→Bool}{k q:Nat}
theorem LstR.start:LstR l p 0 (-1):= .no fun j a=>by omega
theorem LstR.skip{v:Int}(h:LstR l p k v)(hp:p k=false):LstR l p (k+1) v:=by
 have c:∀j,j<k+1→j<k∨j=k:=fun j b=>by omega
 cases h with
 |no h=>exact .no fun j b=>(c j b).elim (h j) (fun e=>by rw[e];exact hp)
 |yes q i f g=>
  refine .yes q (by omega) f fun j b a=>(c j b).elim (fun h=>g j h a) (fun e=> ?_)
  rw[e,hp]at a;cases a
theorem LstR.first(h:LstR l p k (-1))(hp:p k=true):LstR l p (k+1) (k:Int):=by
 generalize c:(-1:Int)=v at h
 cases h with
 |no h=>
  refine .yes k (by omega) hp fun j b a=> ?_
  rcases Nat.lt_or_ge j k with e|e
  ·rw[h j e]at a;cases a
  have:j=k:=by omega
  rw[this];exact lS _
 |yes q _ _ _=>omega
theorem LstR.open(h:LstR l p k (q:Int)):q<k∧p q=true∧∀j,j<k→p j=true→¬eD (bE l j) (bE l q):=by
 generalize g:(q:Int)=v at h
 cases h with
 |no h=>omega
 |yes f a b c=>
  have:q=f:=by omega
  subst this
  exact⟨a,b,c⟩
theorem LstR.less(h:LstR l p k (q:Int))(hp:p k=true)(hl:gD (bE l k) (bE l q)=true):LstR l p (k+1) (k:Int):=by
 obtain⟨f,g,c⟩:=h.open
 refine .yes k (by omega) hp fun j i b a=> ?_
 rcases Nat.lt_or_ge j k with e|e
 ·exact c j e b (qX _ _ _ a (ltB_iff.1 hl))
 have:j=k:=by omega
 rw[this]at a;exact lS _ a
theorem LstR.keep(h:LstR l p k (q:Int))(hl:gD (bE l k) (bE l q)=false):LstR l p (k+1) (q:Int):=by
 obtain⟨g,c,f⟩:=h.open
 refine .yes q (by omega) c fun j i b a=> ?_
 rcases Nat.lt_or_ge j k with e|e
 ·exact f j e b a
 have:j=k:=by omega
 rw[this]at a
 rw[ltB_iff.2 a]at hl;cases hl
theorem LstR.cases{v:Int}(h:LstR l p k v):v=-1∨∃q:Nat,v=(q:Int)∧q<k:=by
 cases h with
 |no _=>exact .inl rfl
 |yes q a _ _=>exact .inr ⟨q,rfl,a⟩
end
def ShR(l:List Ent)(sh:List Bool)(i n:Nat):Prop:=sh.length=l.length∧∀k,k<n→k<l.length→sh.getD k false= !gD (bE l i) (bE l k)
theorem ShR.step{l:List Ent}{sh:List Bool}{i n:Nat}(h:ShR l sh i n)(hn:n<l.length):ShR l (sh.set n (!gD (bE l i) (bE l n))) i (n+1):=by
 refine⟨by rw[List.length_set];exact h.1,fun k c a=> ?_⟩
 by_cases e:k=n
 ·subst e;rw[List.getD_eq_getElem?_getD,List.getElem?_set_self (by rw[h.1];exact a)];rfl
 rw[List.getD_eq_getElem?_getD,List.getElem?_set_ne (fun b=>e b.symm),←List.getD_eq_getElem?_getD];exact h.2 k (by omega) a
def ShO(l:List Ent)(sh:List Bool)(first:ByteArray)(out:List ByteArray):Prop:=sh.length=l.length∧∀k,k<l.length→sh.getD k false= !(gD first (bE l k)&& !bC out (bE l k))
theorem ShO.next{l:List Ent}{sh:List Bool}{first:ByteArray}{out:List ByteArray}(hd:(l.map af).Nodup)(h:ShO l sh first out){q:Nat}(hq:q<l.length):ShO l (sh.set q true) first (out++[bE l q]):=by
 refine⟨by rw[List.length_set];exact h.1,fun k c=> ?_⟩
 have g:bC (out++[bE l q]) (bE l k)=(bC out (bE l k)||decide (bE l q=bE l k)):=by unfold bC;rw[List.any_append];simp
 by_cases e:k=q
 ·subst e
  rw[List.getD_eq_getElem?_getD,List.getElem?_set_self (by rw[h.1];exact c),g]
  simp
 rw[List.getD_eq_getElem?_getD,List.getElem?_set_ne (fun b=>e b.symm),←List.getD_eq_getElem?_getD,h.2 k c,g]
 have:decide (bE l q=bE l k)=false:=decide_eq_false fun b=>e (by
  have f:=pG hd hq
  have a:=pG hd c
  rw[b]at f
  rw[f]at a
  injection a with a;exact a.symm)
 rw[this,Bool.or_false]
open Classical in
noncomputable def fJ(f:ByteArray→Bool):Bool:=decide (∀x,f x=false)
theorem SMap.none{w:World}{b M n:Nat}{f:ByteArray→Bool}(h:SSet w b M n f):(((n:Nat):Int)==0)=fJ f:=by
 obtain⟨D,p,q,hs,hf⟩:=h
 obtain⟨o,c⟩:=zp p (string_keyed Tryz.underlying9) Tryz.underlying9
 obtain⟨i,rfl,_⟩:=q
 rw[Bool.eq_iff_iff,beq_iff_eq]
 unfold fJ
 simp only[decide_eq_true_eq]
 have a:(strKeys (.map i:DataW Unit)).length=n:=by rw[←hs];simp[strKeys,Maps.size]
 constructor
 ·intro e x
  have:strKeys (.map i:DataW Unit)=[]:=List.length_eq_zero_iff.1 (by omega)
  cases hx:f x with
  |false=>rfl
  |true=>
   rw[←(hf x).1]at hx
   have:=(c _).2 hx
   simp_all
 intro g
 cases k:strKeys (.map i:DataW Unit)with
 |nil=>rw[k]at a;simp at a;omega
 |cons y r=>
  have l:=(c y).1 (by rw[k];simp)
  have j:=(hf (eo y)).1
  have m:(eo y).data.toList=y:=pM y
  rw[m,g]at j
  rw[l]at j
  cases j
def ph(xb:Nat)(b:Bool)(w:World):Prop:=∀W,Below w.heap.size w W→Calls Tryz.prog 82 #[.pointer (some ⟨xb,0,none⟩)] W fun e w'=>∃a n c,e= .returned (.slice a n c)∧a.isNone=b∧Below W.heap.size W w'
theorem BZ{B xb:Nat}{w:World}{s:Sg}{l:List Ent}(h:DLib B w xb s l)(hno:xw l):ph xb true w:=fun _ c=>
 (B5 (h.call c) hno).mono fun _ _ ⟨a,b⟩=>⟨none,0,0,a,rfl,b⟩
theorem I1{B xb:Nat}{w:World}{s:Sg}{l:List Ent}{b:Bool}(h:DLib B w xb s l)(hc:ph xb b w):Calls Tryz.prog 38 #[.pointer (some ⟨xb,0,none⟩)] w fun e w'=>e= .returned (.bool (fJ (eL l)&&b))∧Below w.heap.size w w':=by
 have x:=Lib.hid (xj h)
 have p:=Lib.hid hc
 clear h hc
 go_enter Tryz.func38,Tryz.ntmps38
 go_wp2_with fail
 refine x.out.mono ?_
 rintro e y ⟨z,M,m,rfl,-,-,-,k,o⟩
 have t:=k.len (tm:=82) Tryz.underlying82 3
 have u:=SMap.none k
 have v:=Lib.hid (p.out y o)
 have j:=Lib.hid o
 clear k o
 cases g:fJ (eL l)with
 |false=>
  rw[g]at u
  have f:=Lib.hid g
  clear g
  go_wp2_with fail
  go_ret
  exact⟨aF (by rw[f.out];rfl),j.out⟩
 |true=>
  rw[g]at u
  have f:=Lib.hid g
  clear g
  go_wp2_with fail
  refine v.out.mono ?_
  rintro e w2 ⟨a,n,c,rfl,ha,r⟩
  have q:=Lib.run_eql_slice_nil (P:=Tryz.prog) w2 37 9 a n c 0 0 Tryz.underlying37
  rw[ha]at q
  have i:=Lib.hid (aa j.out r)
  clear r ha
  go_wp2_with fail
  go_ret
  exact⟨aF (by rw[f.out,Bool.true_and]),i.out⟩
noncomputable def iF(s:Sg)(l:List Ent)(b:Bool):Bool×Int:=if bz s l=true then((fJ (eL l)&&b)&&fJ (jB s l),0)else(false,1)
theorem AQ{S1 S2:Nat→Prop}{b:Bool}(sa la:Option Addr)(sc lc:Nat)(s:Sg)(l:List Ent)(w:World)(h1:Sign S1 w sa sc s)(h2:LibL S2 w la lc l)(hl:l.length≤1000)
  (hc:∀B W xb,Below w.heap.size w W→DLib B W xb s l→ph xb b W):
  Calls Tryz.prog 13 #[.slice sa s.length sc, .slice la l.length lc] w fun e w'=>e= .returned (.tuple #[.bool (iF s l b).1, .int .i64 (iF s l b).2])∧Below w.heap.size w w':=by
 have v:=ro sa la sc lc s l w h1 h2 hl
 have m:=h2.le
 have I:=h1.le
 obtain⟨r,hr⟩:∃r,iF s l b=r:=⟨_,rfl⟩
 rw[hr]
 have x:=Lib.hid v
 have k:=Lib.hid hr
 have t:=Lib.hid hc
 clear v h1 h2 hr hc
 go_enter Tryz.func13,Tryz.ntmps13
 go_wp2_with fail
 refine x.out.mono ?_
 rintro e A ⟨p,h⟩
 have i:=Lib.hid p
 rcases h with⟨f,rfl⟩|⟨f,xb,u,rfl,o⟩
 ·have hf:iF s l b=(false,1):=by unfold iF;rw[f];rfl
  have g:=Lib.hid (k.out.symm.trans hf)
  clear p f x hf
  go_wp2_with fail
  go_ret2
  exact⟨by rw[g.out];rfl,i.out⟩
 have hf:iF s l b=((fJ (eL l)&&b)&&fJ (jB s l),0):=by unfold iF;rw[f];rfl
 have F:=I1 o (t.out _ A xb p o)
 have E:=fun W (hw:Below A.heap.size A W)=>CT (o.call hw)
 have g:=Lib.hid (k.out.symm.trans hf)
 have n:=Lib.hid F
 have z:=Lib.hid E
 clear p f x hf u o F E
 generalize (fJ (eL l)&&b)=G at*
 cases G with
 |false=>
  go_wp2_with fail
  refine n.out.mono ?_
  rintro e w2 ⟨rfl,a⟩
  have c:=Lib.hid (aa i.out a)
  clear a
  go_wp2_with fail
  go_ret2
  exact⟨by rw[g.out];rfl,c.out⟩
 |true=>
  go_wp2_with fail
  refine n.out.mono ?_
  rintro e w2 ⟨rfl,a⟩
  have y:=Lib.hid (z.out w2 a)
  have c:=Lib.hid (aa i.out a)
  clear a
  go_wp2_with fail
  refine y.out.mono ?_
  rintro e K ⟨J,M,m,rfl,-,-,-,q,C⟩
  have D:=q.len (tm:=82) Tryz.underlying82 3
  have H:=SMap.none q
  have j:=Lib.hid (aa c.out C)
  clear q C
  go_wp2_with fail
  go_ret2
  exact⟨by rw[g.out];rfl,j.out⟩
def StgRet(r:List Int×Int)(w:World)(e:Ending)(w':World):Prop:=∃a c,e= .returned (.tuple #[.slice a r.1.length c, .int .i64 r.2])∧Ints (fun _=>True) w' a c r.1∧Below w.heap.size w w'
theorem StgRet.nil{w w':World}{er:Int}(hb:Below w.heap.size w w'):StgRet ([],er) w (.returned (.tuple #[.slice none 0 0, .int .i64 er])) w':=⟨none,0,rfl,Sl.empty,hb⟩
theorem AM{S1 S2:Nat→Prop}(a1 a2:Option Addr)(c1 c2:Nat)(l1 l2:List Int)(w:World)(h1:Ints S1 w a1 c1 l1)(h2:Ints S2 w a2 c2 l2):
  Calls Tryz.prog 78 #[.slice a1 l1.length c1, .slice a2 l2.length c2] w fun e w'=>e= .returned (.bool (decide (l1=l2)))∧Drew w w':=by
 have r:=h1.le
 have s:=h2.le
 by_cases h:l1.length=l2.length
 ·have b:=Lib.hid h
  go_enter Tryz.func78,Tryz.ntmps78
  go_wp2
  clear h
  go_loopw [5] (fun i wr=>∃k:Nat,k≤l1.length∧i= .int .i64 k∧l1.take k=l2.take k∧Drew w wr) (fun i _=>l1.length-(intOf i).toNat)
  case atStart=>exact⟨0,by omega,rfl,rfl, .refl _⟩
  case round=>
   obtain⟨k,q,rfl,l,n,rfl⟩:=hrel
   have g:=Lib.hid l
   clear l
   have f:=b.out
   by_cases c:k<l1.length
   ·have a:k<l2.length:=by omega
    obtain⟨m,t,rfl,-,v,-⟩:=h1.int k c
    obtain⟨o,u,rfl,-,x,-⟩:=h2.int k a
    clear h1 h2 f
    go_wp2
    go_quiet (fail)
    all_goals go_wp2
    ·go_ret
     exact⟨aF (decide_eq_false (sn c a (by assumption))).symm, .mk2 _ _ _⟩
    exact⟨⟨k+1,by omega,by go_num,sr c a g.out (by assumption), .mk _ _⟩,by simp[intOf];omega⟩
   clear f
   have j:¬k<l2.length:=by have:=b.out;omega
   go_wp2
   go_ret
   exact⟨aF (decide_eq_true (sm b.out j g.out)).symm, .mk _ _⟩
 go_enter Tryz.func78,Tryz.ntmps78
 have p:=ku h
 go_wp2
 go_ret
 exact⟨aF (decide_eq_false (fun e=>h (by rw[e]))).symm, .refl _⟩
end Go.Proofs.YtlejmeegkpdabaaGreatDoor
