/- The proof of a statement, some of its texts joined in build order: part K2. -/
namespace Go.Proofs.YtlejmeegkpdabaaGreatDoor
abbrev Sg:=List (ByteArray×Int)
def cR(b:UInt8):Bool:=(decide (97≤b.toNat)&&decide (b.toNat≤122))||(decide (65≤b.toNat)&&decide (b.toNat≤90))
def fc(s:ByteArray):Bool:=decide (1≤s.size)&&decide (s.size≤8)&&s.data.toList.all cR
def f9(x:ByteArray×Int):Bool:=fc x.1&&(decide (0≤x.2)&&decide (x.2≤3))
def aH(s:Sg):Bool:=
 decide (1≤s.length)&&decide (s.length≤12)&&s.all f9&&decide ((s.map (·.1)).Nodup)&&decide ((s.getD 0 default).2=2)
def dv(s:Sg)(n:Int):Int:=
 if-12≤n∧n≤-1 then 0 else if 0≤n∧n<s.length then(s.getD n.toNat default).2 else-1
def br(s:Sg)(n:Int):Bool:=decide (-12≤n∧n≤-1)||decide (0≤n∧n<s.length)
def ar(s:Sg)(n:Int):Nat:=(dv s n).toNat
def aJ(s:Sg):Nat→List Int→Option (List Int)
 |0,l=>some l
 |_+1,[]=>none
 |k+1,n::r=>if br s n then aJ s (k+ar s n) r else none
def aw(s:Sg)(t:List Int):Bool:=aH s&&(decide (1≤t.length)&&decide (t.length≤60))&&decide (aJ s 1 t=some [])
theorem dQ(s:Sg)(l:List Int):aJ s 0 l=some l:=by cases l<;>rfl
theorem jY(s:Sg)(k:Nat):aJ s (k+1) []=none:=rfl
theorem eu(s:Sg)(k:Nat)(n:Int)(r:List Int):aJ s (k+1) (n::r)=if br s n then aJ s (k+ar s n) r else none:=rfl
theorem oR(s:Sg)(j k:Nat)(l:List Int):aJ s (j+k) l=(aJ s j l).bind (aJ s k):=by
 induction l generalizing j with
 |nil=>cases j with
  |zero=>simp[dQ]
  |succ j=>rw[show j+1+k=(j+k)+1 by omega];rfl
 |cons n r a=>cases j with
  |zero=>simp[dQ]
  |succ j=>
   rw[show j+1+k=(j+k)+1 by omega,eu,eu]
   split
   ·rw[show j+k+ar s n=j+ar s n+k by omega,a]
   rfl
theorem HA(s:Sg)(k:Nat)(l x:List Int)(r:List Int)(h:aJ s k l=some r):aJ s k (l++x)=some (r++x):=by
 induction l generalizing k with
 |nil=>cases k with
  |zero=>simp only[dQ,Option.some.injEq]at h⊢;rw[←h]
  |succ k=>simp[jY]at h
 |cons n t a=>cases k with
  |zero=>simp only[dQ,Option.some.injEq]at h⊢;rw[←h]
  |succ k=>
   rw[eu]at h
   rw[List.cons_append,eu]
   split at h
   ·rw[if_pos ‹_›];exact a _ h
   cases h
theorem rY(s:Sg)(k:Nat)(l r:List Int)(h:aJ s k l=some r):∃u,l=u++r∧aJ s k u=some []∧k≤u.length:=by
 induction l generalizing k with
 |nil=>cases k with
  |zero=>simp only[dQ,Option.some.injEq]at h;subst h;exact⟨[],rfl,rfl,Nat.le_refl _⟩
  |succ k=>simp[jY]at h
 |cons n t c=>cases k with
  |zero=>simp only[dQ,Option.some.injEq]at h;subst h;exact⟨[],rfl,rfl,Nat.zero_le _⟩
  |succ k=>
   rw[eu]at h
   split at h
   ·rename_i a
    obtain⟨u,rfl,b,f⟩:=c _ h
    exact⟨n::u,rfl,by rw[eu,if_pos a,b],by simp;omega⟩
   cases h
theorem iE(s:Sg)(k:Nat)(l r:List Int)(h:aJ s k l=some r):r.length+k≤l.length:=by
 obtain⟨u,rfl,_,a⟩:=rY s k l r h
 simp;omega
def eJ(s:Sg)(t:List Int)(k:Int):Int:=
 if 0≤k∧k<t.length then(match aJ s 1 (t.drop k.toNat)with|some r=>(t.length:Int)-r.length|none=>-1)else-1
def gy(g:List Int→Nat)(s:Sg):Nat→List Int→Nat
 |0,_=>0
 |k+1,l=>max (g l) (gy g s k ((aJ s 1 l).getD []))
def dV(s:Sg):Nat→List Int→Nat
 |0,_=>0
 |_+1,[]=>0
 |f+1,n::r=>gy (dV s f) s (ar s n) r+1
theorem pW(g g':List Int→Nat)(s:Sg)(B:Nat)(h:∀l,l.length≤B→g l=g' l):∀k l,l.length≤B→gy g s k l=gy g' s k l
 |0,_,_=>rfl
 |k+1,l,hl=>by
  unfold gy
  rw[h l hl,pW g g' s B h k]
  cases hs:aJ s 1 l with
  |none=>simp
  |some r=>have:=iE s 1 l r hs;simp;omega
theorem ud(s:Sg):∀f f' l,l.length≤f→l.length≤f'→dV s f l=dV s f' l
 |0,0,_,_,_=>rfl
 |0,_+1,[],_,_=>rfl
 |_+1,0,[],_,_=>rfl
 |_+1,_+1,[],_,_=>rfl
 |0,_+1,_::_,h,_=>by simp at h
 |_+1,0,_::_,_,h=>by simp at h
 |f+1,f'+1,n::r,h,h'=>by
  unfold dV
  simp at h h'
  rw[pW (dV s f) (dV s f') s r.length (fun l hl=>ud s f f' l (by omega) (by omega)) _ _ (Nat.le_refl _)]
def Ja(s:Sg)(t:List Int):Nat:=dV s t.length t
theorem qc(s:Sg)(t:List Int)(k:Int)(h:¬(0≤k∧k<t.length)):eJ s t k=-1:=by rw[eJ,if_neg h]
theorem kp(s:Sg)(t:List Int)(p:Nat)(r:List Int)(h:aJ s 1 (t.drop p)=some r):eJ s t p=(t.length-r.length:Nat)∧t.drop (t.length-r.length)=r∧p<t.length-r.length∧t.length-r.length≤t.length:=by
 have b:=iE s 1 _ r h
 obtain⟨u,a,_,f⟩:=rY s 1 _ r h
 simp at b
 have c:u.length+r.length=t.length-p:=by rw[←List.length_drop,a,List.length_append]
 refine⟨?_,?_,by omega,by omega⟩
 ·rw[eJ,if_pos ⟨by omega,by omega⟩,Int.toNat_natCast,h];simp;omega
 rw[show t.length-r.length=p+u.length by omega,←List.drop_drop,a];simp
theorem nz(s:Sg)(t:List Int)(p:Nat)(h:aJ s 1 (t.drop p)=none):eJ s t p=-1:=by
 unfold eJ
 split
 ·rw[Int.toNat_natCast,h]
 rfl
def EndInv(s:Sg)(t:List Int)(F m k:Nat)(next:Int)(deep j:Nat):Prop:=
 deep≤F∧((∃p:Nat,next=p∧p≤t.length∧k<p∧aJ s (m-j) (t.drop p)=aJ s m (t.drop (k+1))∧(aJ s m (t.drop (k+1))≠none→max deep (gy (dV s F) s (m-j) (t.drop p))=gy (dV s F) s m (t.drop (k+1))))∨
  (next=-1∧aJ s m (t.drop (k+1))=none))
theorem EndInv.start(s:Sg)(t:List Int)(F m k:Nat)(hk:k<t.length):EndInv s t F m k ((k:Int)+1) 0 0:=
 ⟨Nat.zero_le _, .inl ⟨k+1,by omega,by omega,by omega,by simp,by simp⟩⟩
theorem EndInv.next{s:Sg}{t:List Int}{F m k:Nat}{next:Int}{deep j:Nat}(h:EndInv s t F m k next deep j):(k:Int)<next∧next≤t.length∨next=-1:=by
 rcases h.2 with⟨p,rfl,a,b,_⟩|⟨rfl,_⟩
 ·left;omega
 right;rfl
theorem EndInv.step{s:Sg}{t:List Int}{F m k:Nat}{next:Int}{deep j d:Nat}(h:EndInv s t F m k next deep j)(hj:j<m)(hF:t.length-(k+1)≤F)(hd:d≤F)
  (hdep:eJ s t next≠-1→∀G,t.length-next.toNat≤G→d=dV s G (t.drop next.toNat)):EndInv s t F m k (eJ s t next) (max deep d) (j+1):=by
 refine⟨by have:=h.1;omega,?_⟩
 rcases h.2 with⟨p,rfl,v,w,a,o⟩|⟨rfl,q⟩
 ·have l:m-j=1+(m-(j+1)):=by omega
  rw[l,oR]at a
  cases hs:aJ s 1 (t.drop p)with
  |none=>right;rw[hs]at a;exact⟨nz s t p hs,a.symm⟩
  |some r=>
   obtain⟨c,f,u,n⟩:=kp s t p r hs
   left
   rw[hs]at a
   refine⟨t.length-r.length,c,n,by omega,by rw[f];exact a,fun b=> ?_⟩
   rw[←o b,f]
   have g:gy (dV s F) s (m-j) (t.drop p)=max (dV s F (t.drop p)) (gy (dV s F) s (m-(j+1)) r):=by
    rw[show m-j=(m-(j+1))+1 by omega,gy,hs];rfl
   have i:d=dV s F (t.drop p):=hdep (by rw[c];omega) F (by simp;omega)
   rw[g,i];omega
 right;exact⟨qc s t _ (by omega),q⟩
theorem EndInv.done{s:Sg}{t:List Int}{F k:Nat}{n:Int}{next:Int}{deep:Nat}(hk:k<t.length)(hn:t[k]=n)(hc:br s n=true)(h:EndInv s t F (ar s n) k next deep (ar s n))(hF:t.length-(k+1)≤F):
  eJ s t k=next∧(next≠-1→∀G,t.length-k≤G→deep+1=dV s G (t.drop k)):=by
 have f:t.drop k=n::t.drop (k+1):=by rw[List.drop_eq_getElem_cons hk,hn]
 have g:aJ s 1 (t.drop k)=aJ s (ar s n) (t.drop (k+1)):=by rw[f,eu,if_pos hc,Nat.zero_add]
 rcases h.2 with⟨p,rfl,r,u,c,j⟩|⟨rfl,a⟩
 ·rw[Nat.sub_self,dQ]at c
  obtain⟨i,m,o,q⟩:=kp s t k (t.drop p) (by rw[g,c])
  refine⟨by rw[i];simp;omega,fun _ G v=> ?_⟩
  obtain⟨b,rfl⟩:∃b,G=b+1:=⟨G-1,by omega⟩
  rw[f,dV]
  have a:=j (by rw[←c];simp)
  simp[gy]at a
  rw[a,pW (dV s b) (dV s F) s (t.length-(k+1)) (fun l w=>ud s _ _ l (by omega) (by omega)) _ _ (by simp)]
 exact⟨nz s t k (by rw[g,a]),fun h=>(h rfl).elim⟩
theorem CG(s:Sg)(t:List Int)(k:Nat)(hk:k<t.length)(hc:br s t[k]=false):eJ s t k=-1:=
 nz s t k (by rw[List.drop_eq_getElem_cons hk,eu,hc];rfl)
theorem fU{s:Sg}(hs:aH s=true){n:Int}(hc:br s n=true):dv s n=ar s n∧ar s n≤3:=by
 unfold ar
 simp only[br,Bool.or_eq_true,decide_eq_true_eq]at hc
 simp only[aH,Bool.and_eq_true,List.all_eq_true,decide_eq_true_eq]at hs
 unfold dv
 split
 ·simp
 rename_i b
 have a:0≤n∧n<s.length:=by omega
 rw[if_pos a,List.getD_eq_getElem?_getD,List.getElem?_eq_getElem (by omega)]
 have:=hs.1.1.2 _ (List.getElem_mem (by omega:n.toNat<s.length))
 simp only[f9,Bool.and_eq_true,decide_eq_true_eq]at this
 simp;omega
theorem A5{s:Sg}{n:Int}(hc:br s n=false):dv s n=-1:=by
 simp only[br,Bool.or_eq_false_iff,decide_eq_false_iff_not]at hc
 rw[dv,if_neg hc.1,if_neg hc.2]
def cS(acc:List Int)(n:Int):List Int:=if n<0∧n∉acc then acc++[n]else acc
def aD(t:List Int):List Int:=t.foldl cS []
def bO(v:List Int)(n:Int):Int:=if 0≤n then n else-(v.idxOf n:Int)-1
def cz(t:List Int):List Int:=t.map (bO (aD t))
theorem mx{t:List Int}{k:Nat}(h:k<t.length):aD (t.take (k+1))=cS (aD (t.take k)) t[k]:=by
 unfold aD
 rw[List.take_succ_eq_append_getElem h,List.foldl_append];rfl
theorem addV_mem{acc:List Int}{n x:Int}:x∈cS acc n↔x∈acc∨(x=n∧n<0):=by
 unfold cS
 split
 ·rename_i h;simp[h.1]
 rename_i h
 constructor
 ·exact .inl
 rintro(a|⟨rfl,c⟩)
 ·exact a
 exact Classical.byContradiction (fun b=>h ⟨c,b⟩)
theorem C1(t:List Int):∀acc:List Int,acc<+:t.foldl cS acc:=by
 induction t with
 |nil=>intro acc;exact List.prefix_refl _
 |cons n r a=>
  intro acc
  rw[List.foldl_cons]
  refine List.IsPrefix.trans ?_ (a _)
  unfold cS
  split
  ·exact List.prefix_append _ _
  exact List.prefix_refl _
theorem IT(t:List Int)(k:Nat):aD (t.take k)<+:aD t:=by
 conv=>rhs;rw[←List.take_append_drop k t]
 unfold aD
 rw[List.foldl_append]
 exact C1 _ _
theorem EV(t:List Int)(x:Int):∀acc:List Int,x∈t.foldl cS acc↔x∈acc∨(x∈t∧x<0):=by
 induction t with
 |nil=>intro acc;simp
 |cons n r b=>
  intro acc
  rw[List.foldl_cons,b,addV_mem]
  constructor
  ·rintro((h|⟨rfl,h⟩)|⟨h,a⟩)
   ·exact .inl h
   ·exact .inr ⟨by simp,h⟩
   exact .inr ⟨by simp[h],a⟩
  rintro(h|⟨h,a⟩)
  ·exact .inl (.inl h)
  rcases List.mem_cons.1 h with rfl|h
  ·exact .inl (.inr ⟨rfl,a⟩)
  exact .inr ⟨h,a⟩
theorem mem_varsC{t:List Int}{x:Int}:x∈aD t↔x∈t∧x<0:=by
 unfold aD;rw[EV];simp
theorem EF(t:List Int):∀acc:List Int,(t.foldl cS acc).length≤acc.length+t.length:=by
 induction t with
 |nil=>intro acc;simp
 |cons n r a=>
  intro acc
  rw[List.foldl_cons]
  have:=a (cS acc n)
  have b:(cS acc n).length≤acc.length+1:=by unfold cS;split<;>simp
  simp;omega
theorem mw(t:List Int):(aD t).length≤t.length:=by have:=EF t [];simpa[aD]using this
theorem Fy(t:List Int):∀acc:List Int,acc.Nodup→(t.foldl cS acc).Nodup:=by
 induction t with
 |nil=>intro acc h;exact h
 |cons n r i=>
  intro acc h
  rw[List.foldl_cons]
  apply i
  unfold cS
  split
  ·rename_i g
   rw[List.nodup_append]
   refine⟨h,by simp,?_⟩
   intro a ha b f c
   simp at f
   subst f;subst c
   exact g.2 ha
  exact h
theorem zY(t:List Int):(aD t).Nodup:=Fy t [] (by simp)
theorem v8{a c:List Int}{x:Int}(hx:x∈a):(a++c).idxOf x=a.idxOf x:=by rw[List.idxOf_append,if_pos hx]
theorem DV{a c:List Int}{x:Int}(hx:x∉a):(a++c).idxOf x=c.idxOf x+a.length:=by rw[List.idxOf_append,if_neg hx]
theorem DY{a b:List Int}(h:a<+:b){x:Int}(hx:x∈a):b.idxOf x=a.idxOf x:=by
 obtain⟨c,rfl⟩:=h
 rw[v8 hx]
def dY(t:List Int)(k:Nat)(x:Int):Option Int:=if x∈aD (t.take k)then some (-((aD (t.take k)).idxOf x:Int)-1)else none
theorem xm(t:List Int):dY t 0=fun _=>none:=by funext x;simp[dY,aD]
theorem nX{t:List Int}{k:Nat}(h:k<t.length)(hv:0≤t[k]∨t[k]∈aD (t.take k)):dY t (k+1)=dY t k∧(aD (t.take (k+1))).length=(aD (t.take k)).length:=by
 have:aD (t.take (k+1))=aD (t.take k):=by
  rw[mx h,cS,if_neg]
  rintro⟨c,b⟩
  rcases hv with a|a
  ·omega
  exact b a
 unfold dY
 rw[this];exact⟨rfl,rfl⟩
theorem xl{t:List Int}{k:Nat}(h:k<t.length)(hn:t[k]<0)(hv:t[k]∉aD (t.take k)):
  dY t (k+1)=(fun z=>if z=t[k]then some (-((aD (t.take k)).length:Int)-1)else dY t k z)∧(aD (t.take (k+1))).length=(aD (t.take k)).length+1:=by
 have hs:aD (t.take (k+1))=aD (t.take k)++[t[k]]:=by rw[mx h,cS,if_pos ⟨hn,hv⟩]
 unfold dY
 rw[hs]
 refine⟨?_,by simp⟩
 funext z
 by_cases b:z=t[k]
 ·subst b
  rw[if_pos (by simp),if_pos rfl,DV hv];simp
 rw[if_neg b]
 by_cases a:z∈aD (t.take k)
 ·rw[if_pos (by simp[a]),if_pos a,v8 a]
 rw[if_neg (by simp[a,b]),if_neg a]
theorem nU{t:List Int}{k:Nat}{x:Int}(hx:x∈aD (t.take k)):dY t k x=some (bO (aD t) x):=by
 unfold dY bO
 have a:=(mem_varsC.1 hx).2
 rw[if_pos hx,if_neg (by omega),DY (IT t k) hx]
def dz(f:Int→Int)(t:List Int)(k:Nat):List Int:=(t.take k).map f++t.drop k
theorem pZ(f:Int→Int)(t:List Int):dz f t 0=t:=by simp[dz]
theorem pY(f:Int→Int)(t:List Int)(k:Nat)(h:t.length≤k):dz f t k=t.map f:=by
 unfold dz;rw[List.take_of_length_le h,List.drop_eq_nil_of_le h,List.append_nil]
theorem eZ(f:Int→Int)(t:List Int)(k:Nat):(dz f t k).length=t.length:=by simp[dz];omega
theorem nr{f:Int→Int}{t:List Int}{k:Nat}(h:k<t.length):(dz f t k).set k (f t[k])=dz f t (k+1):=by
 unfold dz
 rw[List.set_append_right _ _ (by simp;exact Nat.min_le_left ..)]
 simp only[List.length_map,List.length_take,Nat.min_eq_left (Nat.le_of_lt h),Nat.sub_self]
 rw[List.drop_eq_getElem_cons h,List.set_cons_zero,List.take_succ_eq_append_getElem h,List.map_append]
 simp
theorem uq{f:Int→Int}{t:List Int}{k:Nat}(h:k<t.length)(hf:f t[k]=t[k]):dz f t k=dz f t (k+1):=by
 unfold dz
 rw[List.drop_eq_getElem_cons h,List.take_succ_eq_append_getElem h,List.map_append]
 simp[hf]
theorem uo{f:Int→Int}{t:List Int}{k:Nat}(h:k<t.length):(dz f t k)[k]'(by rw[eZ];exact h)=t[k]:=by
 unfold dz
 rw[List.getElem_append_right (by simp;exact Nat.min_le_left ..)]
 simp[Nat.min_eq_left (Nat.le_of_lt h)]
theorem iT{v:List Int}{n:Int}(h:0≤n):bO v n=n:=by rw[bO,if_pos h]
theorem jA{v:List Int}{n:Int}(h:n<0):bO v n=-(v.idxOf n:Int)-1:=by rw[bO,if_neg (by omega)]
theorem BM{v:List Int}{n:Int}:bO v n=n∨(-(v.length:Int)-1≤bO v n∧bO v n≤-1):=by
 unfold bO
 split
 ·exact .inl rfl
 have:=List.idxOf_le_length (l:=v) (a:=n)
 right;omega
def dF(n:Int):Int:=-n-1
def ig(t:List Int):List Int:=(aD t).map dF
theorem IW{a b:Int}(h:dF a=dF b):a=b:=by unfold dF at h;omega
theorem EW{l:List Int}{x:Int}:dF x∈l.map dF↔x∈l:=by
 rw[List.mem_map]
 constructor
 ·rintro⟨y,hy,a⟩;rw[←IW a];exact hy
 intro h;exact⟨x,h,rfl⟩
def su(t:List Int):Prop:=∀x∈t,-1000000≤x∧x≤1000000
theorem rX(s:Sg)(k:Nat)(l:List Int)(h:aJ s k l=some []):∀x∈l,br s x=true:=by
 induction l generalizing k with
 |nil=>intro x hx;simp at hx
 |cons n r b=>cases k with
  |zero=>simp[dQ]at h
  |succ k=>
   rw[eu]at h
   split at h
   ·rename_i a
    intro x hx
    rcases List.mem_cons.1 hx with rfl|hx
    ·exact a
    exact b _ h x hx
   cases h
theorem bj{s:Sg}{t:List Int}(h:aw s t=true):aH s=true∧1≤t.length∧t.length≤60∧aJ s 1 t=some []:=by
 simp only[aw,Bool.and_eq_true,decide_eq_true_eq]at h
 exact⟨h.1.1,h.1.2.1,h.1.2.2,h.2⟩
theorem og{s:Sg}(h:aH s=true):1≤s.length∧s.length≤12:=by
 simp only[aH,Bool.and_eq_true,decide_eq_true_eq]at h
 exact⟨h.1.1.1.1,h.1.1.1.2⟩
theorem tX{s:Sg}(hs:aH s=true){x:Int}(h:br s x=true):-12≤x∧x≤11:=by
 have:=og hs
 simp only[br,Bool.or_eq_true,decide_eq_true_eq]at h
 omega
theorem FM{s:Sg}{t:List Int}(h:aw s t=true):su t:=by
 obtain⟨a,_,_,b⟩:=bj h
 intro x hx
 have:=tX a (rX s 1 t b x hx)
 omega
theorem om{s:Sg}{t:List Int}(h:aw s t=true):t≠ []:=by
 obtain⟨_,a,_⟩:=bj h
 intro e;subst e;simp at a
def gi(t:List Int)(j:Nat)(x:Int):Int:=if x∈(aD t).take j then bO (aD t) x else x
theorem E9(t:List Int)(x:Int):gi t 0 x=x:=by simp[gi]
theorem DW{l:List Int}(h:l.Nodup){j:Nat}(hj:j<l.length):l.idxOf l[j]=j:=by
 exact List.Nodup.idxOf_getElem h j hj
theorem E7{t:List Int}{j:Nat}(hj:j<(aD t).length):gi t (j+1) (aD t)[j]=-(j:Int)-1:=by
 have a:(aD t)[j]∈(aD t).take (j+1):=List.mem_take_iff_getElem.2 ⟨j,by omega,rfl⟩
 unfold gi
 rw[if_pos a,jA (mem_varsC.1 (List.getElem_mem hj)).2,DW (zY t) hj]
theorem E8{t:List Int}{j:Nat}{x:Int}(hj:j<(aD t).length)(h:x≠(aD t)[j]):gi t (j+1) x=gi t j x:=by
 unfold gi
 have:x∈(aD t).take (j+1)↔x∈(aD t).take j:=by
  rw[List.take_succ_eq_append_getElem hj,List.mem_append,List.mem_singleton]
  exact⟨fun a=>a.resolve_right h, .inl⟩
 by_cases hx:x∈(aD t).take j
 ·rw[if_pos hx,if_pos (this.2 hx)]
 rw[if_neg hx,if_neg (fun e=>hx (this.1 e))]
theorem E6{t:List Int}{j:Nat}{x:Int}(hj:(aD t).length≤j)(hx:x∈t):gi t j x=bO (aD t) x:=by
 unfold gi
 rw[List.take_of_length_le hj]
 split
 ·rfl
 rename_i h
 have:¬x<0:=fun a=>h (mem_varsC.2 ⟨hx,a⟩)
 rw[iT (by omega)]
theorem CD{f:Int→Int}{t:List Int}{k:Nat}(h:k<t.length):(dz f t k).set k t[k]=dz f t k:=by
 have a:k<(dz f t k).length:=by rw[eZ];exact h
 have:=uo (f:=f) h
 rw[←this,List.set_getElem_self]
theorem IU{t:List Int}{j:Nat}(h:j<(ig t).length):(ig t)[j]=dF ((aD t)[j]'(by simpa[ig]using h)):=by
 simp[ig]
theorem nf{v:List Int}{n:Int}(h:n<0):bO v n<0:=by rw[jA h];omega
theorem C0(f:Int→Int)(t:List Int)(hneg:∀x∈t,(x<0↔f x<0))(acc:List Int)(hinj:∀x∈t,∀y,(y∈acc∨y∈t)→x<0→y<0→f x=f y→x=y)(hacc:∀y∈acc,y<0):
  (t.map f).foldl cS (acc.map f)=(t.foldl cS acc).map f:=by
 induction t generalizing acc with
 |nil=>rfl
 |cons n r i=>
  rw[List.map_cons,List.foldl_cons,List.foldl_cons]
  have e:cS (acc.map f) (f n)=(cS acc n).map f:=by
   by_cases h:n<0
   ·by_cases c:n∈acc
    ·have a:cS (acc.map f) (f n)=acc.map f:=if_neg (fun e=>e.2 (List.mem_map.2 ⟨n,c,rfl⟩))
     have b:cS acc n=acc:=if_neg (fun e=>e.2 c)
     rw[a,b]
    have a:cS (acc.map f) (f n)=acc.map f++[f n]:=if_pos ⟨(hneg n (by simp)).1 h,fun e=>by
     obtain⟨y,hy,g⟩:=List.mem_map.1 e
     exact c (hinj n (by simp) y (.inl hy) h (hacc y hy) g.symm▸hy)⟩
    have b:cS acc n=acc++[n]:=if_pos ⟨h,c⟩
    rw[a,b,List.map_append];rfl
   have a:cS (acc.map f) (f n)=acc.map f:=if_neg (fun e=>h ((hneg n (by simp)).2 e.1))
   have b:cS acc n=acc:=if_neg (fun e=>h e.1)
   rw[a,b]
  rw[e]
  refine i (fun x hx=>hneg x (by simp[hx])) (cS acc n) (fun x hx y hy=>hinj x (by simp[hx]) y ?_) ?_
  ·rcases hy with hy|hy
   ·rcases addV_mem.1 hy with h|h
    ·exact .inl h
    exact .inr (by simp[h.1])
   exact .inr (by simp[hy])
  intro y hy
  rcases addV_mem.1 hy with h|h
  ·exact hacc y h
  rw[h.1];exact h.2
theorem zX(f:Int→Int)(t:List Int)(hneg:∀x∈t,(x<0↔f x<0))(hinj:∀x∈t,∀y∈t,x<0→y<0→f x=f y→x=y):aD (t.map f)=(aD t).map f:=
 C0 f t hneg [] (fun x hx y hy=>hinj x hx y (hy.resolve_left (by simp))) (by simp)
theorem DX(f:Int→Int)(v:List Int)(x:Int)(hx:x∈v)(hinj:∀y∈v,f x=f y→x=y):(v.map f).idxOf (f x)=v.idxOf x:=by
 induction v with
 |nil=>simp at hx
 |cons y r i=>
  rw[List.map_cons]
  by_cases h:x=y
  ·subst h;simp
  have c:f x≠f y:=fun e=>h (hinj y (by simp) e)
  have a:(f y==f x)=false:=by simpa using fun e=>c e.symm
  have b:(y==x)=false:=by simpa using fun e=>h e.symm
  rw[List.idxOf_cons,List.idxOf_cons,a,b,cond_false,cond_false,i ((List.mem_cons.1 hx).resolve_left h) (fun z g=>hinj z (by simp[g]))]
theorem IS{t:List Int}:∀x∈aD t,x<0:=fun _ hx=>(mem_varsC.1 hx).2
theorem BQ(f:Int→Int)(t:List Int)(hpos:∀x∈t,0≤x→f x=x)(hneg:∀x∈t,x<0→f x<0)(hinj:∀x∈t,∀y∈t,x<0→y<0→f x=f y→x=y):cz (t.map f)=cz t:=by
 have a:∀x∈t,(x<0↔f x<0):=fun x hx=>⟨hneg x hx,fun h=>Classical.byContradiction (fun c=>by rw[hpos x hx (by omega)]at h;omega)⟩
 unfold cz
 rw[zX f t a hinj,List.map_map]
 apply List.map_congr_left
 intro x hx
 rw[Function.comp]
 by_cases h:x<0
 ·rw[jA h,jA (hneg x hx h)]
  have b:x∈aD t:=mem_varsC.2 ⟨hx,h⟩
  rw[DX f _ _ b (fun y hy=>hinj x hx y (mem_varsC.1 hy).1 h (mem_varsC.1 hy).2)]
 rw[hpos x hx (by omega),iT (by omega),iT (by omega)]
theorem HB(s:Sg)(f:Int→Int)(t:List Int)(h:∀x∈t,br s (f x)=br s x∧ar s (f x)=ar s x):∀k,aJ s k (t.map f)=(aJ s k t).map (List.map f):=by
 induction t with
 |nil=>intro k;cases k<;>rfl
 |cons n r a=>
  intro k
  cases k with
  |zero=>rw[dQ,dQ];rfl
  |succ k=>
   rw[List.map_cons,eu,eu,(h n (by simp)).1,(h n (by simp)).2]
   split
   ·exact a (fun x hx=>h x (by simp[hx])) _
   rfl
theorem iP{s:Sg}{x:Int}(h:x<0):ar s x=0:=by
 unfold ar dv
 split
 ·rfl
 rw[if_neg (by omega)];rfl
theorem tY{s:Sg}{x:Int}(h:x<0):br s x=decide (-12≤x):=by
 rw[Bool.eq_iff_iff];simp[br];omega
theorem xz:∀(n:Nat) (l:List Nat),l.Nodup→(∀x∈l,x<n)→l.length≤n
 |0,l,_,hb=>by
  cases l with
  |nil=>simp
  |cons x r=>have:=hb x (by simp);omega
 |n+1,l,b,hb=>by
  have a:=xz n (l.erase n) (b.erase n) (fun x hx=>by
   have f:=(b.mem_erase_iff).1 hx
   have:=hb x f.2
   omega)
  by_cases c:n∈l
  ·rw[List.length_erase_of_mem c]at a;omega
  rw[List.erase_of_not_mem c]at a;omega
theorem IR{s:Sg}{t:List Int}(h:∀x∈t,br s x=true):(aD t).length≤12:=by
 have f:((aD t).map (fun x=>(-x-1).toNat)).Nodup:=by
  unfold List.Nodup
  rw[List.pairwise_map]
  refine List.Pairwise.imp_of_mem ?_ (zY t)
  intro a b ha j c e
  have f:=(mem_varsC.1 ha).2
  have g:=(mem_varsC.1 j).2
  exact c (by omega)
 have g:=xz 12 _ f (fun x hx=>by
  obtain⟨y,hy,rfl⟩:=List.mem_map.1 hx
  have i:=mem_varsC.1 hy
  have:=h y i.1
  rw[tY i.2,decide_eq_true_eq]at this
  omega)
 simpa using g
theorem BO{s:Sg}{t:List Int}(h:∀x∈t,br s x=true):∀x∈t,br s (bO (aD t) x)=br s x∧ar s (bO (aD t) x)=ar s x:=by
 intro x hx
 by_cases a:x<0
 ·have b:=nf (v:=aD t) a
  rw[iP b,iP a,h x hx,tY b,jA a]
  have c:=IR h
  have:=List.idxOf_lt_length_iff.2 (mem_varsC.2 ⟨hx,a⟩)
  refine⟨decide_eq_true (by omega),rfl⟩
 rw[iT (by omega)];exact⟨rfl,rfl⟩
theorem FI{s:Sg}{t:List Int}(h:aw s t=true):aw s (cz t)=true:=by
 obtain⟨b,c,f,a⟩:=bj h
 have g:=rX s 1 t a
 have:=HB s (bO (aD t)) t (BO g) 1
 rw[a]at this
 unfold aw
 rw[b]
 have i:(cz t).length=t.length:=by simp[cz]
 rw[i,decide_eq_true c,decide_eq_true f]
 rw[decide_eq_true (by simpa[cz]using this)];rfl
def bR(s:Sg)(l:List Int):List Int:=l.take (l.length-((aJ s 1 l).getD []).length)
def bG(s:Sg):Nat→List Int→List (List Int)
 |0,_=>[]
 |k+1,l=>bR s l::bG s k ((aJ s 1 l).getD [])
def fk(s:Sg)(n:Nat):Nat→List Int→List Int
 |0,_=>[]
 |k+1,l=>((n-l.length:Nat):Int)::fk s n k ((aJ s 1 l).getD [])
def bd(s:Sg)(t:List Int):List (List Int):=match t with| []=>[]|n::r=>bG s (ar s n) r
theorem jl{s:Sg}{l r:List Int}(h:aJ s 1 l=some r):l=bR s l++r∧aJ s 1 (bR s l)=some []∧1≤(bR s l).length:=by
 obtain⟨u,rfl,b,a⟩:=rY s 1 l r h
 have:bR s (u++r)=u:=by
  unfold bR
  rw[h];simp
 rw[this];exact⟨rfl,b,a⟩
theorem xO{s:Sg}{l r:List Int}(h:aJ s 1 l=some r):(bR s l).length=l.length-r.length:=by
 obtain⟨a,_,_⟩:=jl h
 have:l.length=(bR s l).length+r.length:=by rw[←List.length_append,←a]
 omega
theorem kE{s:Sg}{k:Nat}{l r:List Int}(h:aJ s (k+1) l=some r):∃m,aJ s 1 l=some m∧aJ s k m=some r:=by
 rw[Nat.add_comm,oR]at h
 cases a:aJ s 1 l with
 |none=>rw[a]at h;cases h
 |some m=>rw[a]at h;exact⟨m,rfl,h⟩
theorem iG(s:Sg):∀(k:Nat) (l r:List Int),aJ s k l=some r→(bG s k l).length=k∧(bG s k l).flatten++r=l∧∀u∈bG s k l,aJ s 1 u=some []∧1≤u.length
 |0,l,r,h=>by
  rw[dQ]at h
  simp only[Option.some.injEq]at h
  exact⟨rfl,by rw[←h];rfl,fun u hu=>by simp[bG]at hu⟩
 |k+1,l,r,h=>by
  obtain⟨m,h1,h2⟩:=kE h
  obtain⟨a,b,c⟩:=iG s k m r h2
  obtain⟨f,g,i⟩:=jl h1
  unfold bG
  rw[h1]
  refine⟨by simp[a],?_,?_⟩
  ·rw[List.flatten_cons,List.append_assoc,Option.getD_some,b];exact f.symm
  intro u hu
  rcases List.mem_cons.1 hu with rfl|hu
  ·exact⟨g,i⟩
  exact c u hu
theorem gG{s:Sg}{t:List Int}(h:aw s t=true):∃n r,t=n::r∧br s n=true∧aJ s (ar s n) r=some []:=by
 obtain⟨f,b,g,a⟩:=bj h
 cases t with
 |nil=>simp at b
 |cons n r=>
  rw[eu]at a
  split at a
  ·rename_i c;exact⟨n,r,rfl,c,by simpa using a⟩
  cases a
theorem gC{l:List (List Int)}{u:List Int}(h:u∈l):u.length≤l.flatten.length:=by
 induction l with
 |nil=>simp at h
 |cons x r a=>
  rw[List.flatten_cons,List.length_append]
  rcases List.mem_cons.1 h with rfl|h
  ·omega
  have:=a h;omega
theorem fg{s:Sg}{t:List Int}(h:aw s t=true):(bd s t).length=ar s (t.headD 0)∧t=t.headD 0::(bd s t).flatten∧∀u∈bd s t,aw s u=true:=by
 obtain⟨n,r,rfl,o,hs⟩:=gG h
 obtain⟨j,l,k,m⟩:=bj h
 obtain⟨c,a,f⟩:=iG s (ar s n) r [] hs
 refine⟨c,?_,?_⟩
 ·show n::r=n::(bG s (ar s n) r).flatten
  rw[List.append_nil]at a;rw[a]
 intro u b
 obtain⟨g,i⟩:=f u b
 have p:u.length≤r.length:=by
  rw[List.append_nil]at a
  rw[←a]
  exact gC b
 simp at k
 unfold aw
 rw[j,decide_eq_true i,decide_eq_true (by omega),decide_eq_true g];rfl
theorem oo{s:Sg}{u:List Int}(hs:aH s=true)(h:aJ s 1 u=some [])(hl:u.length≤60):aw s u=true:=by
 have a:1≤u.length:=by have:=iE s 1 u [] h;simpa using this
 unfold aw
 rw[hs,decide_eq_true a,decide_eq_true hl,decide_eq_true h];rfl
theorem zh{s:Sg}:∀(l:List (List Int)) (x:List Int),(∀u∈l,aJ s 1 u=some [])→bG s l.length (l.flatten++x)=l
 | [],_,_=>rfl
 |u::l,x,h=>by
  have hu:=h u (by simp)
  have a:=HA s 1 u (l.flatten++x) [] hu
  rw[List.nil_append]at a
  rw[List.length_cons,bG,List.flatten_cons,List.append_assoc,a,Option.getD_some,zh l x (fun v b=>h v (by simp[b]))]
  congr 1
  unfold bR
  rw[a];simp
theorem yZ{s:Sg}{k:Nat}{l r:List Int}(h:aJ s (k+1) l=some r):∃n x,l=n::x∧br s n=true∧aJ s (k+ar s n) x=some r:=by
 cases l with
 |nil=>simp[jY]at h
 |cons n x=>
  rw[eu]at h
  split at h
  ·exact⟨n,x,rfl,‹_›,h⟩
  cases h
theorem ic{s:Sg}{k p:Nat}{t r:List Int}(h:aJ s (k+1) (t.drop p)=some r):∃hp:p<t.length,br s t[p]=true∧aJ s (k+ar s t[p]) (t.drop (p+1))=some r:=by
 obtain⟨n,x,hx,a,hs⟩:=yZ h
 have hp:p<t.length:=by
  rcases Nat.lt_or_ge p t.length with h|h
  ·exact h
  rw[List.drop_eq_nil_of_le h]at hx;cases hx
 rw[List.drop_eq_getElem_cons hp]at hx
 simp only[List.cons.injEq]at hx
 obtain⟨rfl,rfl⟩:=hx
 exact⟨hp,a,hs⟩
theorem rz(s:Sg)(n:Nat):∀k l,(fk s n k l).length=k
 |0,_=>rfl
 |k+1,l=>by unfold fk;rw[List.length_cons,rz s n k]
theorem HN{s:Sg}{k:Nat}{l x:List Int}(h:aJ s k l=some []):bG s k (l++x)=bG s k l:=by
 obtain⟨b,a,c⟩:=iG s k l [] h
 rw[List.append_nil]at a
 have:=zh (s:=s) (bG s k l) x (fun u f=>(c u f).1)
 rw[b,a]at this
 exact this
theorem xS(s:Sg)(t:List Int):∀(k q:Nat) (r:List Int),q≤t.length→aJ s k (t.drop q)=some r→∀j,j<k→
  ∃z rest,(fk s t.length k (t.drop q))[j]?=some ((z:Nat):Int)∧aJ s 1 (t.drop z)=some rest∧(bG s k (t.drop q))[j]?=some (bR s (t.drop z))∧z=q+((bG s k (t.drop q)).take j).flatten.length
 |0,_,_,_,_,j,hj=>by omega
 |k+1,q,r,hq,hs,j,hj=>by
  obtain⟨m,h1,h2⟩:=kE hs
  cases j with
  |zero=>
   refine⟨q,m,?_,h1,?_,by simp⟩
   ·simp[fk];omega
   simp[bG]
  |succ j=>
   obtain⟨-,b,n,l⟩:=kp s t q m h1
   have a:=xO h1
   rw[List.length_drop]at a
   have c:=xS s t k (t.length-m.length) r l (by rw[b];exact h2) j (by omega)
   rw[b]at c
   obtain⟨z,rest,f,g,h,i⟩:=c
   refine⟨z,rest,?_,g,?_,?_⟩
   ·rw[fk,h1];simpa using f
   ·rw[bG,h1];simpa using h
   rw[bG,h1,List.take_succ_cons,List.flatten_cons,List.length_append,a,Option.getD_some,i];omega
def sub(s:Sg):List Int→List Int→Option (List Int)
 | [],u=>some u
 |k::ks,u=>if 0≤k then((bd s u)[k.toNat]?).bind (sub s ks)else none
theorem xP{s:Sg}{t rest:List Int}{a:Nat}(h:aJ s 1 (t.drop a)=some rest):
  bd s (bR s (t.drop a))=bG s (ar s (t.getD a 0)) (t.drop (a+1))∧aJ s (ar s (t.getD a 0)) (t.drop (a+1))=some rest∧(bd s (bR s (t.drop a))).length=ar s (t.getD a 0)∧a<t.length:=by
 obtain⟨b,m,hs⟩:=ic (k:=0) h
 have g:t.getD a 0=t[a]:=by simp[b]
 rw[g]
 rw[Nat.zero_add]at hs
 obtain⟨f,j,-⟩:=jl h
 obtain⟨n,x,hx,-,c⟩:=yZ (k:=0) j
 rw[Nat.zero_add]at c
 rw[hx,List.cons_append,List.drop_eq_getElem_cons b]at f
 simp only[List.cons.injEq]at f
 obtain⟨l,hd⟩:=f
 have i:bd s (bR s (t.drop a))=bG s (ar s t[a]) (t.drop (a+1)):=by
  rw[hx,l,hd,HN c];rfl
 refine⟨i,hs,?_,b⟩
 rw[i];exact(iG s _ _ _ hs).1
end Go.Proofs.YtlejmeegkpdabaaGreatDoor
