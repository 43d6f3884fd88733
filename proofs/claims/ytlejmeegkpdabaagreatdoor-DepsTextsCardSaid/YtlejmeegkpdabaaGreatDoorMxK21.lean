/- The proof of a statement, some of its texts joined in build order: part K21. -/
import Derived.Test.YtlejmeegkpdabaaGreatDoorMxK2
namespace Go.Proofs.YtlejmeegkpdabaaGreatDoor
def cw(s:Sg)(n:Int):Bool:=decide (n<s.length)
def dw(s:Sg)(n:Int):Nat:=if n<0 then 0 else(s.getD n.toNat default).2.toNat
def bH(s:Sg):Nat→List Int→Option (List Int)
 |0,l=>some l
 |_+1,[]=>none
 |k+1,n::r=>if cw s n then bH s (k+dw s n) r else none
theorem eG(s:Sg)(l:List Int):bH s 0 l=some l:=by cases l<;>rfl
theorem j0(s:Sg)(k:Nat):bH s (k+1) []=none:=rfl
theorem ft(s:Sg)(k:Nat)(n:Int)(r:List Int):bH s (k+1) (n::r)=if cw s n then bH s (k+dw s n) r else none:=rfl
theorem y8(s:Sg)(j k:Nat)(l:List Int):bH s (j+k) l=(bH s j l).bind (bH s k):=by
 induction l generalizing j with
 |nil=>cases j with
  |zero=>simp[eG]
  |succ j=>rw[show j+1+k=(j+k)+1 by omega];rfl
 |cons n r a=>cases j with
  |zero=>simp[eG]
  |succ j=>
   rw[show j+1+k=(j+k)+1 by omega,ft,ft]
   split
   ·rw[show j+k+dw s n=j+dw s n+k by omega,a]
   rfl
theorem oT(s:Sg)(k:Nat)(l x:List Int)(r:List Int)(h:bH s k l=some r):bH s k (l++x)=some (r++x):=by
 induction l generalizing k with
 |nil=>cases k with
  |zero=>simp only[eG,Option.some.injEq]at h⊢;rw[←h]
  |succ k=>simp[j0]at h
 |cons n t a=>cases k with
  |zero=>simp only[eG,Option.some.injEq]at h⊢;rw[←h]
  |succ k=>
   rw[ft]at h
   rw[List.cons_append,ft]
   split at h
   ·rw[if_pos ‹_›];exact a _ h
   cases h
theorem zb(s:Sg)(k:Nat)(l r:List Int)(h:bH s k l=some r):∃u,l=u++r∧bH s k u=some []∧k≤u.length:=by
 induction l generalizing k with
 |nil=>cases k with
  |zero=>simp only[eG,Option.some.injEq]at h;subst h;exact⟨[],rfl,rfl,Nat.le_refl _⟩
  |succ k=>simp[j0]at h
 |cons n t c=>cases k with
  |zero=>simp only[eG,Option.some.injEq]at h;subst h;exact⟨[],rfl,rfl,Nat.zero_le _⟩
  |succ k=>
   rw[ft]at h
   split at h
   ·rename_i a
    obtain⟨u,rfl,b,f⟩:=c _ h
    exact⟨n::u,rfl,by rw[ft,if_pos a,b],by simp;omega⟩
   cases h
theorem rZ(s:Sg)(k:Nat)(l r:List Int)(h:bH s k l=some r):r.length+k≤l.length:=by
 obtain⟨u,rfl,_,a⟩:=zb s k l r h
 simp;omega
def dM(s:Sg)(l:List Int):List Int:=l.take (l.length-((bH s 1 l).getD []).length)
def j8(s:Sg):Nat→List Int→List (List Int)
 |0,_=>[]
 |k+1,l=>dM s l::j8 s k ((bH s 1 l).getD [])
def bc(s:Sg)(t:List Int):List (List Int):=match t with| []=>[]|n::r=>j8 s (dw s n) r
theorem ov{s:Sg}{l r:List Int}(h:bH s 1 l=some r):l=dM s l++r∧bH s 1 (dM s l)=some []∧1≤(dM s l).length:=by
 obtain⟨u,rfl,b,a⟩:=zb s 1 l r h
 have:dM s (u++r)=u:=by
  unfold dM
  rw[h];simp
 rw[this];exact⟨rfl,b,a⟩
theorem FX{s:Sg}{l r:List Int}(h:bH s 1 l=some r):(dM s l).length=l.length-r.length:=by
 obtain⟨a,_,_⟩:=ov h
 have:l.length=(dM s l).length+r.length:=by rw[←List.length_append,←a]
 omega
theorem r8{s:Sg}{k:Nat}{l r:List Int}(h:bH s (k+1) l=some r):∃m,bH s 1 l=some m∧bH s k m=some r:=by
 rw[Nat.add_comm,y8]at h
 cases a:bH s 1 l with
 |none=>rw[a]at h;cases h
 |some m=>rw[a]at h;exact⟨m,rfl,h⟩
theorem zk(s:Sg):∀(k:Nat) (l r:List Int),bH s k l=some r→(j8 s k l).length=k∧(j8 s k l).flatten++r=l∧∀u∈j8 s k l,bH s 1 u=some []∧1≤u.length
 |0,l,r,h=>by
  rw[eG]at h
  simp only[Option.some.injEq]at h
  exact⟨rfl,by rw[←h];rfl,fun u hu=>by simp[j8]at hu⟩
 |k+1,l,r,h=>by
  obtain⟨m,h1,h2⟩:=r8 h
  obtain⟨a,b,c⟩:=zk s k m r h2
  obtain⟨f,g,i⟩:=ov h1
  unfold j8
  rw[h1]
  refine⟨by simp[a],?_,?_⟩
  ·rw[List.flatten_cons,List.append_assoc,Option.getD_some,b];exact f.symm
  intro u hu
  rcases List.mem_cons.1 hu with rfl|hu
  ·exact⟨g,i⟩
  exact c u hu
theorem HD{s:Sg}{k:Nat}{l r:List Int}(h:bH s (k+1) l=some r):∃n x,l=n::x∧cw s n=true∧bH s (k+dw s n) x=some r:=by
 cases l with
 |nil=>simp[j0]at h
 |cons n x=>
  rw[ft]at h
  split at h
  ·exact⟨n,x,rfl,‹_›,h⟩
  cases h
theorem jZ{s:Sg}{k p:Nat}{t r:List Int}(h:bH s (k+1) (t.drop p)=some r):∃hp:p<t.length,cw s t[p]=true∧bH s (k+dw s t[p]) (t.drop (p+1))=some r:=by
 obtain⟨n,x,hx,a,hs⟩:=HD h
 have hp:p<t.length:=by
  rcases Nat.lt_or_ge p t.length with h|h
  ·exact h
  rw[List.drop_eq_nil_of_le h]at hx;cases hx
 rw[List.drop_eq_getElem_cons hp]at hx
 simp only[List.cons.injEq]at hx
 obtain⟨rfl,rfl⟩:=hx
 exact⟨hp,a,hs⟩
abbrev W1 (s:Sg) (t:List Int):Prop:=bH s 1 t=some []
theorem tZ{s:Sg}{n:Int}(h:br s n=true):cw s n=true∧ar s n=dw s n:=by
 simp[br]at h
 unfold cw dw ar dv
 rcases h with h|h
 ·refine⟨by simp;omega,?_⟩
  rw[if_pos h,if_pos (by omega)];rfl
 refine⟨by simp;omega,?_⟩
 rw[if_neg (by omega),if_pos h,if_neg (by omega)]
theorem za{s:Sg}:∀{k:Nat} {l r:List Int},aJ s k l=some r→bH s k l=some r
 |0,l,r,h=>by rw[dQ]at h;rw[eG];exact h
 |k+1,[],r,h=>by simp[jY]at h
 |k+1,n::l,r,h=>by
  rw[eu]at h
  split at h
  ·rename_i hc
   obtain⟨h1,h2⟩:=tZ hc
   rw[h2]at h
   rw[ft,if_pos h1];exact za h
  cases h
theorem fM{s:Sg}{t:List Int}(h:aw s t=true):W1 s t:=za (bj h).2.2.2
theorem W1.ne{s:Sg}{t:List Int}(h:W1 s t):t≠ []:=by intro e;subst e;simp[W1,j0]at h
theorem W1.len{s:Sg}{t:List Int}(h:W1 s t):1≤t.length:=by have:=rZ s 1 t [] h;simpa using this
theorem W1.var{s:Sg}{n:Int}(h:n<0):W1 s [n]:=by
 unfold W1
 rw[ft,if_pos (by unfold cw;simp;omega),Nat.zero_add,dw,if_pos h,eG]
theorem W1.uniq{s:Sg}{x y r r':List Int}(hx:W1 s x)(hy:W1 s y)(h:x++r=y++r'):x=y∧r=r':=by
 have a:=oT s 1 x r [] hx
 have b:=oT s 1 y r' [] hy
 rw[h,b,List.nil_append,List.nil_append,Option.some.injEq]at a
 subst a
 exact⟨List.append_cancel_right h,rfl⟩
theorem W1.args{s:Sg}{n:Int}{x:List Int}(h:W1 s (n::x)):(bc s (n::x)).length=dw s n∧(bc s (n::x)).flatten=x∧(∀u∈bc s (n::x),W1 s u)∧n<s.length:=by
 unfold W1 at h
 rw[ft]at h
 split at h
 ·rename_i f
  rw[Nat.zero_add]at h
  obtain⟨b,a,c⟩:=zk s (dw s n) x [] h
  rw[List.append_nil]at a
  exact⟨b,a,fun u g=>(c u g).1,by simpa[cw]using f⟩
 cases h
theorem W1.leaf{s:Sg}{n:Int}{x:List Int}(h:W1 s (n::x))(hn:n<0):x=[]:=by
 unfold W1 at h
 rw[ft]at h
 split at h
 ·rw[Nat.zero_add,dw,if_pos hn,eG]at h;simpa using h
 cases h
def ap(θ:Int→List Int)(t:List Int):List Int:=t.flatMap (fun n=>if n<0 then θ n else [n])
theorem ki(θ:Int→List Int):ap θ []=[]:=rfl
theorem cY{θ:Int→List Int}{n:Int}{r:List Int}(h:n<0):ap θ (n::r)=θ n++ap θ r:=by unfold ap;rw[List.flatMap_cons,if_pos h]
theorem bM{θ:Int→List Int}{n:Int}{r:List Int}(h:¬n<0):ap θ (n::r)=n::ap θ r:=by unfold ap;rw[List.flatMap_cons,if_neg h];rfl
theorem cZ{θ:Int→List Int}{n:Int}(h:n<0):ap θ [n]=θ n:=by rw[cY h,ki,List.append_nil]
theorem fx(θ:Int→List Int)(a b:List Int):ap θ (a++b)=ap θ a++ap θ b:=by unfold ap;rw[List.flatMap_append]
theorem mO(θ:Int→List Int)(l:List (List Int)):ap θ l.flatten=(l.map (ap θ)).flatten:=by
 induction l with
 |nil=>rfl
 |cons x r a=>rw[List.flatten_cons,fx,a,List.map_cons,List.flatten_cons]
theorem mN{θ η:Int→List Int}:∀{t:List Int},(∀n∈t,n<0→θ n=η n)→ap θ t=ap η t
 | [],_=>rfl
 |n::r,h=>by
  have ih:=mN (t:=r) (fun m b=>h m (by simp[b]))
  by_cases a:n<0
  ·rw[cY a,cY a,ih,h n (by simp) a]
  rw[bM a,bM a,ih]
theorem mQ{θ:Int→List Int}:∀{t:List Int},(∀n∈t,n<0→θ n=[n])→ap θ t=t
 | [],_=>rfl
 |n::r,h=>by
  have ih:=mQ (t:=r) (fun m b=>h m (by simp[b]))
  by_cases a:n<0
  ·rw[cY a,ih,h n (by simp) a];rfl
  rw[bM a,ih]
theorem iO(θ η:Int→List Int)(t:List Int):ap η (ap θ t)=ap (fun n=>ap η (θ n)) t:=by
 induction t with
 |nil=>rfl
 |cons n r b=>
  by_cases a:n<0
  ·rw[cY a,fx,b,cY a]
  rw[bM a,bM a,b,bM a]
theorem mem_ap{θ:Int→List Int}{m:Int}:∀{t:List Int},m∈ap θ t↔(m∈t∧¬m<0)∨∃n∈t,n<0∧m∈θ n
 | []=>by simp[ki]
 |n::r=>by
  by_cases hn:n<0
  ·rw[cY hn,List.mem_append,mem_ap]
   constructor
   ·rintro(h|⟨h1,h2⟩|⟨k,h1,h2,h3⟩)
    ·exact .inr ⟨n,by simp,hn,h⟩
    ·exact .inl ⟨by simp[h1],h2⟩
    exact .inr ⟨k,by simp[h1],h2,h3⟩
   rintro(⟨h1,h2⟩|⟨k,h1,h2,h3⟩)
   ·rcases List.mem_cons.1 h1 with e|e
    ·subst e;exact(h2 hn).elim
    exact .inr (.inl ⟨e,h2⟩)
   rcases List.mem_cons.1 h1 with e|e
   ·subst e;exact .inl h3
   exact .inr (.inr ⟨k,e,h2,h3⟩)
  rw[bM hn,List.mem_cons,mem_ap]
  constructor
  ·rintro(h|⟨h1,h2⟩|⟨k,h1,h2,h3⟩)
   ·subst h;exact .inl ⟨by simp,hn⟩
   ·exact .inl ⟨by simp[h1],h2⟩
   exact .inr ⟨k,by simp[h1],h2,h3⟩
  rintro(⟨h1,h2⟩|⟨k,h1,h2,h3⟩)
  ·rcases List.mem_cons.1 h1 with e|e
   ·exact .inl e
   exact .inr (.inl ⟨e,h2⟩)
  rcases List.mem_cons.1 h1 with e|e
  ·subst e;exact(hn h2).elim
  exact .inr (.inr ⟨k,e,h2,h3⟩)
def bh(s:Sg)(θ:Int→List Int):Prop:=∀n,n<0→W1 s (θ n)
theorem y9{s:Sg}{θ:Int→List Int}(hθ:bh s θ):∀{t:List Int} {k:Nat} {r:List Int},bH s k t=some r→bH s k (ap θ t)=some (ap θ r)
 |t,0,r,h=>by rw[eG,Option.some.injEq]at h⊢;rw[h]
 | [],k+1,r,h=>by simp[j0]at h
 |n::t,k+1,r,h=>by
  rw[ft]at h
  split at h
  ·rename_i hc
   have ih:=y9 hθ h
   by_cases a:n<0
   ·rw[dw,if_pos a,Nat.add_zero]at ih
    rw[cY a,Nat.add_comm,y8,oT s 1 (θ n) (ap θ t) [] (hθ n a)]
    exact ih
   rw[bM a,ft,if_pos hc];exact ih
  cases h
theorem W1.ap{s:Sg}{θ:Int→List Int}(hθ:bh s θ){t:List Int}(h:W1 s t):W1 s (ap θ t):=y9 hθ h
theorem kW{s:Sg}{θ:Int→List Int}(hθ:bh s θ):∀(t:List Int),t.length≤(ap θ t).length
 | []=>Nat.le_refl _
 |n::r=>by
  have ih:=kW hθ r
  by_cases a:n<0
  ·rw[cY a,List.length_append,List.length_cons];have:=(hθ n a).len;omega
  rw[bM a,List.length_cons,List.length_cons];omega
theorem mR{s:Sg}{θ:Int→List Int}(hθ:bh s θ):∀{t:List Int} {v:Int},v∈t→v<0→(θ v).length+t.length≤(ap θ t).length+1
 | [],v,h,_=>by simp at h
 |n::r,v,h,hv=>by
  by_cases hn:n<0
  ·rw[cY hn,List.length_append,List.length_cons]
   rcases List.mem_cons.1 h with e|e
   ·subst e;have:=kW hθ r;omega
   have:=mR hθ e hv;have:=(hθ n hn).len;omega
  rw[bM hn,List.length_cons,List.length_cons]
  rcases List.mem_cons.1 h with e|e
  ·subst e;exact(hn hv).elim
  have:=mR hθ e hv;omega
theorem uG{s:Sg}:∀{l m:List (List Int)},l.length=m.length→(∀u∈l,W1 s u)→(∀u∈m,W1 s u)→l.flatten=m.flatten→l=m
 | [],[],_,_,_,_=>rfl
 |x::l,y::m,h1,h2,h3,h4=>by
  rw[List.flatten_cons,List.flatten_cons]at h4
  obtain⟨e1,e2⟩:=W1.uniq (h2 x (by simp)) (h3 y (by simp)) h4
  rw[e1,uG (by simpa using h1) (fun u a=>h2 u (by simp[a])) (fun u a=>h3 u (by simp[a])) e2]
theorem tt{s:Sg}{θ:Int→List Int}(hθ:bh s θ){n:Int}{x y:List Int}(hx:W1 s (n::x))(hy:W1 s (n::y))(hn:0≤n):
  ap θ (n::x)=ap θ (n::y)↔(bc s (n::x)).map (ap θ)=(bc s (n::y)).map (ap θ):=by
 obtain⟨i,f,j,-⟩:=hx.args
 obtain⟨k,g,l,-⟩:=hy.args
 have a:¬n<0:=by omega
 rw[bM a,bM a,List.cons.injEq]
 constructor
 ·rintro⟨-,h⟩
  rw[←f,←g,mO,mO]at h
  refine uG (s:=s) (by simp[i,k]) (fun u b=> ?_) (fun u b=> ?_) h
  ·obtain⟨v,c,rfl⟩:=List.mem_map.1 b;exact(j v c).ap hθ
  obtain⟨v,c,rfl⟩:=List.mem_map.1 b;exact(l v c).ap hθ
 intro h
 refine⟨rfl,?_⟩
 rw[←f,←g,mO,mO,h]
abbrev Bd:=Int→Option (List Int)
def dJ(B:Bd)(η:Int→List Int):Prop:=∀n u,B n=some u→η n=ap η u
structure Slv (s:Sg) (B:Bd) (θ:Int→List Int) (ρ:Int→Nat):Prop where
 wf:∀n u,B n=some u→W1 s u∧n<0
 free:∀n,n<0→B n=none→θ n=[n]
 bnd:dJ B θ
 idem:∀n,n<0→∀m∈θ n,m<0→B m=none
 rk:∀n u,B n=some u→∀m∈u,m<0→ρ m<ρ n
 th:bh s θ
theorem Slv.empty(s:Sg):Slv s (fun _=>none) (fun n=>[n]) (fun _=>0):=
 ⟨fun _ _ h=>(by cases h),fun _ _ _=>rfl,fun _ _ h=>(by cases h),fun _ _ _ _ _=>rfl,fun _ _ h=>(by cases h),fun _ h=>W1.var h⟩
section
variable {s:Sg}{B:Bd}{θ:Int→List Int}{ρ:Int→Nat}
theorem Slv.most_var(h:Slv s B θ ρ){η:Int→List Int}(hη:dJ B η):∀(k:Nat) (n:Int),n<0→ρ n≤k→ap η (θ n)=η n
 |k,n,hn,hk=>by
  cases hB:B n with
  |none=>rw[h.free n hn hB,cZ hn]
  |some u=>
   rw[h.bnd n u hB,hη n u hB,iO]
   refine mN (fun m hm hm0=> ?_)
   have hr:=h.rk n u hB m hm hm0
   cases k with
   |zero=>omega
   |succ k=>exact h.most_var hη k m hm0 (by omega)
theorem Slv.most(h:Slv s B θ ρ){η:Int→List Int}(hη:dJ B η)(t:List Int):ap η (ap θ t)=ap η t:=by
 rw[iO]
 exact mN (fun n _ a=>h.most_var hη (ρ n) n a (Nat.le_refl _))
theorem Slv.idem_ap(h:Slv s B θ ρ)(t:List Int):∀m∈ap θ t,m<0→B m=none:=by
 intro m f a
 rcases mem_ap.1 f with⟨-,c⟩|⟨n,-,g,b⟩
 ·exact(c a).elim
 exact h.idem n g m b a
def bg(B:Bd)(v:Int)(q:List Int):Bd:=fun n=>if n=v then some q else B n
theorem Slv.bind(h:Slv s B θ ρ){v:Int}{q:List Int}(hv:v<0)(hB:B v=none)(hq:W1 s q)(hocc:v∉ap θ q):
  ∃θ' ρ',Slv s (bg B v q) θ' ρ':=by
 obtain⟨M,p⟩:∃M,∀m∈q,m<0→ρ m<M:=by
  clear hq hocc
  induction q with
  |nil=>exact⟨0,fun m g=>by simp at g⟩
  |cons x r D=>
   obtain⟨M,p⟩:=D
   refine⟨M+ρ x+1,fun m g b=> ?_⟩
   rcases List.mem_cons.1 g with e|e
   ·subst e;omega
   have:=p m e b;omega
 have C:∀x:List Int,v∉x→ap (fun n=>if n=v then ap θ q else [n]) x=x:=fun x hx=>mQ (fun n a _=>by
  rw[if_neg]
  intro e;subst e;exact hx a)
 have l:=h.free v hv hB
 refine⟨fun n=>ap (fun n=>if n=v then ap θ q else [n]) (θ n),fun n=>if v∈θ n then ρ n+M+1 else ρ n,?_,?_,?_,?_,?_,?_⟩
 ·intro n u a
  unfold bg at a
  split at a
  ·cases a;rename_i e;subst e;exact⟨hq,hv⟩
  exact h.wf n u a
 ·intro n a i
  unfold bg at i
  split at i
  ·cases i
  rename_i y
  rw[h.free n a i,cZ a,if_neg y]
 ·intro n u a
  unfold bg at a
  split at a
  ·rename_i e
   subst e
   cases a
   show ap _ (θ n)=_
   rw[l,cZ hv,if_pos rfl,←iO,C _ hocc]
  show ap _ (θ n)=_
  rw[←iO,h.bnd n u a]
 ·intro n a m g b
  have key:m≠v∧B m=none:=by
   rcases mem_ap.1 g with⟨-,z⟩|⟨k,t,A,f⟩
   ·exact(z b).elim
   by_cases c:k=v
   ·rw[if_pos c]at f
    exact⟨fun e=>hocc (e▸f),h.idem_ap q m f b⟩
   rw[if_neg c,List.mem_singleton]at f
   subst f
   exact⟨c,h.idem n a m t b⟩
  unfold bg
  rw[if_neg key.1];exact key.2
 ·intro n u a m g b
  unfold bg at a
  split at a
  ·rename_i e
   subst e
   cases a
   have w:n∉θ m:=fun e=>hocc (mem_ap.2 (.inr ⟨m,g,b,e⟩))
   have:=p m g b
   rw[if_neg w,if_pos (by rw[l];simp)];omega
  have hr:=h.rk n u a m g b
  have j:v∈θ m→v∈θ n:=fun e=>by rw[h.bnd n u a];exact mem_ap.2 (.inr ⟨m,g,b,e⟩)
  by_cases o:v∈θ m
  ·rw[if_pos o,if_pos (j o)];omega
  rw[if_neg o];split<;>omega
 intro n a
 refine(h.th n a).ap (fun k t=> ?_)
 by_cases c:k=v
 ·simp only[if_pos c];exact hq.ap h.th
 simp only[if_neg c];exact W1.var t
theorem yH{v:Int}{q:List Int}(hB:B v=none){η:Int→List Int}:dJ (bg B v q) η↔dJ B η∧η v=ap η q:=by
 constructor
 ·intro h
  refine⟨fun n u a=>h n u ?_,h v q (by simp[bg])⟩
  unfold bg
  rw[if_neg (fun e=>by rw[e,hB]at a;cases a)];exact a
 rintro⟨b,c⟩ n u a
 unfold bg at a
 split at a
 ·rename_i e;subst e;cases a;exact c
 exact b n u a
theorem Slv.occurs_no(h:Slv s B θ ρ){v:Int}{q:List Int}(hv:v<0)(hocc:v∈ap θ q)(hne:ap θ q≠ [v]){η:Int→List Int}(hw:bh s η)(hη:dJ B η):η v≠ap η q:=by
 intro e
 have a:=mR hw hocc hv
 rw[h.most hη q,←e]at a
 cases hx:ap θ q with
 |nil=>rw[hx]at hocc;simp at hocc
 |cons x r=>
  cases r with
  |nil=>
   rw[hx]at hocc hne
   simp at hocc
   subst hocc
   exact hne rfl
  |cons y r=>
   rw[hx]at a
   simp at a
end
theorem tu{s:Sg}{θ:Int→List Int}(hθ:bh s θ):∀{t:List Int},(ap θ t).length=t.length→∀n∈t,n<0→(θ n).length=1
 | [],_,n,hn,_=>by simp at hn
 |x::r,h,n,hn,hn0=>by
  have h1:=mR hθ hn hn0
  have a:=(hθ n hn0).len
  omega
def eS(θ:Int→List Int)(n:Int):Int:=if n<0 then(θ n).headD 0 else n
theorem pA{s:Sg}{θ:Int→List Int}(hθ:bh s θ):∀{t:List Int},(∀n∈t,n<0→(θ n).length=1)→ap θ t=t.map (eS θ)
 | [],_=>rfl
 |x::r,h=>by
  have ih:=pA hθ (t:=r) (fun n b=>h n (by simp[b]))
  by_cases hx:x<0
  ·have a:=h x (by simp) hx
   rw[cY hx,ih,List.map_cons,eS,if_pos hx]
   match c:θ x,a with
   | [y],_=>rfl
  rw[bM hx,ih,List.map_cons,eS,if_neg hx]
theorem pS{s:Sg}{θ1 θ2:Int→List Int}(h1:bh s θ1)(h2:bh s θ2){u1 u2:List Int}(e1:ap θ2 u1=u2)(e2:ap θ1 u2=u1):cz u1=cz u2∧u1.length=u2.length∧(aD u1).length=(aD u2).length:=by
 have u:=kW h2 u1
 have v:=kW h1 u2
 rw[e1]at u
 rw[e2]at v
 have k:u1.length=u2.length:=by omega
 have j:=pA h2 (tu h2 (t:=u1) (by rw[e1];exact k.symm))
 have m:=pA h1 (tu h1 (t:=u2) (by rw[e2];exact k))
 rw[e1]at j
 rw[e2]at m
 have f:∀n∈u1,eS θ1 (eS θ2 n)=n:=by
  have:u1.map (fun n=>eS θ1 (eS θ2 n))=u1.map id:=by
   rw[List.map_id,←Function.comp_def,←List.map_map,←j,←m]
  intro n q
  obtain⟨i,p,rfl⟩:=List.getElem_of_mem q
  have:=congrArg (fun l=>l[i]?) this
  simpa[p]using this
 have b:∀x∈u1,x<0→eS θ2 x<0:=by
  intro x hx r
  rcases Int.lt_or_le (eS θ2 x) 0 with h|h
  ·exact h
  have o:=f x hx
  rw[eS,if_neg (by omega)]at o
  omega
 have c:∀x∈u1,0≤x→eS θ2 x=x:=fun x _ h=>by rw[eS,if_neg (by omega)]
 have a:∀x∈u1,∀y∈u1,eS θ2 x=eS θ2 y→x=y:=fun x hx y hy e=>by rw[←f x hx,←f y hy,e]
 refine⟨?_,k,?_⟩
 ·rw[j];exact(BQ (eS θ2) u1 c b (fun x hx y hy _ _ e=>a x hx y hy e)).symm
 rw[j,zX (eS θ2) u1 (fun x hx=>⟨b x hx,fun h=>by
  rcases Int.lt_or_le x 0 with g|g
  ·exact g
  rw[c x hx g]at h;exact h⟩) (fun x hx y hy _ _ e=>a x hx y hy e),List.length_map]
theorem Slv.two{s:Sg}{B1 B2:Bd}{θ1 θ2:Int→List Int}{ρ1 ρ2:Int→Nat}(h1:Slv s B1 θ1 ρ1)(h2:Slv s B2 θ2 ρ2)(h12:dJ B2 θ1)(h21:dJ B1 θ2)(t:List Int):
  cz (ap θ1 t)=cz (ap θ2 t)∧(ap θ1 t).length=(ap θ2 t).length∧(aD (ap θ1 t)).length=(aD (ap θ2 t)).length:=
 pS h1.th h2.th (h1.most h21 t) (h2.most h12 t)
def IsMgu(s:Sg)(a b:List Int)(θ:Int→List Int):Prop:=∃B ρ,Slv s B θ ρ∧∀η,bh s η→(dJ B η↔ap η a=ap η b)
open Classical in
noncomputable def it(s:Sg)(a b:List Int):Option (Int→List Int):=if h:∃θ,IsMgu s a b θ then some (Classical.choose h)else none
theorem IsMgu.eq{s:Sg}{a b:List Int}{θ:Int→List Int}(h:IsMgu s a b θ):ap θ a=ap θ b:=by
 obtain⟨B,ρ,c,f⟩:=h;exact(f θ c.th).1 c.bnd
theorem IsMgu.most{s:Sg}{a b:List Int}{θ:Int→List Int}(h:IsMgu s a b θ){η:Int→List Int}(hw:bh s η)(he:ap η a=ap η b)(t:List Int):ap η (ap θ t)=ap η t:=by
 obtain⟨B,ρ,c,f⟩:=h;exact c.most ((f η hw).2 he) t
theorem IsMgu.th{s:Sg}{a b:List Int}{θ:Int→List Int}(h:IsMgu s a b θ):bh s θ:=by obtain⟨B,ρ,c,-⟩:=h;exact c.th
theorem IsMgu.two{s:Sg}{a b:List Int}{θ1 θ2:Int→List Int}(h1:IsMgu s a b θ1)(h2:IsMgu s a b θ2)(t:List Int):
  cz (ap θ1 t)=cz (ap θ2 t)∧(ap θ1 t).length=(ap θ2 t).length∧(aD (ap θ1 t)).length=(aD (ap θ2 t)).length:=
 pS h1.th h2.th (h1.most h2.th h2.eq t) (h2.most h1.th h1.eq t)
theorem E4{s:Sg}{a b:List Int}{θ:Int→List Int}(h:it s a b=some θ):IsMgu s a b θ:=by
 unfold it at h
 split at h
 ·rename_i hx;cases h;exact Classical.choose_spec hx
 cases h
theorem xh{s:Sg}{a b:List Int}(h:∀η,bh s η→ap η a≠ap η b):it s a b=none:=by
 unfold it
 rw[dif_neg]
 rintro⟨θ,c⟩
 exact h θ c.th c.eq
def eK(θ:Int→List Int)(t:List Int):List Int×Int:=if(ap θ t).length≤60∧(aD (ap θ t)).length≤12 then(cz (ap θ t),0)else([],4)
noncomputable def iL(s:Sg)(a b t:List Int):List Int×Int:=match it s a b with|some θ=>eK θ t|none=>([],8)
theorem sC{s:Sg}{a b:List Int}{θ:Int→List Int}(h:IsMgu s a b θ)(t:List Int):iL s a b t=eK θ t:=by
 unfold iL
 cases c:it s a b with
 |none=>unfold it at c;rw[dif_pos ⟨θ,h⟩]at c;cases c
 |some j=>
  obtain⟨f,g,i⟩:=h.two (E4 c) t
  simp only[eK,f,g,i]
theorem sB{s:Sg}{a b:List Int}(h:∀η,bh s η→ap η a≠ap η b)(t:List Int):iL s a b t=([],8):=by unfold iL;rw[xh h]
noncomputable def kf(s:Sg)(a b:List Int):Bool:=(it s a b).isSome
theorem IA{s:Sg}{a b:List Int}{θ:Int→List Int}(h:IsMgu s a b θ):kf s a b=true:=by
 unfold kf it;rw[dif_pos ⟨θ,h⟩];rfl
theorem Iz{s:Sg}{a b:List Int}(h:∀η,bh s η→ap η a≠ap η b):kf s a b=false:=by unfold kf;rw[xh h];rfl
end Go.Proofs.YtlejmeegkpdabaaGreatDoor
