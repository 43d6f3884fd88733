/- The proof of a statement, some of its texts joined in build order: part D. -/
import Derived.Test.YtlejmeegkpdabaaGreatDoorMxZ4
set_option maxHeartbeats 4000000
namespace Go.Proofs.YtlejmeegkpdabaaGreatDoor
open Go Go.RowKit Go.Maps
structure Slv2 (s:Sg) (B:Bd) (θ:Int→List Int) (ρ:Int→Nat) (a b:List Int) (B':Bd) (θ':Int→List Int) (ρ':Int→Nat):Prop where
 slv:Slv s B' θ' ρ'
 rg:eX B'
 sat:∀η,bh s η→(dJ B' η↔dJ B η∧ap η a=ap η b)
 less:(B'=B∧θ'=θ∧ρ'=ρ)∨free B'<free B
section
variable {s:Sg}{B:Bd}{θ:Int→List Int}{ρ:Int→Nat}{a b p q:List Int}
theorem W1.head_var{p:List Int}(h:W1 s p)(h0:p.headD 0<0):p=[p.headD 0]:=by
 cases p with
 |nil=>exact(h.ne rfl).elim
 |cons n x=>have:=h.leaf h0;subst this;rfl
theorem Slv2.same(h:Slv s B θ ρ)(hr:eX B)(ha:W1 s a)(hb:W1 s b)(hp:Lkd B a p)(hq:Lkd B b q)(h0:p.headD 0<0)(e:q.headD 0=p.headD 0):Slv2 s B θ ρ a b B θ ρ:=by
 refine⟨h,hr,fun η hw=>⟨fun hs=>⟨hs,?_⟩,fun hs=>hs.1⟩, .inl ⟨rfl,rfl,rfl⟩⟩
 have f:=(hp.spec h ha).1.head_var h0
 have g:=(hq.spec h hb).1.head_var (by omega)
 rw[←hp.eta hs ha (fun n u c=>(h.wf n u c).1),←hq.eta hs hb (fun n u c=>(h.wf n u c).1),f,g,e]
structure SlvK (s:Sg) (B:Bd) (θ:Int→List Int) (ρ:Int→Nat) (p q:List Int) (k:Nat) (B':Bd) (θ':Int→List Int) (ρ':Int→Nat):Prop where
 slv:Slv s B' θ' ρ'
 rg:eX B'
 sat:∀η,bh s η→(dJ B' η↔dJ B η∧((bc s p).take k).map (ap η)=((bc s q).take k).map (ap η))
 less:(B'=B∧θ'=θ∧ρ'=ρ)∨free B'<free B
theorem SlvK.start(h:Slv s B θ ρ)(hr:eX B):SlvK s B θ ρ p q 0 B θ ρ:=⟨h,hr,fun η _=>by simp, .inl ⟨rfl,rfl,rfl⟩⟩
theorem zx{x y:List (List Int)}{k:Nat}(f:List Int→List Int)(hx:k<x.length)(hy:k<y.length):(x.take (k+1)).map f=(y.take (k+1)).map f↔(x.take k).map f=(y.take k).map f∧f x[k]=f y[k]:=by
 rw[List.take_succ_eq_append_getElem hx,List.take_succ_eq_append_getElem hy,List.map_append,List.map_append]
 constructor
 ·intro h
  have:=List.append_inj h (by simp;omega)
  exact⟨this.1,by simpa using this.2⟩
 rintro⟨a,b⟩
 rw[a];simp[b]
theorem SlvK.step{k:Nat}{B1 B2:Bd}{θ1 θ2:Int→List Int}{ρ1 ρ2:Int→Nat}(h:SlvK s B θ ρ p q k B1 θ1 ρ1)(hx:k<(bc s p).length)(hy:k<(bc s q).length)(h2:Slv2 s B1 θ1 ρ1 (bc s p)[k] (bc s q)[k] B2 θ2 ρ2):
  SlvK s B θ ρ p q (k+1) B2 θ2 ρ2:=by
 refine⟨h2.slv,h2.rg,fun η hw=> ?_,?_⟩
 ·rw[h2.sat η hw,h.sat η hw,zx (ap η) hx hy,and_assoc]
 rcases h2.less with⟨a,b,c⟩|e
 ·rw[a,b,c];exact h.less
 rcases h.less with⟨f,-,-⟩|g
 ·rw[f]at e;exact .inr e
 exact .inr (by omega)
theorem SlvK.eq_args(h:Slv s B θ ρ)(ha:W1 s a)(hb:W1 s b)(hp:Lkd B a p)(hq:Lkd B b q)(h0:0≤p.headD 0)(e:q.headD 0=p.headD 0){η:Int→List Int}(hw:bh s η)(hs:dJ B η):
  ap η a=ap η b↔(bc s p).map (ap η)=(bc s q).map (ap η):=by
 obtain⟨f,i,j⟩:=hp.spec h ha
 obtain⟨g,k,l⟩:=hq.spec h hb
 rw[←hp.eta hs ha (fun n u c=>(h.wf n u c).1),←hq.eta hs hb (fun n u c=>(h.wf n u c).1)]
 cases p with
 |nil=>exact(f.ne rfl).elim
 |cons n x=>
  cases q with
  |nil=>exact(g.ne rfl).elim
  |cons m y=>
   simp only[List.headD_cons]at h0 e
   subst e
   exact tt hw f g h0
theorem SlvK.fail{k:Nat}{B1:Bd}{θ1:Int→List Int}{ρ1:Int→Nat}(h:Slv s B θ ρ)(ha:W1 s a)(hb:W1 s b)(hp:Lkd B a p)(hq:Lkd B b q)(h0:0≤p.headD 0)(e:q.headD 0=p.headD 0)
  (hk:SlvK s B θ ρ p q k B1 θ1 ρ1) (hx:k<(bc s p).length) (hy:k<(bc s q).length) (hf:∀η,bh s η→dJ B1 η→ap η (bc s p)[k]≠ap η (bc s q)[k]):
  ∀η,bh s η→dJ B η→ap η a≠ap η b:=by
 intro η hw hs g
 have f:=(SlvK.eq_args h ha hb hp hq h0 e hw hs).1 g
 have c:∀i,((bc s p).take i).map (ap η)=((bc s q).take i).map (ap η):=fun i=>by rw[List.map_take,List.map_take,f]
 exact hf η hw ((hk.sat η hw).2 ⟨hs,c k⟩) ((zx (ap η) hx hy).1 (c (k+1))).2
end
theorem nF(w:World)(row:Option Nat):w.grownBy w row:=⟨rfl,rfl,rfl,Nat.le_refl _,fun _ _ _=>rfl⟩
theorem iW{a w w':World}{row:Option Nat}(h:a.grownBy w row)(k:w.grownBy w' row):a.grownBy w' row:=
 ⟨k.os.trans h.os,k.tape.trans h.tape,k.output.trans h.output,Nat.le_trans h.size k.size,fun i b hr=>(k.block i (Nat.lt_of_lt_of_le b h.size) hr).trans (h.block i b hr)⟩
theorem jC{w w':World}{row:Option Nat}(hb:Below w.heap.size w w'):w.grownBy w' row:=⟨hb.os,hb.tape,hb.output,hb.size,fun i a _=>hb.block i a⟩
theorem Dd(w:World)(b i:Nat)(v:Value):w.grownBy (w.setCell ⟨b,i,none⟩ v) (some b):=
 ⟨rfl,rfl,rfl,by simp[World.setCell],fun k _ a=>Below.heap_setCell _ _ _ _ (fun e=>a (by simp[e]))⟩
theorem DP{w:World}{b i:Nat}{cs:Array Value}{T:TypeId}{fr:Nat×Nat}(hb:w.heap[b]?=some (.cells cs T fr))(v:Value):
  (w.setCell ⟨b,i,none⟩ v).heap[b]?=some (.cells (cs.setIfInBounds i v) T fr):=by
 simp[World.setCell,Array.getElem?_modify,hb]
theorem m7{w w1 w':World}{K b:Nat}(h1:Below K w w1)(h2:w1.grownBy w' (some b))(hK:K≤w1.heap.size)(hb:K≤b):Below K w w':=h1.grown h2 hK (fun k e=>by cases e;exact hb)
def SlotW(S:Nat→Prop)(w:World):Option (List Int)→Value→Prop
 |none,v=>v= .slice none 0 0
 |some u,v=>∃a c,v= .slice a u.length c∧Ints S w a c u
theorem SlotW.mono{S S':Nat→Prop}{w w':World}{o:Option (List Int)}{v:Value}(h:SlotW S w o v)(hS:∀b,b<w.heap.size→S b→S' b)(hA:Agree S w w'):SlotW S' w' o v:=by
 cases o with
 |none=>exact h
 |some u=>obtain⟨a,c,f,g⟩:=h;exact⟨a,c,f,g.mono hS hA⟩
section
variable {S S':Nat→Prop}{w w':World}{xb:Nat}{a1:Option Addr}{c1:Nat}{s:Sg}{B:Bd}
end
def MarkW(w:World)(db:Nat)(T:TypeId)(f:Nat→Value):Prop:=w.heap[db]?=some (.cells ((List.range 24).map f).toArray T (0,0))
section
variable {w w':World}{db:Nat}{T:TypeId}{f:Nat→Value}
theorem MarkW.lt(h:MarkW w db T f):db<w.heap.size:=(Array.getElem?_eq_some_iff.1 h).1
theorem MarkW.cell(h:MarkW w db T f){i:Nat}(hi:i<24):w.cell? ⟨db,i,none⟩=some (f i):=by simp[World.cell?,show w.heap[db]?=_ from h,hi]
theorem MarkW.frozen(h:MarkW w db T f)(o:Nat):w.frozen? ⟨db,o,none⟩=false:=by simp[World.frozen?,show w.heap[db]?=_ from h]
theorem MarkW.set(h:MarkW w db T f){i:Nat}(v:Value):MarkW (w.setCell ⟨db,i,none⟩ v) db T (fun j=>if j=i then v else f j):=by
 unfold MarkW
 rw[DP h]
 congr 2
 apply Array.ext'
 apply List.ext_getElem
 ·simp
 intro j a b
 simp[List.getElem_set,eq_comm]
theorem MarkW.same(h:MarkW w db T f)(hx:w'.heap[db]?=w.heap[db]?):MarkW w' db T f:=hx.trans h
theorem MarkW.below(h:MarkW w db T f)(hb:Below w.heap.size w w'):MarkW w' db T f:=h.same (hb.block db h.lt)
theorem MarkW.congr{f':Nat→Value}(h:MarkW w db T f)(he:∀i,i<24→f i=f' i):MarkW w db T f':=by
 unfold MarkW at*
 rw[h]
 congr 3
 exact List.map_congr_left (fun i a=>he i (List.mem_range.1 a))
end
def iy(l:List Ent)(k:Nat):List ByteArray:=(l.take k).map af
theorem Fw{l:List Ent}{k:Nat}(hk:k≤l.length):(iy l k).length=k:=by unfold iy;rw[List.length_map,List.length_take];omega
theorem Fx{l:List Ent}{k:Nat}(hk:k<l.length):iy l k++[af l[k]]=iy l (k+1):=by
 unfold iy;rw[List.take_succ_eq_append_getElem hk,List.map_append];rfl
def IV(s:Sg)(l:List Ent)(w:World)(i v:Value)(wr:World):Prop:=
 ∃k:Nat,i= .int .i64 k∧k≤l.length∧(l.take k).all (cE s)=true∧OwnS wr w.heap.size v (iy l k)∧Below w.heap.size w wr
theorem pU{S1 S2:Nat→Prop}(sa la:Option Addr)(sc lc:Nat)(s:Sg)(l:List Ent)(w:World)(h1:Sign S1 w sa sc s)(h2:LibL S2 w la lc l)(hl:l.length≤1000):
  Calls Tryz.prog 17 #[.slice sa s.length sc, .slice la l.length lc] w fun e w'=>e= .returned (.bool (bz s l))∧Below w.heap.size w w':=by
 have m:=h2.le
 have m1:=h1.le
 have G:=Lib.hid h1
 have ab:=Lib.hid h2
 clear h1 h2
 go_enter Tryz.func17,Tryz.ntmps17
 go_wp2_with fail
 go_loopw [10,5] (fun i v wr=>IV s l w i v wr) (fun i _ _=>l.length-(intOf i).toNat)
 case atStart=>exact⟨0,rfl,Nat.zero_le _,rfl,by unfold iy;exact OwnL.nil _ _ _ _ _, .refl _ _⟩
 case round=>
  obtain⟨k,rfl,hk,f,H,D⟩:=hrel
  by_cases q:k<l.length
  ·obtain⟨b,a9,T,X,U,Y,V,Z,rfl,-,p0,p1,p2,p3,p4,z1,z2,hI,hU,hP⟩:=(ab.out.below D).ent k q
   obtain⟨W,p⟩:∃W,wr.alloc (.cells #[.string (af l[k]), .string (aC l[k]), .slice T (az l[k]).length X, .slice U (ae l[k]).length Y, .slice V (ai l[k]).length Z] 46)=W:=⟨_,rfl⟩
   have n:Below wr.heap.size wr W:=by rw[←p];exact an wr _
   have q0:W.cell? ⟨wr.heap.size,0,none⟩=some (.string (af l[k])):=by rw[←p];clear p;go_simp
   have q1:W.cell? ⟨wr.heap.size,1,none⟩=some (.string (aC l[k])):=by rw[←p];clear p;go_simp
   have q2:W.cell? ⟨wr.heap.size,2,none⟩=some (.slice T (az l[k]).length X):=by rw[←p];clear p;go_simp
   have q3:W.cell? ⟨wr.heap.size,3,none⟩=some (.slice U (ae l[k]).length Y):=by rw[←p];clear p;go_simp
   have q4:W.cell? ⟨wr.heap.size,4,none⟩=some (.slice V (ai l[k]).length Z):=by rw[←p];clear p;go_simp
   have ve:=pu sa sc s l[k] T U V X Y Z W ((G.out.below D).below n) z1 z2 (hI.below n) (hU.below n) (hP.below n)
   have F:cE s l[k]=true→(l.take (k+1)).all (cE s)=true:=fun h=>by rw[List.take_succ_eq_append_getElem q,List.all_append,f];simpa using h
   have y:cE s l[k]=false→bz s l=false:=fun h=>by
    have:l.all (cE s)=false:=by rw[List.all_eq_false];exact⟨l[k],List.getElem_mem q,by rw[h];simp⟩
    unfold bz;rw[this];simp
   have M:=Fx q
   have K:=Fw (l:=l) hk
   have I:=OwnL.call H n
   have B:=aa D n
   clear hI hU hP f H
   generalize cE s l[k]=ok at ve F y
   generalize af l[k]=nm at*
   generalize aC l[k]=bn at*
   generalize (az l[k]).length=n1 at*
   generalize (ae l[k]).length=n2 at*
   generalize (ai l[k]).length=n3 at*
   have S:=Lib.hid ve
   have R:=Lib.hid F
   have E:=Lib.hid y
   have N:=Lib.hid M
   have C:=Lib.hid I
   have c:=Lib.hid B
   have J:=Lib.hid p
   clear ve F y M I B n D p
   cases ok with
   |false=>
    go_wp2_with (go_at_call 49;rw[J.out];refine S.out.mono ?_;rintro e w2 ⟨rfl,a⟩)
    go_ret
    exact⟨aF (E.out (by simp)).symm,aa c.out a⟩
   |true=>
    go_wp2_with (go_at_call 49;rw[J.out];refine S.out.mono ?_;rintro e w2 ⟨rfl,a⟩;obtain⟨v',W',Q,ho,hg,-⟩:=OwnL.push (P:=Tryz.prog) (t:=37) (ty:=37) (OwnL.call C.out a) Tryz.underlying37 jI rfl (vs:=[.string nm]) (x:=nm) ⟨rfl,z1⟩ (by rw[K];omega) (by rw[K];unfold aB;omega) (Nat.le_trans c.out.size a.size);rw[N.out]at ho;have r0:=cell_later a q0;have al:=Lib.hid ho;have ad:=Lib.hid hg;have u:=Lib.hid a;clear ho hg a q0 q1 q2 q3 q4;go_wp2_with (at_builtin;refine bo rfl _ _ _ rfl rfl rfl Q ?_))
    go_roundw
    case rel=>exact⟨k+1,by go_num,q,R.out (by simp),al.out,(aa c.out u.out).grown ad.out (Nat.le_trans c.out.size u.out.size) (fun j e=>(OwnL.lt (OwnL.call C.out u.out) j e).1)⟩
    case measure=>simp[intOf];omega
  have ag:k=l.length:=by omega
  subst ag
  rw[List.take_of_length_le (Nat.le_refl _)]at f
  have L:iy l l.length=l.map af:=by unfold iy;rw[List.take_length]
  rw[L]at H
  obtain⟨na,nc,rfl,hN⟩:=OwnS.strs H
  rw[List.length_map]at*
  have O:bz s l=(aH s&&(decide (l.length≤60)&&decide (l.map af).Nodup)):=by unfold bz;rw[f,Bool.true_and]
  have v1:=mK sa sc s wr (G.out.below D)
  have v2:∀W,Below wr.heap.size wr W→Calls Tryz.prog 51 #[.slice na l.length nc] W fun e w'=>e= .returned (.bool (decide (l.map af).Nodup))∧Below W.heap.size W w':=fun W hb=>by
   have:=um na nc (l.map af) W (hN.below hb) (by rw[List.length_map];omega)
   rw[List.length_map]at this
   exact this
  have z:=Lib.hid v1
  have ao:=Lib.hid v2
  have g:=Lib.hid O
  have c:=Lib.hid D
  clear v1 v2 O D hN H f L q hk
  generalize decide (l.map af).Nodup=nd at*
  have a5:((l.length:Int)<(l.length:Int))=False:=eq_false (by omega)
  cases hx:aH s with
  |false=>
   rw[hx]at z g
   clear hx
   go_wp2_with fail
   refine z.out.mono ?_
   rintro e w1 ⟨rfl,o⟩
   go_wp2_with fail
   go_ret
   exact⟨by rw[g.out];rfl,aa c.out o⟩
  |true=>
   rw[hx]at z g
   clear hx
   by_cases A:l.length≤60
   ·have hd:decide ((l.length:Int)≤60)=true:=by simp;omega
    have r:=Lib.hid (decide_eq_true A)
    clear A
    go_wp2_with fail
    refine z.out.mono ?_
    rintro e w1 ⟨rfl,o⟩
    have aq:=Lib.hid (ao.out w1 o)
    have ac:=Lib.hid (aa c.out o)
    clear o
    go_wp2_with fail
    refine aq.out.mono ?_
    rintro e w2 ⟨rfl,a⟩
    go_wp2_with fail
    go_ret
    exact⟨by rw[g.out,r.out];rfl,aa ac.out a⟩
   have hd:decide ((l.length:Int)≤60)=false:=by simp;omega
   have r:=Lib.hid (decide_eq_false A)
   clear A
   go_wp2_with fail
   refine z.out.mono ?_
   rintro e w1 ⟨rfl,o⟩
   go_wp2_with fail
   go_ret
   exact⟨by rw[g.out,r.out];rfl,aa c.out o⟩
noncomputable abbrev nmK:KeyK ByteArray Tryz.prog 9:=zo Tryz.underlying9
def eH(l:List Ent)(x:ByteArray):Option Value:=(aG l x).map (fun i:Nat=>Value.int .i64 i)
theorem Bm{l:List Ent}(x:Ent)(z:ByteArray):aG (l++[x]) z=match aG l z with|some i=>some i|none=>if af x=z then some l.length else none:=by
 unfold aG
 rw[List.findIdx?_append]
 cases h:l.findIdx? (fun x=>decide (af x=z))with
 |some i=>rfl
 |none=>
  rw[Option.none_or]
  by_cases e:af x=z
  ·simp[List.findIdx?_cons,e]
  simp[List.findIdx?_cons,e]
theorem Bo{l:List Ent}{k:Nat}(hk:k<l.length)(hd:(l.map af).Nodup):(fun z=>if z=af l[k]then some (Value.int .i64 k)else eH (l.take k) z)=eH (l.take (k+1)):=by
 have a:aG (l.take k) (af l[k])=none:=by
  cases h:aG (l.take k) (af l[k])with
  |none=>rfl
  |some i=>
   obtain⟨b,e⟩:=gx h
   rw[List.length_take]at b
   rw[List.getElem_take]at e
   have:=(List.getElem_inj (xs:=l.map af) (i:=i) (j:=k) (h₀:=by rw[List.length_map];omega) (h₁:=by rw[List.length_map];exact hk) hd).1 (by rw[List.getElem_map,List.getElem_map];exact e)
   omega
 funext z
 unfold eH
 rw[List.take_succ_eq_append_getElem hk,Bm]
 by_cases e:z=af l[k]
 ·subst e
  rw[a,if_pos rfl,List.length_take,Nat.min_eq_left (by omega)]
  simp
 rw[if_neg e]
 cases aG (l.take k) z with
 |some i=>rfl
 |none=>rw[if_neg (fun h:af l[k]=z=>e h.symm)]
def sM(w:World)(bm:Nat)(l:List Ent):Prop:=∃n,n≤1000∧VMap nmK w bm n (eH l)
def DLib(B:Nat)(w:World)(xb:Nat)(s:Sg)(l:List Ent):Prop:=
 B≤w.heap.size∧xb<B∧bz s l=true∧∃sa sc la lc bm,w.cell? ⟨xb,0,none⟩=some (.slice sa s.length sc)∧w.cell? ⟨xb,1,none⟩=some (.slice la l.length lc)∧w.cell? ⟨xb,2,none⟩=some (.map (some bm))∧bm<B∧
  Sign (fun b=>b<B) w sa sc s∧LibL (fun b=>b<B) w la lc l∧sM w bm l
theorem DLib.below{B xb:Nat}{w w':World}{s:Sg}{l:List Ent}(h:DLib B w xb s l)(hb:Below B w w'):DLib B w' xb s l:=by
 obtain⟨i,a,g,x,y,q,r,f,t,u,v,c,j,k,n,m,o⟩:=h
 have hA:Agree (fun b=>b<B) w w':= .of_below hb (fun b h _=>h)
 exact⟨Nat.le_trans i hb.size,a,g,x,y,q,r,f,(hb.cell (p:=⟨xb,0,none⟩) a).trans t,(hb.cell (p:=⟨xb,1,none⟩) a).trans u,(hb.cell (p:=⟨xb,2,none⟩) a).trans v,c,j.same hA,k.same hA,n,m,o.below hb c⟩
theorem DLib.call{B xb:Nat}{w w':World}{s:Sg}{l:List Ent}(h:DLib B w xb s l)(hb:Below w.heap.size w w'):DLib B w' xb s l:=h.below (hb.mono h.1)
theorem DLib.mono{B B' xb:Nat}{w:World}{s:Sg}{l:List Ent}(h:DLib B w xb s l)(h1:B≤B')(h2:B'≤w.heap.size):DLib B' w xb s l:=by
 obtain⟨_,f,c,r,t,m,n,a,o,p,q,g,i,j,k⟩:=h
 exact⟨h2,Nat.lt_of_lt_of_le f h1,c,r,t,m,n,a,o,p,q,Nat.lt_of_lt_of_le g h1,i.weak (fun b h=>Nat.lt_of_lt_of_le h h1),j.weak (fun b h=>Nat.lt_of_lt_of_le h h1),k⟩
theorem iB{s:Sg}{l:List Ent}(h:bz s l=true):aH s=true∧l.length≤60∧(∀x∈l,cE s x=true)∧(l.map af).Nodup:=by
 unfold bz at h
 simp only[Bool.and_eq_true,decide_eq_true_eq,List.all_eq_true]at h
 exact⟨h.1,h.2.1,h.2.2.1,h.2.2.2⟩
def AF(s:Sg)(l:List Ent)(w:World)(e:Ending)(w':World):Prop:=
 Below w.heap.size w w'∧((bz s l=false∧e= .returned (.tuple #[.pointer none, .int .i64 1]))∨(bz s l=true∧∃xb,w.heap.size≤xb∧e= .returned (.tuple #[.pointer (some ⟨xb,0,none⟩), .int .i64 0])∧DLib w'.heap.size w' xb s l))
def xG(l:List Ent)(w1:World)(bm:Nat)(i:Value)(wr:World):Prop:=∃k n:Nat,i= .int .i64 k∧k≤l.length∧n≤k∧VMap nmK wr bm n (eH (l.take k))∧w1.grownBy wr (some bm)
abbrev libO (sa la:Option Addr) (n sc m lc bm:Nat):Obj:= .cells #[.slice sa n sc, .slice la m lc, .map (some bm)] 95
theorem ro{S1 S2:Nat→Prop}(sa la:Option Addr)(sc lc:Nat)(s:Sg)(l:List Ent)(w:World)(h1:Sign S1 w sa sc s)(h2:LibL S2 w la lc l)(hl:l.length≤1000):
  Calls Tryz.prog 37 #[.slice sa s.length sc, .slice la l.length lc] w (AF s l w):=by
 have m:=h2.le
 have m1:=h1.le
 have aU:= @run_makeMap Tryz.prog
 have v:=pU sa la sc lc s l w h1 h2 hl
 have G:=Lib.hid h1.any.lt
 have B:=Lib.hid h2.any.lt
 clear h1 h2
 cases o:bz s l with
 |false=>
  rw[o]at v
  have vH:=Lib.hid v
  have p:=Lib.hid o
  clear v o
  go_enter Tryz.func37,Tryz.ntmps37
  go_wp2_with fail
  refine vH.out.mono ?_
  rintro e c ⟨rfl,R⟩
  go_wp2_with fail
  go_ret2
  exact⟨R, .inl ⟨p.out,rfl⟩⟩
 |true=>
  rw[o]at v
  obtain⟨-,ao,-,U⟩:=iB o
  have vH:=Lib.hid v
  have p:=Lib.hid o
  have V:=Lib.hid U
  clear v o U
  go_enter Tryz.func37,Tryz.ntmps37
  go_wp2_with fail
  refine vH.out.mono ?_
  rintro e c ⟨rfl,R⟩
  obtain⟨W1,a⟩:∃W1,(c.alloc (.map #[] 0)).alloc (libO sa la s.length sc l.length lc c.heap.size)=W1:=⟨_,rfl⟩
  have S:Below c.heap.size c W1:=by rw[←a];exact dT c _ _
  have q0:W1.cell? ⟨c.heap.size+1,0,none⟩=some (.slice sa s.length sc):=by rw[←a];clear a;go_simp
  have q1:W1.cell? ⟨c.heap.size+1,1,none⟩=some (.slice la l.length lc):=by rw[←a];clear a;go_simp
  have q2:W1.cell? ⟨c.heap.size+1,2,none⟩=some (.map (some c.heap.size)):=by rw[←a];clear a;go_simp
  have L:VMap nmK W1 c.heap.size 0 (eH (l.take 0)):=by
   rw[←a]
   have:=VMap.made nmK c
   exact this.below (an _ _) (by simp)
  have X:W1.heap.size=c.heap.size+2:=by rw[←a];simp
  have T:=aa R S
  have Z:=R.size
  have ab:=Lib.hid Z
  clear Z
  have M:=Lib.hid L
  have y:=Lib.hid T
  have Y:=Lib.hid X
  have P:=Lib.hid a
  clear L T X R S a
  go_wp2_with fail
  rw[P.out]
  go_loopw [21] (fun i wr=>xG l W1 c.heap.size i wr) (fun i _=>l.length-(intOf i).toNat)
  case atStart=>exact⟨0,0,rfl,Nat.zero_le _,Nat.le_refl _,M.out,nF _ _⟩
  case round=>
   obtain⟨k,n,rfl,hk,hn,K,x⟩:=hrel
   have A:=x.size
   have aj:=ab.out
   have Q:=Y.out
   have u:Below w.heap.size w wr:=y.out.grown x y.out.size (fun j e=>by injection e with e;omega)
   have D:=x.cell q0 (by intro e;injection e with e;simp at e)
   have E:=x.cell q1 (by intro e;injection e with e;simp at e)
   have F:=x.cell q2 (by intro e;injection e with e;simp at e)
   by_cases t:k<l.length
   ·obtain⟨b,a4,a1,c1,a2,c2,a3,c3,rfl,-,p0,p1,p2,p3,p4,z1,z2,hI,hU,hP⟩:=(B.out.below u).ent k t
    clear hI hU hP
    obtain⟨W,O⟩:∃W,wr.alloc (.cells #[.string (af l[k]), .string (aC l[k]), .slice a1 (az l[k]).length c1, .slice a2 (ae l[k]).length c2, .slice a3 (ai l[k]).length c3] 46)=W:=⟨_,rfl⟩
    have H:Below wr.heap.size wr W:=by rw[←O];exact an wr _
    have q:Below wr.heap.size wr W.drew:=Below.drew H
    have r0:W.drew.cell? ⟨wr.heap.size,0,none⟩=some (.string (af l[k])):=by rw[←O];clear O;go_simp
    have r2:=cell_later q F
    have N:=K.below q (by omega)
    obtain⟨w2,z,r,I⟩:=N.store (tm:=93) Tryz.underlying93 (by unfold maxLen;omega) (af l[k]) (fA z1) (.int .i64 (k:Int))
    rw[Bo t V.out]at r
    have ag:(Instr.mapUpdate 93 (.map (some c.heap.size)) (.string (af l[k])) (.int .i64 (k:Int))).run Tryz.prog W.drew= .ok () w2:=z
    clear z
    have J:=iW (iW x (jC (row:=some c.heap.size) q)) I
    have C:(if(eH (l.take k) (af l[k])).isSome=true then n else n+1)≤k+1:=by split<;>omega
    generalize (if(eH (l.take k) (af l[k])).isSome=true then n else n+1)=n' at r C
    have f:xG l W1 c.heap.size (.int .i64 ((k:Int)+1)) w2:=⟨k+1,n',by simp,t,C,r,J⟩
    have g:=Lib.hid f
    clear f r J C N q H K x u I A aj Q D E
    generalize af l[k]=nm at*
    generalize aC l[k]=bn at*
    generalize (az l[k]).length=n1 at*
    generalize (ae l[k]).length=n2 at*
    generalize (ai l[k]).length=n3 at*
    go_wp2_with fail
    try rw[O]
    clear O
    go_region
    all_goals(go_wp2_with fail;go_roundw;(case rel=>exact g.out);(case measure=>simp[intOf];omega))
   have ad:k=l.length:=by omega
   subst ad
   rw[List.take_length]at K
   have hS:=Lib.hid (G.out.below u)
   have hL:=Lib.hid (B.out.below u)
   have f:DLib wr.heap.size wr (c.heap.size+1) s l:=⟨Nat.le_refl _,by omega,p.out,sa,sc,la,lc,c.heap.size,D,E,F,by omega,G.out.below u |>.lt.weak (fun b h=>h.2),B.out.below u |>.lt.weak (fun b h=>h.2),n,by omega,K⟩
   have g:=Lib.hid f
   have ac:=Lib.hid u
   clear f u K x hS hL D E F A Q t hk hn
   go_wp2_with fail
   go_ret2
   exact⟨ac.out, .inr ⟨p.out,c.heap.size+1,by omega,rfl,g.out⟩⟩
end Go.Proofs.YtlejmeegkpdabaaGreatDoor
