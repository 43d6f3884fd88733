/- The proof of a statement, some of its texts joined in build order: part P. -/
import Derived.Laws.CopyOwn
import Derived.Test.YtlejmeegkpdabaaGreatDoorMxH
import Derived.Maps.RangeWalk
import Derived.Deep.WholeRow
import Derived.Test.YtlejmeegkpdabaaGreatDoorMxV
import Derived.Deep.RegionWith
set_option maxHeartbeats 8000000
set_option maxRecDepth 100000
namespace Go.Proofs.YtlejmeegkpdabaaGreatDoor
open Go Go.RowKit Go.Maps
def boolE:Enc Bool where
 size:=1
 pos:=by decide
 R _ _ vs x:=vs=[.bool x]
 len h:=by rw[h];rfl
 one h:=by rw[h];simp[Value.oneCell']
 mono h _ _:=h
abbrev OwnB (w:World) (base:Nat) (v:Value) (l:List Bool):Prop:=OwnL boolE (fun _=>False) w base 4 v l
section
variable {w:World}{base:Nat}{v:Value}{l:List Bool}
theorem BD{xs:List (List Value)}{T:Nat→Prop}(hl:xs.length=l.length)(hx:∀i (h1:i<xs.length) (h2:i<l.length),boolE.R T w xs[i] l[i]):xs=l.map (fun x=>[.bool x]):=by
 apply List.ext_getElem (by simpa using hl)
 intro i h1 h2
 rw[List.getElem_map]
 exact hx i h1 (by omega)
theorem uE(l:List Bool):(l.map (fun x=>[Value.bool x])).flatten=l.map Value.bool:=by
 induction l with
 |nil=>rfl
 |cons x r a=>simp[a]
theorem OwnB.row(h:OwnB w base v l):w.ownsRow base 4 1 v l.length (l.map Value.bool):=by
 obtain⟨c,a,b,hx⟩:=h
 obtain rfl:=BD b hx
 rw[uE]at a
 exact a
theorem OwnB.of_row(h:w.ownsRow base 4 1 v l.length (l.map Value.bool)):OwnB w base v l:=
 ⟨l.map (fun x=>[.bool x]),by rw[uE];exact h,by simp,fun i a b=>by simp[boolE]⟩
theorem Sl.bool{S:Nat→Prop}{a:Option Addr}{c:Nat}(h:Sl boolE S w a c l)(i:Nat)(hi:i<l.length):∃b off,a=some ⟨b,off,none⟩∧S b∧w.cell? ⟨b,off+i,none⟩=some (.bool l[i]):=by
 obtain⟨b,off,ha,g,_,vs,_,j,hr⟩:=h.at1 i hi
 have f:vs=[.bool l[i]]:=hr
 subst f
 have:=j 0 (by simp)
 simp[boolE]at this
 exact⟨b,off,ha,g,this⟩
theorem OwnB.cell{g cap n:Nat}(h:OwnB w base (.slice (some ⟨g,0,none⟩) n cap) l)(hn:n=l.length)(i:Nat)(hi:i<l.length):w.cell? ⟨g,i,none⟩=some (.bool l[i])∧w.frozen? ⟨g,i,none⟩=false:=by
 subst hn
 have a:=h.row
 exact⟨by rw[a.cellAt i (by omega)];simp[hi],a.frozenAt i⟩
theorem OwnB.set{g cap n:Nat}(h:OwnB w base (.slice (some ⟨g,0,none⟩) n cap) l)(hn:n=l.length)(i:Nat)(x:Bool):
  OwnB (w.setCell ⟨g,i,none⟩ (.bool x)) base (.slice (some ⟨g,0,none⟩) n cap) (l.set i x)∧w.grownBy (w.setCell ⟨g,i,none⟩ (.bool x)) (some g):=by
 subst hn
 obtain⟨a,b⟩:=h.row.stored i (.bool x)
 exact⟨.of_row (by rw[List.length_set,List.map_set];exact a),b⟩
theorem OwnB.lit(w:World)(l:List Bool)(hl:l.length≤maxLen):OwnB (w.alloc (.cells (l.map Value.bool).toArray 4)) w.heap.size (.slice (some ⟨w.heap.size,0,none⟩) l.length l.length) l:=
 .of_row (by have:=World.ownsRow_lit (e:=4) (size:=1) w (l.map Value.bool).toArray l.length (Nat.le_refl _) hl (by simp);simpa using this)
end
theorem OwnB.made(w:World)(n:Nat)(hn:n≤100):OwnB (w.alloc (.cells (Array.replicate n (.bool false)) 4)) w.heap.size (.slice (some ⟨w.heap.size,0,none⟩) n n) (List.replicate n false):=by
 have h:=OwnB.lit w (List.replicate n false) (by rw[List.length_replicate];unfold maxLen;omega)
 rw[List.length_replicate,List.map_replicate,List.toArray_replicate]at h
 exact h
theorem OwnS.cellAt{w:World}{base g cap n:Nat}{L:List ByteArray}(h:OwnS w base (.slice (some ⟨g,0,none⟩) n cap) L)(hn:n=L.length)(i:Nat)(hi:i<L.length):w.cell? ⟨g,i,none⟩=some (.string L[i])∧w.frozen? ⟨g,i,none⟩=false:=by
 subst hn
 obtain⟨a,_⟩:=OwnS.row h
 exact⟨by rw[a.cellAt i (by omega)];simp[hi],a.frozenAt i⟩
def yG(s:Sg)(l:List Ent)(w:World)(i:Value)(wr:World):Prop:=∃k:Nat,i= .int .i64 k∧k≤l.length∧(l.take k).all (cE s)=true∧((l.take k).map af).Nodup∧Below w.heap.size w wr
theorem FD{s:Sg}{l:List Ent}{k:Nat}(hk:k<l.length)(h:cE s l[k]=false):bz s l=false:=by
 have:l.all (cE s)=false:=by rw[List.all_eq_false];exact⟨l[k],List.getElem_mem hk,by rw[h];simp⟩
 unfold bz;rw[this];simp
theorem FE{s:Sg}{l:List Ent}{k j:Nat}(hk:k<l.length)(h:aG (l.take k) (af l[k])=some j):bz s l=false:=by
 obtain⟨a,e⟩:=gx h
 rw[List.length_take]at a
 rw[List.getElem_take]at e
 have:¬(l.map af).Nodup:=fun hd=>by
  have:=(List.getElem_inj (xs:=l.map af) (i:=j) (j:=k) (h₀:=by rw[List.length_map];omega) (h₁:=by rw[List.length_map];exact hk) hd).1 (by rw[List.getElem_map,List.getElem_map];exact e)
  omega
 unfold bz;rw[decide_eq_false this];simp
theorem FF{s:Sg}{l:List Ent}{k:Nat}(hk:k<l.length)(hall:(l.take k).all (cE s)=true)(hnd:((l.take k).map af).Nodup)(h:cE s l[k]=true)(hat:aG (l.take k) (af l[k])=none):
  (l.take (k+1)).all (cE s)=true∧((l.take (k+1)).map af).Nodup:=by
 rw[List.take_succ_eq_append_getElem hk,List.all_append,hall,List.map_append]
 refine⟨by simpa using h,?_⟩
 rw[List.nodup_append]
 refine⟨hnd,by simp,fun a ha b c e=> ?_⟩
 obtain⟨x,hx,f⟩:=List.mem_map.1 ha
 simp at c
 exact pH hat x hx (by rw[f,e,c])
theorem x8{S1 S2:Nat→Prop}(sa la:Option Addr)(sc lc:Nat)(s:Sg)(l:List Ent)(w:World)(h1:Sign S1 w sa sc s)(h2:LibL S2 w la lc l):
  Calls Tryz.prog 11 #[.slice sa s.length sc, .slice la l.length lc] w fun e w'=>e= .returned (.bool (bz s l))∧Below w.heap.size w w':=by
 have m:=h2.le
 have m1:=h1.le
 have vs:=ox sa sc s w h1
 have aN:=Lib.hid h1
 have T:=Lib.hid h2
 clear h1 h2
 cases hs:aH s with
 |false=>
  rw[hs]at vs
  have M:=Lib.hid vs
  have hf:=Lib.hid (show bz s l=false by unfold bz;rw[hs];rfl)
  clear vs hs
  go_enter Tryz.func11,Tryz.ntmps11
  go_wp2_with fail
  refine M.out.mono ?_
  rintro e w1 ⟨rfl,hd⟩
  have hB:=Lib.hid (hd.below w.heap.size)
  clear hd
  go_wp2_with fail
  go_ret
  exact⟨aF hf.out.symm,hB.out⟩
 |true=>
 rw[hs]at vs
 have M:=Lib.hid vs
 have aT:=Lib.hid hs
 clear vs hs
 by_cases U:l.length≤60
 ·have ao:((60:Int)<(l.length:Int))=False:=eq_false (by omega)
  go_enter Tryz.func11,Tryz.ntmps11
  go_wp2_with fail
  refine M.out.mono ?_
  rintro e w1 ⟨rfl,hd⟩
  have hB:=Lib.hid (hd.below w.heap.size)
  clear hd
  go_wp2_with fail
  go_loopw [5] (fun i wr=>yG s l w i wr) (fun i _=>l.length-(intOf i).toNat)
  case atStart=>exact⟨0,rfl,Nat.zero_le _,rfl,by simp,hB.out⟩
  case round=>
   obtain⟨k,rfl,hk,x,I,y⟩:=hrel
   by_cases E:k<l.length
   ·obtain⟨b,n,a1,c1,a2,c2,a3,c3,rfl,-,p0,p1,p2,p3,p4,f,g,hI,hU,hP⟩:=(T.out.below y).ent k E
    have av:=T.out.cap
    have bA:(k:Int)≤(lc:Int):=by omega
    have bb:¬lc=0:=by omega
    have aR:(k:Int)<(l.length:Int):=by omega
    have bx:(0:Int)≤(k:Int):=by omega
    have R:(l.take k).length=k:=by rw[List.length_take];omega
    have ve:=fun W (N:Below wr.heap.size wr W)=>Gf sa sc s l[k] a1 a2 a3 c1 c2 c3 W ((aN.out.below y).below N) f g (hI.below N) (hU.below N) (hP.below N)
    have vi:=fun W (N:Below wr.heap.size wr W)=>rC (some ⟨b,n,none⟩) lc (l.take k) (af l[k]) W (((T.out.pre k).below y).below N)
    simp only[R]at vi
    have O:=FD (s:=s) E
    have H:=fun j=>FE (s:=s) (j:=j) E
    have L:=fun h aP=>FF E x I h aP
    have Q:=fun j (h:aG (l.take k) (af l[k])=some j)=>qN h
    have P:=fun(h:aG (l.take k) (af l[k])=none)=>qM h
    have t:Below wr.heap.size wr wr.drew:=Below.drew (.refl _ _)
    have V:=(⟨cell_later t p0,cell_later t p1,cell_later t p2,cell_later t p3,cell_later t p4⟩:wr.drew.cell? ⟨b,n+k*5,none⟩=some (.string (af l[k]))∧wr.drew.cell? ⟨b,n+k*5+1,none⟩=some (.string (aC l[k]))∧wr.drew.cell? ⟨b,n+k*5+2,none⟩=some (.slice a1 (az l[k]).length c1)∧wr.drew.cell? ⟨b,n+k*5+3,none⟩=some (.slice a2 (ae l[k]).length c2)∧wr.drew.cell? ⟨b,n+k*5+4,none⟩=some (.slice a3 (ai l[k]).length c3))
    have G:=Lib.hid y
    have B:=Lib.hid Q
    have A:=Lib.hid P
    have D:=Lib.hid L
    have z:=Lib.hid O
    have u:=Lib.hid H
    have ax:=Lib.hid vi
    have Y:=Lib.hid ve
    clear x I y hI hU hP f g ve vi O H L Q P p0 p1 p2 p3 p4 R av
    generalize aG (l.take k) (af l[k])=at_ at*
    generalize iq (l.take k) (af l[k])=ix at*
    generalize cE s l[k]=ok at*
    generalize af l[k]=nm at*
    generalize aC l[k]=bn at*
    generalize (az l[k]).length=n1 at*
    generalize (ae l[k]).length=n2 at*
    generalize (ai l[k]).length=n3 at*
    cases ok with
    |false=>
     go_wp2_with fail
     refine wp_region_held_drew (S:=fun w'=>w'.cell? ⟨b,n+k*5,none⟩=some (.string nm)∧w'.cell? ⟨b,n+k*5+1,none⟩=some (.string bn)∧w'.cell? ⟨b,n+k*5+2,none⟩=some (.slice a1 n1 c1)∧w'.cell? ⟨b,n+k*5+3,none⟩=some (.slice a2 n2 c2)∧w'.cell? ⟨b,n+k*5+4,none⟩=some (.slice a3 n3 c3)) (by kernel_rfl) V (fun hS=> ?_)
     refine ak 0 20 (v:= ?_) hS ?_ ?_;rotate_left;·(intro o a;obtain⟨p,f,g,q,r⟩:=a;go_simp;try(with_reducible rfl))
     refine ak 1 21 (v:= ?_) hS ?_ ?_;rotate_left;·(intro o a;obtain⟨p,f,g,q,r⟩:=a;go_simp;try(with_reducible rfl))
     refine ak 2 22 (v:= ?_) hS ?_ ?_;rotate_left;·(intro o a;obtain⟨p,f,g,q,r⟩:=a;go_simp;try(with_reducible rfl))
     refine ak 3 23 (v:= ?_) hS ?_ ?_;rotate_left;·(intro o a;obtain⟨p,f,g,q,r⟩:=a;go_simp;try(with_reducible rfl))
     refine ak 4 24 (v:= ?_) hS ?_ ?_;rotate_left;·(intro o a;obtain⟨p,f,g,q,r⟩:=a;go_simp;try(with_reducible rfl))
     refine bI 5 rfl (by kernel_rfl) (fun K C=> ?_)
     go_simp
     (with_reducible refine(Y.out _ t).mono ?_)
     rintro e w5 ⟨rfl,c⟩
     go_simp
     refine C.out _ _ ⟨cell_later c hS.1,cell_later c hS.2.1,cell_later c hS.2.2.1,cell_later c hS.2.2.2.1,cell_later c hS.2.2.2.2⟩ ?_
     clear C hS K
     intro hS
     try simp only[Act.put,List.setIfInBounds_toArray,List.set_cons_zero,List.set_cons_succ]
     have F:=Lib.hid (aa G.out (aa t c))
     have J:=Lib.hid (aa t c)
     clear c
     refine ak 6 26 (v:= ?_) hS ?_ ?_;rotate_left;·(intro o a;obtain⟨p,f,g,q,r⟩:=a;go_simp;try(with_reducible rfl))
     refine ak 7 27 (v:= ?_) hS ?_ ?_;rotate_left;·(intro o a;obtain⟨p,f,g,q,r⟩:=a;go_simp;try(with_reducible rfl))
     refine hZ 8 28 hS ?_
     refine hZ 9 29 hS ?_
     refine hZ 10 30 hS ?_
     refine hZ 11 31 hS ?_
     refine hZ 12 32 hS ?_
     refine hZ 13 33 hS ?_
     refine hZ 14 34 hS ?_
     refine hZ 15 35 hS ?_
     refine hZ 16 36 hS ?_
     refine hZ 17 37 hS ?_
     refine ak 18 38 (v:= ?_) hS ?_ ?_;rotate_left;·(intro o a;obtain⟨p,f,g,q,r⟩:=a;go_simp;try(with_reducible rfl))
     refine wpAnyH_done (by kernel_rfl) ?_ _
     clear hS
     go_wp2_with fail
     go_ret
     exact⟨aF (z.out (by simp)).symm,F.out⟩
    |true=>
     cases at_ with
     |none=>
      have X:=A.out rfl
      subst X
      have L:=Lib.hid (fun W N=>(show yG s l w (.int .i64 ((k:Int)+1)) W from⟨k+1,by simp,E,(D.out rfl rfl).1,(D.out rfl rfl).2,N⟩))
      clear B A D u z
      go_wp2_with fail
      refine wp_region_held_drew (S:=fun w'=>w'.cell? ⟨b,n+k*5,none⟩=some (.string nm)∧w'.cell? ⟨b,n+k*5+1,none⟩=some (.string bn)∧w'.cell? ⟨b,n+k*5+2,none⟩=some (.slice a1 n1 c1)∧w'.cell? ⟨b,n+k*5+3,none⟩=some (.slice a2 n2 c2)∧w'.cell? ⟨b,n+k*5+4,none⟩=some (.slice a3 n3 c3)) (by kernel_rfl) V (fun hS=> ?_)
      refine ak 0 20 (v:= ?_) hS ?_ ?_;rotate_left;·(intro o a;obtain⟨p,f,g,q,r⟩:=a;go_simp;try(with_reducible rfl))
      refine ak 1 21 (v:= ?_) hS ?_ ?_;rotate_left;·(intro o a;obtain⟨p,f,g,q,r⟩:=a;go_simp;try(with_reducible rfl))
      refine ak 2 22 (v:= ?_) hS ?_ ?_;rotate_left;·(intro o a;obtain⟨p,f,g,q,r⟩:=a;go_simp;try(with_reducible rfl))
      refine ak 3 23 (v:= ?_) hS ?_ ?_;rotate_left;·(intro o a;obtain⟨p,f,g,q,r⟩:=a;go_simp;try(with_reducible rfl))
      refine ak 4 24 (v:= ?_) hS ?_ ?_;rotate_left;·(intro o a;obtain⟨p,f,g,q,r⟩:=a;go_simp;try(with_reducible rfl))
      refine bI 5 rfl (by kernel_rfl) (fun K C=> ?_)
      go_simp
      (with_reducible refine(Y.out _ t).mono ?_)
      rintro e w5 ⟨rfl,c⟩
      go_simp
      refine C.out _ _ ⟨cell_later c hS.1,cell_later c hS.2.1,cell_later c hS.2.2.1,cell_later c hS.2.2.2.1,cell_later c hS.2.2.2.2⟩ ?_
      clear C hS K
      intro hS
      try simp only[Act.put,List.setIfInBounds_toArray,List.set_cons_zero,List.set_cons_succ]
      have F:=Lib.hid (aa G.out (aa t c))
      have J:=Lib.hid (aa t c)
      clear c
      refine ak 6 26 (v:= ?_) hS ?_ ?_;rotate_left;·(intro o a;obtain⟨p,f,g,q,r⟩:=a;go_simp;try(with_reducible rfl))
      refine ak 7 27 (v:= ?_) hS ?_ ?_;rotate_left;·(intro o a;obtain⟨p,f,g,q,r⟩:=a;go_simp;try(with_reducible rfl))
      refine ak 8 28 (v:= ?_) hS ?_ ?_;rotate_left;·(intro o a;obtain⟨p,f,g,q,r⟩:=a;go_simp;try(with_reducible rfl))
      refine ak 9 29 (v:= ?_) hS ?_ ?_;rotate_left;·(intro o a;obtain⟨p,f,g,q,r⟩:=a;go_simp;try(with_reducible rfl))
      refine ak 10 30 (v:= ?_) hS ?_ ?_;rotate_left;·(intro o a;obtain⟨p,f,g,q,r⟩:=a;go_simp;try(with_reducible rfl))
      refine ak 11 31 (v:= ?_) hS ?_ ?_;rotate_left;·(intro o a;obtain⟨p,f,g,q,r⟩:=a;go_simp;try(with_reducible rfl))
      refine ak 12 32 (v:= ?_) hS ?_ ?_;rotate_left;·(intro o a;obtain⟨p,f,g,q,r⟩:=a;go_simp;try(with_reducible rfl))
      refine ak 13 33 (v:= ?_) hS ?_ ?_;rotate_left;·(intro o a;obtain⟨p,f,g,q,r⟩:=a;go_simp;try(with_reducible rfl))
      refine ak 14 34 (v:= ?_) hS ?_ ?_;rotate_left;·(intro o a;obtain⟨p,f,g,q,r⟩:=a;go_simp;try(with_reducible rfl))
      refine ak 15 35 (v:= ?_) hS ?_ ?_;rotate_left;·(intro o a;obtain⟨p,f,g,q,r⟩:=a;go_simp;try(with_reducible rfl))
      have Z:=Lib.hid (ax.out w5 J.out)
      refine bI 16 rfl (by kernel_rfl) (fun K C=> ?_)
      go_simp
      (with_reducible refine Z.out.mono ?_)
      rintro e w6 ⟨rfl,rfl⟩
      go_simp
      refine C.out _ _ hS ?_
      clear C hS K
      intro hS
      try simp only[Act.put,List.setIfInBounds_toArray,List.set_cons_zero,List.set_cons_succ]
      refine ak 17 37 (v:= ?_) hS ?_ ?_;rotate_left;·(intro o a;obtain⟨p,f,g,q,r⟩:=a;go_simp;try(with_reducible rfl))
      refine ak 18 38 (v:= ?_) hS ?_ ?_;rotate_left;·(intro o a;obtain⟨p,f,g,q,r⟩:=a;go_simp;try(with_reducible rfl))
      refine wpAnyH_done (by kernel_rfl) ?_ _
      clear hS
      go_wp2_with fail
      go_roundw
      case rel=>exact L.out _ F.out
      case measure=>simp[intOf];omega
     |some j=>
      have X:=B.out j rfl
      subst X
      have au:=Lib.hid (u.out j rfl)
      have bv:(0:Int)≤(j:Int):=by omega
      clear B A D u z
      go_wp2_with fail
      refine wp_region_held_drew (S:=fun w'=>w'.cell? ⟨b,n+k*5,none⟩=some (.string nm)∧w'.cell? ⟨b,n+k*5+1,none⟩=some (.string bn)∧w'.cell? ⟨b,n+k*5+2,none⟩=some (.slice a1 n1 c1)∧w'.cell? ⟨b,n+k*5+3,none⟩=some (.slice a2 n2 c2)∧w'.cell? ⟨b,n+k*5+4,none⟩=some (.slice a3 n3 c3)) (by kernel_rfl) V (fun hS=> ?_)
      refine ak 0 20 (v:= ?_) hS ?_ ?_;rotate_left;·(intro o a;obtain⟨p,f,g,q,r⟩:=a;go_simp;try(with_reducible rfl))
      refine ak 1 21 (v:= ?_) hS ?_ ?_;rotate_left;·(intro o a;obtain⟨p,f,g,q,r⟩:=a;go_simp;try(with_reducible rfl))
      refine ak 2 22 (v:= ?_) hS ?_ ?_;rotate_left;·(intro o a;obtain⟨p,f,g,q,r⟩:=a;go_simp;try(with_reducible rfl))
      refine ak 3 23 (v:= ?_) hS ?_ ?_;rotate_left;·(intro o a;obtain⟨p,f,g,q,r⟩:=a;go_simp;try(with_reducible rfl))
      refine ak 4 24 (v:= ?_) hS ?_ ?_;rotate_left;·(intro o a;obtain⟨p,f,g,q,r⟩:=a;go_simp;try(with_reducible rfl))
      refine bI 5 rfl (by kernel_rfl) (fun K C=> ?_)
      go_simp
      (with_reducible refine(Y.out _ t).mono ?_)
      rintro e w5 ⟨rfl,c⟩
      go_simp
      refine C.out _ _ ⟨cell_later c hS.1,cell_later c hS.2.1,cell_later c hS.2.2.1,cell_later c hS.2.2.2.1,cell_later c hS.2.2.2.2⟩ ?_
      clear C hS K
      intro hS
      try simp only[Act.put,List.setIfInBounds_toArray,List.set_cons_zero,List.set_cons_succ]
      have F:=Lib.hid (aa G.out (aa t c))
      have J:=Lib.hid (aa t c)
      clear c
      refine ak 6 26 (v:= ?_) hS ?_ ?_;rotate_left;·(intro o a;obtain⟨p,f,g,q,r⟩:=a;go_simp;try(with_reducible rfl))
      refine ak 7 27 (v:= ?_) hS ?_ ?_;rotate_left;·(intro o a;obtain⟨p,f,g,q,r⟩:=a;go_simp;try(with_reducible rfl))
      refine ak 8 28 (v:= ?_) hS ?_ ?_;rotate_left;·(intro o a;obtain⟨p,f,g,q,r⟩:=a;go_simp;try(with_reducible rfl))
      refine ak 9 29 (v:= ?_) hS ?_ ?_;rotate_left;·(intro o a;obtain⟨p,f,g,q,r⟩:=a;go_simp;try(with_reducible rfl))
      refine ak 10 30 (v:= ?_) hS ?_ ?_;rotate_left;·(intro o a;obtain⟨p,f,g,q,r⟩:=a;go_simp;try(with_reducible rfl))
      refine ak 11 31 (v:= ?_) hS ?_ ?_;rotate_left;·(intro o a;obtain⟨p,f,g,q,r⟩:=a;go_simp;try(with_reducible rfl))
      refine ak 12 32 (v:= ?_) hS ?_ ?_;rotate_left;·(intro o a;obtain⟨p,f,g,q,r⟩:=a;go_simp;try(with_reducible rfl))
      refine ak 13 33 (v:= ?_) hS ?_ ?_;rotate_left;·(intro o a;obtain⟨p,f,g,q,r⟩:=a;go_simp;try(with_reducible rfl))
      refine ak 14 34 (v:= ?_) hS ?_ ?_;rotate_left;·(intro o a;obtain⟨p,f,g,q,r⟩:=a;go_simp;try(with_reducible rfl))
      refine ak 15 35 (v:= ?_) hS ?_ ?_;rotate_left;·(intro o a;obtain⟨p,f,g,q,r⟩:=a;go_simp;try(with_reducible rfl))
      have Z:=Lib.hid (ax.out w5 J.out)
      refine bI 16 rfl (by kernel_rfl) (fun K C=> ?_)
      go_simp
      (with_reducible refine Z.out.mono ?_)
      rintro e w6 ⟨rfl,rfl⟩
      go_simp
      refine C.out _ _ hS ?_
      clear C hS K
      intro hS
      try simp only[Act.put,List.setIfInBounds_toArray,List.set_cons_zero,List.set_cons_succ]
      refine ak 17 37 (v:= ?_) hS ?_ ?_;rotate_left;·(intro o a;obtain⟨p,f,g,q,r⟩:=a;go_simp;try(with_reducible rfl))
      refine ak 18 38 (v:= ?_) hS ?_ ?_;rotate_left;·(intro o a;obtain⟨p,f,g,q,r⟩:=a;go_simp;try(with_reducible rfl))
      refine wpAnyH_done (by kernel_rfl) ?_ _
      clear hS
      go_wp2_with fail
      go_ret
      exact⟨aF au.out.symm,F.out⟩
   have aR:((k:Int)<(l.length:Int))=False:=eq_false (by omega)
   rw[List.take_of_length_le (by omega)]at x I
   have hf:=Lib.hid (show bz s l=true by unfold bz;rw[aT.out,x,decide_eq_true U,decide_eq_true I];rfl)
   have aO:=Lib.hid y
   clear x I y E hk
   go_wp2_with fail
   go_ret
   exact⟨aF hf.out.symm,aO.out⟩
 have ao:((60:Int)<(l.length:Int))=True:=eq_true (by omega)
 have hf:=Lib.hid (show bz s l=false by unfold bz;rw[decide_eq_false U];simp)
 clear U
 go_enter Tryz.func11,Tryz.ntmps11
 go_wp2_with fail
 refine M.out.mono ?_
 rintro e w1 ⟨rfl,hd⟩
 have hB:=Lib.hid (hd.below w.heap.size)
 clear hd
 go_wp2_with fail
 go_ret
 exact⟨aF hf.out.symm,hB.out⟩
theorem Gj(a1 a2 a3:Option Addr)(c1 c2 c3 n1 n2:Nat)(nm bn:ByteArray)(n3:Nat)(w:World):
  Calls Tryz.prog 33 #[entV nm bn n1 n2 n3 a1 a2 a3 c1 c2 c3] w fun e w'=>e= .returned (.bool ((n3:Int)==0))∧Below w.heap.size w w':=by
 obtain⟨W,a⟩:∃W,w.alloc (.cells #[.string nm, .string bn, .slice a1 n1 c1, .slice a2 n2 c2, .slice a3 n3 c3] 46)=W:=⟨_,rfl⟩
 have b:=Lib.hid (show Below w.heap.size w W by rw[←a];exact an w _)
 have c:W.cell? ⟨w.heap.size,4,none⟩=some (.slice a3 n3 c3):=by rw[←a];clear a;go_simp
 go_enter Tryz.func33,Tryz.ntmps33
 go_wp2_with fail
 go_ret
 try rw[a]
 exact⟨rfl,b.out⟩
end Go.Proofs.YtlejmeegkpdabaaGreatDoor
