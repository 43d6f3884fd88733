/- The proof of a statement, some of its texts joined in build order: part S. -/
import Derived.Test.YtlejmeegkpdabaaGreatDoorMxZ1
set_option maxHeartbeats 8000000
set_option maxRecDepth 20000
namespace Go.Proofs.YtlejmeegkpdabaaGreatDoor
open Go Go.RowKit Go.Maps
abbrev OwnPs (S:Nat→Prop) (w:World) (base:Nat) (v:Value) (l:List (List Int)):Prop:=OwnL (cI intE) S w base 41 v l
section
variable {S:Nat→Prop}{w:World}{base g n cap:Nat}{l:List (List Int)}
theorem OwnPs.ones{xs:List (List Value)}{T:Nat→Prop}(hl:xs.length=l.length)(hx:∀i (h1:i<xs.length) (h2:i<l.length),(cI intE).R T w xs[i] l[i]):∀x∈xs,x.length=1:=by
 intro x a
 obtain⟨i,b,rfl⟩:=List.getElem_of_mem a
 exact(cI intE).len (hx i b (by omega))
theorem OwnPs.cell(h:OwnPs S w base (.slice (some ⟨g,0,none⟩) n cap) l)(hn:n=l.length)(i:Nat)(hi:i<l.length):
  ∃a c,w.cell? ⟨g,i,none⟩=some (.slice a l[i].length c)∧Ints (bZ S (.slice (some ⟨g,0,none⟩) n cap)) w a c l[i]∧w.frozen? ⟨g,i,none⟩=false:=by
 subst hn
 obtain⟨p,j,o,hx⟩:=h
 have b:i<p.length:=by omega
 obtain⟨a,c,f,m⟩:=hx i b hi
 have k:=OwnPs.ones o hx
 refine⟨a,c,?_,m,j.frozenAt i⟩
 rw[j.cellAt i (by show i<l.length*1;omega)]
 have:=im k i b 0 (by rw[f];simp)
 rw[Nat.mul_one,Nat.add_zero]at this
 rw[this];simp[f]
theorem OwnPs.set(h:OwnPs S w base (.slice (some ⟨g,0,none⟩) n cap) l)(hn:n=l.length)(i:Nat){a:Option Addr}{c:Nat}{u:List Int}(hu:Ints (bZ S (.slice (some ⟨g,0,none⟩) n cap)) w a c u):
  OwnPs S (w.setCell ⟨g,i,none⟩ (.slice a u.length c)) base (.slice (some ⟨g,0,none⟩) n cap) (l.set i u)∧w.grownBy (w.setCell ⟨g,i,none⟩ (.slice a u.length c)) (some g):=by
 subst hn
 obtain⟨t,r,m,hx⟩:=h
 have f:=OwnPs.ones m hx
 obtain⟨s,o⟩:=r.stored i (.slice a u.length c)
 have hA:Agree (bZ S (.slice (some ⟨g,0,none⟩) l.length cap)) w (w.setCell ⟨g,i,none⟩ (.slice a u.length c)):= .of_grown o (fun b q e=>q.2 (by rw[e];rfl))
 refine⟨⟨t.set i [.slice a u.length c],by rw[List.length_set,qh f];exact s,by simp[m],fun j f p=> ?_⟩,o⟩
 by_cases k:i=j
 ·subst k
  simp only[List.getElem_set_self]
  exact(cI intE).mono (w:=w) (S:=bZ S (.slice (some ⟨g,0,none⟩) l.length cap)) ⟨a,c,rfl,hu⟩ (fun _ _ h=>h) hA
 rw[List.getElem_set_ne k,List.getElem_set_ne k]
 exact(cI intE).mono (hx j (by simpa using f) (by simpa using p)) (fun _ _ h=>h) hA
end
theorem Jb{w:World}(m:Int)(hm:aE m):Ints (fun b=>b=w.heap.size) (w.alloc (.cells #[.int .i64 m] 3)) (some ⟨w.heap.size,0,none⟩) 1 [m]:=by
 have:=Sl.new (E:=intE) (S:=fun _=>False) w [[.int .i64 m]] [m] 3 rfl (by unfold aB;simp) (fun i a c=>by
  match i,a with
  |0,_=>exact⟨rfl,hm⟩)
 exact this.weak (fun b h=>h.resolve_left (fun h=>h))
section
variable {P:Program}{Q:Exit→Act→World→Prop}{md:Region.Mode}{S:World→Prop}{l:List Oper}{listed:Array Bool}{fuel:Nat}{a:Act}{w:World}
theorem oE(i j:Nat){o o':Oper}(hi:l[i]?=some o)(hj:l[j]?=some o')(hr:Region.ready md l.toArray listed=[i,j])
  (h:∀K':Act→World→Prop,Shut (∀a w,S w→(S w→wpAnyH P md l.toArray Q S fuel (listed.setIfInBounds i true) a w)→K' a w)→if Region.wanted o (yielded l.toArray a.tmps)=true then Oper.wp P o a w K' Q else K' (a.put o.dst undef) w)
  (h':∀K':Act→World→Prop,Shut (∀a w,S w→(S w→wpAnyH P md l.toArray Q S fuel (listed.setIfInBounds j true) a w)→K' a w)→if Region.wanted o' (yielded l.toArray a.tmps)=true then Oper.wp P o' a w K' Q else K' (a.put o'.dst undef) w):
  wpAnyH P md l.toArray Q S (fuel+1) listed a w:=
 wpAnyH_ready hr (by simp) (AllReadyH.cons (by simpa using hi) h (AllReadyH.cons (by simpa using hj) h' AllReadyH.nil))
end
theorem ip{c:Prop}[Decidable c]{p q:Prop}(h:c)(hp:p):if c then p else q:=by rw[if_pos h];exact hp
theorem DM{s:Sg}{w:List UInt8}{j:Nat}(hj:j<s.length)(h:∀m,m<j→aM s (m:Int)≠w)(he:aM s (j:Int)=w):eC s w=some (j:Int):=by
 have:(List.range s.length).find? (fun i:Nat=>decide (aM s (i:Int)=w))=some j:=by
  rw[List.find?_range_eq_some]
  exact⟨by simpa using he,by simpa using hj,fun m a=>by simpa using h m a⟩
 unfold eC
 rw[this]
theorem vE{s:Sg}{w:List UInt8}(h:∀m,m<s.length→aM s (m:Int)≠w):eC s w=((List.range 12).find? (fun v=>decide (w=120::Lib.decDigits v))).map (fun v=>-(v:Int)-1):=by
 have:(List.range s.length).find? (fun i:Nat=>decide (aM s (i:Int)=w))=none:=by
  rw[List.find?_eq_none]
  intro i a
  simpa using h i (List.mem_range.1 a)
 unfold eC
 rw[this]
theorem DO{s:Sg}{w:List UInt8}{v:Nat}(h:∀m,m<s.length→aM s (m:Int)≠w)(hv:v<12)(h2:∀m,m<v→w≠120::Lib.decDigits m)(he:w=120::Lib.decDigits v):eC s w=some (-(v:Int)-1):=by
 have:(List.range 12).find? (fun v=>decide (w=120::Lib.decDigits v))=some v:=by
  rw[List.find?_range_eq_some]
  exact⟨by simpa using he,by simpa using hv,fun m a=>by simpa using h2 m a⟩
 rw[vE h,this];rfl
theorem DL{s:Sg}{w:List UInt8}(h:∀m,m<s.length→aM s (m:Int)≠w)(h2:∀m,m<12→w≠120::Lib.decDigits m):eC s w=none:=by
 have:(List.range 12).find? (fun v=>decide (w=120::Lib.decDigits v))=none:=by
  rw[List.find?_eq_none]
  intro i a
  simpa using h2 i (List.mem_range.1 a)
 rw[vE h,this];rfl
theorem jL(n:Nat)(w:World)(z1 z2 z3 z4 z5 z6:Bool)(e1:decide ((97:Int)≤n)=z1)(e2:decide ((n:Int)≤122)=z2)(e3:decide ((65:Int)≤n)=z3)(e4:decide ((n:Int)≤90)=z4)(e5:decide ((48:Int)≤n)=z5)(e6:decide ((n:Int)≤57)=z6)(hz:(z1,z2,z3,z4,z5,z6)∈ [(false,true,false,true,false,true),(false,true,false,true,true,true),(false,true,false,true,true,false),(false,true,true,true,true,false),(false,true,true,false,true,false),(true,true,true,false,true,false),(true,false,true,false,true,false)]):
  Calls Tryz.prog 163 #[.int .u8 (n:Int)] w fun e w'=>e= .returned (.bool (((z1&&z2)||(z3&&z4))||(z5&&z6)))∧w=w':=by
 simp only[List.mem_cons,Prod.mk.injEq,List.not_mem_nil,or_false]at hz
 rcases hz with⟨rfl,rfl,rfl,rfl,rfl,rfl⟩|⟨rfl,rfl,rfl,rfl,rfl,rfl⟩|⟨rfl,rfl,rfl,rfl,rfl,rfl⟩|⟨rfl,rfl,rfl,rfl,rfl,rfl⟩|⟨rfl,rfl,rfl,rfl,rfl,rfl⟩|⟨rfl,rfl,rfl,rfl,rfl,rfl⟩|⟨rfl,rfl,rfl,rfl,rfl,rfl⟩
 all_goals go_enter Tryz.func163,Tryz.ntmps163
 all_goals go_wp2_with fail
 all_goals go_ret
 all_goals exact⟨rfl,rfl⟩
theorem qT(c:UInt8)(w:World):Calls Tryz.prog 163 #[.int .u8 (c.toNat:Int)] w fun e w'=>e= .returned (.bool (dd c))∧w=w':=by
 obtain⟨n,b⟩:∃n,c.toNat=n:=⟨_,rfl⟩
 have f:dd c=(((decide (97≤n)&&decide (n≤122))||(decide (65≤n)&&decide (n≤90)))||(decide (48≤n)&&decide (n≤57))):=by
  unfold dd cR;rw[b]
 rw[b,f]
 have a:n<48∨(48≤n∧n≤57)∨(57<n∧n<65)∨(65≤n∧n≤90)∨(90<n∧n<97)∨(97≤n∧n≤122)∨122<n:=by omega
 rcases a with a|a|a|a|a|a|a
 ·rw[show decide (97≤n)=false from decide_eq_false (by omega),show decide (n≤122)=true from decide_eq_true (by omega),show decide (65≤n)=false from decide_eq_false (by omega),show decide (n≤90)=true from decide_eq_true (by omega),show decide (48≤n)=false from decide_eq_false (by omega),show decide (n≤57)=true from decide_eq_true (by omega)]
  exact jL n w false true false true false true (decide_eq_false (by omega)) (decide_eq_true (by omega)) (decide_eq_false (by omega)) (decide_eq_true (by omega)) (decide_eq_false (by omega)) (decide_eq_true (by omega)) (by decide)
 ·rw[show decide (97≤n)=false from decide_eq_false (by omega),show decide (n≤122)=true from decide_eq_true (by omega),show decide (65≤n)=false from decide_eq_false (by omega),show decide (n≤90)=true from decide_eq_true (by omega),show decide (48≤n)=true from decide_eq_true (by omega),show decide (n≤57)=true from decide_eq_true (by omega)]
  exact jL n w false true false true true true (decide_eq_false (by omega)) (decide_eq_true (by omega)) (decide_eq_false (by omega)) (decide_eq_true (by omega)) (decide_eq_true (by omega)) (decide_eq_true (by omega)) (by decide)
 ·rw[show decide (97≤n)=false from decide_eq_false (by omega),show decide (n≤122)=true from decide_eq_true (by omega),show decide (65≤n)=false from decide_eq_false (by omega),show decide (n≤90)=true from decide_eq_true (by omega),show decide (48≤n)=true from decide_eq_true (by omega),show decide (n≤57)=false from decide_eq_false (by omega)]
  exact jL n w false true false true true false (decide_eq_false (by omega)) (decide_eq_true (by omega)) (decide_eq_false (by omega)) (decide_eq_true (by omega)) (decide_eq_true (by omega)) (decide_eq_false (by omega)) (by decide)
 ·rw[show decide (97≤n)=false from decide_eq_false (by omega),show decide (n≤122)=true from decide_eq_true (by omega),show decide (65≤n)=true from decide_eq_true (by omega),show decide (n≤90)=true from decide_eq_true (by omega),show decide (48≤n)=true from decide_eq_true (by omega),show decide (n≤57)=false from decide_eq_false (by omega)]
  exact jL n w false true true true true false (decide_eq_false (by omega)) (decide_eq_true (by omega)) (decide_eq_true (by omega)) (decide_eq_true (by omega)) (decide_eq_true (by omega)) (decide_eq_false (by omega)) (by decide)
 ·rw[show decide (97≤n)=false from decide_eq_false (by omega),show decide (n≤122)=true from decide_eq_true (by omega),show decide (65≤n)=true from decide_eq_true (by omega),show decide (n≤90)=false from decide_eq_false (by omega),show decide (48≤n)=true from decide_eq_true (by omega),show decide (n≤57)=false from decide_eq_false (by omega)]
  exact jL n w false true true false true false (decide_eq_false (by omega)) (decide_eq_true (by omega)) (decide_eq_true (by omega)) (decide_eq_false (by omega)) (decide_eq_true (by omega)) (decide_eq_false (by omega)) (by decide)
 ·rw[show decide (97≤n)=true from decide_eq_true (by omega),show decide (n≤122)=true from decide_eq_true (by omega),show decide (65≤n)=true from decide_eq_true (by omega),show decide (n≤90)=false from decide_eq_false (by omega),show decide (48≤n)=true from decide_eq_true (by omega),show decide (n≤57)=false from decide_eq_false (by omega)]
  exact jL n w true true true false true false (decide_eq_true (by omega)) (decide_eq_true (by omega)) (decide_eq_true (by omega)) (decide_eq_false (by omega)) (decide_eq_true (by omega)) (decide_eq_false (by omega)) (by decide)
 rw[show decide (97≤n)=true from decide_eq_true (by omega),show decide (n≤122)=false from decide_eq_false (by omega),show decide (65≤n)=true from decide_eq_true (by omega),show decide (n≤90)=false from decide_eq_false (by omega),show decide (48≤n)=true from decide_eq_true (by omega),show decide (n≤57)=false from decide_eq_false (by omega)]
 exact jL n w true false true false true false (decide_eq_true (by omega)) (decide_eq_false (by omega)) (decide_eq_true (by omega)) (decide_eq_false (by omega)) (decide_eq_true (by omega)) (decide_eq_false (by omega)) (by decide)
theorem yq{S:Nat→Prop}(a:Option Addr)(c:Nat)(s:Sg)(b:ByteArray)(w:World)(h:Sign S w a c s):
  Calls Tryz.prog 164 #[.slice a s.length c, .string b] w fun e w'=>e= .returned (.tuple #[.int .i64 ((eC s b.data.toList).getD 0), .bool (eC s b.data.toList).isSome])∧w=w':=by
 have N:=h.le
 have G:=Lib.hid h
 clear h
 go_enter Tryz.func164,Tryz.ntmps164
 go_wp2_with fail
 go_loopw [6] (fun i wr=>∃j:Nat,i= .int .i64 j∧j≤s.length∧(∀m,m<j→aM s (m:Int)≠b.data.toList)∧wr=w) (fun i _=>s.length-(intOf i).toNat)
 case atStart=>exact⟨0,rfl,Nat.zero_le _,fun m u=>by omega,rfl⟩
 case round=>
  obtain⟨j,rfl,L,k,rfl⟩:=hrel
  by_cases p:j<s.length
  ·obtain⟨K,O,rfl,-,B,-,-,-⟩:=G.out.sym j p
   rw[lZ p]at B
   by_cases g:aM s (j:Int)=b.data.toList
   ·have t:=Lib.hid (DM p k g)
    have o:ah (aM s (j:Int))=b:=by rw[g];rfl
    rw[o]at B
    clear k g o
    go_wp2_with fail
    go_ret2
    rw[t.out]
    exact⟨rfl,by trivial⟩
   obtain⟨X,A⟩:∃X,ah (aM s (j:Int))=X:=⟨_,rfl⟩
   rw[A]at B
   have H:(X.toList==b.toList)=false:=by
    rw[ByteArray.toList_eq,ByteArray.toList_eq,beq_eq_false_iff_ne,←A]
    exact g
   have y:=Lib.hid (show∀m,m<j+1→aM s (m:Int)≠b.data.toList from fun m u=>by
    by_cases h:m<j
    ·exact k m h
    have:m=j:=by omega
    subst this;exact g)
   clear k g A
   go_wp2_with fail
   go_roundw
   case rel=>exact⟨j+1,by go_num,p,y.out,by trivial⟩
   case measure=>simp[intOf];omega
  have x:=Lib.hid (show∀m,m<s.length→aM s (m:Int)≠b.data.toList from fun m u=>k m (by omega))
  clear k
  go_wp2_with fail
  go_loopw [7] (fun i w2=>∃v:Nat,i= .int .i64 v∧v≤12∧(∀m,m<v→b.data.toList≠120::Lib.decDigits m)∧w2=wr) (fun i _=>12-(intOf i).toNat)
  case atStart=>exact⟨0,rfl,Nat.zero_le _,fun m u=>by omega,by trivial⟩
  case round=>
   obtain⟨v,rfl,M,l,rfl⟩:=hrel
   by_cases q:v<12
   ·have hd:=nj v (by omega)
    have n:=lj (v:=v) (by omega)
    obtain⟨D,r⟩:∃D:ByteArray,(⟨(Lib.decDigits v).toArray⟩:ByteArray)=D:=⟨_,rfl⟩
    have F:D.size≤2:=by rw[←r];exact n
    have P:(9223372036854775807<1+D.size)=False:=eq_false (by omega)
    have f:((⟨#[120]⟩:ByteArray)++D).data.toList=120::Lib.decDigits v:=by rw[←r];rfl
    rw[r]at hd
    obtain⟨E,C⟩:∃E,(⟨#[120]⟩:ByteArray)++D=E:=⟨_,rfl⟩
    by_cases g:b.data.toList=120::Lib.decDigits v
    ·have t:=Lib.hid (DO x.out q l g)
     have o:b=E:=gQ (by rw[g,←C,f])
     have I:IntKind.i64.wrap (-(v:Int))=-(v:Int):=by rw[IntWalk.i64_in _ (by omega)]
     have J:IntKind.i64.wrap (-(v:Int)-1)=-(v:Int)-1:=by rw[IntWalk.i64_in _ (by omega)]
     clear l g f r n
     subst o
     go_wp2_with (go_at_call 120;(with_reducible refine(hd _).mono ?_);rintro e w2 ⟨rfl,rfl⟩)
     go_ret2
     rw[t.out]
     exact⟨rfl,by trivial⟩
    have H:(b.toList==E.toList)=false:=by
     rw[ByteArray.toList_eq,ByteArray.toList_eq,beq_eq_false_iff_ne,←C,f]
     exact g
    have z:=Lib.hid (show∀m,m<v+1→b.data.toList≠120::Lib.decDigits m from fun m u=>by
     by_cases h:m<v
     ·exact l m h
     have:m=v:=by omega
     subst this;exact g)
    clear l g f r n
    go_wp2_with (go_at_call 120;(with_reducible refine(hd _).mono ?_);rintro e w2 ⟨rfl,rfl⟩)
    go_roundw
    case rel=>exact⟨v+1,by go_num,q,z.out,by trivial⟩
    case measure=>simp[intOf];omega
   have t:=Lib.hid (DL x.out (fun m u=>l m (by omega)))
   clear l
   go_wp2_with fail
   go_ret2
   rw[t.out]
   exact⟨rfl,by trivial⟩
theorem sj{b:ByteArray}{j:Nat}(hj:j<b.size)(W:World):(Instr.index 9 (.string b) (.int .i64 (j:Int))).run Tryz.prog W= .ok (.int .u8 ((b[j]'hj).toNat:Int)) W:=by
 rw[run_index_string W 9 b .i64 (j:Int) Tryz.underlying9,dif_pos ⟨by omega,by simpa using hj⟩]
 simp
theorem jG{B:Nat}{w wr:World}{out:Value}{l:List Int}(h:OwnI wr B out l)(hl:l.length≤1000)(hB:B≤wr.heap.size)(hb:Below B w wr)(x:Int)(hx:aE x):
  ∃aO cO aN cN w',out= .slice aO l.length cO∧RowKit.Hid ((Builtin.append_ #[42,42] 42 #[.slice aO l.length cO, .slice (some ⟨wr.heap.size,0,none⟩) 1 1]).run Tryz.prog (wr.alloc (.cells #[.int .i64 x] 3))= .ok (.slice aN (l.length+1) cN) w')∧RowKit.Hid (OwnI w' B (.slice aN (l.length+1) cN) (l++[x])∧Below B w w'):=by
 obtain⟨aO,cO,rfl,-⟩:=OwnI.ints h
 obtain⟨v',w',a,f,hg,-⟩:=OwnL.push (P:=Tryz.prog) (t:=42) (ty:=42) h Tryz.underlying42 gW rfl (vs:=[.int .i64 x]) (x:=x) ⟨rfl,hx⟩ (by omega) (by unfold aB;omega) hB
 have c:=OwnL.lt h
 obtain⟨aN,cN,b,-⟩:=OwnI.ints f
 rw[show(l++[x]).length=l.length+1 by simp]at b
 subst b
 exact⟨aO,cO,aN,cN,w',rfl,Lib.hid a,Lib.hid ⟨f,hb.grown hg hB (fun i e=>(c i e).1)⟩⟩
theorem xo{ch:UInt8}(h:¬ch=40):((ch.toNat:Int)==40)=false:=by
 rw[beq_eq_false_iff_ne]
 intro e
 apply h
 apply UInt8.toNat_inj.1
 show ch.toNat=40
 omega
def gd(M:Option (List Int))(w:World)(e:Ending)(w':World):Prop:=
 (∃o v,M=some o∧e= .returned (.tuple #[v, .bool true])∧OwnI w' w.heap.size v o∧Below w.heap.size w w')∨(M=none∧e= .returned (.tuple #[.slice none 0 0, .bool false])∧Below w.heap.size w w')
def fE(s:Sg)(k:Nat)(text:ByteArray)(M:Option (List Int))(w:World)(out wd i:Value)(wr:World):Prop:=
 ∃(j:Nat) (u:List UInt8) (o:List Int),i= .int .i64 j∧wd= .string (ah u)∧OwnI wr w.heap.size out o∧Below w.heap.size w wr∧o.length≤60∧u.length≤8∧
  ((j≤text.size∧cQ s k (text.data.toList.drop j) u o=M∧((j=0∧u=[])∨(∃h:j-1<text.size,0<j∧(u=[]↔dd (text[j-1]'h)=false))))∨(j=text.size+1∧M=some o))
theorem vK{s:Sg}{u:List UInt8}{n:Int}(hs:s.length≤9223372036854775807)(h:eC s u=some n):aE n:=by
 unfold eC at h
 split at h
 ·rename_i i g
  have a:=List.mem_range.1 (List.mem_of_find?_eq_some g)
  have b:=Option.some.inj h
  unfold aE
  omega
 obtain⟨v,k,b⟩:=Option.map_eq_some_iff.1 h
 obtain⟨m,j,c⟩:=Option.bind_eq_some_iff.1 k
 have a:=List.mem_range.1 (List.mem_of_find?_eq_some j)
 have f:=Option.some.inj c
 unfold aE
 omega
theorem uv{t:ByteArray}{i:Nat}(h:i<t.size):t.data.toList.drop i=(t[i]'h)::t.data.toList.drop (i+1):=by
 have a:i<t.data.toList.length:=by rw[Array.length_toList];exact h
 rw[List.drop_eq_getElem_cons a];rfl
theorem CO{t:ByteArray}{i:Nat}(h:i<t.size):t.extract i (i+1)=ah [t[i]'h]:=by
 apply gQ
 rw[ByteArray.data_extract,Array.toList_extract,List.extract_eq_take_drop,uv h]
 simp[ah]
theorem GS{S:Nat→Prop}(a:Option Addr)(c:Nat)(s:Sg)(k:Nat)(text:ByteArray)(w:World)(h:Sign S w a c s)(hts:text.size≤65536):
  Calls Tryz.prog 115 #[.slice a s.length c, .int .i64 (k:Int), .string text] w (gd (cQ s k text.data.toList [] []) w):=by
 have m1:=h.le
 obtain⟨M,hM⟩:∃M,cQ s k text.data.toList [] []=M:=⟨_,rfl⟩
 rw[hM]
 have hH:=Lib.hid h
 have aW:=Lib.hid hM
 clear h hM
 go_enter Tryz.func115,Tryz.ntmps115
 go_wp2_with fail
 go_loopw [8,9,10] (fun out wd i wr=>fE s k text M w out wd i wr) (fun _ _ i _=>text.size+1-(intOf i).toNat)
 case atStart=>exact⟨0,[],[],rfl,rfl,OwnL.nil _ _ _ _ _, .refl _ _,by decide,by decide, .inl ⟨Nat.zero_le _,aW.out, .inl ⟨rfl,rfl⟩⟩⟩
 case round=>
  obtain⟨j,u,o,rfl,rfl,x,r,F,bn,a4⟩:=hrel
  rcases a4 with⟨hj,b,f⟩|⟨rfl,au⟩
  ·by_cases z:j<text.size
   ·have a1:=sj z
    rw[uv z]at b
    have B:=CO z
    have t:∀u2:List UInt8,(u2=[]↔dd (text[j]'z)=false)→((j+1=0∧u2=[])∨(∃h:j+1-1<text.size,0<j+1∧(u2=[]↔dd (text[j+1-1]'h)=false))):=fun u2 h=> .inr ⟨z,Nat.succ_pos _,h⟩
    obtain⟨R,av⟩:∃R,text[j]'z=R:=⟨_,rfl⟩
    simp only[av]at a1 b B t
    clear av
    have p:=qT R
    cases hW:dd R with
    |true=>
     rw[hW]at p
     rw[cQ,if_pos hW]at b
     obtain⟨X,hX⟩:∃X,text.extract j (j+1)=X:=⟨_,rfl⟩
     have bm:X.size=1:=by rw[←hX,B,cX];rfl
     have O:ah u++X=ah (u++[R]):=by rw[←hX,B,dl]
     have a5:=cX u
     obtain⟨U,hU⟩:∃U,ah u=U:=⟨_,rfl⟩
     rw[hU]at O a5
     rw[hU]
     have s1:(9223372036854775807<U.size+X.size)=False:=eq_false (by omega)
     have s2:(9223372036854775807<U.size+1)=False:=eq_false (by omega)
     have aR:IntKind.i64.wrap ((j:Int)+1)=(j:Int)+1:=by rw[IntWalk.i64_in _ (by omega)]
     by_cases h8:8<u.length+1
     ·rw[if_pos h8]at b
      have hr:=Lib.hid (show gd M w (.returned (.tuple #[.slice none 0 0, .bool false])) wr from .inr ⟨b.symm,rfl,r⟩)
      have y:decide ((8:Int)<((U.size:Int)+(X.size:Int)))=true:=decide_eq_true (by omega)
      clear x r b f t O B hU hW
      go_wp2_with (go_at_call 163;(with_reducible refine(p _).mono ?_);rintro e w2 ⟨rfl,rfl⟩)
      go_ret2
      exact hr.out
     rw[if_neg h8]at b
     have hr:=Lib.hid (show fE s k text M w _ (.string (U++X)) (.int .i64 ((j:Int)+1)) wr from⟨j+1,u++[R],o,rfl,congrArg Value.string O,x,r,F,by rw[List.length_append,List.length_singleton];omega, .inl ⟨z,b,t _ (by simp[hW])⟩⟩)
     have y:decide ((8:Int)<((U.size:Int)+(X.size:Int)))=false:=decide_eq_false (by omega)
     clear x r b f t O B hU hW
     go_wp2_with (go_at_call 163;(with_reducible refine(p _).mono ?_);rintro e w2 ⟨rfl,rfl⟩)
     go_roundw
     case rel=>exact hr.out
     case measure=>simp[intOf]<;>omega
    |false=>
     rw[hW]at p
     rw[cQ,if_neg (by rw[hW];decide)]at b
     have K:=hW
     have aR:IntKind.i64.wrap ((j:Int)+1)=(j:Int)+1:=by rw[IntWalk.i64_in _ (by omega)]
     clear B
     by_cases V:u=[]
     ·subst V
      rw[show dk s [] o=some o by unfold dk;rw[if_pos rfl]]at b
      simp only[and_true]at b
      rw[show ah []=⟨#[]⟩from rfl]
      by_cases I:k=2
      ·have N:((k:Int)==2)=true:=by rw[I];rfl
       have ac:=Lib.hid I
       clear I
       by_cases A:R=40
       ·have Y:((R.toNat:Int)==40)=true:=by rw[A];rfl
        have ad:=Lib.hid A
        clear A
        rw[show(if(k=2∧R=40)then o++[0]else o)=o++[0]from if_pos ⟨ac.out,ad.out⟩]at b
        rcases f with⟨aP,-⟩|⟨D,ao,E⟩
        ·have ax:((j:Int)==0)=true:=by rw[aP];rfl
         clear aP
         obtain⟨G,H,P,Q,w',rfl,m,g⟩:=jG x (by omega) r.size r (0) (by unfold aE;decide)
         simp only[List.length_append,List.length_singleton]at b
         by_cases v:60<o.length+1
         ·rw[if_pos v]at b
          have hr:=Lib.hid (show gd M w (.returned (.tuple #[.slice none 0 0, .bool false])) w' from .inr ⟨b.symm,rfl,g.out.2⟩)
          have y:decide ((60:Int)<(o.length:Int)+1)=true:=decide_eq_true (by omega)
          clear x r b
          (try clear f)
          go_wp2_with (first|(go_at_call 163;(first|(with_reducible refine(p _).mono ?_)|(with_reducible refine(l _).mono ?_));rintro e w2 ⟨rfl,rfl⟩)|(at_builtin;refine bo rfl _ _ _ rfl rfl rfl m.out ?_))
          go_ret2
          exact hr.out
         rw[if_neg v]at b
         have hr:=Lib.hid (show fE s k text M w (.slice P (o.length+1) Q) (.string ⟨#[]⟩) (.int .i64 ((j:Int)+1)) w' from⟨j+1,[],o++[0],rfl,rfl,g.out.1,g.out.2,by rw[List.length_append,List.length_singleton];omega,by decide, .inl ⟨z,b,t _ (by simp[K])⟩⟩)
         have y:decide ((60:Int)<(o.length:Int)+1)=false:=decide_eq_false (by omega)
         clear x r b
         (try clear f)
         go_wp2_with (first|(go_at_call 163;(first|(with_reducible refine(p _).mono ?_)|(with_reducible refine(l _).mono ?_));rintro e w2 ⟨rfl,rfl⟩)|(at_builtin;refine bo rfl _ _ _ rfl rfl rfl m.out ?_))
         go_roundw
         case rel=>exact hr.out
         case measure=>simp[intOf]<;>omega
        have Z:=E.1 rfl
        have ax:((j:Int)==0)=false:=by rw[beq_eq_false_iff_ne];omega
        have a9:IntKind.i64.wrap ((j:Int)-1)=(j:Int)-1:=by rw[IntWalk.i64_in _ (by omega)]
        have C:=sj D
        rw[show((j-1:Nat):Int)=(j:Int)-1 by omega]at C
        have ay:(0:Int)≤(j:Int)-1:=by omega
        have aL:(j:Int)-1<(text.size:Int):=by omega
        obtain⟨cl,al⟩:∃cl,text[j-1]'D=cl:=⟨_,rfl⟩
        simp only[al]at C Z
        have l:=qT cl
        rw[Z]at l
        clear E Z
        obtain⟨G,H,P,Q,w',rfl,m,g⟩:=jG x (by omega) r.size r (0) (by unfold aE;decide)
        simp only[List.length_append,List.length_singleton]at b
        by_cases v:60<o.length+1
        ·rw[if_pos v]at b
         have hr:=Lib.hid (show gd M w (.returned (.tuple #[.slice none 0 0, .bool false])) w' from .inr ⟨b.symm,rfl,g.out.2⟩)
         have y:decide ((60:Int)<(o.length:Int)+1)=true:=decide_eq_true (by omega)
         clear x r b
         (try clear f)
         go_wp2_with (first|(go_at_call 163;(first|(with_reducible refine(p _).mono ?_)|(with_reducible refine(l _).mono ?_));rintro e w2 ⟨rfl,rfl⟩)|(at_builtin;refine bo rfl _ _ _ rfl rfl rfl m.out ?_))
         go_ret2
         exact hr.out
        rw[if_neg v]at b
        have hr:=Lib.hid (show fE s k text M w (.slice P (o.length+1) Q) (.string ⟨#[]⟩) (.int .i64 ((j:Int)+1)) w' from⟨j+1,[],o++[0],rfl,rfl,g.out.1,g.out.2,by rw[List.length_append,List.length_singleton];omega,by decide, .inl ⟨z,b,t _ (by simp[K])⟩⟩)
        have y:decide ((60:Int)<(o.length:Int)+1)=false:=decide_eq_false (by omega)
        clear x r b
        (try clear f)
        go_wp2_with (first|(go_at_call 163;(first|(with_reducible refine(p _).mono ?_)|(with_reducible refine(l _).mono ?_));rintro e w2 ⟨rfl,rfl⟩)|(at_builtin;refine bo rfl _ _ _ rfl rfl rfl m.out ?_))
        go_roundw
        case rel=>exact hr.out
        case measure=>simp[intOf]<;>omega
       have Y:=xo A
       rw[show(if(k=2∧R=40)then o++[0]else o)=o from if_neg (fun e=>A e.2)]at b
       rw[if_neg (show¬60<o.length by omega)]at b
       obtain⟨G,H,rfl,-⟩:=OwnI.ints x
       have y:decide ((60:Int)<(o.length:Int))=false:=decide_eq_false (by omega)
       have hr:=Lib.hid (show fE s k text M w (.slice G o.length H) (.string ⟨#[]⟩) (.int .i64 ((j:Int)+1)) wr from⟨j+1,[],o,rfl,rfl,x,r,F,by decide, .inl ⟨z,b,t _ (by simp[K])⟩⟩)
       clear x r b
       (try clear f)
       go_wp2_with (first|(go_at_call 163;(first|(with_reducible refine(p _).mono ?_)|(with_reducible refine(l _).mono ?_));rintro e w2 ⟨rfl,rfl⟩))
       go_roundw
       case rel=>exact hr.out
       case measure=>simp[intOf]<;>omega
      have N:((k:Int)==2)=false:=by rw[beq_eq_false_iff_ne];omega
      rw[show(if(k=2∧R=40)then o++[0]else o)=o from if_neg (fun e=>I e.1)]at b
      rw[if_neg (show¬60<o.length by omega)]at b
      obtain⟨G,H,rfl,-⟩:=OwnI.ints x
      have y:decide ((60:Int)<(o.length:Int))=false:=decide_eq_false (by omega)
      have hr:=Lib.hid (show fE s k text M w (.slice G o.length H) (.string ⟨#[]⟩) (.int .i64 ((j:Int)+1)) wr from⟨j+1,[],o,rfl,rfl,x,r,F,by decide, .inl ⟨z,b,t _ (by simp[K])⟩⟩)
      clear x r b
      (try clear f)
      go_wp2_with (first|(go_at_call 163;(first|(with_reducible refine(p _).mono ?_)|(with_reducible refine(l _).mono ?_));rintro e w2 ⟨rfl,rfl⟩))
      go_roundw
      case rel=>exact hr.out
      case measure=>simp[intOf]<;>omega
     have J:(ah u).toList=u:=by rw[ByteArray.toList_eq];rfl
     have q:=fun W (hb:Below w.heap.size w W)=>yq a c s (ah u) W (hH.out.below hb)
     rw[show(ah u).data.toList=u from rfl]at q
     have q:=q _ r
     obtain⟨U,hU⟩:∃U,ah u=U:=⟨_,rfl⟩
     rw[hU]at J q⊢
     have a3:(U.toList==([]:List UInt8))=false:=by rw[J,beq_eq_false_iff_ne];exact V
     clear J hU
     cases L:eC s u with
     |none=>
      rw[show dk s u o=none by unfold dk;rw[if_neg V,L];rfl]at b
      rw[L]at q
      have hr:=Lib.hid (show gd M w (.returned (.tuple #[.slice none 0 0, .bool false])) wr from .inr ⟨b.symm,rfl,r⟩)
      clear x r b L
      (try clear f)
      go_wp2_with (first|(go_at_call 163;(first|(with_reducible refine(p _).mono ?_)|(with_reducible refine(l _).mono ?_));rintro e w2 ⟨rfl,rfl⟩)|(go_at_call 164;(with_reducible refine q.mono ?_);rintro e w2 ⟨rfl,rfl⟩))
      go_ret2
      exact hr.out
     |some n=>
      have T:=vK m1 L
      rw[show dk s u o=some (o++[n])by unfold dk;rw[if_neg V,L];rfl]at b
      rw[L]at q
      clear L
      simp only[V,and_false,if_false]at b
      have aq:∃h:j-1<text.size,0<j∧dd (text[j-1]'h)=true:=by
       rcases f with⟨_,e⟩|⟨D,ao,E⟩
       ·exact(V e).elim
       refine⟨D,ao,?_⟩
       cases hz:dd (text[j-1]'D)with
       |true=>rfl
       |false=>exact(V (E.2 hz)).elim
      by_cases I:k=2
      ·have N:((k:Int)==2)=true:=by rw[I];rfl
       have ac:=Lib.hid I
       clear I
       by_cases A:R=40
       ·have Y:((R.toNat:Int)==40)=true:=by rw[A];rfl
        have ad:=Lib.hid A
        clear A
        obtain⟨D,ao,E⟩:=aq
        have ax:((j:Int)==0)=false:=by rw[beq_eq_false_iff_ne];omega
        have a9:IntKind.i64.wrap ((j:Int)-1)=(j:Int)-1:=by rw[IntWalk.i64_in _ (by omega)]
        have C:=sj D
        rw[show((j-1:Nat):Int)=(j:Int)-1 by omega]at C
        have ay:(0:Int)≤(j:Int)-1:=by omega
        have aL:(j:Int)-1<(text.size:Int):=by omega
        obtain⟨cl,al⟩:∃cl,text[j-1]'D=cl:=⟨_,rfl⟩
        simp only[al]at C E
        have l:=qT cl
        rw[E]at l
        clear E
        obtain⟨G,H,P,Q,w',rfl,m,g⟩:=jG x (by omega) r.size r (n) T
        simp only[List.length_append,List.length_singleton]at b
        by_cases v:60<o.length+1
        ·rw[if_pos v]at b
         have hr:=Lib.hid (show gd M w (.returned (.tuple #[.slice none 0 0, .bool false])) w' from .inr ⟨b.symm,rfl,g.out.2⟩)
         have y:decide ((60:Int)<(o.length:Int)+1)=true:=decide_eq_true (by omega)
         clear x r b
         (try clear f)
         go_wp2_with (first|(go_at_call 163;(first|(with_reducible refine(p _).mono ?_)|(with_reducible refine(l _).mono ?_));rintro e w2 ⟨rfl,rfl⟩)|(go_at_call 164;(with_reducible refine q.mono ?_);rintro e w2 ⟨rfl,rfl⟩)|(at_builtin;refine bo rfl _ _ _ rfl rfl rfl m.out ?_))
         go_ret2
         exact hr.out
        rw[if_neg v]at b
        have hr:=Lib.hid (show fE s k text M w (.slice P (o.length+1) Q) (.string ⟨#[]⟩) (.int .i64 ((j:Int)+1)) w' from⟨j+1,[],o++[n],rfl,rfl,g.out.1,g.out.2,by rw[List.length_append,List.length_singleton];omega,by decide, .inl ⟨z,b,t _ (by simp[K])⟩⟩)
        have y:decide ((60:Int)<(o.length:Int)+1)=false:=decide_eq_false (by omega)
        clear x r b
        (try clear f)
        go_wp2_with (first|(go_at_call 163;(first|(with_reducible refine(p _).mono ?_)|(with_reducible refine(l _).mono ?_));rintro e w2 ⟨rfl,rfl⟩)|(go_at_call 164;(with_reducible refine q.mono ?_);rintro e w2 ⟨rfl,rfl⟩)|(at_builtin;refine bo rfl _ _ _ rfl rfl rfl m.out ?_))
        go_roundw
        case rel=>exact hr.out
        case measure=>simp[intOf]<;>omega
       have Y:=xo A
       clear aq
       obtain⟨G,H,P,Q,w',rfl,m,g⟩:=jG x (by omega) r.size r (n) T
       simp only[List.length_append,List.length_singleton]at b
       by_cases v:60<o.length+1
       ·rw[if_pos v]at b
        have hr:=Lib.hid (show gd M w (.returned (.tuple #[.slice none 0 0, .bool false])) w' from .inr ⟨b.symm,rfl,g.out.2⟩)
        have y:decide ((60:Int)<(o.length:Int)+1)=true:=decide_eq_true (by omega)
        clear x r b
        (try clear f)
        go_wp2_with (first|(go_at_call 163;(first|(with_reducible refine(p _).mono ?_)|(with_reducible refine(l _).mono ?_));rintro e w2 ⟨rfl,rfl⟩)|(go_at_call 164;(with_reducible refine q.mono ?_);rintro e w2 ⟨rfl,rfl⟩)|(at_builtin;refine bo rfl _ _ _ rfl rfl rfl m.out ?_))
        go_ret2
        exact hr.out
       rw[if_neg v]at b
       have hr:=Lib.hid (show fE s k text M w (.slice P (o.length+1) Q) (.string ⟨#[]⟩) (.int .i64 ((j:Int)+1)) w' from⟨j+1,[],o++[n],rfl,rfl,g.out.1,g.out.2,by rw[List.length_append,List.length_singleton];omega,by decide, .inl ⟨z,b,t _ (by simp[K])⟩⟩)
       have y:decide ((60:Int)<(o.length:Int)+1)=false:=decide_eq_false (by omega)
       clear x r b
       (try clear f)
       go_wp2_with (first|(go_at_call 163;(first|(with_reducible refine(p _).mono ?_)|(with_reducible refine(l _).mono ?_));rintro e w2 ⟨rfl,rfl⟩)|(go_at_call 164;(with_reducible refine q.mono ?_);rintro e w2 ⟨rfl,rfl⟩)|(at_builtin;refine bo rfl _ _ _ rfl rfl rfl m.out ?_))
       go_roundw
       case rel=>exact hr.out
       case measure=>simp[intOf]<;>omega
      have N:((k:Int)==2)=false:=by rw[beq_eq_false_iff_ne];omega
      clear aq
      obtain⟨G,H,P,Q,w',rfl,m,g⟩:=jG x (by omega) r.size r (n) T
      simp only[List.length_append,List.length_singleton]at b
      by_cases v:60<o.length+1
      ·rw[if_pos v]at b
       have hr:=Lib.hid (show gd M w (.returned (.tuple #[.slice none 0 0, .bool false])) w' from .inr ⟨b.symm,rfl,g.out.2⟩)
       have y:decide ((60:Int)<(o.length:Int)+1)=true:=decide_eq_true (by omega)
       clear x r b
       (try clear f)
       go_wp2_with (first|(go_at_call 163;(first|(with_reducible refine(p _).mono ?_)|(with_reducible refine(l _).mono ?_));rintro e w2 ⟨rfl,rfl⟩)|(go_at_call 164;(with_reducible refine q.mono ?_);rintro e w2 ⟨rfl,rfl⟩)|(at_builtin;refine bo rfl _ _ _ rfl rfl rfl m.out ?_))
       go_ret2
       exact hr.out
      rw[if_neg v]at b
      have hr:=Lib.hid (show fE s k text M w (.slice P (o.length+1) Q) (.string ⟨#[]⟩) (.int .i64 ((j:Int)+1)) w' from⟨j+1,[],o++[n],rfl,rfl,g.out.1,g.out.2,by rw[List.length_append,List.length_singleton];omega,by decide, .inl ⟨z,b,t _ (by simp[K])⟩⟩)
      have y:decide ((60:Int)<(o.length:Int)+1)=false:=decide_eq_false (by omega)
      clear x r b
      (try clear f)
      go_wp2_with (first|(go_at_call 163;(first|(with_reducible refine(p _).mono ?_)|(with_reducible refine(l _).mono ?_));rintro e w2 ⟨rfl,rfl⟩)|(go_at_call 164;(with_reducible refine q.mono ?_);rintro e w2 ⟨rfl,rfl⟩)|(at_builtin;refine bo rfl _ _ _ rfl rfl rfl m.out ?_))
      go_roundw
      case rel=>exact hr.out
      case measure=>simp[intOf]<;>omega
   have a2:j=text.size:=by omega
   subst a2
   rw[List.drop_of_length_le (by rw[Array.length_toList];exact Nat.le_refl _),cQ]at b
   have aR:IntKind.i64.wrap ((text.size:Int)+1)=(text.size:Int)+1:=by rw[IntWalk.i64_in _ (by omega)]
   by_cases V:u=[]
   ·subst V
    rw[show dk s [] o=some o by unfold dk;rw[if_pos rfl]]at b
    simp only at b
    rw[if_neg (show¬60<o.length by omega)]at b
    rw[show ah []=⟨#[]⟩from rfl]
    by_cases I:k=2
    ·have N:((k:Int)==2)=true:=by rw[I];rfl
     have ac:=Lib.hid I
     clear I
     obtain⟨G,H,rfl,-⟩:=OwnI.ints x
     have y:decide ((60:Int)<(o.length:Int))=false:=decide_eq_false (by omega)
     have hr:=Lib.hid (show fE s k text M w (.slice G o.length H) (.string ⟨#[]⟩) (.int .i64 ((text.size:Int)+1)) wr from⟨text.size+1,[],o,rfl,rfl,x,r,F,by decide, .inr ⟨rfl,b.symm⟩⟩)
     clear x r b
     (try clear f)
     go_wp2_with fail
     go_roundw
     case rel=>exact hr.out
     case measure=>simp[intOf]<;>omega
    have N:((k:Int)==2)=false:=by rw[beq_eq_false_iff_ne];omega
    obtain⟨G,H,rfl,-⟩:=OwnI.ints x
    have y:decide ((60:Int)<(o.length:Int))=false:=decide_eq_false (by omega)
    have hr:=Lib.hid (show fE s k text M w (.slice G o.length H) (.string ⟨#[]⟩) (.int .i64 ((text.size:Int)+1)) wr from⟨text.size+1,[],o,rfl,rfl,x,r,F,by decide, .inr ⟨rfl,b.symm⟩⟩)
    clear x r b
    (try clear f)
    go_wp2_with fail
    go_roundw
    case rel=>exact hr.out
    case measure=>simp[intOf]<;>omega
   have J:(ah u).toList=u:=by rw[ByteArray.toList_eq];rfl
   have q:=fun W (hb:Below w.heap.size w W)=>yq a c s (ah u) W (hH.out.below hb)
   rw[show(ah u).data.toList=u from rfl]at q
   have q:=q _ r
   obtain⟨U,hU⟩:∃U,ah u=U:=⟨_,rfl⟩
   rw[hU]at J q⊢
   have a3:(U.toList==([]:List UInt8))=false:=by rw[J,beq_eq_false_iff_ne];exact V
   clear J hU
   cases L:eC s u with
   |none=>
    rw[show dk s u o=none by unfold dk;rw[if_neg V,L];rfl]at b
    rw[L]at q
    have hr:=Lib.hid (show gd M w (.returned (.tuple #[.slice none 0 0, .bool false])) wr from .inr ⟨b.symm,rfl,r⟩)
    clear x r b L
    (try clear f)
    go_wp2_with (first|(go_at_call 164;(with_reducible refine q.mono ?_);rintro e w2 ⟨rfl,rfl⟩))
    go_ret2
    exact hr.out
   |some n=>
    have T:=vK m1 L
    rw[show dk s u o=some (o++[n])by unfold dk;rw[if_neg V,L];rfl]at b
    rw[L]at q
    clear L
    simp only at b
    by_cases I:k=2
    ·have N:((k:Int)==2)=true:=by rw[I];rfl
     have ac:=Lib.hid I
     clear I
     obtain⟨G,H,P,Q,w',rfl,m,g⟩:=jG x (by omega) r.size r (n) T
     simp only[List.length_append,List.length_singleton]at b
     by_cases v:60<o.length+1
     ·rw[if_pos v]at b
      have hr:=Lib.hid (show gd M w (.returned (.tuple #[.slice none 0 0, .bool false])) w' from .inr ⟨b.symm,rfl,g.out.2⟩)
      have y:decide ((60:Int)<(o.length:Int)+1)=true:=decide_eq_true (by omega)
      clear x r b
      (try clear f)
      go_wp2_with (first|(go_at_call 164;(with_reducible refine q.mono ?_);rintro e w2 ⟨rfl,rfl⟩)|(at_builtin;refine bo rfl _ _ _ rfl rfl rfl m.out ?_))
      go_ret2
      exact hr.out
     rw[if_neg v]at b
     have hr:=Lib.hid (show fE s k text M w (.slice P (o.length+1) Q) (.string ⟨#[]⟩) (.int .i64 ((text.size:Int)+1)) w' from⟨text.size+1,[],o++[n],rfl,rfl,g.out.1,g.out.2,by rw[List.length_append,List.length_singleton];omega,by decide, .inr ⟨rfl,b.symm⟩⟩)
     have y:decide ((60:Int)<(o.length:Int)+1)=false:=decide_eq_false (by omega)
     clear x r b
     (try clear f)
     go_wp2_with (first|(go_at_call 164;(with_reducible refine q.mono ?_);rintro e w2 ⟨rfl,rfl⟩)|(at_builtin;refine bo rfl _ _ _ rfl rfl rfl m.out ?_))
     go_roundw
     case rel=>exact hr.out
     case measure=>simp[intOf]<;>omega
    have N:((k:Int)==2)=false:=by rw[beq_eq_false_iff_ne];omega
    obtain⟨G,H,P,Q,w',rfl,m,g⟩:=jG x (by omega) r.size r (n) T
    simp only[List.length_append,List.length_singleton]at b
    by_cases v:60<o.length+1
    ·rw[if_pos v]at b
     have hr:=Lib.hid (show gd M w (.returned (.tuple #[.slice none 0 0, .bool false])) w' from .inr ⟨b.symm,rfl,g.out.2⟩)
     have y:decide ((60:Int)<(o.length:Int)+1)=true:=decide_eq_true (by omega)
     clear x r b
     (try clear f)
     go_wp2_with (first|(go_at_call 164;(with_reducible refine q.mono ?_);rintro e w2 ⟨rfl,rfl⟩)|(at_builtin;refine bo rfl _ _ _ rfl rfl rfl m.out ?_))
     go_ret2
     exact hr.out
    rw[if_neg v]at b
    have hr:=Lib.hid (show fE s k text M w (.slice P (o.length+1) Q) (.string ⟨#[]⟩) (.int .i64 ((text.size:Int)+1)) w' from⟨text.size+1,[],o++[n],rfl,rfl,g.out.1,g.out.2,by rw[List.length_append,List.length_singleton];omega,by decide, .inr ⟨rfl,b.symm⟩⟩)
    have y:decide ((60:Int)<(o.length:Int)+1)=false:=decide_eq_false (by omega)
    clear x r b
    (try clear f)
    go_wp2_with (first|(go_at_call 164;(with_reducible refine q.mono ?_);rintro e w2 ⟨rfl,rfl⟩)|(at_builtin;refine bo rfl _ _ _ rfl rfl rfl m.out ?_))
    go_roundw
    case rel=>exact hr.out
    case measure=>simp[intOf]<;>omega
  obtain⟨G,H,rfl,-⟩:=OwnI.ints x
  have hr:=Lib.hid (show gd M w (.returned (.tuple #[.slice G o.length H, .bool true])) wr from .inl ⟨o,_,au,rfl,x,r⟩)
  clear x r au
  go_wp2_with fail
  go_ret2
  exact hr.out
theorem CU{s:Sg}{k:Nat}{b:List UInt8}(h:cQ s k b [] []=none):cG s k b=([],2):=by unfold cG;rw[h]
theorem CV{s:Sg}{k:Nat}{b:List UInt8}{o:List Int}(h:cQ s k b [] []=some o):cG s k b=if aw s o=true∧txt k s o=b then(o,0)else([],2):=by unfold cG;rw[h]
theorem Gb{S1:Nat→Prop}(a1:Option Addr)(c1:Nat)(s:Sg)(k:Int)(text:ByteArray)(w:World)(h1:Sign S1 w a1 c1 s):
  Calls Tryz.prog 67 #[.slice a1 s.length c1, .int .i64 k, .string text] w fun e w'=>∃v,e= .returned (.tuple #[v, .int .i64 (cC s k text.data.toList).2])∧OwnI w' w.heap.size v (cC s k text.data.toList).1∧Below w.heap.size w w':=by
 have m1:=h1.le
 have I:=Lib.hid (ox a1 c1 s w h1)
 have O:=Lib.hid (fun W=>yA k W)
 cases hx:aH s with
 |false=>
  rw[hx]at I
  have M:=Lib.hid (show cC s k text.data.toList=([],1)by rw[cC,if_neg (by simp[hx])])
  clear h1 hx
  go_enter Tryz.func67,Tryz.ntmps67
  go_wp2_with fail
  refine I.out.mono ?_
  rintro e w1 ⟨rfl,b⟩
  go_wp2_with fail
  go_ret2
  rw[M.out]
  exact⟨_,rfl,OwnL.nil _ _ _ _ _,b.below _⟩
 |true=>
 rw[hx]at I
 cases z:(decide (1≤k)&&decide (k≤3))with
 |false=>
  rw[z]at O
  have M:=Lib.hid (show cC s k text.data.toList=([],7)by rw[cC,if_pos hx,if_neg (by simp[z])])
  clear h1 hx z
  go_enter Tryz.func67,Tryz.ntmps67
  go_wp2_with fail
  refine I.out.mono ?_
  rintro e w1 ⟨rfl,b⟩
  go_wp2_with fail
  refine(O.out _).mono ?_
  rintro e w2 ⟨rfl,rfl⟩
  go_wp2_with fail
  go_ret2
  rw[M.out]
  exact⟨_,rfl,OwnL.nil _ _ _ _ _,b.below _⟩
 |true=>
 rw[z]at O
 have B:text.data.toList.length=text.size:=by rw[Array.length_toList];rfl
 by_cases x:text.size≤65536
 ·have F:cC s k text.data.toList=cG s k.toNat text.data.toList:=by rw[cC,if_pos hx,if_pos z,if_pos (by rw[B];exact x)]
  have hk:1≤k∧k≤3:=by simpa using z
  obtain⟨n,rfl⟩:∃n:Nat,k=(n:Int):=⟨k.toNat,by omega⟩
  rw[Int.toNat_natCast]at F
  rw[F]
  have Z:decide ((65536:Int)<(text.size:Int))=false:=decide_eq_false (by omega)
  have J:=Lib.hid h1
  have hd:=Lib.hid (fun W (u:Below w.heap.size w W)=>GS a1 c1 s n text W (h1.below u) x)
  have N:n=1∨n=2∨n=3:=by omega
  have ac:=Lib.hid N
  have al:=Lib.hid hx
  clear h1 hx z F B hk N
  go_enter Tryz.func67,Tryz.ntmps67
  go_wp2_with fail
  refine I.out.mono ?_
  rintro e w1 ⟨rfl,b⟩
  have y:=Lib.hid (b.below w.heap.size)
  clear b
  go_wp2_with fail
  refine(O.out _).mono ?_
  rintro e w2 ⟨rfl,rfl⟩
  go_wp2_with fail
  (with_reducible refine(hd.out _ y.out).mono ?_)
  rintro e H (⟨o,v,E,rfl,L,f⟩|⟨E,rfl,f⟩)
  ·have m:=Lib.hid (CV E)
   obtain⟨R,S,rfl,K⟩:=OwnI.ints L
   have l:=aa y.out f
   have P:=oy a1 R c1 S s o H (J.out.below l) K
   have U:=Lib.hid (OwnL.baseMono L y.out.size)
   have T:=Lib.hid K
   have a:=Lib.hid l
   cases c:aw s o with
   |false=>
    rw[c]at P
    have r:=Lib.hid c
    clear L K E f l c
    go_wp2_with (first|(go_at_call 80;(with_reducible refine P.mono ?_);rintro e w4 ⟨rfl,g⟩))
    go_ret2
    rw[m.out,if_neg (by simp[r.out])]
    exact⟨_,rfl,OwnL.nil _ _ _ _ _,aa a.out (g.below _)⟩
   |true=>
    rw[c]at P
    have r:=Lib.hid c
    obtain⟨hs,-,hl,A⟩:=bj c
    have G:bR s (o.drop 0)=o:=by
     rw[List.drop_zero];unfold bR;rw[A];simp
    have Q:=Lib.hid (fun W (u:Below H.heap.size H W)=>(show Calls Tryz.prog 116 #[.slice a1 s.length c1, .int .i64 n, .slice R o.length S, .int .i64 0] W (mq W (txt n s o))by
     have:=yz n ac.out a1 R c1 S s o hs hl o.length 0 [] W (Nat.sub_le _ _) A (J.out.below (aa a.out u)) (T.out.below u)
     rw[G]at this
     exact this))
    have V:=Lib.hid (fun W (u:Below H.heap.size H W)=>OwnL.call U.out u)
    by_cases j:txt n s o=text.data.toList
    ·have C:ah (txt n s o)=text:=by rw[j];exact gQ rfl
     have t:=Lib.hid j
     have D:=Lib.hid (fun W u=>(Q.out W u).mono fun e w' (h:mq W (txt n s o) e w')=>(show e= .returned (.string text)∧Below W.heap.size W w' from C▸h))
     clear L K E f l c hs hl A G j C Q
     go_wp2_with (first|(go_at_call 80;(with_reducible refine P.mono ?_);rintro e w4 ⟨rfl,g⟩;have p:=Lib.hid (g.below H.heap.size);clear g)|(go_at_call 116;(with_reducible refine(D.out _ p.out).mono ?_);rintro e w5 ⟨rfl,q⟩;have i:=Lib.hid (aa p.out q);clear q))
     go_ret2
     rw[m.out,if_pos ⟨r.out,t.out⟩]
     exact⟨_,rfl,V.out _ i.out,aa a.out i.out⟩
    obtain⟨Y,X⟩:∃Y,ah (txt n s o)=Y:=⟨_,rfl⟩
    have ao:(Y.toList==text.toList)=false:=by
     rw[ByteArray.toList_eq,ByteArray.toList_eq,beq_eq_false_iff_ne,←X]
     exact j
    have t:=Lib.hid j
    have D:=Lib.hid (fun W u=>(Q.out W u).mono fun e w' (h:mq W (txt n s o) e w')=>(show e= .returned (.string Y)∧Below W.heap.size W w' from X▸h))
    clear L K E f l c hs hl A G j X Q
    go_wp2_with (first|(go_at_call 80;(with_reducible refine P.mono ?_);rintro e w4 ⟨rfl,g⟩;have p:=Lib.hid (g.below H.heap.size);clear g)|(go_at_call 116;(with_reducible refine(D.out _ p.out).mono ?_);rintro e w5 ⟨rfl,q⟩;have i:=Lib.hid (aa p.out q);clear q))
    go_ret2
    rw[m.out,if_neg (fun e=>t.out e.2)]
    exact⟨_,rfl,OwnL.nil _ _ _ _ _,aa a.out i.out⟩
  have m:=Lib.hid (CU E)
  have a:=Lib.hid (aa y.out f)
  clear E f
  go_wp2_with fail
  go_ret2
  rw[m.out]
  exact⟨_,rfl,OwnL.nil _ _ _ _ _,a.out⟩
 have M:=Lib.hid (show cC s k text.data.toList=([],3)by rw[cC,if_pos hx,if_pos z,if_neg (by rw[B];exact x)])
 have Z:decide ((65536:Int)<(text.size:Int))=true:=decide_eq_true (by omega)
 clear h1 hx z B x
 go_enter Tryz.func67,Tryz.ntmps67
 go_wp2_with fail
 refine I.out.mono ?_
 rintro e w1 ⟨rfl,b⟩
 go_wp2_with fail
 refine(O.out _).mono ?_
 rintro e w2 ⟨rfl,rfl⟩
 go_wp2_with fail
 go_ret2
 rw[M.out]
 exact⟨_,rfl,OwnL.nil _ _ _ _ _,b.below _⟩
end Go.Proofs.YtlejmeegkpdabaaGreatDoor
