/-
  TBase (a part of a claim: our own text).
-/
import Derived.Test.YtlalffdgimbodaaGreatYGTreeS
import Derived.Test.YtlalffdgimbodaaGreatYGLib
namespace Go.Abs
def nl {α:Type}:List α:=[]
inductive U0 where
 |u
instance:Inhabited U0:=⟨.u⟩
abbrev az3 (n:Int):PVal:=.int .i64 n
def gOps (fn:Func):Array Oper:=
 match fn.body with
 |some (.seq (.region _ ops _) _)=>ops
 |_=>#[]
def gX (fn:Func):Code:=
 match fn.body with
 |some (.seq _ (.cond _ X _))=>X
 |_=>.skip
def gC (o:Oper):Call:=
 match o.op with
 | .call c=>c
 |_=>default
def gMs:Option TypeDesc->Array (String×TypeId)
 |some (.interface ms)=>ms
 |_=>#[]
abbrev vecO {α:Type}[Inhabited α](sz:Nat)(enc:α->PVal)(l:List α)(e:TypeId):Res:=.vec sz l.length (el enc l) 0 e
abbrev vecS {α:Type}[Inhabited α](sz:Nat)(enc:α->PVal)(l:List α)(e:TypeId):Res:=.vec sz l.length (el enc l) l.length e
def mdom {K V:Type}(cells:K->List PVal):List (K×V)->List PVal->Bool
 |[],_=>false
 |kv::m,q=>xzi q (cells kv.1)||mdom cells m q
def mget {K:Type}(cells:K->List PVal):List (K×Int)->List PVal->Int
 |[],_=>0
 |kv::m,q=>if xzi q (cells kv.1)then kv.2 else mget cells m q
def Czt {K:Type}(tm:List PVal)(cells:K->List PVal)(m:List (K×Int)):Res:=.map tm (mdom cells m) (fun q=>.int .i64 (mget cells m q))
theorem az12 {K:Type}{tm:List PVal}{cells:K->List PVal}{m:List (K×Int)}{k:K}{v:Int}{cs:List PVal}(h:cs=cells k):
 RSub (.map tm (fun q=>xzi q cs||mdom cells m q) (fun q=>if xzi q cs then .int .i64 v else .int .i64 (mget cells m q))) (.map tm (fun q=>mdom cells ((k,v)::m) q) (fun q=>.int .i64 (mget cells ((k,v)::m) q))):=by
 subst h
 exact RSub.map fun p _=>⟨rfl,by simp only[mget];split<;>rfl⟩
structure CSub (p q:PVal):Prop where
 len:p.cells.length=q.cells.length
 get:∀ (j:Nat) (p' q':PVal),p.cells[j]?=some p'->q.cells[j]?=some q'->PSub p' q'
theorem CSub.refl (p:PVal):CSub p p:=⟨rfl,fun j p' q' h1 h2=>by rw[h1]at h2;cases h2;exact PSub.refl _⟩
theorem CSub.of_eq {p q:PVal}(h:p=q):CSub p q:=h▸CSub.refl p
theorem CSub.agg {l l':List PVal}(h:PSubs l l'):CSub (.agg l) (.agg l'):=by
 obtain⟨h1,h2⟩:=h.get
 refine⟨h1,fun j p q hp hq=>?_⟩
 obtain⟨p1,hp1,hs⟩:=h2 j q hq
 simp only[PVal.cells]at hp
 rw[hp]at hp1;cases hp1;exact hs
theorem CSub.lst {sz sz' n n':Nat}{f g:Nat->PVal}(h:PSub (.lst sz n f) (.lst sz' n' g)):CSub (.lst sz n f) (.lst sz' n' g):=by
 refine⟨rfl,fun j p q hp hq=>?_⟩
 simp only[PVal.cells]at hp hq
 cases j with
 |zero=>simp at hp hq;subst hp;subst hq;exact h
 |succ j=>simp at hp
theorem CSub.cell {p q:PVal}(h:CSub p q){j:Nat}{q':PVal}(hq:q.cells[j]?=some q'):∃p',p.cells[j]?=some p'/\PSub p' q':=by
 have hj:j<p.cells.length:=by rw[h.len];exact(List.getElem?_eq_some_iff.1 hq).1
 exact⟨p.cells[j],by simp[hj],h.get j _ _ (by simp[hj]) hq⟩
theorem PSub.lst' {sz n n':Nat}{f g:Nat->PVal}(hn:n=n')(h:∀i,i<n->CSub (f i) (g i)):PSub (.lst sz n f) (.lst sz n' g):=by
 subst hn
 refine⟨fun F w v hv=>?_⟩
 cases hv with
 |nil=>exact .nil
 |emp hq=>exact .emp hq
 |sl c h1 h2 h3 h4 h5=>
  refine .sl c h1 h2 (fun i hi=>by rw[←(h i hi).len];exact h3 i hi) (fun i j p hi hp=>?_) (fun i j p hi hp=>?_)
  ·obtain⟨p',hp',_⟩:=(h i hi).cell hp;exact h4 i j p' hi hp'
  ·obtain⟨p',hp',hs⟩:=(h i hi).cell hp;exact hs.rel F w _ (h5 i j p' hi hp')
theorem RSub.vec' {sz n n' k k':Nat}{f g:Nat->PVal}{e:TypeId}(hn:n=n')(hk:k≤k')(hk':k'≤n)(h:∀i,i<n->CSub (f i) (g i)):RSub (.vec sz n f k e) (.vec sz n' g k' e):=by
 subst hn
 refine⟨fun F w ρ id hr=>⟨?_,fun b hb=>hb⟩⟩
 obtain⟨_,hr⟩:=hr
 refine⟨hk',?_⟩
 rcases hr with h1|⟨b,cap,c,h1,h2,h3,h4,h5,h6,h7,h8⟩
 ·exact .inl h1
 ·refine .inr ⟨b,cap,c,h1,h2,h3,h4,h5,fun o ho=>Nat.lt_of_lt_of_le (h6 o ho) (Nat.mul_le_mul_right _ hk),fun i hi=>by rw[←(h i hi).len];exact h7 i hi,fun i j p hi hp=>?_⟩
  obtain⟨p',hp',hs⟩:=(h i hi).cell hp
  obtain⟨v,q1,q2,q3⟩:=h8 i j p' hi hp'
  exact⟨v,q1,q2,hs.rel F w v q3⟩
def CSubs:List PVal->List PVal->Prop
 |[],[]=>True
 |a::l,b::l'=>CSub a b/\CSubs l l'
 |_,_=>False
theorem CSubs.refl:∀ (l:List PVal),CSubs l l
 |[]=>trivial
 |a::l=>⟨CSub.refl a,CSubs.refl l⟩
theorem CSubs.get:∀ {l l':List PVal},CSubs l l'->l.length=l'.length/\∀ (j:Nat) (p q:PVal),l[j]?=some p->l'[j]?=some q->CSub p q
 |[],[],_=>⟨rfl,by simp⟩
 |[],_::_,h=>h.elim
 |_::_,[],h=>h.elim
 |a::l,b::l',h=>by
  obtain⟨h1,h2⟩:=CSubs.get h.2
  refine⟨by simp[h1],fun j p q hp hq=>?_⟩
  cases j with
  |zero=>simp at hp hq;subst hp;subst hq;exact h.1
  |succ j=>exact h2 j p q (by simpa using hp) (by simpa using hq)
structure IsL {α:Type} [Inhabited α] (n:Nat) (f:Nat->PVal) (enc:α->PVal) (L:List α):Prop where
 len:n=L.length
 get:∀i,i<n->CSub (f i) (enc (L.getD i default))
variable {α:Type} [Inhabited α] {enc:α->PVal} {L X:List α} {n k:Nat} {f h:Nat->PVal}
theorem IsL.el:IsL L.length (el enc L) enc L:=⟨rfl,fun _ _=>CSub.refl _⟩
theorem IsL.app (h1:IsL n f enc L)(h2:IsL k h enc X):IsL (n+k) (appF n f h) enc (L++X):=by
 refine⟨by simp[h1.len,h2.len],fun i hi=>?_⟩
 simp only[appF]
 split
 ·rename_i hl;rw[getD_left (by rw[←h1.len];exact hl)];exact h1.get i hl
 ·rename_i hl;rw[getD_right (by rw[←h1.len];omega),←h1.len];exact h2.get _ (by omega)
theorem IsL.lit {ps:List PVal}(hp:CSubs ps (X.map enc))(hk:k=X.length):IsL k (lget ps) enc X:=by
 subst hk
 refine⟨rfl,fun i hi=>?_⟩
 obtain⟨h1,h2⟩:=hp.get
 have hi':i<ps.length:=by rw[h1];simpa using hi
 have:=h2 i ps[i] (enc X[i]) (by simp[hi']) (by simp[hi])
 simpa[lget,List.getD_eq_getElem?_getD,hi,hi']using this
theorem IsL.slice {l e:Nat}(h1:IsL n f enc L)(he:e≤n)(hl:l≤e):IsL (e-l) (fun i=>f (l+i)) enc ((L.drop l).take (e-l)):=by
 have:=h1.len
 refine⟨by simp;omega,fun i hi=>?_⟩
 have h2:=h1.get (l+i) (by omega)
 have e1:((L.drop l).take (e-l)).getD i default=L.getD (l+i) default:=by simp[List.getD_eq_getElem?_getD,hi]
 rw[e1];exact h2
theorem IsL.take {e:Nat}(h1:IsL n f enc L)(he:e≤n):IsL e f enc (L.take e):=by
 have:=h1.len
 refine⟨by simp;omega,fun i hi=>?_⟩
 have h2:=h1.get i (by omega)
 have e1:(L.take e).getD i default=L.getD i default:=by simp[List.getD_eq_getElem?_getD,hi]
 rw[e1];exact h2
theorem IsL.set {j:Nat}{p:PVal}{x:α}(h1:IsL n f enc L)(hp:CSub p (enc x)):IsL n (fun i=>if i=j then p else f i) enc (L.set j x):=by
 refine⟨by simp[h1.len],fun i hi=>?_⟩
 have:=h1.len
 by_cases e:i=j
 ·subst e
  have e1:(L.set i x).getD i default=x:=by simp[List.getD_eq_getElem?_getD,show i<L.length by omega]
  rw[if_pos rfl,e1];exact hp
 ·have e1:(L.set j x).getD i default=L.getD i default:=by
   rw[List.getD_eq_getElem?_getD,List.getElem?_set,if_neg (fun h=>e h.symm),List.getD_eq_getElem?_getD]
  rw[if_neg e,e1];exact h1.get i hi
theorem IsL.rep {p:PVal}{x:α}(hp:CSub p (enc x)):IsL n (fun _=>p) enc (List.replicate n x):=by
 refine⟨by simp,fun i hi=>?_⟩
 have e1:(List.replicate n x).getD i default=x:=by simp[List.getD_eq_getElem?_getD,hi]
 rw[e1];exact hp
theorem IsL.p {sz:Nat}(h1:IsL n f enc L):PSub (.lst sz n f) (encL sz enc L):=PSub.lst' h1.len h1.get
theorem IsL.r0 {sz:Nat}{e:TypeId}(h1:IsL n f enc L):RSub (.vec sz n f 0 e) (.vec sz L.length (Go.Abs.el enc L) 0 e):=
 RSub.vec' h1.len (Nat.le_refl _) (Nat.zero_le _) h1.get
theorem IsL.r {sz s:Nat}{e:TypeId}(h1:IsL n f enc L)(hs:s≤n):RSub (.vec sz n f s e) (.vec sz L.length (Go.Abs.el enc L) L.length e):=by
 have:=h1.len
 exact RSub.vec' this (by omega) (by omega) h1.get
structure IsLL {α:Type} [Inhabited α] (sz n:Nat) (f:Nat->PVal) (enc:α->PVal) (L:List (List α)):Prop where
 len:n=L.length
 get:∀i,i<n->∃n' g,f i=.lst sz n' g/\IsL n' g enc (L.getD i default)
theorem az35 {p q:PVal}(h:(subP p q).holds):CSub p q:=by
 unfold subP at h
 split at h
 ·exact CSub.lst (PSub.nil h.1 h.2)
 ·exact CSub.agg (Oza h)
 ·exact CSub.of_eq h
theorem Zzn:∀ {p q:List PVal},(Kzy p q).holds->CSubs p q
 |[],[],_=>trivial
 |[],_::_,h=>by simp[Kzy,Ob.holds]at h
 |_::_,[],h=>by simp[Kzy,Ob.holds]at h
 |_::_,_::_,h=>by simp only[Kzy]at h;exact⟨az35 h.1,Zzn h.2⟩
theorem ixOk {i:Int}{n:Nat}(h:(decide (0≤i)&&decide (i<(n:Int)))=true):0≤i/\i<(n:Int):=by
 simpa using h
abbrev T.ix {R:Type}(i:Int)(n:Nat)(h:(decide (0≤i)&&decide (i<(n:Int)))=true)(k:T R):T R:=.ok (0≤i/\i<(n:Int)) (ixOk h) k
section
variable (sz:Nat) (enc:α->PVal) (L X:List α) (e:TypeId)
def bzy:Conv:=.res none (.vec sz X.length (lget (X.map enc)) 0 e) (vecO sz enc X e) fun _=>(IsL.lit (CSubs.refl _) rfl).r0
def az62 (ps:List PVal)(h:(Kzy ps (X.map enc)).side true=(Kzy ps (X.map enc)).side false):Conv:=
 .res none (.vec sz X.length (lget ps) 0 e) (vecO sz enc X e) fun _=>(IsL.lit (Zzn (Ob.of_side h)) rfl).r0
def dz3:Conv:=.res none (.vec sz (L.length+X.length) (appF L.length (el enc L) (el enc X)) 0 e) (vecO sz enc (L++X) e) fun _=>(IsL.app IsL.el IsL.el).r0
def az61:Conv:=.res none (.vec sz (L.length+X.length) (appF L.length (el enc L) (el enc X)) L.length e) (vecS sz enc (L++X) e) fun _=>(IsL.app IsL.el IsL.el).r (Nat.le_add_right _ _)
def Mzg (n:Nat)(x:α):Conv:=.res none (.vec sz n (fun _=>enc x) 0 e) (vecO sz enc (List.replicate n x) e) fun _=>(IsL.rep (CSub.refl _)).r0
def az63 (n:Nat)(x:α)(p:PVal)(h:(subP p (enc x)).side true=(subP p (enc x)).side false):Conv:=
 .res none (.vec sz n (fun _=>p) 0 e) (vecO sz enc (List.replicate n x) e) fun _=>(IsL.rep (az35 (Ob.of_side h))).r0
def jz1 (i:Nat)(x:α):Conv:=.res none (.vec sz L.length (fun j=>if j=i then enc x else el enc L j) 0 e) (vecO sz enc (L.set i x) e) fun _=>(IsL.set IsL.el (CSub.refl _)).r0
theorem az33 {n:Nat}{l h:Int}(p:0≤l/\l≤h/\h≤(n:Int)):h.toNat≤n/\l.toNat≤h.toNat:=by omega
def Ezm (l h:Int):Conv:=.val (some (0≤l/\l≤h/\h≤((L.length:Nat):Int))) (.lst sz (h.toNat-l.toNat) (fun i=>el enc L (l.toNat+i))) (encL sz enc ((L.drop l.toNat).take (h.toNat-l.toNat)))
 fun p=>(IsL.slice IsL.el (az33 p).1 (az33 p).2).p
def Xz1 (h:Int):Conv:=.res (some (0≤h/\h≤((L.length:Nat):Int)/\0≤h.toNat)) (.vec sz h.toNat (el enc L) 0 e) (vecO sz enc (L.take h.toNat) e)
 fun p=>(IsL.take IsL.el (by have:=p.2.1;omega)).r0
end
def az7j {K:Type}(tm:List PVal)(cells:K->List PVal)(m:List (K×Int))(k:K)(v:Int):Conv:=
 .res none (.map tm (fun q=>xzi q (cells k)||mdom cells m q) (fun q=>if xzi q (cells k)then .int .i64 v else .int .i64 (mget cells m q))) (Czt tm cells ((k,v)::m)) fun _=>az12 rfl
theorem az6n {K:Type}{cells:K->List PVal}{k:IntKind}:∀ {m:List (K×Int)} {q:List PVal},mdom cells m q=false->PVal.int k (mget cells m q)=.int k 0
 |[],_,_=>rfl
 |kv::m,q,h=>by
  simp only[mdom,Bool.or_eq_false_iff]at h
  simp only[mget,h.1]
  exact az6n h.2
def NN:Nat:=4294967296
def mkH {P:Program}{drawOk:List Oper->List Eff->Bool}{R:Type}(gs:List (GuardS P))(hd:fzi P drawOk){f:FuncId}{fn:Func}(hf:P.funcs[f]?=some fn)(hb:(fn.body.isSome&& !(fn.name== "runtime.NumGoroutine"))=true)
    (t:T R) (k:Nat) (args:List AVal) (m:Mem) (res:R->AVal) (m':R->Mem) (h:(zza P gs drawOk fn (fn.body.getD .skip) k k t args m res m').holds):CallS R:=
 ⟨P,.fn f,t.run NN,k,args,m,res,m',fun _ hy=>Oz9 t hy hd hf (by simp only[Bool.and_eq_true]at hb;exact hb.1) (by simp only[Bool.and_eq_true,Bool.not_eq_true']at hb;exact hb.2) h⟩
def mkC {P:Program}{drawOk:List Oper->List Eff->Bool}{R:Type}(gs:List (GuardS P))(hd:fzi P drawOk){f:FuncId}{fn:Func}(hf:P.funcs[f]?=some fn)(hb:(fn.body.isSome&& !(fn.name== "runtime.NumGoroutine"))=true)
    (t:T R) (k:Nat) (args:List AVal) (m:Mem) (res:R->AVal) (m':R->Mem)
    (h:(zza P gs drawOk fn (fn.body.getD .skip) k k t args m res m').side true=(zza P gs drawOk fn (fn.body.getD .skip) k k t args m res m').side false):CallS R:=
 ⟨P,.fn f,t.run NN,k,args,m,res,m',fun _ hy=>Oz9 t hy hd hf (by simp only[Bool.and_eq_true]at hb;exact hb.1) (by simp only[Bool.and_eq_true,Bool.not_eq_true']at hb;exact hb.2) (Ob.of_side h)⟩
structure RecS (P:Program) (f:FuncId) (k:Nat) (A R:Type) (args:A->List AVal) (m:A->Mem) (res:A->R->AVal) (m':A->R->Mem)where
 o:A->Option R
 ok:∀a y,o a=some y->Spec P f k (args a) (m a) (res a y) (m' a y)
section
variable {P:Program} {f:FuncId} {k:Nat} {A R:Type} {args:A->List AVal} {m:A->Mem} {res:A->R->AVal} {m':A->R->Mem}
def RecS.C (x:RecS P f k A R args m res m')(a:A):CallS R:=⟨P,.fn f,x.o a,k,args a,m a,res a,m' a,x.ok a⟩
def RecS.zero:RecS P f k A R args m res m':=⟨fun _=>none,fun _ _ h=>by cases h⟩
def RecS.next {drawOk:List Oper->List Eff->Bool}(gs:List (GuardS P))(hd:fzi P drawOk){fn:Func}(hf:P.funcs[f]?=some fn)(hb:(fn.body.isSome&& !(fn.name== "runtime.NumGoroutine"))=true)
    (t:RecS P f k A R args m res m'->A->T R)
    (h:∀x a,(zza P gs drawOk fn (fn.body.getD .skip) k k (t x a) (args a) (m a) (res a) (m' a)).side true=(zza P gs drawOk fn (fn.body.getD .skip) k k (t x a) (args a) (m a) (res a) (m' a)).side false)
    (x:RecS P f k A R args m res m'):RecS P f k A R args m res m':=
 ⟨fun a=>(t x a).run NN,fun a _ hy=>Oz9 (t x a) hy hd hf (by simp only[Bool.and_eq_true]at hb;exact hb.1) (by simp only[Bool.and_eq_true,Bool.not_eq_true']at hb;exact hb.2) (Ob.of_side (h x a))⟩
def RecS.fix (s:RecS P f k A R args m res m'->RecS P f k A R args m res m'):Nat->RecS P f k A R args m res m'
 |0=>RecS.zero
 |n+1=>s (RecS.fix s n)
end
end Go.Abs
