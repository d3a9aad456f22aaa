/-
  TBase (a part of a claim: our own text).
-/
import Derived.Test.YtlmicknhpllbdaaGreatDoorYMTreeS
import Derived.Test.YtlmicknhpllbdaaGreatDoorYMLib
namespace Go.Abs
def nl {a:Type}:List a:=[]
inductive U0 where
 |u
instance:Inhabited U0:=⟨.u⟩
abbrev azs (n:Int):PVal:=.int .i64 n
abbrev encB (b:Bool):PVal:=.bool b
abbrev azfm (b:ByteArray):PVal:=.str b
def gOps (fn:Func):Array Oper:=
 match fn.body with
 |some (.seq (.region _ ops _) _)=>ops
 |_=>#[]
def gX (fn:Func):Code:=
 match fn.body with
 |some (.seq _ (.cond _ X _))=>X
 |_=>.skip
def gC (o:Oper):Call:=
 match o.op with
 | .call c=>c
 |_=>default
def gMs:Option TypeDesc->Array (String×TypeId)
 |some (.interface a)=>a
 |_=>#[]
abbrev vecO {a:Type}[Inhabited a](sz:Nat)(enc:a->PVal)(l:List a)(e:TypeId):Res:=.vec sz l.length (el enc l) 0 e
abbrev vecS {a:Type}[Inhabited a](sz:Nat)(enc:a->PVal)(l:List a)(e:TypeId):Res:=.vec sz l.length (el enc l) l.length e
def mdom {K V:Type}(a:K->List PVal):List (K×V)->List PVal->Bool
 |[],_=>false
 |b::m,q=>szq q (a b.1)||mdom a m q
def mget {K:Type}(a:K->List PVal):List (K×Int)->List PVal->Int
 |[],_=>0
 |b::m,q=>if szq q (a b.1)then b.2 else mget a m q
def Gzt {K:Type}(b:List PVal)(a:K->List PVal)(m:List (K×Int)):Res:=.map b (mdom a m) (fun q=>.int .i64 (mget a m q))
def Gzw {K:Type}(a:K->List PVal):List (K×Bool)->List PVal->Bool
 |[],_=>false
 |b::m,q=>if szq q (a b.1)then b.2 else Gzw a m q
def Azz {K:Type}(b:List PVal)(a:K->List PVal)(m:List (K×Bool)):Res:=.map b (mdom a m) (fun q=>.bool (Gzw a m q))
theorem aza6 {K:Type}{c:List PVal}{a:K->List PVal}{m:List (K×Bool)}{k:K}{v:Bool}{b:List PVal}(h:b=a k):
 RSub (.map c (fun q=>szq q b||mdom a m q) (fun q=>if szq q b then .bool v else .bool (Gzw a m q))) (.map c (fun q=>mdom a ((k,v)::m) q) (fun q=>.bool (Gzw a ((k,v)::m) q))):=by
 subst h
 exact RSub.map fun p _=>⟨rfl,by grind[Gzw]⟩
theorem aza7 {K:Type}{c:List PVal}{a:K->List PVal}{m:List (K×Int)}{k:K}{v:Int}{b:List PVal}(h:b=a k):
 RSub (.map c (fun q=>szq q b||mdom a m q) (fun q=>if szq q b then .int .i64 v else .int .i64 (mget a m q))) (.map c (fun q=>mdom a ((k,v)::m) q) (fun q=>.int .i64 (mget a ((k,v)::m) q))):=by
 subst h
 exact RSub.map fun p _=>⟨rfl,by simp only[mget];split<;>rfl⟩
def kz9 {K V:Type}[Inhabited V](cells:K->List PVal):List (K×V)->List PVal->V
 |[],_=>default
 |kv::m,q=>if szq q (cells kv.1)then kv.2 else kz9 cells m q
def mapG {K V:Type}[Inhabited V](tm:List PVal)(cells:K->List PVal)(enc:V->PVal)(m:List (K×V)):Res:=.map tm (mdom cells m) (fun q=>enc (kz9 cells m q))
theorem RSub.mapS {tm:List PVal}{dom dom':List PVal->Bool}{val val':List PVal->PVal}(h:∀p,cz8 tm p=true->dom' p=dom p/\(dom p=true->PSub (val p) (val' p))):RSub (.map tm dom val) (.map tm dom' val'):=by
 refine⟨fun F w ρ id hr=>⟨?_,fun b hb=>hb⟩⟩
 obtain⟨es,clock,h1,h2,h3,h4,h5⟩:=hr
 exact⟨es,clock,h1,h2,h3,fun p hp hf=>(h p hp).1.trans (h4 p hp hf),fun p v hp hf=>⟨(h p hp).1.trans (h5 p v hp hf).1,((h p hp).2 (h5 p v hp hf).1).rel _ _ _ (h5 p v hp hf).2⟩⟩
theorem Tzi {K V:Type}[Inhabited V]{cells:K->List PVal}{enc:V->PVal}{z:PVal}(h:(subP z (enc default)).side true=(subP z (enc default)).side false):∀ {m:List (K×V)} {q:List PVal},mdom cells m q=false->PSub z (enc (kz9 cells m q))
 |[],_,_=>Wzp (Ob.of_side h)
 |kv::m,q,hq=>by
  simp only[mdom,Bool.or_eq_false_iff]at hq
  simp only[kz9,hq.1]
  exact Tzi h hq.2
def azbu {K V:Type}[Inhabited V](tm:List PVal)(cells:K->List PVal)(enc:V->PVal)(z:PVal):Conv:=
 .res none (.map tm (fun _=>false) (fun _=>z)) (mapG tm cells enc ([]:List (K×V))) fun _=>RSub.mapS fun _ _=>⟨rfl,fun h=>by cases h⟩
def az2f {K V:Type}[Inhabited V](tm:List PVal)(cells:K->List PVal)(enc:V->PVal)(m:List (K×V))(k:K)(v:V)(p:PVal)(h:(subP p (enc v)).side true=(subP p (enc v)).side false):Conv:=
 .res none (.map tm (fun q=>szq q (cells k)||mdom cells m q) (fun q=>if szq q (cells k)then p else enc (kz9 cells m q))) (mapG tm cells enc ((k,v)::m)) fun _=>RSub.mapS fun q _=>⟨rfl,fun _=>by
  simp only[kz9]
  split
  ·exact Wzp (Ob.of_side h)
  ·exact PSub.refl _⟩
structure CSub (p q:PVal):Prop where
 len:p.cells.length=q.cells.length
 get:∀ (j:Nat) (p' q':PVal),p.cells[j]?=some p'->q.cells[j]?=some q'->PSub p' q'
theorem CSub.refl (p:PVal):CSub p p:=⟨rfl,fun j a d c b=>by grind[PSub.refl]⟩
theorem CSub.of_eq {p q:PVal}(h:p=q):CSub p q:=h▸CSub.refl p
theorem CSub.agg {l a:List PVal}(h:PSubs l a):CSub (.agg l) (.agg a):=by
 obtain⟨b,e⟩:=h.get
 refine⟨b,fun j p q c d=>?_⟩
 grind[PVal.cells]
theorem CSub.lst {sz a n b:Nat}{f g:Nat->PVal}(h:PSub (.lst sz n f) (.lst a b g)):CSub (.lst sz n f) (.lst a b g):=by
 refine⟨rfl,fun j p q c d=>?_⟩
 grind[PVal.cells]
theorem CSub.cell {p q:PVal}(h:CSub p q){j:Nat}{b:PVal}(c:q.cells[j]?=some b):∃a,p.cells[j]?=some a/\PSub a b:=by
 have d:j<p.cells.length:=by rw[h.len];grind
 exact⟨p.cells[j],by simp,h.get j _ _ (by simp) c⟩
theorem PSub.lst' {sz n d:Nat}{f g:Nat->PVal}(o:n=d)(h:∀i,i<n->CSub (f i) (g i)):PSub (.lst sz n f) (.lst sz d g):=by
 subst o
 refine⟨fun F w v k=>?_⟩
 cases k with
 |nil=>exact .nil
 |emp m=>exact .emp m
 |sl c s q t u r=>
  refine .sl c s q (fun i hi=>by rw[←(h i hi).len];simp_all) (fun i j p hi b=>?_) (fun i j p hi b=>?_)
  ·obtain⟨e,a,_⟩:=(h i hi).cell b;simp_all
  ·obtain⟨e,a,l⟩:=(h i hi).cell b;exact l.rel F w _ (r i j e hi a)
theorem RSub.vec' {sz n m k k':Nat}{f g:Nat->PVal}{e:TypeId}(y:n=m)(D:k≤k')(d:k'≤n)(h:∀i,i<n->CSub (f i) (g i)):RSub (.vec sz n f k e) (.vec sz m g k' e):=by
 subst y
 refine⟨fun F w ρ id a=>⟨?_,fun b I=>I⟩⟩
 obtain⟨_,a⟩:=a
 refine⟨d,?_⟩
 rcases a with q|⟨b,cap,c,q,C,s,B,H,z,K,A⟩
 ·simp_all
 ·refine .inr ⟨b,cap,c,q,C,s,B,H,fun o r=>Nat.lt_of_lt_of_le (z o r) (Nat.mul_le_mul_right _ D),fun i hi=>by rw[←(h i hi).len];simp_all,fun i j p hi J=>?_⟩
  obtain⟨u,l,t⟩:=(h i hi).cell J
  obtain⟨v,x,E,G⟩:=A i j u hi l
  exact⟨v,x,E,t.rel F w v G⟩
def CSubs:List PVal->List PVal->Prop
 |[],[]=>True
 |a::l,b::c=>CSub a b/\CSubs l c
 |_,_=>False
theorem CSubs.refl:∀ (l:List PVal),CSubs l l
 |[]=>trivial
 |a::l=>⟨CSub.refl a,CSubs.refl l⟩
theorem CSubs.get:∀ {l c:List PVal},CSubs l c->l.length=c.length/\∀ (j:Nat) (p q:PVal),l[j]?=some p->c[j]?=some q->CSub p q
 |[],[],_=>⟨rfl,by simp⟩
 |[],_::_,h=>h.elim
 |_::_,[],h=>h.elim
 |a::l,b::c,h=>by
  obtain⟨g,f⟩:=CSubs.get h.2
  refine⟨by simp[g],fun j p q d e=>?_⟩
  cases j with
  |zero=>simp at d e;subst d;subst e;exact h.1
  |succ j=>exact f j p q (by simpa using d) (by simpa using e)
structure IsL {α:Type} [Inhabited α] (n:Nat) (f:Nat->PVal) (enc:α->PVal) (L:List α):Prop where
 len:n=L.length
 get:∀i,i<n->CSub (f i) (enc (L.getD i default))
variable {α:Type} [Inhabited α] {enc:α->PVal} {L X:List α} {n k:Nat} {f h:Nat->PVal}
theorem IsL.el:IsL L.length (el enc L) enc L:=⟨rfl,fun _ _=>CSub.refl _⟩
theorem IsL.nl {g:Nat->PVal}:IsL 0 g enc (Go.Abs.nl:List α):=⟨rfl,fun i hi=>by omega⟩
theorem IsL.app (a:IsL n f enc L)(b:IsL k h enc X):IsL (n+k) (appF n f h) enc (L++X):=by
 refine⟨by simp[a.len,b.len],fun i hi=>?_⟩
 simp only[appF]
 split
 ·rename_i c;rw[getD_left (by rw[←a.len];omega)];exact a.get i c
 ·rw[getD_right (by rw[←a.len];omega),←a.len];exact b.get _ (by omega)
theorem IsL.lit {ps:List PVal}(a:CSubs ps (X.map enc))(c:k=X.length):IsL k (lget ps) enc X:=by
 subst c
 refine⟨rfl,fun i hi=>?_⟩
 obtain⟨e,b⟩:=a.get
 have d:i<ps.length:=by simp_all
 have:=b i ps[i] (enc X[i]) (by simp) (by grind)
 grind[lget]
theorem IsL.slice {l e:Nat}(a:IsL n f enc L)(d:e≤n)(b:l≤e):IsL (e-l) (fun i=>f (l+i)) enc ((L.drop l).take (e-l)):=by
 have:=a.len
 refine⟨by grind,fun i hi=>?_⟩
 have c:=a.get (l+i) (by omega)
 simp_all
theorem IsL.take {e:Nat}(a:IsL n f enc L)(b:e≤n):IsL e f enc (L.take e):=by
 have:=a.len
 refine⟨by simp_all,fun i hi=>?_⟩
 have c:=a.get i (by omega)
 grind
theorem IsL.view {lo:Nat}(h:lo+k≤L.length):IsL k (fun i=>Go.Abs.el enc L (lo+i)) enc ((L.drop lo).take k):=by
 refine⟨by grind,fun i hi=>?_⟩
 have a:((L.drop lo).take k).getD i default=L.getD (lo+i) default:=by simp_all
 rw[a];exact CSub.refl _
theorem IsL.set {j:Nat}{p:PVal}{x:α}(a:IsL n f enc L)(d:CSub p (enc x)):IsL n (fun i=>if i=j then p else f i) enc (L.set j x):=by
 refine⟨by simp[a.len],fun i hi=>?_⟩
 have:=a.len
 by_cases e:i=j
 ·simp_all
 ·have b:(L.set j x).getD i default=L.getD i default:=by
   grind
  rw[if_neg e,b];exact a.get i hi
theorem IsL.rep {p:PVal}{x:α}(b:CSub p (enc x)):IsL n (fun _=>p) enc (List.replicate n x):=by
 refine⟨by simp,fun i hi=>?_⟩
 simp_all
theorem IsL.p {sz:Nat}(a:IsL n f enc L):PSub (.lst sz n f) (encL sz enc L):=PSub.lst' a.len a.get
theorem IsL.r0 {sz:Nat}{e:TypeId}(a:IsL n f enc L):RSub (.vec sz n f 0 e) (.vec sz L.length (Go.Abs.el enc L) 0 e):=
 RSub.vec' a.len (Nat.le_refl _) (Nat.zero_le _) a.get
theorem IsL.r {sz s:Nat}{e:TypeId}(b:IsL n f enc L)(c:s≤n):RSub (.vec sz n f s e) (.vec sz L.length (Go.Abs.el enc L) L.length e):=by
 have:=b.len
 exact RSub.vec' this (by omega) (by omega) b.get
abbrev az86 {a:Type}[Inhabited a](sz:Nat)(enc:a->PVal)(l:List (List a))(e b:TypeId):Res:=.vecT sz l.length (el (encL sz enc) l) e b none
structure IsLL {α:Type} [Inhabited α] (sz n:Nat) (f:Nat->PVal) (enc:α->PVal) (L:List (List α)):Prop where
 len:n=L.length
 get:∀i,i<n->∃n' g,f i=.lst sz n' g/\IsL n' g enc (L.getD i default)
theorem IsLL.el {sz:Nat}{L:List (List α)}:IsLL sz L.length (Go.Abs.el (encL sz enc) L) enc L:=⟨rfl,fun _ _=>⟨_,_,rfl,IsL.el⟩⟩
theorem IsLL.rep {sz n:Nat}{g:Nat->PVal}:IsLL sz n (fun _=>.lst sz 0 g) enc (List.replicate n (Go.Abs.nl:List α)):=by
 refine⟨by simp,fun i hi=>⟨0,g,rfl,?_⟩⟩
 grind[IsL.nl]
theorem IsLL.set {sz n b j:Nat}{f g:Nat->PVal}{L:List (List α)}{X:List α}(a:IsLL sz n f enc L)(d:IsL b g enc X):IsLL sz n (fun q=>if q=j then .lst sz b g else f q) enc (L.set j X):=by
 refine⟨by simp[a.len],fun i hi=>?_⟩
 have:=a.len
 by_cases e:i=j
 ·grind
 ·obtain⟨m,l,h,k⟩:=a.get i hi
  grind
theorem IsLL.r {sz n:Nat}{f:Nat->PVal}{e q:TypeId}{L:List (List α)}(d:IsLL sz n f enc L):RSub (.vecT sz n f e q none) (.vecT sz L.length (Go.Abs.el (encL sz enc) L) e q none):=by
 obtain⟨rfl,h⟩:=d
 refine⟨fun F w ρ id s=>⟨?_,fun b R=>R⟩⟩
 obtain⟨b,cap,c,N,K,O,S,A,X,M,t⟩:=s
 refine⟨b,cap,c,N,K,O,S,A,X,fun i hi=>?_,t⟩
 obtain⟨v,T,G,u⟩:=M i hi
 obtain⟨x,n',g,p1,I,P⟩:=u.resolve_left (by simp)
 obtain⟨n2,g2,m,l⟩:=h i hi
 rw[p1]at m;cases m
 refine⟨v,T,G,.inr ⟨x,_,_,rfl,I,Nat.zero_le _,?_⟩⟩
 rw[←l.len]
 rcases P.2 with o|⟨J,a,D,d,H,o,z,Y,W,U,y⟩
 ·simp_all
 ·refine .inr ⟨J,a,D,d,H,o,z,Y,W,fun i hi=>(l.get i hi).len.symm.trans (U i hi),fun i j p hi Z=>?_⟩
  obtain⟨B,k,Q⟩:=(l.get i hi).cell Z
  obtain⟨v,E,V,C⟩:=y i j B hi k
  exact⟨v,E,V,Q.rel F w v C⟩
theorem azgl {p q:PVal}(h:(subP p q).holds):CSub p q:=by
 unfold subP at h
 split at h
 ·exact CSub.lst (PSub.nil h.1 h.2)
 ·grind[CSub.agg,Wzq]
 ·exact CSub.of_eq h
theorem ixOk {i:Int}{n:Nat}(h:(decide (0≤i)&&decide (i<(n:Int)))=true):0≤i/\i<(n:Int):=by
 simp_all
abbrev T.ix {R:Type}(i:Int)(n:Nat)(h:(decide (0≤i)&&decide (i<(n:Int)))=true)(k:T R):T R:=.ok (0≤i/\i<(n:Int)) (ixOk h) k
section
variable (sz:Nat) (enc:α->PVal) (L X:List α) (e:TypeId)
def azgz:Conv:=.res none (.vec sz X.length (lget (X.map enc)) 0 e) (vecO sz enc X e) fun _=>(IsL.lit (CSubs.refl _) rfl).r0
def azgx:Conv:=.res none (.vec sz (L.length+X.length) (appF L.length (el enc L) (el enc X)) 0 e) (vecO sz enc (L++X) e) fun _=>(IsL.app IsL.el IsL.el).r0
def azbt:Conv:=.res none (.vec sz (L.length+X.length) (appF L.length (el enc L) (el enc X)) L.length e) (vecS sz enc (L++X) e) fun _=>(IsL.app IsL.el IsL.el).r (Nat.le_add_right _ _)
def zzm (n:Nat)(x:α):Conv:=.res none (.vec sz n (fun _=>enc x) 0 e) (vecO sz enc (List.replicate n x) e) fun _=>(IsL.rep (CSub.refl _)).r0
def azbv (n:Nat)(x:α)(p:PVal)(h:(subP p (enc x)).side true=(subP p (enc x)).side false):Conv:=
 .res none (.vec sz n (fun _=>p) 0 e) (vecO sz enc (List.replicate n x) e) fun _=>(IsL.rep (azgl (Ob.of_side h))).r0
def azh1 (i:Nat)(x:α):Conv:=.res none (.vec sz L.length (fun j=>if j=i then enc x else el enc L j) 0 e) (vecO sz enc (L.set i x) e) fun _=>(IsL.set IsL.el (CSub.refl _)).r0
theorem azcq {n:Nat}{l h:Int}(p:0≤l/\l≤h/\h≤(n:Int)):h.toNat≤n/\l.toNat≤h.toNat:=by omega
def Ezu (l h:Int):Conv:=.val (some (0≤l/\l≤h/\h≤((L.length:Nat):Int))) (.lst sz (h.toNat-l.toNat) (fun i=>el enc L (l.toNat+i))) (encL sz enc ((L.drop l.toNat).take (h.toNat-l.toNat)))
 fun p=>(IsL.slice IsL.el (azcq p).1 (azcq p).2).p
def azgy (enc:Int->PVal)(L:List Int)(h:Int):Conv:=.val (some (0≤h/\h≤((L.length:Nat):Int))) (.lst 1 h.toNat (lget (L.map enc))) (encL 1 enc (L.take h.toNat))
 fun p=>(IsL.take (IsL.lit (CSubs.refl _) rfl) (by have:=p.2;omega)).p
def az5j (h:Int):Conv:=.res (some (0≤h/\h≤((L.length:Nat):Int)/\0≤h.toNat)) (.vec sz h.toNat (el enc L) 0 e) (vecO sz enc (L.take h.toNat) e)
 fun p=>(IsL.take IsL.el (by have:=p.2.1;omega)).r0
def azd5 (k lo a:Nat):Conv:=.res (some ((X.length+k) * a≤140737488355328/\X.length+k≤maxLen/\lo+k≤L.length)) (.vec sz (X.length+k) (appF X.length (el enc X) (fun i=>el enc L (lo+i))) 0 e) (vecO sz enc (X++(L.drop lo).take k) e)
 fun p=>(IsL.app IsL.el (IsL.view p.2.2)).r0
def azfk (n:Nat)(a:TypeId):Conv:=.res none (.vecT sz n (fun _=>.lst sz 0 fun _=>.unk) e a none) (az86 sz enc (List.replicate n (Go.Abs.nl:List α)) e a) fun _=>IsLL.rep.r
def azbw (a:List (List α))(i:Nat)(b:TypeId):Conv:=.res none (.vecT sz a.length (fun q=>if q=i then .lst sz X.length (el enc X)else el (encL sz enc) a q) e b none) (az86 sz enc (a.set i X) e b) fun _=>(IsLL.set IsLL.el IsL.el).r
end
def azh0 {K:Type}(tm:List PVal)(cells:K->List PVal)(m:List (K×Int))(k:K)(v:Int):Conv:=
 .res none (.map tm (fun q=>szq q (cells k)||mdom cells m q) (fun q=>if szq q (cells k)then .int .i64 v else .int .i64 (mget cells m q))) (Gzt tm cells ((k,v)::m)) fun _=>aza7 rfl
theorem az2v {K:Type}{cells:K->List PVal}:∀ {m:List (K×Bool)} {q:List PVal},mdom cells m q=false->PSub (.bool false) (PVal.bool (Gzw cells m q))
 |[],_,_=>PSub.refl _
 |kv::m,q,h=>by
  simp only[mdom,Bool.or_eq_false_iff]at h
  simp only[Gzw,h.1]
  exact az2v h.2
def az5i {K:Type}(tm:List PVal)(cells:K->List PVal)(m:List (K×Bool))(k:K)(v:Bool):Conv:=
 .res none (.map tm (fun q=>szq q (cells k)||mdom cells m q) (fun q=>if szq q (cells k)then .bool v else .bool (Gzw cells m q))) (Azz tm cells ((k,v)::m)) fun _=>aza6 rfl
theorem azg3 {K:Type}{cells:K->List PVal}{k:IntKind}:∀ {m:List (K×Int)} {q:List PVal},mdom cells m q=false->PSub (.int k 0) (PVal.int k (mget cells m q))
 |[],_,_=>PSub.refl _
 |kv::m,q,h=>by
  simp only[mdom,Bool.or_eq_false_iff]at h
  simp only[mget,h.1]
  exact azg3 h.2
def NN:Nat:=4294967296
def mkH {P:Program}{a:List Oper->List Eff->Bool}{R:Type}(i:List (GuardS P))(g:fzw P a){f:FuncId}{fn:Func}(e:P.funcs[f]?=some fn)(j:(fn.body.isSome&& !(fn.name== "runtime.NumGoroutine"))=true)
    (t:T R) (k:Nat) (args:List AVal) (m:Mem) (b:R->AVal) (c:R->Mem) (h:(vzj P i a fn (fn.body.getD .skip) k k t args m b c).holds):CallS R:=
 ⟨P,.fn f,t.run NN,k,args,m,b,c,fun _ d=>Wzn t d g e (by simp_all) (by simp_all) h⟩
def mkC {P:Program}{a:List Oper->List Eff->Bool}{R:Type}(d:List (GuardS P))(i:fzw P a){f:FuncId}{fn:Func}(g:P.funcs[f]?=some fn)(j:(fn.body.isSome&& !(fn.name== "runtime.NumGoroutine"))=true)
    (t:T R) (k:Nat) (args:List AVal) (m:Mem) (b:R->AVal) (c:R->Mem)
    (h:(vzj P d a fn (fn.body.getD .skip) k k t args m b c).side true=(vzj P d a fn (fn.body.getD .skip) k k t args m b c).side false):CallS R:=
 ⟨P,.fn f,t.run NN,k,args,m,b,c,fun _ e=>Wzn t e i g (by simp_all) (by simp_all) (Ob.of_side h)⟩
structure RecS (P:Program) (f:FuncId) (k:Nat) (A R:Type) (args:A->List AVal) (m:A->Mem) (res:A->R->AVal) (m':A->R->Mem)where
 o:A->Option R
 ok:∀a y,o a=some y->Spec P f k (args a) (m a) (res a y) (m' a y)
section
variable {P:Program} {f:FuncId} {k:Nat} {A R:Type} {args:A->List AVal} {m:A->Mem} {res:A->R->AVal} {m':A->R->Mem}
def RecS.C (x:RecS P f k A R args m res m')(a:A):CallS R:=⟨P,.fn f,x.o a,k,args a,m a,res a,m' a,x.ok a⟩
def RecS.zero:RecS P f k A R args m res m':=⟨fun _=>none,fun _ _ h=>by cases h⟩
def RecS.next {b:List Oper->List Eff->Bool}(e:List (GuardS P))(j:fzw P b){fn:Func}(i:P.funcs[f]?=some fn)(l:(fn.body.isSome&& !(fn.name== "runtime.NumGoroutine"))=true)
    (t:RecS P f k A R args m res m'->A->T R)
    (h:∀x a,(vzj P e b fn (fn.body.getD .skip) k k (t x a) (args a) (m a) (res a) (m' a)).side true=(vzj P e b fn (fn.body.getD .skip) k k (t x a) (args a) (m a) (res a) (m' a)).side false)
    (x:RecS P f k A R args m res m'):RecS P f k A R args m res m':=
 ⟨fun a=>(t x a).run NN,fun a _ g=>Wzn (t x a) g j i (by simp_all) (by simp_all) (Ob.of_side (h x a))⟩
def RecS.fix (s:RecS P f k A R args m res m'->RecS P f k A R args m res m'):Nat->RecS P f k A R args m res m'
 |0=>RecS.zero
 |n+1=>s (RecS.fix s n)
end
theorem RSub.vecU {sz n r k k' off m:Nat}{f q:Nat->PVal}{e o:TypeId}{l:List (Nat×Nat)}(v:n=r)(g:k=k')(h:∀i,i<n->f i=q i):RSub (.vecU sz n f k e off m o l) (.vecU sz r q k' e off m o l):=by
 subst v;subst g
 refine⟨fun F w ρ id d=>⟨?_,fun b E=>E⟩⟩
 obtain⟨z,g,d⟩:=d
 refine⟨z,g,d.imp (fun h=>h) fun ⟨b,cap,c,A,B,t,u,y,C,a,x⟩=>⟨b,cap,c,A,B,t,u,y,C,⟨fun i hi=>by rw[←h i hi];exact a.len i hi,fun i j p hi D s=>a.cell i j p hi D (by simp_all),fun i p hi G s=>a.own i p hi G (by simp_all),a.hole,a.nodup,a.inj⟩,x⟩⟩
theorem RSub.toU {sz n off r:Nat}{f:Nat->PVal}{e v:TypeId}(k:off<sz):RSub (.vec sz n f 0 e) (.vecU sz n f 0 e off r v []):=by
 refine⟨fun F w ρ id d=>⟨?_,fun b a=>?_⟩⟩
 ·obtain⟨_,d⟩:=d
  refine⟨k,Nat.zero_le _,d.imp (fun h=>⟨h.1,h.2,rfl⟩) fun ⟨b,cap,c,y,s,q,t,m,B,l,u⟩=>⟨b,cap,c,y,s,q,t,m,fun o a=>by simp_all,⟨l,fun i j p hi _ g=>u i j p hi g,fun i p hi _ g=>?_,fun x A=>(by grind),(by simp),fun i z b h=>absurd h.2.1 (Nat.not_lt_zero _)⟩,fun i h=>absurd h.2.1 (Nat.not_lt_zero _)⟩⟩
  grind
 ·rcases a with a|⟨_,_,_,_,_,_,_,_,_,h,_⟩
  ·exact .inl a
  omega
section
variable {α:Type} [Inhabited α]
abbrev azbm (sz:Nat)(enc:α->PVal)(l:List α)(k:Nat)(e:TypeId)(off c:Nat)(b:TypeId)(d:List (Nat×Nat)):Res:=.vecU sz l.length (el enc l) k e off c b d
abbrev Rz5 (sz:Nat)(enc:α->PVal)(l:List α)(e:TypeId)(off c:Nat)(b:TypeId):Res:=.vecU sz l.length (el enc l) l.length e off c b []
theorem az2g {enc:α->PVal}{L:List α}{h q:Nat}{v:α}(b:q<L.length):el enc (L.set h v) q=if q=h then enc v else el enc L q:=by
 grind[el]
variable (sz:Nat) (enc:α->PVal) (L:List α) (e:TypeId) (off s':Nat) (e':TypeId)
def azh2 (h:(decide (off<sz))=true):Conv:=.res none (vecO sz enc L e) (azbm sz enc L 0 e off s' e' []) fun _=>RSub.toU (of_decide_eq_true h)
def azfh (k:Nat):Conv:=.res (some (k=L.length)) (azbm sz enc L k e off s' e' []) (Rz5 sz enc L e off s' e') fun h=>RSub.vecU rfl h fun _ _=>rfl
def azfj (h:Nat)(p:PVal)(v:α)(d:Pz5 (enc (L.getD h default)) ((enc (L.getD h default)).cells.take off++[p]++(enc (L.getD h default)).cells.drop (off+1))=enc v):Conv:=
 .res none (.vecU sz L.length (ozs (el enc L) h off p) L.length e off s' e' []) (Rz5 sz enc (L.set h v) e off s' e') fun _=>RSub.vecU (by simp) (by simp) fun q b=>by
  rw[az2g b]
  unfold ozs
  split
  ·exact d
  ·rfl
def azfi (k h:Nat)(ps:List PVal)(p:PVal)(v:α)(d:PVal.agg (ps.take off++[p]++ps.drop (off+1))=enc v):Conv:=
 .res none (.vecU sz L.length (ozs (fun j=>if j=h then .agg ps else el enc L j) h off p) k e off s' e' []) (azbm sz enc (L.set h v) k e off s' e' []) fun _=>RSub.vecU (by simp) rfl fun q b=>by
  rw[az2g b]
  unfold ozs
  split
  ·simp only[if_true];exact d
  simp_all
def azd6 (i j:Nat)(A B:List PVal)(pa pb:PVal)(vi vj:α)(ha:PVal.agg (A.take off++[pa]++A.drop (off+1))=enc vj)(hb:PVal.agg (B.take off++[pb]++B.drop (off+1))=enc vi):Conv:=
 .res (some (j≠i)) (.vecU sz L.length (ozs (ozs (fun q=>if q=j then .agg A else if q=i then .agg B else el enc L q) j off pa) i off pb) L.length e off s' e' []) (Rz5 sz enc ((L.set i vi).set j vj) e off s' e') fun hne=>RSub.vecU (by simp) (by simp) fun q hq=>by
  rw[az2g (by simpa using hq),az2g hq]
  by_cases h1:q=i
  ·subst h1
   have h2:¬q=j:=fun h=>hne h.symm
   have h3:¬q=j:=h2
   simp only[ozs,if_true,if_neg h2]
   exact hb
  ·by_cases h2:q=j
   ·subst h2
    simp only[ozs,if_true,if_neg h1]
    exact ha
   ·simp only[ozs,if_neg h1,if_neg h2]
end
class En (α:Type)where
 n:Nat
 e:α->PVal
instance:En Int:=⟨1,azs⟩
instance:En Bool:=⟨1,encB⟩
instance:En ByteArray:=⟨1,azfm⟩
section
variable {α:Type} [En α] [Inhabited α]
instance:En (List α):=⟨1,encL (En.n α) En.e⟩
abbrev q {α:Type}[En α](x:α):AVal:=.pure (En.e x)
abbrev vO (l:List α)(t:TypeId):Res:=vecO (En.n α) En.e l t
abbrev vS (l:List α)(t:TypeId):Res:=vecS (En.n α) En.e l t
abbrev kL (l:List α)(t:TypeId):Conv:=azgz (En.n α) En.e l t
abbrev kA (l m:List α)(t:TypeId):Conv:=azgx (En.n α) En.e l m t
abbrev kS (l:List α)(t:TypeId)(i:Nat)(x:α):Conv:=azh1 (En.n α) En.e l t i x
end
abbrev ik (r:Nat)(l m:List Nat)(s:St)(x:Int):St:=pk s l m [(r,q x)] []
abbrev jk (l m:List Nat)(s:St)(_:U0):St:=pk s l m [] []
noncomputable abbrev T.cub {R:Type}(d r:Nat)(l m:List Nat)(body:T (Step3 Unit Bool R))(k:Bool->T R):T R:=.cut d (fun s z=>pk s l m [(r,q z)] []) body k
end Go.Abs
