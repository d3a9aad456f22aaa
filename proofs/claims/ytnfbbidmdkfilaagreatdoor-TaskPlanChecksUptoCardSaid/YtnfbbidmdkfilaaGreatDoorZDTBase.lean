import Derived.Test.YtnfbbidmdkfilaaGreatDoorZDTreeS
import Derived.Test.YtnfbbidmdkfilaaGreatDoorZDLib
open Bool renaming or_eq_false_iff->qp
open Go renaming TypeId->qq,Program->qo
open Inhabited renaming default->qu
open List renaming replicate->qs
namespace Go.Abs
def nl {a:Type}:List a:=[]
inductive U0 where
 |u
instance:Inhabited U0:=⟨.u⟩
abbrev azy (n:Int):PVal:=.int .i64 n
abbrev encB (b:Bool):PVal:=.bool b
abbrev azob (b:ByteArray):PVal:=.str b
def gOps (fn:Func):Array Oper:=
 match fn.body with
 |some (.seq (.region _ ops _) _)=>ops
 |_=>#[]
def gX (fn:Func):Code:=
 match fn.body with
 |some (.seq _ (.cond _ X _))=>X
 |_=>.skip
def gC (o:Oper):Call:=
 match o.op with
 | .call c=>c
 |_=>qu
def gMs:Option TypeDesc->Array (String×qq)
 |some (.interface a)=>a
 |_=>#[]
abbrev vecO {a:Type}[Inhabited a](sz:Nat)(enc:a->PVal)(l:List a)(e:qq):Res:=.vec sz l.length (el enc l) 0 e
abbrev vecS {a:Type}[Inhabited a](sz:Nat)(enc:a->PVal)(l:List a)(e:qq):Res:=.vec sz l.length (el enc l) l.length e
def mdom {K V:Type}(a:K->List PVal):List (K×V)->List PVal->Bool
 |[],_=>false
 |b::m,q=>Czj q (a b.1)||mdom a m q
def mget {K:Type}(a:K->List PVal):List (K×Int)->List PVal->Int
 |[],_=>0
 |b::m,q=>if Czj q (a b.1)then b.2 else mget a m q
def Yzk {K:Type}(b:List PVal)(a:K->List PVal)(m:List (K×Int)):Res:=.map b (mdom a m) (λq=>.int .i64 (mget a m q))
def Kzb {K:Type}(a:K->List PVal):List (K×Bool)->List PVal->Bool
 |[],_=>false
 |b::m,q=>if Czj q (a b.1)then b.2 else Kzb a m q
def Dzt {K:Type}(b:List PVal)(a:K->List PVal)(m:List (K×Bool)):Res:=.map b (mdom a m) (λq=>.bool (Kzb a m q))
theorem azhe {K:Type}{c:List PVal}{a:K->List PVal}{m:List (K×Bool)}{k:K}{v:Bool}{b:List PVal}(h:b=a k):
 RSub (.map c (λq=>Czj q b||mdom a m q) (λq=>if Czj q b then .bool v else .bool (Kzb a m q))) (.map c (λq=>mdom a ((k,v)::m) q) (λq=>.bool (Kzb a ((k,v)::m) q))):=by
 subst h;exact RSub.map λp _=>⟨rfl,by grind[Kzb]⟩
def jzw {K V:Type}[Inhabited V](cells:K->List PVal):List (K×V)->List PVal->V
 |[],_=>qu
 |kv::m,q=>if Czj q (cells kv.1)then kv.2 else jzw cells m q
def mapG {K V:Type}[Inhabited V](tm:List PVal)(cells:K->List PVal)(enc:V->PVal)(m:List (K×V)):Res:=.map tm (mdom cells m) (λq=>enc (jzw cells m q))
theorem RSub.mapS {tm:List PVal}{dom dom':List PVal->Bool}{val val':List PVal->PVal}(h:∀p,czm tm p=true->dom' p=dom p/\(dom p=true->PSub (val p) (val' p))):RSub (.map tm dom val) (.map tm dom' val'):=by
 refine⟨λF w ρ id hr=>⟨?_,λb hb=>hb⟩⟩;obtain⟨es,clock,h1,h2,h3,h4,h5⟩:=hr;exact⟨es,clock,h1,h2,h3,λp hp hf=>(h p hp).1.trans (h4 p hp hf),λp v hp hf=>⟨(h p hp).1.trans (h5 p v hp hf).1,((h p hp).2 (h5 p v hp hf).1).rel _ _ _ (h5 p v hp hf).2⟩⟩
theorem Wzn {K V:Type}[Inhabited V]{cells:K->List PVal}{enc:V->PVal}{z:PVal}(h:(subP z (enc qu)).side true=(subP z (enc qu)).side false):∀ {m:List (K×V)} {q:List PVal},mdom cells m q=false->PSub z (enc (jzw cells m q))
 |[],_,_=>az01 (Ob.of_side h)
 |kv::m,q,hq=>by
  simp only[mdom,qp]at hq;simp only[jzw,hq.1];exact Wzn h hq.2
def azjb {K V:Type}[Inhabited V](tm:List PVal)(cells:K->List PVal)(enc:V->PVal)(z:PVal):Conv:=
 .res none (.map tm (λ_=>false) (λ_=>z)) (mapG tm cells enc ([]:List (K×V))) λ_=>RSub.mapS λ_ _=>⟨rfl,λh=>by cases h⟩
def az6o {K V:Type}[Inhabited V](tm:List PVal)(cells:K->List PVal)(enc:V->PVal)(m:List (K×V))(k:K)(v:V)(p:PVal)(h:(subP p (enc v)).side true=(subP p (enc v)).side false):Conv:=
 .res none (.map tm (λq=>Czj q (cells k)||mdom cells m q) (λq=>if Czj q (cells k)then p else enc (jzw cells m q))) (mapG tm cells enc ((k,v)::m)) λ_=>RSub.mapS λq _=>⟨rfl,λ_=>by
  simp only[jzw];split
  ·exact az01 (Ob.of_side h)
  ·exact PSub.refl _⟩
structure CSub (p q:PVal):Prop where
 len:p.cells.length=q.cells.length
 get:∀ (j:Nat) (p' q':PVal),p.cells[j]?=some p'->q.cells[j]?=some q'->PSub p' q'
theorem CSub.refl (p:PVal):CSub p p:=⟨rfl,λj a d c b=>by grind[PSub.refl]⟩
theorem CSub.of_eq {p q:PVal}(h:p=q):CSub p q:=h▸CSub.refl p
theorem CSub.agg {l a:List PVal}(h:PSubs l a):CSub (.agg l) (.agg a):=by
 obtain⟨b,e⟩:=h.get;refine⟨b,λj p q c d=>?_⟩
 grind[PVal.cells]
theorem CSub.lst {sz a n b:Nat}{f g:Nat->PVal}(h:PSub (.lst sz n f) (.lst a b g)):CSub (.lst sz n f) (.lst a b g):=by
 refine⟨rfl,λj p q c d=>?_⟩
 grind[PVal.cells]
theorem CSub.cell {p q:PVal}(h:CSub p q){j:Nat}{b:PVal}(c:q.cells[j]?=some b):∃a,p.cells[j]?=some a/\PSub a b:=by
 have d:j<p.cells.length:=by rw[h.len];grind
 exact⟨p.cells[j],jq,h.get j _ _ jq c⟩
theorem PSub.lst' {sz n d:Nat}{f g:Nat->PVal}(o:n=d)(h:∀i,i<n->CSub (f i) (g i)):PSub (.lst sz n f) (.lst sz d g):=by
 subst o;refine⟨λF w v k=>?_⟩;cases k with
 |nil=>exact .nil
 |emp m=>exact .emp m
 |sl c s q t u r=>
  refine .sl c s q (λi hi=>by rw[<-(h i hi).len];simp_all) (λi j p hi b=>?_) (λi j p hi b=>?_)
  ·obtain⟨e,a,_⟩:=(h i hi).cell b;simp_all
  ·obtain⟨e,a,l⟩:=(h i hi).cell b;exact l.rel F w _ (r i j e hi a)
theorem RSub.vec' {sz n m k k':Nat}{f g:Nat->PVal}{e:qq}(y:n=m)(D:k<=k')(d:k'<=n)(h:∀i,i<n->CSub (f i) (g i)):RSub (.vec sz n f k e) (.vec sz m g k' e):=by
 subst y;refine⟨λF w ρ id a=>⟨?_,λb I=>I⟩⟩;obtain⟨_,a⟩:=a;refine⟨d,?_⟩;rcases a with q|⟨b,cap,c,q,C,s,B,H,z,K,A⟩
 ·simp_all
 ·refine .inr ⟨b,cap,c,q,C,s,B,H,λo r=>Nat.lt_of_lt_of_le (z o r) (Nat.mul_le_mul_right _ D),λi hi=>by rw[<-(h i hi).len];simp_all,λi j p hi J=>?_⟩;obtain⟨u,l,t⟩:=(h i hi).cell J;obtain⟨v,x,E,G⟩:=A i j u hi l;exact⟨v,x,E,t.rel F w v G⟩
def CSubs:List PVal->List PVal->Prop
 |[],[]=>True
 |a::l,b::c=>CSub a b/\CSubs l c
 |_,_=>False
theorem CSubs.refl:∀ (l:List PVal),CSubs l l
 |[]=>trivial
 |a::l=>⟨CSub.refl a,CSubs.refl l⟩
theorem CSubs.get:∀ {l c:List PVal},CSubs l c->l.length=c.length/\∀ (j:Nat) (p q:PVal),l[j]?=some p->c[j]?=some q->CSub p q
 |[],[],_=>⟨rfl,jq⟩
 |[],_::_,h=>h.elim
 |_::_,[],h=>h.elim
 |a::l,b::c,h=>by
  obtain⟨g,f⟩:=CSubs.get h.2;refine⟨by simp[g],λj p q d e=>?_⟩;cases j with
  |zero=>simp at d e;subst d;subst e;exact h.1
  |succ j=>exact f j p q (by simpa using d) (by simpa using e)
structure IsL {α:Type} [Inhabited α] (n:Nat) (f:Nat->PVal) (enc:α->PVal) (L:List α):Prop where
 len:n=L.length
 get:∀i,i<n->CSub (f i) (enc (L.getD i qu))
variable {α:Type} [Inhabited α] {enc:α->PVal} {L X:List α} {n k:Nat} {f h:Nat->PVal}
theorem IsL.el:IsL L.length (el enc L) enc L:=⟨rfl,λ_ _=>CSub.refl _⟩
theorem IsL.nl {g:Nat->PVal}:IsL 0 g enc (Go.Abs.nl:List α):=⟨rfl,λi hi=>qa⟩
theorem IsL.app (a:IsL n f enc L)(b:IsL k h enc X):IsL (n+k) (appF n f h) enc (L++X):=by
 refine⟨by simp[a.len,b.len],λi hi=>?_⟩;simp only[appF];split
 ·rename_i c;rw[getD_left (by rw[<-a.len];omega)];exact a.get i c
 ·rw[getD_right (by rw[<-a.len];omega),<-a.len];exact b.get _ qa
theorem IsL.lit {ps:List PVal}(a:CSubs ps (X.map enc))(c:k=X.length):IsL k (lget ps) enc X:=by
 subst c;refine⟨rfl,λi hi=>?_⟩;obtain⟨e,b⟩:=a.get;have d:i<ps.length:=jr
 have:=b i ps[i] (enc X[i]) jq jt
 grind[lget]
theorem IsL.slice {l e:Nat}(a:IsL n f enc L)(d:e<=n)(b:l<=e):IsL (e-l) (λi=>f (l+i)) enc ((L.drop l).take (e-l)):=by
 have:=a.len;refine⟨jt,λi hi=>?_⟩;have c:=a.get (l+i) qa
 simp_all
theorem IsL.take {e:Nat}(a:IsL n f enc L)(b:e<=n):IsL e f enc (L.take e):=by
 have:=a.len;refine⟨jr,λi hi=>?_⟩;have c:=a.get i qa
 grind
theorem IsL.view {lo:Nat}(h:lo+k<=L.length):IsL k (λi=>Go.Abs.el enc L (lo+i)) enc ((L.drop lo).take k):=by
 refine⟨jt,λi hi=>?_⟩;have a:((L.drop lo).take k).getD i qu=L.getD (lo+i) qu:=jr
 rw[a];exact CSub.refl _
theorem IsL.set {j:Nat}{p:PVal}{x:α}(a:IsL n f enc L)(d:CSub p (enc x)):IsL n (λi=>if i=j then p else f i) enc (L.set j x):=by
 refine⟨by simp[a.len],λi hi=>?_⟩;have:=a.len;by_cases e:i=j
 ·simp_all
 ·have b:(L.set j x).getD i qu=L.getD i qu:=by
   grind
  rw[qb e,b];exact a.get i hi
theorem IsL.rep {p:PVal}{x:α}(b:CSub p (enc x)):IsL n (λ_=>p) enc (qs n x):=by
 refine⟨jq,λi hi=>?_⟩
 simp_all
theorem IsL.p {sz:Nat}(a:IsL n f enc L):PSub (.lst sz n f) (encL sz enc L):=PSub.lst' a.len a.get
theorem IsL.r0 {sz:Nat}{e:qq}(a:IsL n f enc L):RSub (.vec sz n f 0 e) (.vec sz L.length (Go.Abs.el enc L) 0 e):=
 RSub.vec' a.len (Nat.le_refl _) (Nat.zero_le _) a.get
theorem IsL.r {sz s:Nat}{e:qq}(b:IsL n f enc L)(c:s<=n):RSub (.vec sz n f s e) (.vec sz L.length (Go.Abs.el enc L) L.length e):=by
 have:=b.len;exact RSub.vec' this qa qa b.get
abbrev azf5 {a:Type}[Inhabited a](sz:Nat)(enc:a->PVal)(l:List (List a))(e b:qq):Res:=.vecT sz l.length (el (encL sz enc) l) e b none
structure IsLL {α:Type} [Inhabited α] (sz n:Nat) (f:Nat->PVal) (enc:α->PVal) (L:List (List α)):Prop where
 len:n=L.length
 get:∀i,i<n->∃n' g,f i=.lst sz n' g/\IsL n' g enc (L.getD i qu)
theorem IsLL.el {sz:Nat}{L:List (List α)}:IsLL sz L.length (Go.Abs.el (encL sz enc) L) enc L:=⟨rfl,λ_ _=>⟨_,_,rfl,IsL.el⟩⟩
theorem IsLL.rep {sz n:Nat}{g:Nat->PVal}:IsLL sz n (λ_=>.lst sz 0 g) enc (qs n (Go.Abs.nl:List α)):=by
 refine⟨jq,λi hi=>⟨0,g,rfl,?_⟩⟩
 grind[IsL.nl]
theorem IsLL.set {sz n b j:Nat}{f g:Nat->PVal}{L:List (List α)}{X:List α}(a:IsLL sz n f enc L)(d:IsL b g enc X):IsLL sz n (λq=>if q=j then .lst sz b g else f q) enc (L.set j X):=by
 refine⟨by simp[a.len],λi hi=>?_⟩;have:=a.len;by_cases e:i=j
 ·grind
 ·obtain⟨m,l,h,k⟩:=a.get i hi
  grind
theorem IsLL.r {sz n:Nat}{f:Nat->PVal}{e q:qq}{L:List (List α)}(d:IsLL sz n f enc L):RSub (.vecT sz n f e q none) (.vecT sz L.length (Go.Abs.el (encL sz enc) L) e q none):=by
 obtain⟨rfl,h⟩:=d;refine⟨λF w ρ id s=>⟨?_,λb R=>R⟩⟩;obtain⟨b,cap,c,N,K,O,S,A,X,M,t⟩:=s;refine⟨b,cap,c,N,K,O,S,A,X,λi hi=>?_,t⟩;obtain⟨v,T,G,u⟩:=M i hi;obtain⟨x,n',g,p1,I,P⟩:=u.resolve_left jq;obtain⟨n2,g2,m,l⟩:=h i hi;rw[p1]at m;cases m;refine⟨v,T,G,.inr ⟨x,_,_,rfl,I,Nat.zero_le _,?_⟩⟩;rw[<-l.len];rcases P.2 with o|⟨J,a,D,d,H,o,z,Y,W,U,y⟩
 ·simp_all
 ·refine .inr ⟨J,a,D,d,H,o,z,Y,W,λi hi=>(l.get i hi).len.symm.trans (U i hi),λi j p hi Z=>?_⟩;obtain⟨B,k,Q⟩:=(l.get i hi).cell Z;obtain⟨v,E,V,C⟩:=y i j B hi k;exact⟨v,E,V,Q.rel F w v C⟩
theorem azkn {p q:PVal}(h:(subP p q).holds):CSub p q:=by
 unfold subP at h;split at h
 ·exact CSub.lst (PSub.nil h.1 h.2)
 ·grind[CSub.agg,az03]
 ·exact CSub.of_eq h
theorem azez:∀ {p q:List PVal},(az02 p q).holds->CSubs p q
 |[],[],_=>trivial
 |[],_::_,h=>by grind[az02,Ob.holds]
 |_::_,[],h=>by grind[az02,Ob.holds]
 |_::_,_::_,h=>by exact⟨azkn h.1,azez h.2⟩
theorem ixOk {i:Int}{n:Nat}(h:(decide (0<=i)&&decide (i<(n:Int)))=true):0<=i/\i<(n:Int):=by
 simp_all
abbrev T.ix {R:Type}(i:Int)(n:Nat)(h:(decide (0<=i)&&decide (i<(n:Int)))=true)(k:T R):T R:=.ok (0<=i/\i<(n:Int)) (ixOk h) k
section
variable (sz:Nat) (enc:α->PVal) (L X:List α) (e:qq)
def azpz:Conv:=.res none (.vec sz X.length (lget (X.map enc)) 0 e) (vecO sz enc X e) λ_=>(IsL.lit (CSubs.refl _) rfl).r0
def azb4 (ps:List PVal)(h:(az02 ps (X.map enc)).side true=(az02 ps (X.map enc)).side false):Conv:=
 .res none (.vec sz X.length (lget ps) 0 e) (vecO sz enc X e) λ_=>(IsL.lit (azez (Ob.of_side h)) rfl).r0
def azpx:Conv:=.res none (.vec sz (L.length+X.length) (appF L.length (el enc L) (el enc X)) 0 e) (vecO sz enc (L++X) e) λ_=>(IsL.app IsL.el IsL.el).r0
def azb3:Conv:=.res none (.vec sz (L.length+X.length) (appF L.length (el enc L) (el enc X)) L.length e) (vecS sz enc (L++X) e) λ_=>(IsL.app IsL.el IsL.el).r (Nat.le_add_right _ _)
def Dz3 (n:Nat)(x:α):Conv:=.res none (.vec sz n (λ_=>enc x) 0 e) (vecO sz enc (qs n x) e) λ_=>(IsL.rep (CSub.refl _)).r0
def azjc (n:Nat)(x:α)(p:PVal)(h:(subP p (enc x)).side true=(subP p (enc x)).side false):Conv:=
 .res none (.vec sz n (λ_=>p) 0 e) (vecO sz enc (qs n x) e) λ_=>(IsL.rep (azkn (Ob.of_side h))).r0
def azq0 (i:Nat)(x:α):Conv:=.res none (.vec sz L.length (λj=>if j=i then enc x else el enc L j) 0 e) (vecO sz enc (L.set i x) e) λ_=>(IsL.set IsL.el (CSub.refl _)).r0
theorem azkk {n:Nat}{l h:Int}(p:0<=l/\l<=h/\h<=(n:Int)):h.toNat<=n/\l.toNat<=h.toNat:=qa
def Dz4 (l h:Int):Conv:=.val (some (0<=l/\l<=h/\h<=((L.length:Nat):Int))) (.lst sz (h.toNat-l.toNat) (λi=>el enc L (l.toNat+i))) (encL sz enc ((L.drop l.toNat).take (h.toNat-l.toNat)))
 λp=>(IsL.slice IsL.el (azkk p).1 (azkk p).2).p
def azpy (enc:Int->PVal)(L:List Int)(h:Int):Conv:=.val (some (0<=h/\h<=((L.length:Nat):Int))) (.lst 1 h.toNat (lget (L.map enc))) (encL 1 enc (L.take h.toNat))
 λp=>(IsL.take (IsL.lit (CSubs.refl _) rfl) (by have:=p.2;omega)).p
def az0y (h:Int):Conv:=.res (some (0<=h/\h<=((L.length:Nat):Int)/\0<=h.toNat)) (.vec sz h.toNat (el enc L) 0 e) (vecO sz enc (L.take h.toNat) e)
 λp=>(IsL.take IsL.el (by have:=p.2.1;omega)).r0
def azl8 (k lo a:Nat):Conv:=.res (some ((X.length+k) * a<=140737488355328/\X.length+k<=maxLen/\lo+k<=L.length)) (.vec sz (X.length+k) (appF X.length (el enc X) (λi=>el enc L (lo+i))) 0 e) (vecO sz enc (X++(L.drop lo).take k) e)
 λp=>(IsL.app IsL.el (IsL.view p.2.2)).r0
def azo7 (n:Nat)(a:qq):Conv:=.res none (.vecT sz n (λ_=>.lst sz 0 λ_=>.unk) e a none) (azf5 sz enc (qs n (Go.Abs.nl:List α)) e a) λ_=>IsLL.rep.r
def azjd (a:List (List α))(i:Nat)(b:qq):Conv:=.res none (.vecT sz a.length (λq=>if q=i then .lst sz X.length (el enc X)else el (encL sz enc) a q) e b none) (azf5 sz enc (a.set i X) e b) λ_=>(IsLL.set IsLL.el IsL.el).r
end
theorem az7b {K:Type}{cells:K->List PVal}:∀ {m:List (K×Bool)} {q:List PVal},mdom cells m q=false->PSub (.bool false) (PVal.bool (Kzb cells m q))
 |[],_,_=>PSub.refl _
 |kv::m,q,h=>by
  simp only[mdom,qp]at h;simp only[Kzb,h.1];exact az7b h.2
def azja {K:Type}(tm:List PVal)(cells:K->List PVal)(m:List (K×Bool))(k:K)(v:Bool):Conv:=
 .res none (.map tm (λq=>Czj q (cells k)||mdom cells m q) (λq=>if Czj q (cells k)then .bool v else .bool (Kzb cells m q))) (Dzt tm cells ((k,v)::m)) λ_=>azhe rfl
def NN:Nat:=4294967296
def mkH {P:qo}{a:List Oper->List Eff->Bool}{R:Type}(i:List (GuardS P))(g:gzb P a){f:FuncId}{fn:Func}(e:P.funcs[f]?=some fn)(j:(fn.body.isSome&& !(fn.name== "runtime.NumGoroutine"))=true)
    (t:T R) (k:Nat) (args:List AVal) (m:Mem) (b:R->AVal) (c:R->Mem) (h:(xzn P i a fn (fn.body.getD .skip) k k t args m b c).holds):CallS R:=
 ⟨P,.fn f,t.run NN,k,args,m,b,c,λ_ d=>Zzx t d g e jr jr h⟩
def mkC {P:qo}{a:List Oper->List Eff->Bool}{R:Type}(d:List (GuardS P))(i:gzb P a){f:FuncId}{fn:Func}(g:P.funcs[f]?=some fn)(j:(fn.body.isSome&& !(fn.name== "runtime.NumGoroutine"))=true)
    (t:T R) (k:Nat) (args:List AVal) (m:Mem) (b:R->AVal) (c:R->Mem)
    (h:(xzn P d a fn (fn.body.getD .skip) k k t args m b c).side true=(xzn P d a fn (fn.body.getD .skip) k k t args m b c).side false):CallS R:=
 ⟨P,.fn f,t.run NN,k,args,m,b,c,λ_ e=>Zzx t e i g jr jr (Ob.of_side h)⟩
structure RecS (P:qo) (f:FuncId) (k:Nat) (A R:Type) (args:A->List AVal) (m:A->Mem) (res:A->R->AVal) (m':A->R->Mem)where
 o:A->Option R
 ok:∀a y,o a=some y->Spec P f k (args a) (m a) (res a y) (m' a y)
section
variable {P:qo} {f:FuncId} {k:Nat} {A R:Type} {args:A->List AVal} {m:A->Mem} {res:A->R->AVal} {m':A->R->Mem}
def RecS.C (x:RecS P f k A R args m res m')(a:A):CallS R:=⟨P,.fn f,x.o a,k,args a,m a,res a,m' a,x.ok a⟩
def RecS.zero:RecS P f k A R args m res m':=⟨λ_=>none,λ_ _ h=>by cases h⟩
def RecS.next {b:List Oper->List Eff->Bool}(e:List (GuardS P))(j:gzb P b){fn:Func}(i:P.funcs[f]?=some fn)(l:(fn.body.isSome&& !(fn.name== "runtime.NumGoroutine"))=true)
    (t:RecS P f k A R args m res m'->A->T R)
    (h:∀x a,(xzn P e b fn (fn.body.getD .skip) k k (t x a) (args a) (m a) (res a) (m' a)).side true=(xzn P e b fn (fn.body.getD .skip) k k (t x a) (args a) (m a) (res a) (m' a)).side false)
    (x:RecS P f k A R args m res m'):RecS P f k A R args m res m':=
 ⟨λa=>(t x a).run NN,λa _ g=>Zzx (t x a) g j i jr jr (Ob.of_side (h x a))⟩
def RecS.fix (s:RecS P f k A R args m res m'->RecS P f k A R args m res m'):Nat->RecS P f k A R args m res m'
 |0=>RecS.zero
 |n+1=>s (RecS.fix s n)
end
section
variable {α:Type} [Inhabited α]
variable (sz:Nat) (enc:α->PVal) (L:List α) (e:qq) (off s':Nat) (e':qq)
end
class En (α:Type)where
 n:Nat
 e:α->PVal
instance:En Int:=⟨1,azy⟩
instance:En Bool:=⟨1,encB⟩
instance:En ByteArray:=⟨1,azob⟩
section
variable {α:Type} [En α] [Inhabited α]
instance:En (List α):=⟨1,encL (En.n α) En.e⟩
abbrev q {α:Type}[En α](x:α):AVal:=.pure (En.e x)
abbrev vO (l:List α)(t:qq):Res:=vecO (En.n α) En.e l t
abbrev vS (l:List α)(t:qq):Res:=vecS (En.n α) En.e l t
abbrev kL (l:List α)(t:qq):Conv:=azpz (En.n α) En.e l t
abbrev kA (l m:List α)(t:qq):Conv:=azpx (En.n α) En.e l m t
abbrev kS (l:List α)(t:qq)(i:Nat)(x:α):Conv:=azq0 (En.n α) En.e l t i x
end
abbrev ik (r:Nat)(l m:List Nat)(s:St)(x:Int):St:=pk s l m [(r,q x)] []
abbrev jk (l m:List Nat)(s:St)(_:U0):St:=pk s l m [] []
noncomputable abbrev T.cub {R:Type}(d r:Nat)(l m:List Nat)(body:T (Step3 Unit Bool R))(k:Bool->T R):T R:=.cut d (λs z=>pk s l m [(r,q z)] []) body k
end Go.Abs
