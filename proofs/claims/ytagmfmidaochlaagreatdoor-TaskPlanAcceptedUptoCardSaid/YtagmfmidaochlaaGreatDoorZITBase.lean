import Derived.Test.YtagmfmidaochlaaGreatDoorZITreeS
import Derived.Test.YtagmfmidaochlaaGreatDoorZILib
open List renaming length->AA
open Option renaming none->AC
open Bool renaming or_eq_false_iff->qo
open Go renaming TypeId->qp,Program->qn
open Inhabited renaming default->qt
open List renaming replicate->qr
open Nat renaming zero_le->wN,not_lt_zero->xL
namespace Go.Abs
def nl {a:Type}:List a:=[]
inductive U0 where
 |u
instance:Inhabited U0:=⟨.u⟩
abbrev bI (n:Int):ae:=.int .i64 n
abbrev encB (b:Bool):ae:=.bool b
abbrev aig (b:ByteArray):ae:=.str b
def gOps (fn:Func):Array Oper:=
 match fn.body with
 |some (.seq (.region _ a _) _)=>a
 |_=>#[]
def gX (fn:Func):Code:=
 match fn.body with
 |some (.seq _ (.cond _ X _))=>X
 |_=>.skip
def gC (o:Oper):Call:=
 match o.op with
 | .call c=>c
 |_=>qt
def gMs:Option TypeDesc->Array (String×qp)
 |some (.interface a)=>a
 |_=>#[]
abbrev vecO {a:Type}[Inhabited a](sz:Nat)(enc:a->ae)(l:List a)(e:qp):Res:=.vec sz (AA l) (el enc l) 0 e
abbrev vecS {a:Type}[Inhabited a](sz:Nat)(enc:a->ae)(l:List a)(e:qp):Res:=.vec sz (AA l) (el enc l) (AA l) e
def mdom {K V:Type}(a:K->List ae):List (K×V)->List ae->Bool
 |[],_=>false
 |b::m,q=>cu q (a b.1)||mdom a m q
def mget {K:Type}(a:K->List ae):List (K×Int)->List ae->Int
 |[],_=>0
 |b::m,q=>if cu q (a b.1)then b.2 else mget a m q
def oe {K:Type}(b:List ae)(a:K->List ae)(m:List (K×Int)):Res:=.map b (mdom a m) (λq=>.int .i64 (mget a m q))
def dV {K:Type}(a:K->List ae):List (K×Bool)->List ae->Bool
 |[],_=>false
 |b::m,q=>if cu q (a b.1)then b.2 else dV a m q
def fW {K:Type}(b:List ae)(a:K->List ae)(m:List (K×Bool)):Res:=.map b (mdom a m) (λq=>.bool (dV a m q))
theorem aft {K:Type}{c:List ae}{a:K->List ae}{m:List (K×Bool)}{k:K}{v:Bool}{b:List ae}(h:b=a k):
 RSub (.map c (λq=>cu q b||mdom a m q) (λq=>if cu q b then .bool v else .bool (dV a m q))) (.map c (λq=>mdom a ((k,v)::m) q) (λq=>.bool (dV a ((k,v)::m) q))):=by
 subst h;exact RSub.map λp _=>⟨rfl,by grind[dV]⟩
theorem afu {K:Type}{c:List ae}{a:K->List ae}{m:List (K×Int)}{k:K}{v:Int}{b:List ae}(h:b=a k):
 RSub (.map c (λq=>cu q b||mdom a m q) (λq=>if cu q b then .int .i64 v else .int .i64 (mget a m q))) (.map c (λq=>mdom a ((k,v)::m) q) (λq=>.int .i64 (mget a ((k,v)::m) q))):=by
 subst h;exact RSub.map λp _=>⟨rfl,by simp only[mget];split<;>rfl⟩
def d8 {K V:Type}[Inhabited V](cells:K->List ae):List (K×V)->List ae->V
 |[],_=>qt
 |a::m,q=>if cu q (cells a.1)then a.2 else d8 cells m q
def mapG {K V:Type}[Inhabited V](a:List ae)(cells:K->List ae)(enc:V->ae)(m:List (K×V)):Res:=.map a (mdom cells m) (λq=>enc (d8 cells m q))
theorem RSub.mapS {o:List ae}{i a:List ae->Bool}{val d:List ae->ae}(h:∀p,bE o p=true->a p=i p/\(i p=true->PSub (val p) (d p))):RSub (.map o i val) (.map o a d):=by refine⟨λF w ρ id B=>⟨?_,λb z=>z⟩⟩;obtain⟨r,g,s,t,x,y,l⟩:=B;exact⟨r,g,s,t,x,λp c j=>(h p c).1.trans (y p c j),λp v c j=>⟨(h p c).1.trans (l p v c j).1,((h p c).2 (l p v c j).1).rel _ _ _ (l p v c j).2⟩⟩
theorem mX {K V:Type}[Inhabited V]{cells:K->List ae}{enc:V->ae}{z:ae}(h:(subP z (enc qt)).side true=(subP z (enc qt)).side false):∀ {m:List (K×V)} {q:List ae},mdom cells m q=false->PSub z (enc (d8 cells m q))
 |[],_,_=>s7 (Ob.of_side h)
 |b::m,q,a=>by
  simp only[mdom,qo]at a;simp only[d8,a.1];exact mX h a.2
def TX {K V:Type}[Inhabited V](a:List ae)(cells:K->List ae)(enc:V->ae)(z:ae):Conv:=
 .res AC (.map a (λ_=>false) (λ_=>z)) (mapG a cells enc ([]:List (K×V))) λ_=>RSub.mapS λ_ _=>⟨rfl,λh=>by cases h⟩
def tc {K V:Type}[Inhabited V](a:List ae)(cells:K->List ae)(enc:V->ae)(m:List (K×V))(k:K)(v:V)(p:ae)(h:(subP p (enc v)).side true=(subP p (enc v)).side false):Conv:=
 .res AC (.map a (λq=>cu q (cells k)||mdom cells m q) (λq=>if cu q (cells k)then p else enc (d8 cells m q))) (mapG a cells enc ((k,v)::m)) λ_=>RSub.mapS λq _=>⟨rfl,λ_=>by
  simp only[d8];split;{exact s7 (Ob.of_side h)};exact PSub.refl _⟩
structure cS (p q:ae):Prop where
 len:AA p.cells=AA q.cells
 get:∀ (j:Nat) (p' q':ae),p.cells[j]?=some p'->q.cells[j]?=some q'->PSub p' q'
theorem cS.refl (p:ae):cS p p:=⟨rfl,λj a d c b=>by grind[PSub.refl]⟩
theorem cS.of_eq {p q:ae}(h:p=q):cS p q:=h▸cS.refl p
theorem cS.agg {l a:List ae}(h:PSubs l a):cS (.agg l) (.agg a):=by obtain⟨b,e⟩:=h.get;refine⟨b,λj p q c d=>?_⟩;grind[ae.cells]
theorem cS.lst {sz a n b:Nat}{f g:Nat->ae}(h:PSub (.lst sz n f) (.lst a b g)):cS (.lst sz n f) (.lst a b g):=by refine⟨rfl,λj p q c d=>?_⟩;grind[ae.cells]
theorem cS.cell {p q:ae}(h:cS p q){j:Nat}{b:ae}(c:q.cells[j]?=some b):∃a,p.cells[j]?=some a/\PSub a b:=by
 have d:j<AA p.cells:=by rw[h.len];grind
 exact⟨p.cells[j],jV,h.get j _ _ jV c⟩
theorem PSub.lst' {sz n d:Nat}{f g:Nat->ae}(o:n=d)(h:∀i,i<n->cS (f i) (g i)):PSub (.lst sz n f) (.lst sz d g):=by
 subst o;refine⟨λF w v k=>?_⟩;cases k with
 |nil=>exact .nil
 |emp m=>exact .emp m
 |sl c s q t u r=>
  refine .sl c s q (λi x=>by rw[<-(h i x).len];simp_all) (λi j p x b=>?_) (λi j p x b=>?_);{obtain⟨e,a,_⟩:=(h i x).cell b;simp_all};obtain⟨e,a,l⟩:=(h i x).cell b;exact l.rel F w _ (r i j e x a)
theorem RSub.vec' {sz n m k O:Nat}{f g:Nat->ae}{e:qp}(y:n=m)(D:k<=O)(d:O<=n)(h:∀i,i<n->cS (f i) (g i)):RSub (.vec sz n f k e) (.vec sz m g O e):=by
 subst y;refine⟨λF w ρ id a=>⟨?_,λb I=>I⟩⟩;obtain⟨_,a⟩:=a;refine⟨d,?_⟩;rcases a with q|⟨b,N,c,q,C,s,B,H,z,K,A⟩
 {simp_all};refine .inr ⟨b,N,c,q,C,s,B,H,λo r=>Nat.lt_of_lt_of_le (z o r) (Nat.mul_le_mul_right _ D),λi M=>by rw[<-(h i M).len];simp_all,λi j p M J=>?_⟩;obtain⟨u,l,t⟩:=(h i M).cell J;obtain⟨v,x,E,G⟩:=A i j u M l;exact⟨v,x,E,t.rel F w v G⟩
def CSubs:List ae->List ae->Prop
 |[],[]=>True
 |a::l,b::c=>cS a b/\CSubs l c
 |_,_=>False
theorem CSubs.refl:∀ (l:List ae),CSubs l l
 |[]=>trivial
 |a::l=>⟨cS.refl a,CSubs.refl l⟩
theorem CSubs.get:∀ {l c:List ae},CSubs l c->AA l=AA c/\∀ (j:Nat) (p q:ae),l[j]?=some p->c[j]?=some q->cS p q
 |[],[],_=>⟨rfl,jV⟩
 |[],_::_,h=>h.elim
 |_::_,[],h=>h.elim
 |a::l,b::c,h=>by
  obtain⟨g,f⟩:=CSubs.get h.2;refine⟨by simp[g],λj p q d e=>?_⟩;cases j with
  |zero=>simp at d e;subst d;subst e;exact h.1
  |succ j=>exact f j p q (by simpa using d) (by simpa using e)
structure IsL {α:Type} [Inhabited α] (n:Nat) (f:Nat->ae) (enc:α->ae) (L:List α):Prop where
 len:n=AA L
 get:∀i,i<n->cS (f i) (enc (L.getD i qt))
variable {α:Type} [Inhabited α] {enc:α->ae} {L X:List α} {n k:Nat} {f h:Nat->ae}
theorem IsL.el:IsL (AA L) (el enc L) enc L:=⟨rfl,λ_ _=>cS.refl _⟩
theorem IsL.nl {g:Nat->ae}:IsL 0 g enc (Go.Abs.nl:List α):=⟨rfl,λi a=>qa⟩
theorem IsL.app (a:IsL n f enc L)(b:IsL k h enc X):IsL (n+k) (appF n f h) enc (L++X):=by refine⟨by simp[a.len,b.len],λi d=>?_⟩;simp only[appF];split;{rename_i c;rw[getD_left (by rw[<-a.len];omega)];exact a.get i c};rw[getD_right (by rw[<-a.len];omega),<-a.len];exact b.get _ qa
theorem IsL.lit {g:List ae}(a:CSubs g (X.map enc))(c:k=AA X):IsL k (lget g) enc X:=by subst c;refine⟨rfl,λi j=>?_⟩;obtain⟨e,b⟩:=a.get;have d:i<AA g:=jW;have:=b i g[i] (enc X[i]) jV jX;grind[lget]
theorem IsL.slice {l e:Nat}(a:IsL n f enc L)(d:e<=n)(b:l<=e):IsL (e-l) (λi=>f (l+i)) enc ((L.drop l).take (e-l)):=by have:=a.len;refine⟨jX,λi hi=>?_⟩;have c:=a.get (l+i) qa;simp_all
theorem IsL.take {e:Nat}(a:IsL n f enc L)(b:e<=n):IsL e f enc (L.take e):=by have:=a.len;refine⟨jW,λi d=>?_⟩;have c:=a.get i qa;grind
theorem IsL.view {lo:Nat}(h:lo+k<=AA L):IsL k (λi=>Go.Abs.el enc L (lo+i)) enc ((L.drop lo).take k):=by refine⟨jX,λi hi=>?_⟩;have a:((L.drop lo).take k).getD i qt=L.getD (lo+i) qt:=jW;rw[a];exact cS.refl _
theorem IsL.set {j:Nat}{p:ae}{x:α}(a:IsL n f enc L)(d:cS p (enc x)):IsL n (λi=>if i=j then p else f i) enc (L.set j x):=by
 refine⟨by simp[a.len],λi c=>?_⟩;have:=a.len;by_cases e:i=j;{simp_all};have b:(L.set j x).getD i qt=L.getD i qt:=by
  grind
 rw[qb e,b];exact a.get i c
theorem IsL.rep {p:ae}{x:α}(b:cS p (enc x)):IsL n (λ_=>p) enc (qr n x):=by refine⟨jV,λi a=>?_⟩;simp_all
theorem IsL.p {sz:Nat}(a:IsL n f enc L):PSub (.lst sz n f) (encL sz enc L):=PSub.lst' a.len a.get
theorem IsL.r0 {sz:Nat}{e:qp}(a:IsL n f enc L):RSub (.vec sz n f 0 e) (.vec sz (AA L) (Go.Abs.el enc L) 0 e):=
 RSub.vec' a.len (Nat.le_refl _) (wN _) a.get
theorem IsL.r {sz s:Nat}{e:qp}(b:IsL n f enc L)(c:s<=n):RSub (.vec sz n f s e) (.vec sz (AA L) (Go.Abs.el enc L) (AA L) e):=by have:=b.len;exact RSub.vec' this qa qa b.get
abbrev pb {a:Type}[Inhabited a](sz:Nat)(enc:a->ae)(l:List (List a))(e b:qp):Res:=.vecT sz (AA l) (el (encL sz enc) l) e b AC
structure IsLL {α:Type} [Inhabited α] (sz n:Nat) (f:Nat->ae) (enc:α->ae) (L:List (List α)):Prop where
 len:n=AA L
 get:∀i,i<n->∃n' g,f i=.lst sz n' g/\IsL n' g enc (L.getD i qt)
theorem IsLL.el {sz:Nat}{L:List (List α)}:IsLL sz (AA L) (Go.Abs.el (encL sz enc) L) enc L:=⟨rfl,λ_ _=>⟨_,_,rfl,IsL.el⟩⟩
theorem IsLL.rep {sz n:Nat}{g:Nat->ae}:IsLL sz n (λ_=>.lst sz 0 g) enc (qr n (Go.Abs.nl:List α)):=by refine⟨jV,λi a=>⟨0,g,rfl,?_⟩⟩;grind[IsL.nl]
theorem IsLL.set {sz n b j:Nat}{f g:Nat->ae}{L:List (List α)}{X:List α}(a:IsLL sz n f enc L)(d:IsL b g enc X):IsLL sz n (λq=>if q=j then .lst sz b g else f q) enc (L.set j X):=by refine⟨by simp[a.len],λi c=>?_⟩;have:=a.len;by_cases e:i=j;{grind};obtain⟨m,l,h,k⟩:=a.get i c;grind
theorem IsLL.r {sz n:Nat}{f:Nat->ae}{e q:qp}{L:List (List α)}(d:IsLL sz n f enc L):RSub (.vecT sz n f e q AC) (.vecT sz (AA L) (Go.Abs.el (encL sz enc) L) e q AC):=by obtain⟨rfl,h⟩:=d;refine⟨λF w ρ id s=>⟨?_,λb R=>R⟩⟩;obtain⟨b,cap,c,N,K,O,S,A,X,M,t⟩:=s;refine⟨b,cap,c,N,K,O,S,A,X,λi hi=>?_,t⟩;obtain⟨v,T,G,u⟩:=M i hi;obtain⟨x,n',g,p1,I,P⟩:=u.resolve_left jV;obtain⟨n2,g2,m,l⟩:=h i hi;rw[p1]at m;cases m;refine⟨v,T,G,.inr ⟨x,_,_,rfl,I,wN _,?_⟩⟩;rw[<-l.len];rcases P.2 with o|⟨J,a,D,d,H,o,z,Y,W,U,y⟩;{simp_all};refine .inr ⟨J,a,D,d,H,o,z,Y,W,λi hi=>(l.get i hi).len.symm.trans (U i hi),λi j p hi Z=>?_⟩;obtain⟨B,k,Q⟩:=(l.get i hi).cell Z;obtain⟨v,E,V,C⟩:=y i j B hi k;exact⟨v,E,V,Q.rel F w v C⟩
theorem aj2 {p q:ae}(h:(subP p q).holds):cS p q:=by unfold subP at h;split at h;{exact cS.lst (PSub.nil h.1 h.2)};{grind[cS.agg,E1]};exact cS.of_eq h
theorem ixOk {i:Int}{n:Nat}(h:(decide (0<=i)&&decide (i<(n:Int)))=true):0<=i/\i<(n:Int):=by simp_all
abbrev T.ix {R:Type}(i:Int)(n:Nat)(h:(decide (0<=i)&&decide (i<(n:Int)))=true)(k:T R):T R:=.ok (0<=i/\i<(n:Int)) (ixOk h) k
section
variable (sz:Nat) (enc:α->ae) (L X:List α) (e:qp)
def ajf:Conv:=.res AC (.vec sz (AA X) (lget (X.map enc)) 0 e) (vecO sz enc X e) λ_=>(IsL.lit (CSubs.refl _) rfl).r0
def ajd:Conv:=.res AC (.vec sz (AA L+AA X) (appF (AA L) (el enc L) (el enc X)) 0 e) (vecO sz enc (L++X) e) λ_=>(IsL.app IsL.el IsL.el).r0
def TW:Conv:=.res AC (.vec sz (AA L+AA X) (appF (AA L) (el enc L) (el enc X)) (AA L) e) (vecS sz enc (L++X) e) λ_=>(IsL.app IsL.el IsL.el).r (Nat.le_add_right _ _)
def NU (n:Nat)(x:α):Conv:=.res AC (.vec sz n (λ_=>enc x) 0 e) (vecO sz enc (qr n x) e) λ_=>(IsL.rep (cS.refl _)).r0
def TY (n:Nat)(x:α)(p:ae)(h:(subP p (enc x)).side true=(subP p (enc x)).side false):Conv:=
 .res AC (.vec sz n (λ_=>p) 0 e) (vecO sz enc (qr n x) e) λ_=>(IsL.rep (aj2 (Ob.of_side h))).r0
def ajh (i:Nat)(x:α):Conv:=.res AC (.vec sz (AA L) (λj=>if j=i then enc x else el enc L j) 0 e) (vecO sz enc (L.set i x) e) λ_=>(IsL.set IsL.el (cS.refl _)).r0
theorem Up {n:Nat}{l h:Int}(p:0<=l/\l<=h/\h<=(n:Int)):h.toNat<=n/\l.toNat<=h.toNat:=qa
def mH (l h:Int):Conv:=.val (some (0<=l/\l<=h/\h<=((AA L:Nat):Int))) (.lst sz (h.toNat-l.toNat) (λi=>el enc L (l.toNat+i))) (encL sz enc ((L.drop l.toNat).take (h.toNat-l.toNat)))
 λp=>(IsL.slice IsL.el (Up p).1 (Up p).2).p
def aje (enc:Int->ae)(L:List Int)(h:Int):Conv:=.val (some (0<=h/\h<=((AA L:Nat):Int))) (.lst 1 h.toNat (lget (L.map enc))) (encL 1 enc (L.take h.toNat))
 λp=>(IsL.take (IsL.lit (CSubs.refl _) rfl) (by have:=p.2;omega)).p
def FC (h:Int):Conv:=.res (some (0<=h/\h<=((AA L:Nat):Int)/\0<=h.toNat)) (.vec sz h.toNat (el enc L) 0 e) (vecO sz enc (L.take h.toNat) e)
 λp=>(IsL.take IsL.el (by have:=p.2.1;omega)).r0
def agM (k b a:Nat):Conv:=.res (some ((AA X+k) * a<=140737488355328/\(AA X)+k<=maxLen/\b+k<=AA L)) (.vec sz (AA X+k) (appF (AA X) (el enc X) (λi=>el enc L (b+i))) 0 e) (vecO sz enc (X++(L.drop b).take k) e)
 λp=>(IsL.app IsL.el (IsL.view p.2.2)).r0
def aib (n:Nat)(a:qp):Conv:=.res AC (.vecT sz n (λ_=>.lst sz 0 λ_=>.unk) e a AC) (pb sz enc (qr n (Go.Abs.nl:List α)) e a) λ_=>IsLL.rep.r
def TZ (a:List (List α))(i:Nat)(b:qp):Conv:=.res AC (.vecT sz (AA a) (λq=>if q=i then .lst sz (AA X) (el enc X)else el (encL sz enc) a q) e b AC) (pb sz enc (a.set i X) e b) λ_=>(IsLL.set IsLL.el IsL.el).r
end
def ajg {K:Type}(a:List ae)(cells:K->List ae)(m:List (K×Int))(k:K)(v:Int):Conv:=
 .res AC (.map a (λq=>cu q (cells k)||mdom cells m q) (λq=>if cu q (cells k)then .int .i64 v else .int .i64 (mget cells m q))) (oe a cells ((k,v)::m)) λ_=>afu rfl
theorem th {K:Type}{cells:K->List ae}:∀ {m:List (K×Bool)} {q:List ae},mdom cells m q=false->PSub (.bool false) (ae.bool (dV cells m q))
 |[],_,_=>PSub.refl _
 |a::m,q,h=>by
  simp only[mdom,qo]at h;simp only[dV,h.1];exact th h.2
def FB {K:Type}(a:List ae)(cells:K->List ae)(m:List (K×Bool))(k:K)(v:Bool):Conv:=
 .res AC (.map a (λq=>cu q (cells k)||mdom cells m q) (λq=>if cu q (cells k)then .bool v else .bool (dV cells m q))) (fW a cells ((k,v)::m)) λ_=>aft rfl
theorem UK {K:Type}{cells:K->List ae}{k:IntKind}:∀ {m:List (K×Int)} {q:List ae},mdom cells m q=false->PSub (.int k 0) (ae.int k (mget cells m q))
 |[],_,_=>PSub.refl _
 |a::m,q,h=>by
  simp only[mdom,qo]at h;simp only[mget,h.1];exact UK h.2
def NN:Nat:=4294967296
def mkH {P:qn}{a:List Oper->List aP->Bool}{R:Type}(i:List (GuardS P))(g:fp P a){f:FuncId}{fn:Func}(e:P.funcs[f]?=some fn)(j:(fn.body.isSome&& !(fn.name== "runtime.NumGoroutine"))=true)
    (t:T R) (k:Nat) (args:List ac) (m:Mem) (b:R->ac) (c:R->Mem) (h:(fy P i a fn (fn.body.getD .skip) k k t args m b c).holds):aK R:=
 ⟨P,.fn f,t.run NN,k,args,m,b,c,λ_ d=>EZ t d g e jW jW h⟩
def mkC {P:qn}{a:List Oper->List aP->Bool}{R:Type}(d:List (GuardS P))(i:fp P a){f:FuncId}{fn:Func}(g:P.funcs[f]?=some fn)(j:(fn.body.isSome&& !(fn.name== "runtime.NumGoroutine"))=true)
    (t:T R) (k:Nat) (args:List ac) (m:Mem) (b:R->ac) (c:R->Mem)
    (h:(fy P d a fn (fn.body.getD .skip) k k t args m b c).side true=(fy P d a fn (fn.body.getD .skip) k k t args m b c).side false):aK R:=
 ⟨P,.fn f,t.run NN,k,args,m,b,c,λ_ e=>EZ t e i g jW jW (Ob.of_side h)⟩
structure bC (P:qn) (f:FuncId) (k:Nat) (A R:Type) (args:A->List ac) (m:A->Mem) (res:A->R->ac) (m':A->R->Mem)where
 o:A->Option R
 ok:∀a y,o a=some y->eD P f k (args a) (m a) (res a y) (m' a y)
section
variable {P:qn} {f:FuncId} {k:Nat} {A R:Type} {args:A->List ac} {m:A->Mem} {res:A->R->ac} {m':A->R->Mem}
def bC.C (x:bC P f k A R args m res m')(a:A):aK R:=⟨P,.fn f,x.o a,k,args a,m a,res a,m' a,x.ok a⟩
def bC.zero:bC P f k A R args m res m':=⟨λ_=>AC,λ_ _ h=>by cases h⟩
def bC.next {b:List Oper->List aP->Bool}(e:List (GuardS P))(j:fp P b){fn:Func}(i:P.funcs[f]?=some fn)(l:(fn.body.isSome&& !(fn.name== "runtime.NumGoroutine"))=true)
    (t:bC P f k A R args m res m'->A->T R)
    (h:∀x a,(fy P e b fn (fn.body.getD .skip) k k (t x a) (args a) (m a) (res a) (m' a)).side true=(fy P e b fn (fn.body.getD .skip) k k (t x a) (args a) (m a) (res a) (m' a)).side false)
    (x:bC P f k A R args m res m'):bC P f k A R args m res m':=
 ⟨λa=>(t x a).run NN,λa _ g=>EZ (t x a) g j i jW jW (Ob.of_side (h x a))⟩
def bC.fix (s:bC P f k A R args m res m'->bC P f k A R args m res m'):Nat->bC P f k A R args m res m'
 |0=>bC.zero
 |n+1=>s (bC.fix s n)
end
theorem RSub.vecU {sz n r k J off m:Nat}{f q:Nat->ae}{e o:qp}{l:List (Nat×Nat)}(v:n=r)(g:k=J)(h:∀i,i<n->f i=q i):RSub (.vecU sz n f k e off m o l) (.vecU sz r q J e off m o l):=by subst v;subst g;refine⟨λF w ρ id d=>⟨?_,λb E=>E⟩⟩;obtain⟨z,g,d⟩:=d;refine⟨z,g,d.imp (λh=>h) λ⟨b,I,c,A,B,t,u,y,C,a,x⟩=>⟨b,I,c,A,B,t,u,y,C,⟨λi H=>by rw[<-h i H];exact a.len i H,λi j p H D s=>a.cell i j p H D jW,λi p H G s=>a.own i p H G jW,a.hole,a.nodup,a.inj⟩,x⟩⟩
theorem RSub.toU {sz n off r:Nat}{f:Nat->ae}{e v:qp}(k:off<sz):RSub (.vec sz n f 0 e) (.vecU sz n f 0 e off r v []):=by
 refine⟨λF w ρ id d=>⟨?_,λb a=>?_⟩⟩
 ·obtain⟨_,d⟩:=d;refine⟨k,wN _,d.imp (λh=>⟨h.1,h.2,rfl⟩) λ⟨b,C,c,y,s,q,t,m,B,l,u⟩=>⟨b,C,c,y,s,q,t,m,λo a=>jW,⟨l,λi j p D _ g=>u i j p D g,λi p D _ g=>?_,λx A=>jX,jV,λi z b h=>absurd h.2.1 (xL _)⟩,λi h=>absurd h.2.1 (xL _)⟩⟩;grind
 rcases a with a|⟨_,_,_,_,_,_,_,_,_,h,_⟩;{exact .inl a};omega
section
variable {α:Type} [Inhabited α]
abbrev tS (sz:Nat)(enc:α->ae)(l:List α)(k:Nat)(e:qp)(off c:Nat)(b:qp)(d:List (Nat×Nat)):Res:=.vecU sz (AA l) (el enc l) k e off c b d
abbrev gb (sz:Nat)(enc:α->ae)(l:List α)(e:qp)(off c:Nat)(b:qp):Res:=.vecU sz (AA l) (el enc l) (AA l) e off c b []
theorem td {enc:α->ae}{L:List α}{h q:Nat}{v:α}(b:q<AA L):el enc (L.set h v) q=if q=h then enc v else el enc L q:=by grind[el]
variable (sz:Nat) (enc:α->ae) (L:List α) (e:qp) (off s':Nat) (e':qp)
def aji (h:(decide (off<sz))=true):Conv:=.res AC (vecO sz enc L e) (tS sz enc L 0 e off s' e' []) λ_=>RSub.toU (of_decide_eq_true h)
def ai8 (k:Nat):Conv:=.res (some (k=AA L)) (tS sz enc L k e off s' e' []) (gb sz enc L e off s' e') λh=>RSub.vecU rfl h λ_ _=>rfl
def aia (h:Nat)(p:ae)(v:α)(d:lu (enc (L.getD h qt)) ((enc (L.getD h qt)).cells.take off++[p]++(enc (L.getD h qt)).cells.drop (off+1))=enc v):Conv:=
 .res AC (.vecU sz (AA L) (c9 (el enc L) h off p) (AA L) e off s' e' []) (gb sz enc (L.set h v) e off s' e') λ_=>RSub.vecU jV jV λq b=>by
  rw[td b];unfold c9;split;{exact d};rfl
def ai9 (k h:Nat)(a:List ae)(p:ae)(v:α)(d:ae.agg (a.take off++[p]++a.drop (off+1))=enc v):Conv:=
 .res AC (.vecU sz (AA L) (c9 (λj=>if j=h then .agg a else el enc L j) h off p) k e off s' e' []) (tS sz enc (L.set h v) k e off s' e' []) λ_=>RSub.vecU jV rfl λq b=>by
  rw[td b];unfold c9;split;{simp only[if_true];exact d};simp_all
def agN (i j:Nat)(A B:List ae)(g l:ae)(o p:α)(r:ae.agg (A.take off++[g]++A.drop (off+1))=enc p)(s:ae.agg (B.take off++[l]++B.drop (off+1))=enc o):Conv:=
 .res (some (j≠i)) (.vecU sz (AA L) (c9 (c9 (λq=>if q=j then .agg A else if q=i then .agg B else el enc L q) j off g) i off l) (AA L) e off s' e' []) (gb sz enc ((L.set i o).set j p) e off s' e') λc=>RSub.vecU jV jV λq d=>by
  rw[td (by simpa using d),td d];by_cases b:q=i
  ·subst b;have a:¬q=j:=λh=>c h.symm
   have t:¬q=j:=a;simp only[c9,if_true,qb a];exact s
  by_cases a:q=j;{subst a;simp only[c9,if_true,qb b];exact r};simp only[c9,qb b,qb a]
end
class En (α:Type)where
 n:Nat
 e:α->ae
instance:En Int:=⟨1,bI⟩
instance:En Bool:=⟨1,encB⟩
instance:En ByteArray:=⟨1,aig⟩
section
variable {α:Type} [En α] [Inhabited α]
instance:En (List α):=⟨1,encL (En.n α) En.e⟩
abbrev q {α:Type}[En α](x:α):ac:=.pure (En.e x)
abbrev vO (l:List α)(t:qp):Res:=vecO (En.n α) En.e l t
abbrev vS (l:List α)(t:qp):Res:=vecS (En.n α) En.e l t
abbrev kL (l:List α)(t:qp):Conv:=ajf (En.n α) En.e l t
abbrev kA (l m:List α)(t:qp):Conv:=ajd (En.n α) En.e l m t
abbrev kS (l:List α)(t:qp)(i:Nat)(x:α):Conv:=ajh (En.n α) En.e l t i x
end
abbrev ik (r:Nat)(l m:List Nat)(s:St)(x:Int):St:=pk s l m [(r,q x)] []
abbrev jk (l m:List Nat)(s:St)(_:U0):St:=pk s l m [] []
noncomputable abbrev T.cub {R:Type}(d r:Nat)(l m:List Nat)(a:T (aA Unit Bool R))(k:Bool->T R):T R:=.cut d (λs z=>pk s l m [(r,q z)] []) a k
end Go.Abs
